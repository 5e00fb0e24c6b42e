/- An uberblock read. A label: may it be?. A label: may it be? (CheckLabel). A label laid down. -/
import Derived.Test.YtipbjiepfnjojaaGreatDoorG6
namespace Go.Proofs.YtipbjiepfnjojaaGreatDoor
set_option maxRecDepth 100000
open Go.RowKit Go.Uc

theorem two_new (w : World) (a b : Array Value) (ta tb : TypeId) : Blk ((w.alloc (.cells a ta)).alloc (.cells b tb)) w.heap.size ta a ∧ Blk ((w.alloc (.cells a ta)).alloc (.cells b tb)) (w.heap.size + 1) tb b ∧ Keeps Non w ((w.alloc (.cells a ta)).alloc (.cells b tb)) := by
  have h1 := Blk.new w ta a
  have k1 := (Keeps.refl Non w).alloc (.cells a ta)
  obtain ⟨w1, hw1⟩ : ∃ V : World, V = w.alloc (.cells a ta) := ⟨_, rfl⟩
  have z1 : w1.heap.size = w.heap.size + 1 := by rw [hw1]; simp
  rw [← hw1] at h1 k1 ⊢
  have h2 := Blk.new w1 tb b
  have k2 := (Keeps.refl Non w1).alloc (.cells b tb)
  rw [z1] at h2
  exact ⟨h1.non k2, h2, k1.non k2⟩
set_option maxHeartbeats 4000000 in
theorem taken75_any (pool txg note : Nat) (hp : pool < 18446744073709551616) (h1 : 1 ≤ txg) (h2 : txg ≤ 281474976710656) (hn : note < 18446744073709551616) (A : Option Addr) (w : World) (hA : At w A (uber96 pool txg note)) :
    Calls Tryz.prog 75 #[.slice A 96 128, .int .i64 45, .func (.func 68) #[] #[], .func (.func 76) #[] #[]] w fun e w' => e = .returned (.tuple #[.agg #[.int .u64 (pool : Int), .int .u64 (txg : Int), .int .u64 (note : Int), .int .i64 0, .int .i64 0, .int .i64 0, .int .u64 0, .int .i64 0, .int .u64 0, .int .u64 0, .int .u64 0, .int .u64 0], .int .i64 0]) ∧ Keeps Non w w' := by
  have hl := uber96_len pool txg note
  have HCk := Lib.hid (fun V => checkUber68_any pool txg note h1 h2 V)
  have HNr : Hid (∀ V, Keeps Non w V → Calls Tryz.prog 48 #[.slice A 96 128] V fun e w' => ∃ g, e = .returned (.pointer (some ⟨g, 0, none⟩)) ∧ Rg V w' g (uber96 pool txg note) 0) := Lib.hid (fun V hV => by
    have := newReader_any A 128 (uber96 pool txg note) V (hA.non hV) (by omega)
    rw [hl] at this
    exact this)
  have HT := Lib.hid (fun (V0 V : World) (g : Nat) (hV : Rg V0 V g (uber96 pool txg note) 0) => takeUber76_any pool txg note hp (by omega) hn hV)
  have HPd : Hid (∀ (V0 V : World) (g : Nat), Rg V0 V g (uber96 pool txg note) 76 → Calls Tryz.prog 111 #[.pointer (some ⟨g, 0, none⟩), .int .i64 96] V fun e w' => e = .returned (.tuple #[]) ∧ Rg V0 w' g (uber96 pool txg note) (uber96 pool txg note).length ∧ Keeps (Only g) V w') := Lib.hid (fun V0 V g hV => by
    have := rpad111_any hV (by omega) (uber_pad pool txg note)
    rw [hl] at this
    rw [hl]
    exact this)
  have HDn := Lib.hid (fun (V0 V : World) (g : Nat) (hV : Rg V0 V g (uber96 pool txg note) (uber96 pool txg note).length) => done112_any hV)
  clear hl hA
  generalize uber96 pool txg note = bs at HNr HT HPd HDn
  obtain ⟨hB8, hB10, hk⟩ := two_new w #[.int .u64 0, .int .u64 0, .int .u64 0, .int .i64 0, .int .i64 0, .int .i64 0, .int .u64 0, .int .i64 0, .int .u64 0, .int .u64 0, .int .u64 0, .int .u64 0] #[.int .u64 0, .int .u64 0, .int .u64 0, .int .i64 0, .int .i64 0, .int .i64 0, .int .u64 0, .int .i64 0, .int .u64 0, .int .u64 0, .int .u64 0, .int .u64 0] 47 47
  go_enter Tryz.func75, Tryz.ntmps75
  go_upto_region 2 with fail
  obtain ⟨w1, hw1⟩ : ∃ V : World, V = (w.alloc (.cells #[.int .u64 0, .int .u64 0, .int .u64 0, .int .i64 0, .int .i64 0, .int .i64 0, .int .u64 0, .int .i64 0, .int .u64 0, .int .u64 0, .int .u64 0, .int .u64 0] 47)).alloc (.cells #[.int .u64 0, .int .u64 0, .int .u64 0, .int .i64 0, .int .i64 0, .int .i64 0, .int .u64 0, .int .i64 0, .int .u64 0, .int .u64 0, .int .u64 0, .int .u64 0] 47) := ⟨_, rfl⟩
  rw [← hw1] at hB8 hB10 hk ⊢
  clear hw1
  obtain ⟨p8, hp8⟩ : ∃ z, z = w.heap.size := ⟨_, rfl⟩
  rw [← hp8] at hB8 hB10 ⊢
  have h8w : w.heap.size ≤ p8 := by omega
  clear hp8
  go_wp2_with fail
  refine (HNr.out w1 hk).mono ?_
  rintro e w2 ⟨g, rfl, hR2⟩
  obtain ⟨hg1, hk12⟩ : w1.heap.size ≤ g ∧ Keeps Non w1 w2 := by
    obtain ⟨b', i1, i2, i3, i4, i5, i6, i7⟩ := hR2
    exact ⟨i5, i7⟩
  have h8g : p8 ≠ g := by have := hB8.lt; omega
  go_wp2_with fail
  refine (HT.out w1 w2 g hR2).mono ?_
  rintro e w3 ⟨rfl, hR3, hK3⟩
  have hB83 := (hB8.non hk12).one hK3 h8g
  have hK13 : Keeps (Only g) w1 w3 := (hk12.of_non (S := Only g)).trans hK3
  have hQ := Blk.new w3 47 #[.int .u64 0, .int .u64 0, .int .u64 0, .int .i64 0, .int .i64 0, .int .i64 0, .int .u64 0, .int .i64 0, .int .u64 0, .int .u64 0, .int .u64 0, .int .u64 0]
  have hkq := (Keeps.refl Non w3).alloc (.cells #[.int .u64 0, .int .u64 0, .int .u64 0, .int .i64 0, .int .i64 0, .int .i64 0, .int .u64 0, .int .i64 0, .int .u64 0, .int .u64 0, .int .u64 0, .int .u64 0] 47)
  have hpq : w3.heap.size ≠ g ∧ w3.heap.size ≠ p8 ∧ w.heap.size ≤ w3.heap.size := by
    have := hB83.lt; have := hk.size; have := hK13.size
    obtain ⟨b', i1, i2, i3, i4, i5, i6, i7⟩ := hR3
    have := i1.lt
    omega
  obtain ⟨pq, hpqe⟩ : ∃ z, z = w3.heap.size := ⟨_, rfl⟩
  rw [← hpqe] at hpq hQ
  have HPQ := Lib.hid hpqe
  clear hpqe
  go_upto_region 4 with ((with_reducible show wpList _ _ _ ({ dst := none, op := Op.store 47 _ _, type := _, pos := _, after := _, guard := _ } :: _) _ _); go_must (rw [← HPQ.out]; refine wpList_store_blk rfl 47 (.tmp 12) (.tmp 18) rfl pq #[.int .u64 (pool : Int), .int .u64 (txg : Int), .int .u64 (note : Int), .int .i64 0, .int .i64 0, .int .i64 0, .int .u64 0, .int .i64 0, .int .u64 0, .int .u64 0, .int .u64 0, .int .u64 0] rfl rfl 47 _ hQ (by kernel_rfl) rfl (by kernel_rfl) ?_); intro w4 hQ4 hK4)
  have hB84 := (hB83.non hkq).one hK4 (Ne.symm hpq.2.1)
  have hR4 : Rg w1 w4 g bs 76 := (hR3.non hkq).one hQ (by decide) (by decide) (by rw [HPQ.out]; exact hK13.size) hK4
  have HP4 := Lib.hid (HPd.out w1 w4 g hR4)
  go_upto_region 5 with ((go_at_call 111; go_must (refine HP4.out.mono ?_); rintro e w5 ⟨rfl, hR5, hK5⟩))
  have hB85 := hB84.one hK5 h8g
  have hQ5 := hQ4.one hK5 hpq.1
  have HD5 := Lib.hid (HDn.out w1 w5 g hR5)
  go_upto_region 7 with ((go_at_call 112; go_must (refine HD5.out.mono ?_); rintro e _ ⟨rfl, q, rfl⟩))
  obtain ⟨w6, hw6⟩ : ∃ V : World, V = w5.drewN q := ⟨_, rfl⟩
  have hk6 : Keeps Non w5 w6 := by rw [hw6]; exact (Keeps.refl _ _).drewN q
  rw [← hw6]
  clear hw6
  have hB86 := hB85.non hk6
  have hQ6 := hQ5.non hk6
  go_upto_region 8 with (first
    | ((with_reducible show wpList _ _ _ ({ dst := _, op := Op.load 47 _, type := _, pos := _, after := _, guard := _ } :: _) _ _); go_must (refine wpList_load_row rfl 47 (.tmp 12) rfl pq rfl 47 #[.int .u64 (pool : Int), .int .u64 (txg : Int), .int .u64 (note : Int), .int .i64 0, .int .i64 0, .int .i64 0, .int .u64 0, .int .i64 0, .int .u64 0, .int .u64 0, .int .u64 0, .int .u64 0] (0, 0) _ hQ6 Tryz.underlying47 rfl (by kernel_rfl) ?_))
    | (go_at_call 68; go_must (refine (HCk.out w6).mono ?_); rintro e w7 ⟨rfl, hK7⟩))
  have hB87 := hB86.non hK7
  have hQ7 := hQ6.non hK7
  go_wp2_with (first
    | ((with_reducible show wpList _ _ _ ({ dst := _, op := Op.load 47 _, type := _, pos := _, after := _, guard := _ } :: _) _ _); go_must (refine wpList_load_row rfl 47 (.tmp 12) rfl pq rfl 47 #[.int .u64 (pool : Int), .int .u64 (txg : Int), .int .u64 (note : Int), .int .i64 0, .int .i64 0, .int .i64 0, .int .u64 0, .int .i64 0, .int .u64 0, .int .u64 0, .int .u64 0, .int .u64 0] (0, 0) _ hQ7 Tryz.underlying47 rfl (by kernel_rfl) ?_))
    | ((with_reducible show wpList _ _ _ ({ dst := none, op := Op.store 47 _ _, type := _, pos := _, after := _, guard := _ } :: _) _ _); go_must (refine wpList_store_blk rfl 47 (.tmp 8) (.tmp 35) rfl p8 #[.int .u64 (pool : Int), .int .u64 (txg : Int), .int .u64 (note : Int), .int .i64 0, .int .i64 0, .int .i64 0, .int .u64 0, .int .i64 0, .int .u64 0, .int .u64 0, .int .u64 0, .int .u64 0] rfl rfl 47 _ hB87 (by kernel_rfl) rfl (by kernel_rfl) ?_); intro w8 hB88 hK8))
  refine bodyPost_ret (results_cell_tmp (ty := 47) rfl _ p8 47 _ _ rfl hB88 Tryz.underlying47 rfl (by kernel_rfl)) rfl ⟨rfl, ?_⟩
  have ha : Keeps Non w w3 := hk.then hK13 fun i hi e => by unfold Only at e; have := hk.size; omega
  have hb : Keeps Non w w4 := (ha.non hkq).then hK4 fun i hi e => by unfold Only at e; omega
  have hc : Keeps Non w w5 := hb.then hK5 fun i hi e => by unfold Only at e; have := hk.size; omega
  exact ((hc.non hk6).non hK7).then hK8 fun i hi e => by unfold Only at e; omega
theorem sumAt_bytes (xs : List UInt8) (hx : xs.length = 96) (s : S4) (hs : s.ok) : sumAt (xs ++ s.bytes) 96 = s := by
  obtain ⟨h1, h2, h3, h4⟩ := hs
  obtain ⟨a, b, c, d⟩ := s
  simp only at h1 h2 h3 h4
  have e1 : ((xs ++ S4.bytes ⟨a, b, c, d⟩).drop 96).take 8 = le 8 a := mid_eq _ xs _ (le 8 b ++ le 8 c ++ le 8 d) (by simp [S4.bytes]) _ _ hx (le_length _ _)
  have e2 : ((xs ++ S4.bytes ⟨a, b, c, d⟩).drop (96 + 8)).take 8 = le 8 b := mid_eq _ (xs ++ le 8 a) _ (le 8 c ++ le 8 d) (by simp [S4.bytes]) _ _ (by simp [le_length, hx]) (le_length _ _)
  have e3 : ((xs ++ S4.bytes ⟨a, b, c, d⟩).drop (96 + 16)).take 8 = le 8 c := mid_eq _ (xs ++ le 8 a ++ le 8 b) _ (le 8 d) (by simp [S4.bytes]) _ _ (by simp [le_length, hx]) (le_length _ _)
  have e4 : ((xs ++ S4.bytes ⟨a, b, c, d⟩).drop (96 + 24)).take 8 = le 8 d := mid_eq _ (xs ++ le 8 a ++ le 8 b ++ le 8 c) _ [] (by simp [S4.bytes]) _ _ (by simp [le_length, hx]) (le_length _ _)
  unfold sumAt n8
  rw [e1, e2, e3, e4, leVal_le, leVal_le, leVal_le, leVal_le, Nat.mod_eq_of_lt h1, Nat.mod_eq_of_lt h2, Nat.mod_eq_of_lt h3, Nat.mod_eq_of_lt h4]
theorem opens_withSum (L xs : List UInt8) (hx : xs.length = 96) (hL : xs.take 4 = L) : Opens L (withSum xs) := by
  refine ⟨?_, ?_⟩
  · unfold withSum
    rw [List.take_append_of_le_length (by omega), hL]
  · unfold withSum
    rw [sumAt_bytes xs hx _ (fl_ok xs), ← hx, List.take_left]
theorem withSum_len (xs : List UInt8) : (withSum xs).length = xs.length + 32 := by unfold withSum; rw [List.length_append, S4.bytes_len]
theorem uberB_len (pool txg note : Nat) : (uberB pool txg note).length = 128 := by unfold uberB; rw [withSum_len, uber96_len]
theorem uberB_opens (pool txg note : Nat) : Opens [85, 67, 85, 66] (uberB pool txg note) := opens_withSum _ _ (uber96_len _ _ _) (by simp [uber96, uberH])
theorem uberB_take (pool txg note : Nat) : (uberB pool txg note).take 96 = uber96 pool txg note := by
  unfold uberB withSum
  rw [← uber96_len pool txg note, List.take_left]
set_option maxHeartbeats 4000000 in
theorem decodeUber36_any (b : Nat) (w : World) (pool txg note : Nat) (hb : Blk w b 5 (pc (uberB pool txg note))) (hp : pool < 18446744073709551616) (h1 : 1 ≤ txg) (h2 : txg ≤ 281474976710656) (hn : note < 18446744073709551616) :
    Calls Tryz.prog 36 #[.slice (some ⟨b, 0, none⟩) 128 128] w fun e w' => e = .returned (.tuple #[.agg #[.int .u64 (pool : Int), .int .u64 (txg : Int), .int .u64 (note : Int), .int .i64 0, .int .i64 0, .int .i64 0, .int .u64 0, .int .i64 0, .int .u64 0, .int .u64 0, .int .u64 0, .int .u64 0], .int .i64 0]) ∧ Keeps Non w w' := by
  have hB := Blk.new w 47 #[.int .u64 0, .int .u64 0, .int .u64 0, .int .i64 0, .int .i64 0, .int .i64 0, .int .u64 0, .int .i64 0, .int .u64 0, .int .u64 0, .int .u64 0, .int .u64 0]
  have hk := (Keeps.refl Non w).alloc (.cells #[.int .u64 0, .int .u64 0, .int .u64 0, .int .i64 0, .int .i64 0, .int .i64 0, .int .u64 0, .int .i64 0, .int .u64 0, .int .u64 0, .int .u64 0, .int .u64 0] 47)
  have HO : Hid (∀ V, Keeps Non w V → Calls Tryz.prog 74 #[.slice (some ⟨b, 0, none⟩) 128 128, .string (str [85, 67, 85, 66])] V fun e w' => e = .returned (.tuple #[.slice (some ⟨b, 0, none⟩) 96 128, .bool true]) ∧ Keeps Non V w') := Lib.hid (fun V hV => by
    refine (opened74_any [85, 67, 85, 66] _ rfl (uberB_len _ _ _) b V (hb.non hV)).mono ?_
    rintro e w' ⟨h, hK⟩
    rcases h with ⟨-, h⟩ | ⟨h, -⟩
    · exact ⟨h, hK⟩
    · exact (h (uberB_opens _ _ _)).elim)
  have HT : Hid (∀ V, Keeps Non w V → Calls Tryz.prog 75 #[.slice (some ⟨b, 0, none⟩) 96 128, .int .i64 45, .func (.func 68) #[] #[], .func (.func 76) #[] #[]] V fun e w' => e = .returned (.tuple #[.agg #[.int .u64 (pool : Int), .int .u64 (txg : Int), .int .u64 (note : Int), .int .i64 0, .int .i64 0, .int .i64 0, .int .u64 0, .int .i64 0, .int .u64 0, .int .u64 0, .int .u64 0, .int .u64 0], .int .i64 0]) ∧ Keeps Non V w') := Lib.hid (fun V hV => taken75_any pool txg note hp h1 h2 hn (some ⟨b, 0, none⟩) V (by
    have := (At.blk (hb.non hV)).take 96
    rw [uberB_take] at this
    exact this))
  unfold str at HO
  clear hb h1 h2 hp hn
  go_enter Tryz.func36, Tryz.ntmps36
  go_upto_region 1 with fail
  obtain ⟨w1, hw1⟩ : ∃ V : World, V = w.alloc (.cells #[.int .u64 0, .int .u64 0, .int .u64 0, .int .i64 0, .int .i64 0, .int .i64 0, .int .u64 0, .int .i64 0, .int .u64 0, .int .u64 0, .int .u64 0, .int .u64 0] 47) := ⟨_, rfl⟩
  rw [← hw1] at hB hk ⊢
  clear hw1
  obtain ⟨pb, hpb⟩ : ∃ z, z = w.heap.size := ⟨_, rfl⟩
  rw [← hpb] at hB ⊢
  have hpw : w.heap.size ≤ pb := by omega
  clear hpb
  have HO1 := Lib.hid (HO.out w1 hk)
  go_upto_region 2 with ((go_at_call 74; go_must (refine HO1.out.mono ?_); rintro e w2 ⟨rfl, hK2⟩))
  have hk2 := hk.non hK2
  have HT2 := Lib.hid (HT.out w2 hk2)
  have hB2 := hB.non hK2
  go_wp2_with (first
    | (go_at_call 75; go_must (refine HT2.out.mono ?_); rintro e w3 ⟨rfl, hK3⟩; have hB3 := hB2.non hK3)
    | ((with_reducible show wpList _ _ _ ({ dst := none, op := Op.store 47 _ _, type := _, pos := _, after := _, guard := _ } :: _) _ _); go_must (refine wpList_store_blk rfl 47 (.tmp 2) (.tmp 16) rfl pb #[.int .u64 (pool : Int), .int .u64 (txg : Int), .int .u64 (note : Int), .int .i64 0, .int .i64 0, .int .i64 0, .int .u64 0, .int .i64 0, .int .u64 0, .int .u64 0, .int .u64 0, .int .u64 0] rfl rfl 47 _ hB3 (by kernel_rfl) rfl (by kernel_rfl) ?_); intro w4 hB4 hK4))
  refine bodyPost_ret (results_cell_tmp (ty := 47) rfl _ pb 47 _ _ rfl hB4 Tryz.underlying47 rfl (by kernel_rfl)) rfl ⟨rfl, ?_⟩
  exact (hk2.non hK3).then hK4 fun i hi e => by unfold Only at e; omega
set_option maxHeartbeats 4000000 in
theorem decodeUber36_not (bs : List UInt8) (hl : bs.length = 128) (b : Nat) (w : World) (hb : Blk w b 5 (pc bs)) (ho : ¬ Opens [85, 67, 85, 66] bs) :
    Calls Tryz.prog 36 #[.slice (some ⟨b, 0, none⟩) 128 128] w fun e w' => e = .returned (.tuple #[.agg #[.int .u64 0, .int .u64 0, .int .u64 0, .int .i64 0, .int .i64 0, .int .i64 0, .int .u64 0, .int .i64 0, .int .u64 0, .int .u64 0, .int .u64 0, .int .u64 0], .int .i64 45]) ∧ Keeps Non w w' := by
  have hB := Blk.new w 47 #[.int .u64 0, .int .u64 0, .int .u64 0, .int .i64 0, .int .i64 0, .int .i64 0, .int .u64 0, .int .i64 0, .int .u64 0, .int .u64 0, .int .u64 0, .int .u64 0]
  have hk := (Keeps.refl Non w).alloc (.cells #[.int .u64 0, .int .u64 0, .int .u64 0, .int .i64 0, .int .i64 0, .int .i64 0, .int .u64 0, .int .i64 0, .int .u64 0, .int .u64 0, .int .u64 0, .int .u64 0] 47)
  have HO : Hid (∀ V, Keeps Non w V → Calls Tryz.prog 74 #[.slice (some ⟨b, 0, none⟩) 128 128, .string (str [85, 67, 85, 66])] V fun e w' => e = .returned (.tuple #[.slice none 0 0, .bool false]) ∧ Keeps Non V w') := Lib.hid (fun V hV => by
    refine (opened74_any [85, 67, 85, 66] bs rfl hl b V (hb.non hV)).mono ?_
    rintro e w' ⟨h, hK⟩
    rcases h with ⟨h, -⟩ | ⟨-, h⟩
    · exact (ho h).elim
    · exact ⟨h, hK⟩)
  unfold str at HO
  clear hb ho
  go_enter Tryz.func36, Tryz.ntmps36
  go_upto_region 1 with fail
  obtain ⟨w1, hw1⟩ : ∃ V : World, V = w.alloc (.cells #[.int .u64 0, .int .u64 0, .int .u64 0, .int .i64 0, .int .i64 0, .int .i64 0, .int .u64 0, .int .i64 0, .int .u64 0, .int .u64 0, .int .u64 0, .int .u64 0] 47) := ⟨_, rfl⟩
  rw [← hw1] at hB hk ⊢
  clear hw1
  obtain ⟨pb, hpb⟩ : ∃ z, z = w.heap.size := ⟨_, rfl⟩
  rw [← hpb] at hB ⊢
  have hpw : w.heap.size ≤ pb := by omega
  clear hpb
  have HO1 := Lib.hid (HO.out w1 hk)
  go_upto_region 2 with ((go_at_call 74; go_must (refine HO1.out.mono ?_); rintro e w2 ⟨rfl, hK2⟩))
  have hk2 := hk.non hK2
  have hB2 := hB.non hK2
  go_wp2_with ((with_reducible show wpList _ _ _ ({ dst := none, op := Op.store 47 _ _, type := _, pos := _, after := _, guard := _ } :: _) _ _); go_must (refine wpList_store_blk rfl 47 (.tmp 2) (.tmp 13) rfl pb #[.int .u64 0, .int .u64 0, .int .u64 0, .int .i64 0, .int .i64 0, .int .i64 0, .int .u64 0, .int .i64 0, .int .u64 0, .int .u64 0, .int .u64 0, .int .u64 0] rfl rfl 47 _ hB2 (by kernel_rfl) rfl (by kernel_rfl) ?_); intro w4 hB4 hK4)
  refine bodyPost_ret (results_cell_tmp (ty := 47) rfl _ pb 47 _ _ rfl hB4 Tryz.underlying47 rfl (by kernel_rfl)) rfl ⟨rfl, ?_⟩
  exact hk2.then hK4 fun i hi e => by unfold Only at e; omega
end Go.Proofs.YtipbjiepfnjojaaGreatDoor
namespace Go.Proofs.YtipbjiepfnjojaaGreatDoor
set_option maxRecDepth 100000
open Go.RowKit Go.Uc

/-- A top. -/
structure Tp where
  k : Nat
  l : Nat
  s : Nat
def Tp.ok (t : Tp) : Prop := (t.k = 1 ∧ t.l = 1 ∨ t.k = 2 ∧ 2 ≤ t.l ∧ t.l ≤ 5 ∨ t.k = 3 ∧ 3 ≤ t.l ∧ t.l ≤ 5) ∧ 324 ≤ t.s ∧ t.s ≤ 8192
def encT (t : Tp) : List Value := [.int .i64 (t.k : Int), .int .i64 (t.l : Int), .int .i64 (t.s : Int)]
theorem encT_len (t : Tp) : (encT t).length = 3 := rfl
theorem encT_one (t : Tp) : ∀ u ∈ encT t, u.oneCell' = true := by
  intro u hu
  simp [encT] at hu
  rcases hu with rfl | rfl | rfl <;> rfl
/-- Tops in a row. -/
abbrev RowT (w : World) (v : Value) (ts : List Tp) : Prop := RowP w 29 3 encT v ts
set_option maxHeartbeats 4000000 in
theorem made122_any (t : Tp) (h : t.ok) (w : World) : Calls Tryz.prog 122 #[.agg #[.int .i64 (t.k : Int), .int .i64 (t.l : Int), .int .i64 (t.s : Int)]] w fun e w' => e = .returned (.bool true) ∧ Keeps Non w w' := by
  obtain ⟨k, l, s⟩ := t
  obtain ⟨h1, h2, h3⟩ := h
  simp only at h1 h2 h3 ⊢
  have hB := Blk.new w 29 #[.int .i64 (k : Int), .int .i64 (l : Int), .int .i64 (s : Int)]
  have hk := (Keeps.refl Non w).alloc (.cells #[.int .i64 (k : Int), .int .i64 (l : Int), .int .i64 (s : Int)] 29)
  go_enter Tryz.func122, Tryz.ntmps122
  go_upto_region 1 with fail
  obtain ⟨w1, hw1⟩ : ∃ V : World, V = w.alloc (.cells #[.int .i64 (k : Int), .int .i64 (l : Int), .int .i64 (s : Int)] 29) := ⟨_, rfl⟩
  rw [← hw1] at hB hk ⊢
  clear hw1
  obtain ⟨p1, hp1⟩ : ∃ z, z = w.heap.size := ⟨_, rfl⟩
  rw [← hp1] at hB ⊢
  clear hp1
  have hQ := Blk.new w1 86 #[.int .i64 0, .int .i64 1, .int .i64 2, .int .i64 3]
  have hkq := (Keeps.refl Non w1).alloc (.cells #[.int .i64 0, .int .i64 1, .int .i64 2, .int .i64 3] 86)
  go_upto_region 2 with fail
  obtain ⟨w2, hw2⟩ : ∃ V : World, V = w1.alloc (.cells #[.int .i64 0, .int .i64 1, .int .i64 2, .int .i64 3] 86) := ⟨_, rfl⟩
  rw [← hw2] at hQ hkq ⊢
  clear hw2
  obtain ⟨p2, hp2⟩ : ∃ z, z = w1.heap.size := ⟨_, rfl⟩
  rw [← hp2] at hQ ⊢
  clear hp2
  have hB2 := hB.non hkq
  have x0 : w2.cell? ⟨p1, 0, none⟩ = some (.int .i64 (k : Int)) := hB2.cell 0
  have x1 : w2.cell? ⟨p1, 1, none⟩ = some (.int .i64 (l : Int)) := hB2.cell 1
  have x2 : w2.cell? ⟨p1, 2, none⟩ = some (.int .i64 (s : Int)) := hB2.cell 2
  have y1 : w2.cell? ⟨p2, 1, none⟩ = some (.int .i64 1) := hQ.cell 1
  have y2 : w2.cell? ⟨p2, 2, none⟩ = some (.int .i64 2) := hQ.cell 2
  have y3 : w2.cell? ⟨p2, 3, none⟩ = some (.int .i64 3) := hQ.cell 3
  have hkk := hk.non hkq
  clear hB hB2 hQ hk hkq
  have e1 : ¬ (s : Int) < 324 := by omega
  have e2 : ¬ (8192 : Int) < (s : Int) := by omega
  rcases h1 with ⟨rfl, rfl⟩ | ⟨rfl, h4, h5⟩ | ⟨rfl, h4, h5⟩
  · go_upto_region 7 with fail
    go_quiet (fail)
    go_wp2_with fail
    go_ret
    exact ⟨rfl, hkk.drewN _⟩
  · have d1 : decide ((2 : Int) ≤ (l : Int)) = true := decide_eq_true (by omega)
    have d2 : decide ((l : Int) ≤ 5) = true := decide_eq_true (by omega)
    go_upto_region 7 with fail
    go_quiet (fail)
    go_wp2_with fail
    go_ret
    exact ⟨rfl, hkk.drewN _⟩
  · have d1 : decide ((3 : Int) ≤ (l : Int)) = true := decide_eq_true (by omega)
    have d2 : decide ((l : Int) ≤ 5) = true := decide_eq_true (by omega)
    go_upto_region 7 with fail
    go_quiet (fail)
    go_wp2_with fail
    go_ret
    exact ⟨rfl, hkk.drewN _⟩
end Go.Proofs.YtipbjiepfnjojaaGreatDoor
namespace Go.Proofs.YtipbjiepfnjojaaGreatDoor
set_option maxRecDepth 100000
open Go.RowKit Go.Uc

/-- A label. -/
structure Lb where
  pool : Nat
  ts : List Tp
  top : Nat
  place : Nat
def Lb.ok (x : Lb) : Prop := x.pool < 18446744073709551616 ∧ 1 ≤ x.ts.length ∧ x.ts.length ≤ 4 ∧ (∃ h : x.top < x.ts.length, x.place < (x.ts[x.top]).l) ∧ ∀ t ∈ x.ts, t.ok
theorem Tp.ok.l5 {t : Tp} (h : t.ok) : t.l ≤ 5 := by
  obtain ⟨h, -⟩ := h
  rcases h with ⟨-, h⟩ | ⟨-, -, h⟩ | ⟨-, -, h⟩ <;> omega
theorem Tp.ok.k3 {t : Tp} (h : t.ok) : 1 ≤ t.k ∧ t.k ≤ 3 := by
  obtain ⟨h, -⟩ := h
  rcases h with ⟨h, -⟩ | ⟨h, -, -⟩ | ⟨h, -, -⟩ <;> omega
set_option maxHeartbeats 4000000 in
theorem bad121_any (t : Tp) (h : t.ok) (w : World) : Calls Tryz.prog 121 #[.agg #[.int .i64 (t.k : Int), .int .i64 (t.l : Int), .int .i64 (t.s : Int)]] w fun e w' => e = .returned (.bool false) ∧ Keeps Non w w' := by
  have HM := Lib.hid (fun V => made122_any t h V)
  obtain ⟨k, l, s⟩ := t
  simp only at HM ⊢
  clear h
  have hB := Blk.new w 29 #[.int .i64 (k : Int), .int .i64 (l : Int), .int .i64 (s : Int)]
  have hk := (Keeps.refl Non w).alloc (.cells #[.int .i64 (k : Int), .int .i64 (l : Int), .int .i64 (s : Int)] 29)
  go_enter Tryz.func121, Tryz.ntmps121
  go_upto_region 1 with fail
  obtain ⟨w1, hw1⟩ : ∃ V : World, V = w.alloc (.cells #[.int .i64 (k : Int), .int .i64 (l : Int), .int .i64 (s : Int)] 29) := ⟨_, rfl⟩
  rw [← hw1] at hB hk ⊢
  clear hw1
  obtain ⟨p1, hp1⟩ : ∃ z, z = w.heap.size := ⟨_, rfl⟩
  rw [← hp1] at hB ⊢
  clear hp1
  have x0 : w1.cell? ⟨p1, 0, none⟩ = some (.int .i64 (k : Int)) := hB.cell 0
  have x1 : w1.cell? ⟨p1, 1, none⟩ = some (.int .i64 (l : Int)) := hB.cell 1
  have x2 : w1.cell? ⟨p1, 2, none⟩ = some (.int .i64 (s : Int)) := hB.cell 2
  go_wp2_with ((go_at_call 122; go_must (refine (HM.out _).mono ?_); rintro e w2 ⟨rfl, hK2⟩))
  go_ret
  exact ⟨rfl, hk.non hK2⟩
set_option maxHeartbeats 4000000 in
theorem indexFunc133_any (ts : List Tp) (A : Option Addr) (c : Nat) (w : World) (hR : RowT w (.slice A ts.length c) ts) (hl : ts.length ≤ 4) (ho : ∀ t ∈ ts, t.ok) :
    Calls Tryz.prog 133 #[.slice A ts.length c, .func (.func 121) #[] #[]] w fun e w' => e = .returned (.int .i64 (-1)) ∧ Keeps Non w w' := by
  have HM := Lib.hid (fun (i : Nat) (hi : i < ts.length) V => bad121_any ts[i] (ho _ (List.getElem_mem hi)) V)
  have HR := Lib.hid (fun V (hV : Keeps Non w V) => hR.non hV)
  clear ho hR
  go_enter Tryz.func133, Tryz.ntmps133
  go_upto_region 2 with fail
  go_loopw [8] (fun i wr => ∃ j : Nat, j ≤ ts.length ∧ i = .int .i64 (j : Int) ∧ Keeps Non w wr) (fun i _ => ts.length - (intOf i).toNat)
  case atStart => exact ⟨0, Nat.zero_le _, rfl, Keeps.refl _ _⟩
  case round =>
    obtain ⟨j, hj, rfl, hK⟩ := hrel
    obtain ⟨wx, rfl⟩ : ∃ V : World, V = wr := ⟨_, rfl⟩
    by_cases hlt : j < ts.length
    · obtain ⟨g, cap, e1, h2, h3, hc, -, -⟩ := (HR.out wx hK).at_ encT_len hlt
      injection e1 with e1 _ e2
      subst e1 e2
      have HMj := Lib.hid (HM.out j hlt)
      have c0 : wx.cell? ⟨g, j * 3, none⟩ = some (.int .i64 (ts[j].k : Int)) := hc 0 (by decide)
      have c1 : wx.cell? ⟨g, j * 3 + 1, none⟩ = some (.int .i64 (ts[j].l : Int)) := hc 1 (by decide)
      have c2 : wx.cell? ⟨g, j * 3 + 2, none⟩ = some (.int .i64 (ts[j].s : Int)) := hc 2 (by decide)
      have hji : (j : Int) < (ts.length : Int) := by omega
      clear hc
      go_wp2_with ((go_at_call 121; go_must (refine (HMj.out _).mono ?_); rintro e w2 ⟨rfl, hK2⟩))
      go_roundw
      case rel => exact ⟨j + 1, by omega, by go_num, hK.non hK2⟩
      case measure => simp [intOf]; omega
    · obtain rfl : j = ts.length := by omega
      go_wp2_with fail
      go_ret
      exact ⟨rfl, hK⟩
set_option maxHeartbeats 4000000 in
theorem containsFunc120_any (ts : List Tp) (A : Option Addr) (c : Nat) (w : World) (hR : RowT w (.slice A ts.length c) ts) (hl : ts.length ≤ 4) (ho : ∀ t ∈ ts, t.ok) :
    Calls Tryz.prog 120 #[.slice A ts.length c, .func (.func 121) #[] #[]] w fun e w' => e = .returned (.bool false) ∧ Keeps Non w w' := by
  have HM := Lib.hid (indexFunc133_any ts A c w hR hl ho)
  go_enter Tryz.func120, Tryz.ntmps120
  go_wp2_with ((go_at_call 133; go_must (refine HM.out.mono ?_); rintro e w2 ⟨rfl, hK2⟩))
  go_ret
  exact ⟨rfl, hK2⟩
set_option maxHeartbeats 4000000 in
theorem checkLabel96_any (x : Lb) (hx : x.ok) (A : Option Addr) (c : Nat) (w : World) (hR : RowT w (.slice A x.ts.length c) x.ts) :
    Calls Tryz.prog 96 #[.agg #[.int .u64 (x.pool : Int), .slice A x.ts.length c, .int .i64 (x.top : Int), .int .i64 (x.place : Int)]] w fun e w' => e = .returned (.int .i64 0) ∧ Keeps Non w w' := by
  obtain ⟨pool, ts, top, place⟩ := x
  obtain ⟨q1, q2, q3, ⟨q4, q5⟩, q6⟩ := hx
  simp only at q1 q2 q3 q4 q5 q6 hR ⊢
  have hB := Blk.new w 32 #[.int .u64 (pool : Int), .slice A ts.length c, .int .i64 (top : Int), .int .i64 (place : Int)]
  have hk := (Keeps.refl Non w).alloc (.cells #[.int .u64 (pool : Int), .slice A ts.length c, .int .i64 (top : Int), .int .i64 (place : Int)] 32)
  have HM := Lib.hid (fun V (hV : Keeps Non w V) => containsFunc120_any ts A c V (hR.non hV) q3 q6)
  go_enter Tryz.func96, Tryz.ntmps96
  go_upto_region 1 with fail
  obtain ⟨w1, hw1⟩ : ∃ V : World, V = w.alloc (.cells #[.int .u64 (pool : Int), .slice A ts.length c, .int .i64 (top : Int), .int .i64 (place : Int)] 32) := ⟨_, rfl⟩
  rw [← hw1] at hB hk ⊢
  clear hw1
  obtain ⟨p1, hp1⟩ : ∃ z, z = w.heap.size := ⟨_, rfl⟩
  rw [← hp1] at hB ⊢
  clear hp1
  obtain ⟨g, cap, e1, h2, h3, hc, -, -⟩ := (hR.non hk).at_ encT_len q4
  injection e1 with e1 _ e2
  subst e1 e2
  have c1 : w1.cell? ⟨g, top * 3 + 1, none⟩ = some (.int .i64 (ts[top].l : Int)) := hc 1 (by decide)
  have x0 : w1.cell? ⟨p1, 0, none⟩ = some (.int .u64 (pool : Int)) := hB.cell 0
  have x1 : w1.cell? ⟨p1, 1, none⟩ = some (.slice (some ⟨g, 0, none⟩) ts.length c) := hB.cell 1
  have x2 : w1.cell? ⟨p1, 2, none⟩ = some (.int .i64 (top : Int)) := hB.cell 2
  have x3 : w1.cell? ⟨p1, 3, none⟩ = some (.int .i64 (place : Int)) := hB.cell 3
  have HE := Lib.hid (fun V (hV : Keeps Non w1 V) => (hB.non hV).cell 1)
  clear hc hR
  generalize ts[top].l = ll at c1 q5
  have d1 : decide ((ts.length : Int) < 1) = false := decide_eq_false (by omega)
  have d2 : decide ((4 : Int) < (ts.length : Int)) = false := decide_eq_false (by omega)
  have d3 : decide ((top : Int) < 0) = false := decide_eq_false (by omega)
  have d4 : decide ((ts.length : Int) ≤ (top : Int)) = false := decide_eq_false (by omega)
  have d5 : decide ((place : Int) < 0) = false := decide_eq_false (by omega)
  have d6 : decide ((ll : Int) ≤ (place : Int)) = false := decide_eq_false (by omega)
  go_quiet (fail)
  obtain ⟨w2, hw2⟩ : ∃ V : World, V = w1.drewN nq := ⟨_, rfl⟩
  have hk2 : Keeps Non w1 w2 := by rw [hw2]; exact (Keeps.refl _ _).drewN _
  rw [← hw2]
  clear hw2
  have y1 : w2.cell? ⟨p1, 1, none⟩ = some (.slice (some ⟨g, 0, none⟩) ts.length c) := HE.out w2 hk2
  have HM2 := Lib.hid (HM.out w2 (hk.non hk2))
  clear x0 x1 x2 x3
  go_wp2_with ((go_at_call 120; go_must (refine HM2.out.mono ?_); rintro e w3 ⟨rfl, hK3⟩))
  go_ret
  exact ⟨rfl, (hk.non hk2).non hK3⟩
end Go.Proofs.YtipbjiepfnjojaaGreatDoor
namespace Go.Proofs.YtipbjiepfnjojaaGreatDoor
set_option maxRecDepth 100000
open Go.RowKit Go.Uc

theorem RowP.oth {α : Type} {w w' : World} {e : TypeId} {k : Nat} {enc : α → List Value} {v : Value} {xs : List α} (h : RowP w e k enc v xs) (hO : Oth w w') (h1 : e ≠ 158) (h5 : e ≠ 5) : RowP w' e k enc v xs := by
  rcases h.2 with h2 | ⟨g, cap, cur, e1, h2, h3, r⟩
  · exact ⟨h.1, .inl h2⟩
  · exact ⟨h.1, .inr ⟨g, cap, cur, e1, h2, hO g e cur h3 h1 h5, r⟩⟩
/-- A top as bytes. -/
def tB (t : Tp) : List UInt8 := le 1 t.k ++ le 1 t.l ++ le 4 t.s
theorem tB_len (t : Tp) : (tB t).length = 6 := by simp [tB, le_length]
theorem tBs_len (ts : List Tp) : (ts.flatMap tB).length = 6 * ts.length := by
  induction ts with
  | nil => rfl
  | cons t ts ih => rw [List.flatMap_cons, List.length_append, tB_len, ih, List.length_cons]; omega
/-- What a label says of itself. -/
def labelT (x : Lb) : List UInt8 := [85, 67, 76, 66] ++ le 8 x.pool ++ le 1 x.top ++ le 1 x.place ++ le 1 x.ts.length
theorem labelT_len (x : Lb) : (labelT x).length = 15 := by simp [labelT, le_length]
def labelH (x : Lb) : List UInt8 := labelT x ++ x.ts.flatMap tB
theorem labelH_len (x : Lb) : (labelH x).length = 15 + 6 * x.ts.length := by rw [labelH, List.length_append, labelT_len, tBs_len]
theorem wrapu (n : Nat) (h : n < 9223372036854775808) : IntKind.u64.wrap (n : Int) = (n : Int) := by rw [IntKind.wrap_u64]; omega
set_option maxHeartbeats 4000000 in
theorem layLabel99_any {w0 w : World} {g room : Nat} (h : Wr w0 w g room []) (x : Lb) (hx : x.ok) (A : Option Addr) (c : Nat) (hR : RowT w (.slice A x.ts.length c) x.ts) (hf : 39 ≤ room) (hr : room ≤ 1099511627776) :
    Calls Tryz.prog 99 #[.pointer (some ⟨g, 0, none⟩), .agg #[.int .u64 (x.pool : Int), .slice A x.ts.length c, .int .i64 (x.top : Int), .int .i64 (x.place : Int)]] w fun e w' => e = .returned (.tuple #[]) ∧ Wr w0 w' g room (labelH x) ∧ Oth w w' := by
  have HLl := Lib.hid (labelT_len x)
  have HLt : Hid (labelT x = [85, 67, 76, 66] ++ le 8 x.pool ++ le 1 x.top ++ le 1 x.place ++ le 1 x.ts.length) := Lib.hid rfl
  have HLh : Hid (labelH x = labelT x ++ x.ts.flatMap tB) := Lib.hid rfl
  generalize labelT x = LT at HLl HLt HLh
  generalize labelH x = LH at HLh ⊢
  obtain ⟨pool, ts, top, place⟩ := x
  obtain ⟨q1, q2, q3, ⟨q4, q5⟩, q6⟩ := hx
  simp only at q1 q2 q3 q4 q5 q6 hR HLt HLh ⊢
  have hpl : place < 5 := by have := (q6 _ (List.getElem_mem q4)).l5; omega
  clear q5
  have HN : Hid (∀ (V : World) (xs : List UInt8) (n k : Nat), Wr w0 V g room xs → 1 ≤ k → k ≤ 8 → n < 256 ^ k → xs.length + k ≤ room → Calls Tryz.prog 42 #[.pointer (some ⟨g, 0, none⟩), .int .u64 (n : Int), .int .i64 (k : Int)] V fun e w' => e = .returned (.tuple #[]) ∧ Wr w0 w' g room (xs ++ le k n) ∧ Oth V w') := Lib.hid (fun V xs n k hV h1 h8 hn hx => num42_any hV n k h1 h8 hn hx hr)
  have HB : Hid (∀ (V : World) (b : Nat), Wr w0 V g room [] → At V (some ⟨b, 0, none⟩) [85, 67, 76, 66] → Calls Tryz.prog 43 #[.pointer (some ⟨g, 0, none⟩), .slice (some ⟨b, 0, none⟩) 4 4] V fun e w' => e = .returned (.tuple #[]) ∧ Wr w0 w' g room [85, 67, 76, 66] ∧ Oth V w') := Lib.hid (fun V b hV hb => bytes43_any hV (some ⟨b, 0, none⟩) 4 [85, 67, 76, 66] hb (by show 0 + 4 ≤ room; omega) hr)
  have hB := Blk.new w 32 #[.int .u64 (pool : Int), .slice A ts.length c, .int .i64 (top : Int), .int .i64 (place : Int)]
  have hk := (Keeps.refl Non w).alloc (.cells #[.int .u64 (pool : Int), .slice A ts.length c, .int .i64 (top : Int), .int .i64 (place : Int)] 32)
  have wt := wrapu top (by omega)
  have wp := wrapu place (by omega)
  have wl := wrapu ts.length (by omega)
  go_enter Tryz.func99, Tryz.ntmps99
  go_upto_region 1 with fail
  have h1 := h.non hk
  have hR1 := hR.non hk
  obtain ⟨w1, hw1⟩ : ∃ V : World, V = w.alloc (.cells #[.int .u64 (pool : Int), .slice A ts.length c, .int .i64 (top : Int), .int .i64 (place : Int)] 32) := ⟨_, rfl⟩
  have hY1 := Oth.of hk
  rw [← hw1] at hB h1 hR1 hY1 ⊢
  clear hw1 hk hR
  obtain ⟨pb, hpb⟩ : ∃ z, z = w.heap.size := ⟨_, rfl⟩
  rw [← hpb] at hB ⊢
  clear hpb
  have HC : Hid (∀ V, Oth w1 V → ∀ i v, (#[.int .u64 (pool : Int), .slice A ts.length c, .int .i64 (top : Int), .int .i64 (place : Int)] : Array Value)[i]? = some v → V.cell? ⟨pb, i, none⟩ = some v) := Lib.hid (fun V hV i v hi => by rw [(hV pb 32 _ hB (by decide) (by decide)).cell]; exact hi)
  have HRo : Hid (∀ V, Oth w1 V → RowT V (.slice A ts.length c) ts) := Lib.hid (fun V hV => RowP.oth hR1 hV (by decide) (by decide))
  clear hB hR1
  have hka := (Keeps.refl Non w1).alloc (.cells #[.int .u8 85, .int .u8 67, .int .u8 76, .int .u8 66] 5 (4, 5))
  have H0 := Lib.hid (HB.out _ w1.heap.size (h1.non hka) (At.lit w1 5 (4, 5) _ [85, 67, 76, 66] rfl))
  have hcv : (convert 55 55 (.slice (some ⟨w1.heap.size, 0, none⟩) 4 4)).run Tryz.prog (w1.alloc (.cells #[.int .u8 85, .int .u8 67, .int .u8 76, .int .u8 66] 5)) = .ok (.slice (some ⟨w1.heap.size, 0, none⟩) 4 4) (w1.alloc (.cells #[.int .u8 85, .int .u8 67, .int .u8 76, .int .u8 66] 5 (4, 5))) := Joins.run_convert_bytes_const_at w1 55 5 #[.int .u8 85, .int .u8 67, .int .u8 76, .int .u8 66] 4 4 w1.heap.size rfl Tryz.underlying55 Tryz.underlying5
  go_upto_region 2 with ((go_at_call 43; go_must (refine H0.out.mono ?_); rintro e w2 ⟨rfl, hW2, hY2'⟩))
  have hY2 := (Oth.of hka).trans hY2'
  have x0 : w2.cell? ⟨pb, 0, none⟩ = some (.int .u64 (pool : Int)) := HC.out w2 hY2 0 _ rfl
  have H1 := Lib.hid (HN.out w2 _ pool 8 hW2 (by decide) (by decide) q1 (by show 4 + 8 ≤ room; omega))
  clear hka hY2'
  go_upto_region 3 with ((go_at_call 42; go_must (refine H1.out.mono ?_); rintro e w3 ⟨rfl, hW3, hY3'⟩))
  have hY3 := hY2.trans hY3'
  have x1 : w3.cell? ⟨pb, 2, none⟩ = some (.int .i64 (top : Int)) := HC.out w3 hY3 2 _ rfl
  have H2 := Lib.hid (HN.out w3 _ top 1 hW3 (by decide) (by decide) (by omega) (by simp [le_length]; omega))
  go_upto_region 4 with ((go_at_call 42; go_must (refine H2.out.mono ?_); rintro e w4 ⟨rfl, hW4, hY4'⟩))
  have hY4 := hY3.trans hY4'
  have x2 : w4.cell? ⟨pb, 3, none⟩ = some (.int .i64 (place : Int)) := HC.out w4 hY4 3 _ rfl
  have H3 := Lib.hid (HN.out w4 _ place 1 hW4 (by decide) (by decide) (by omega) (by simp [le_length]; omega))
  go_upto_region 5 with ((go_at_call 42; go_must (refine H3.out.mono ?_); rintro e w5 ⟨rfl, hW5, hY5'⟩))
  have hY5 := hY4.trans hY5'
  have x3 : w5.cell? ⟨pb, 1, none⟩ = some (.slice A ts.length c) := HC.out w5 hY5 1 _ rfl
  have H4 := Lib.hid (HN.out w5 _ ts.length 1 hW5 (by decide) (by decide) (by omega) (by simp [le_length]; omega))
  go_upto_region 6 with ((go_at_call 42; go_must (refine H4.out.mono ?_); rintro e w6 ⟨rfl, hW6, hY6'⟩))
  have hY6 := hY5.trans hY6'
  have x4 : w6.cell? ⟨pb, 1, none⟩ = some (.slice A ts.length c) := HC.out w6 hY6 1 _ rfl
  rw [← HLt.out] at hW6
  clear x0 x1 x2 x3 hY2 hY3 hY4 hY5 hY3' hY4' hY5' hY6' H0 H1 H2 H3 H4 hW2 hW3 hW4 hW5
  go_upto_region 7 with fail
  go_loopw [33] (fun i wr => ∃ j : Nat, j ≤ ts.length ∧ i = .int .i64 (j : Int) ∧ Wr w0 wr g room (LT ++ (ts.take j).flatMap tB) ∧ Oth w1 wr) (fun i _ => ts.length - (intOf i).toNat)
  case atStart => exact ⟨0, Nat.zero_le _, rfl, by simpa using hW6, hY6⟩
  case round =>
    obtain ⟨j, hj, rfl, hW, hY⟩ := hrel
    obtain ⟨wx, rfl⟩ : ∃ V : World, V = wr := ⟨_, rfl⟩
    clear hW6 hY6 x4
    by_cases hlt : j < ts.length
    · obtain ⟨tb, cap, e1, h2, h3, hc, -, -⟩ := (HRo.out wx hY).at_ encT_len hlt
      injection e1 with e1 _ e2
      subst e1 e2
      have c0 : wx.cell? ⟨tb, j * 3, none⟩ = some (.int .i64 (ts[j].k : Int)) := hc 0 (by decide)
      have c1 : wx.cell? ⟨tb, j * 3 + 1, none⟩ = some (.int .i64 (ts[j].l : Int)) := hc 1 (by decide)
      have c2 : wx.cell? ⟨tb, j * 3 + 2, none⟩ = some (.int .i64 (ts[j].s : Int)) := hc 2 (by decide)
      have hji : (j : Int) < (ts.length : Int) := by omega
      have hok := q6 _ (List.getElem_mem hlt)
      have HS : Hid ((LT ++ (ts.take j).flatMap tB) ++ le 1 ts[j].k ++ le 1 ts[j].l ++ le 4 ts[j].s = LT ++ (ts.take (j + 1)).flatMap tB) := Lib.hid (by
        rw [← List.take_append_getElem hlt, List.flatMap_append]
        simp [tB])
      have HLn : Hid ((LT ++ (ts.take j).flatMap tB).length = 15 + 6 * j) := Lib.hid (by rw [List.length_append, HLl.out, tBs_len, List.length_take, Nat.min_eq_left (by omega)])
      have b1 := hok.k3
      have b2 := hok.l5
      have b3 : ts[j].s ≤ 8192 := hok.2.2
      clear hc hok
      generalize ts[j].k = tk at c0 b1 HS
      generalize ts[j].l = tl at c1 b2 HS
      generalize ts[j].s = tz at c2 b3 HS
      generalize LT ++ (ts.take j).flatMap tB = X at HS HLn hW
      have w1' := wrapu tk (by omega)
      have w2' := wrapu tl (by omega)
      have w3' := wrapu tz (by omega)
      have hBt := Blk.new wx 29 #[.int .i64 (tk : Int), .int .i64 (tl : Int), .int .i64 (tz : Int)]
      have hkt := (Keeps.refl Non wx).alloc (.cells #[.int .i64 (tk : Int), .int .i64 (tl : Int), .int .i64 (tz : Int)] 29)
      go_upto_region 9 with fail
      obtain ⟨wy, hwy⟩ : ∃ V : World, V = wx.alloc (.cells #[.int .i64 (tk : Int), .int .i64 (tl : Int), .int .i64 (tz : Int)] 29) := ⟨_, rfl⟩
      rw [← hwy] at hBt hkt ⊢
      clear hwy
      obtain ⟨pt, hpt⟩ : ∃ z, z = wx.heap.size := ⟨_, rfl⟩
      rw [← hpt] at hBt ⊢
      clear hpt
      have HT : Hid (∀ V, Oth wy V → ∀ i v, (#[.int .i64 (tk : Int), .int .i64 (tl : Int), .int .i64 (tz : Int)] : Array Value)[i]? = some v → V.cell? ⟨pt, i, none⟩ = some v) := Lib.hid (fun V hV i v hi => by rw [(hV pt 29 _ hBt (by decide) (by decide)).cell]; exact hi)
      have y0 : wy.cell? ⟨pt, 0, none⟩ = some (.int .i64 (tk : Int)) := hBt.cell 0
      have G1 := Lib.hid (HN.out wy X tk 1 (hW.non hkt) (by decide) (by decide) (by omega) (by have := HLn.out; omega))
      clear c0 c1 c2 hBt
      go_upto_region 10 with ((go_at_call 42; go_must (refine G1.out.mono ?_); rintro e v2 ⟨rfl, gW2, gY2⟩))
      have y1 : v2.cell? ⟨pt, 1, none⟩ = some (.int .i64 (tl : Int)) := HT.out v2 gY2 1 _ rfl
      have G2 := Lib.hid (HN.out v2 _ tl 1 gW2 (by decide) (by decide) (by omega) (by have := HLn.out; rw [List.length_append, le_length]; omega))
      go_upto_region 11 with ((go_at_call 42; go_must (refine G2.out.mono ?_); rintro e v3 ⟨rfl, gW3, gY3⟩))
      have gY23 := gY2.trans gY3
      have y2 : v3.cell? ⟨pt, 2, none⟩ = some (.int .i64 (tz : Int)) := HT.out v3 gY23 2 _ rfl
      have G3 := Lib.hid (HN.out v3 _ tz 4 gW3 (by decide) (by decide) (by omega) (by have := HLn.out; rw [List.length_append, List.length_append, le_length, le_length]; omega))
      go_wp2_with ((go_at_call 42; go_must (refine G3.out.mono ?_); rintro e v4 ⟨rfl, gW4, gY4⟩))
      go_roundw
      case rel =>
        rw [HS.out] at gW4
        exact ⟨j + 1, by omega, by go_num, gW4, (hY.trans (Oth.of hkt)).trans (gY23.trans gY4)⟩
      case measure => simp [intOf]; omega
    · obtain rfl : j = ts.length := by omega
      go_wp2_with fail
      go_end0
      rw [List.take_length, ← HLh.out] at hW
      exact ⟨rfl, hW, hY1.trans hY⟩
end Go.Proofs.YtipbjiepfnjojaaGreatDoor
