/- The writer: put, Num, Bytes. The writer: Bytes, Pad, New, Done. The writer: New, Done; the reader's take. The reader: New, Num. -/
import Derived.Test.YtipbjiepfnjojaaGreatDoorG2
import Derived.StillTailTactics
namespace Go.Proofs.YtipbjiepfnjojaaGreatDoor
set_option maxRecDepth 100000
open Go.RowKit Go.Uc

structure Sl where
  A : Option Addr
  n : Nat
  c : Nat
abbrev Sl.v (s : Sl) : Value := .slice s.A s.n s.c
theorem RowP.sl {α : Type} {w : World} {e : TypeId} {k : Nat} {enc : α → List Value} {v : Value} {xs : List α} (h : RowP w e k enc v xs) : ∃ s : Sl, v = s.v ∧ s.n = xs.length := by
  obtain ⟨A, c, rfl, _⟩ := h.val
  exact ⟨⟨A, xs.length, c⟩, rfl, rfl⟩
def encU (c : UInt8) : List Value := [bv c]
theorem encU_len (c : UInt8) : (encU c).length = 1 := rfl
theorem encU_one (c : UInt8) : ∀ u ∈ encU c, u.oneCell' = true := by intro u hu; simp [encU] at hu; subst hu; rfl
theorem flat_encU (bs : List UInt8) : bs.flatMap encU = bs.map bv := by
  induction bs with
  | nil => rfl
  | cons x bs ih => rw [List.flatMap_cons, ih]; rfl
theorem made_bytes (n : Nat) (hn : n ≤ 281474976710656) (W : World) : (Instr.makeSlice 55 (.int .i64 (n : Int)) (.int .i64 (n : Int))).run Tryz.prog W = .ok (.slice (some ⟨W.heap.size, 0, none⟩) n n) (W.alloc (.cells (pc (zeros n)) 5)) := by
  obtain ⟨i, hi0, hz0, hz1, hz2⟩ := info_parts info5
  have hrun := run_make (P := Tryz.prog) W 55 5 i (.int .u8 0) Tryz.underlying55 hi0 hz0 .i64 .i64 n n (by omega) (by omega) (by rw [hz2]; omega) (by omega)
  have e1 : madeCells (Value.int .u8 0).cells ((n : Int).toNat * i.size) = pc (zeros n) := by
    rw [hz1]
    apply Array.ext
    · simp [size_madeCells, pc_size, zeros_length]
    · intro j h1 h2
      simp [madeCells, Value.cells, pc, zeros, bv, Nat.mod_one]
  rw [e1] at hrun
  exact hrun
/-- A row of bytes, its block known. -/
abbrev RowU (w : World) (v : Value) (bs : List UInt8) : Prop := RowP w 5 1 encU v bs
/-- A writer that has failed at nothing, of memory newer than w0. -/
def Wr (w0 w : World) (g room : Nat) (bs : List UInt8) : Prop :=
  ∃ A c, Blk w g 158 #[.int .i64 (room : Int), .slice A bs.length c, .int .i64 0] ∧ RowU w (.slice A bs.length c) bs ∧ g ∉ own (.slice A bs.length c) ∧ w0.heap.size ≤ g ∧ (∀ q ∈ own (.slice A bs.length c), w0.heap.size ≤ q) ∧ Keeps Non w0 w
theorem Wr.non {w0 w w' : World} {g room : Nat} {bs : List UInt8} (h : Wr w0 w g room bs) (hk : Keeps Non w w') : Wr w0 w' g room bs := by
  obtain ⟨A, c, h1, h2, h3, h4, h5, h6⟩ := h
  exact ⟨A, c, h1.non hk, h2.non hk, h3, h4, h5, h6.non hk⟩
theorem Wr.keep {w0 w : World} {g room : Nat} {bs : List UInt8} (h : Wr w0 w g room bs) : Keeps Non w0 w := by
  obtain ⟨A, c, h1, h2, h3, h4, h5, h6⟩ := h
  exact h6
/-- More bytes laid down. -/
theorem Wr.more {w0 w w2 : World} {g room : Nat} {A A2 : Option Addr} {c c2 n2 : Nat} {bs xs : List UInt8} (h1 : Blk w g 158 #[.int .i64 (room : Int), .slice A bs.length c, .int .i64 0]) (h3 : g ∉ own (.slice A bs.length c)) (h4 : w0.heap.size ≤ g) (h5 : ∀ q ∈ own (.slice A bs.length c), w0.heap.size ≤ q) (h6 : Keeps Non w0 w)
    (hn : n2 = (bs ++ xs).length) (hO : RowU w2 (.slice A2 n2 c2) (bs ++ xs)) (hK : Keeps (· ∈ own (.slice A bs.length c)) w w2) (hat : (Value.slice A2 n2 c2).ownBlock = (Value.slice A bs.length c).ownBlock ∨ (Value.slice A2 n2 c2).ownBlock = some w.heap.size) :
    Wr w0 (w2.setCell ⟨g, 1, none⟩ (.slice A2 n2 c2)) g room (bs ++ xs) := by
  subst hn
  have hg2 : g ∉ own (.slice A2 (bs ++ xs).length c2) := fun hq => by
    rw [mem_own] at hq
    rcases hat with e | e
    · rw [e] at hq; exact h3 (mem_own.2 hq)
    · rw [e] at hq; injection hq with hq; have := h1.lt; omega
  have hk9 : Keeps (Only g) w2 (w2.setCell ⟨g, 1, none⟩ (.slice A2 (bs ++ xs).length c2)) := (Keeps.refl (Only g) _).set (p := ⟨g, 1, none⟩) rfl _
  refine ⟨A2, c2, (h1.keep hK h3).set 1 _, hO.keep hk9 fun q hq e => hg2 (by unfold Only at e; exact e ▸ hq), hg2, h4, fun q hq => ?_, (h6.then hK fun q hq e => by have := h5 q e; omega).setNew (p := ⟨g, 1, none⟩) h4 _⟩
  rw [mem_own] at hq
  rcases hat with e | e
  · rw [e] at hq; exact h5 q (mem_own.2 hq)
  · rw [e] at hq; injection hq with hq; have := h6.size; omega
/-- Blocks that are neither a writer nor bytes stay. -/
def Oth (w w' : World) : Prop := ∀ (b t : Nat) (cs : Array Value), Blk w b t cs → t ≠ 158 → t ≠ 5 → Blk w' b t cs
theorem Oth.trans {w w1 w2 : World} (h : Oth w w1) (k : Oth w1 w2) : Oth w w2 := fun b t cs hb h1 h2 => k b t cs (h b t cs hb h1 h2) h1 h2
theorem Oth.of {w w' : World} (hk : Keeps Non w w') : Oth w w' := fun _ _ _ hb _ _ => hb.non hk
theorem Oth.set {w w1 : World} {g : Nat} {cs : Array Value} (h : Oth w w1) (hg : Blk w1 g 158 cs) (i : Nat) (u : Value) : Oth w (w1.setCell ⟨g, i, none⟩ u) := fun b t cs' hb h1 h2 => by
  have hb1 := h b t cs' hb h1 h2
  exact hb1.far (hb1.ne hg h1) _
theorem oth_row {w w2 : World} {A : Option Addr} {n c : Nat} {bs : List UInt8} (h2 : RowU w (.slice A n c) bs) (hK : Keeps (· ∈ own (.slice A n c)) w w2) : Oth w w2 := fun b t cs hb h1 h5 => by
  refine hb.keep hK fun hq => ?_
  rcases h2.form with ⟨e, -⟩ | ⟨g, cap, cur, e, hB, -⟩
  · rw [e] at hq; exact (List.not_mem_nil hq).elim
  · rw [e] at hq
    have : b ∈ [g] := hq
    rw [List.mem_singleton] at this
    subst this
    exact (hb.ne hB h5) rfl
set_option maxHeartbeats 2000000 in
theorem put84_any {w0 w : World} {g room : Nat} {bs : List UInt8} (h : Wr w0 w g room bs) (A : Option Addr) (c : Nat) (xs : List UInt8) (hA : At w A xs) (hf : bs.length + xs.length ≤ room) (hr : room ≤ 1099511627776) :
    Calls Tryz.prog 84 #[.pointer (some ⟨g, 0, none⟩), .slice A xs.length c] w fun e w' => e = .returned (.int .i64 0) ∧ Wr w0 w' g room (bs ++ xs) ∧ Oth w w' := by
  obtain ⟨sA, sc, h1, h2, h3, h4, h5, h6⟩ := h
  have c0 : w.cell? ⟨g, 0, none⟩ = some (.int .i64 (room : Int)) := h1.cell 0
  have c1 : w.cell? ⟨g, 1, none⟩ = some (.slice sA bs.length sc) := h1.cell 1
  have hgt : ¬ (room : Int) - (bs.length : Int) < (xs.length : Int) := by omega
  have hgd : decide ((room : Int) - (bs.length : Int) < (xs.length : Int)) = false := decide_eq_false hgt
  have hwr : IntKind.i64.wrap ((room : Int) - (bs.length : Int)) = (room : Int) - (bs.length : Int) := by rw [IntKind.wrap_i64]; omega
  have hwr2 : wrap64 ((room : Int) - (bs.length : Int)) = (room : Int) - (bs.length : Int) := IntWalk.wrap64_in _ ⟨by omega, by omega⟩
  go_enter Tryz.func84, Tryz.ntmps84
  go_upto_region 1 with fail
  go_quiet (fail)
  obtain ⟨w2, hw2⟩ : ∃ V : World, V = w.drewN nq := ⟨_, rfl⟩
  have hk2 : Keeps Non w w2 := by rw [hw2]; exact (Keeps.refl _ _).drewN _
  first | rw [← hw2] | skip
  clear hw2 c0 c1
  have d1 : w2.cell? ⟨g, 1, none⟩ = some (.slice sA bs.length sc) := (h1.non hk2).cell 1
  have hB2 := h1.non hk2
  have hR2 := h2.non hk2
  have hA2 : Ats w2 A (xs.flatMap encU) := by rw [flat_encU]; exact (hA.non hk2).ats
  have HB : Hid (bs.length + xs.length ≤ maxLen ∧ (bs.length + xs.length) * 1 ≤ 140737488355328) := Lib.hid (by unfold maxLen; omega)
  have H3 := Lib.hid h3
  go_wp2_with (at_builtin; go_must (refine wpList_append_row (o := ⟨some 24, _, _, _, _, _⟩) rfl (.tmp 22) (.tmp 23) 55 rfl 5 1 encU _ 1 Tryz.underlying55 info5 rfl (by decide) encU_len encU_one (.slice sA bs.length sc) bs rfl hR2 A xs.length c xs rfl rfl hA2 HB.out.1 HB.out.2 ?_); intro u8 w8 hO8 hK8 hat; obtain ⟨⟨A8, n8, c8⟩, rfl, h8⟩ := RowP.sl hO8; have hn8 : n8 = bs.length + xs.length := (by rw [show n8 = (bs ++ xs).length from h8, List.length_append]); clear h8; subst hn8; have hB8 := hB2.keep hK8 H3.out; have z8 := hB8.cell 1; have f8 := hB8.frozen 1)
  go_ret
  exact ⟨rfl, Wr.more hB2 h3 h4 h5 (h6.non hk2) (by simp) hO8 hK8 hat, ((Oth.of hk2).trans (oth_row hR2 hK8)).set hB8 1 _⟩
/-- A block of one cell. -/
theorem one_cell {w : World} {b t : Nat} {v : Value} (h : Blk w b t #[v]) : w.cell? ⟨b, 0, none⟩ = some v := h.cell 0
set_option maxHeartbeats 2000000 in
theorem num81_any {w0 w : World} {g room : Nat} {bs : List UInt8} (h : Wr w0 w g room bs) (n k kb nb wb : Nat) (hk1 : 1 ≤ k) (hk8 : k ≤ 8) (hn : n < 256 ^ k) (hf : bs.length + k ≤ room) (hr : room ≤ 1099511627776) (hkb : Blk w kb 3 #[.int .i64 (k : Int)]) (hnb : Blk w nb 27 #[.int .u64 (n : Int)]) (hwb : Blk w wb 107 #[.pointer (some ⟨g, 0, none⟩)]) :
    Calls Tryz.prog 81 #[.pointer (some ⟨kb, 0, none⟩), .pointer (some ⟨nb, 0, none⟩), .pointer (some ⟨wb, 0, none⟩)] w fun e w' => e = .returned (.int .i64 0) ∧ Wr w0 w' g room (bs ++ le k n) ∧ Oth w w' := by
  have hn64 : n < 18446744073709551616 := Nat.lt_of_lt_of_le hn (Nat.pow_le_pow_right (by decide) hk8)
  have x0 : w.cell? ⟨kb, 0, none⟩ = some (.int .i64 (k : Int)) := hkb.cell 0
  have x1 : w.cell? ⟨nb, 0, none⟩ = some (.int .u64 (n : Int)) := hnb.cell 0
  have x2 : w.cell? ⟨wb, 0, none⟩ = some (.pointer (some ⟨g, 0, none⟩)) := hwb.cell 0
  have x0d : w.drew.cell? ⟨kb, 0, none⟩ = some (.int .i64 (k : Int)) := hkb.cell 0
  have x1d : w.drew.cell? ⟨nb, 0, none⟩ = some (.int .u64 (n : Int)) := hnb.cell 0
  have HF : Hid (∀ V : World, Calls Tryz.prog 83 #[.int .u64 (n : Int), .int .i64 (k : Int)] V fun e w' => ∃ b, e = .returned (.slice (some ⟨b, 0, none⟩) k k) ∧ Blk w' b 5 (pc (le k n)) ∧ Keeps Non V w') := Lib.hid (fun V => (form_any n k hk8 hn64 V).mono fun e w' ⟨a, b, c⟩ => ⟨_, a, b, c⟩)
  have HV : Hid (∀ V b, Blk V b 5 (pc (le k n)) → Calls Tryz.prog 82 #[.slice (some ⟨b, 0, none⟩) k k] V fun e w' => e = .returned (.int .u64 (n : Int)) ∧ w' = V) := Lib.hid (fun V b hb => by
    have := value_any (some ⟨b, 0, none⟩) k (le k n) V (At.blk hb) (by rw [le_length]; exact hk8)
    rw [le_length, leVal_le, Nat.mod_eq_of_lt hn] at this
    exact this)
  have HP : Hid (∀ (V : World) (b : Nat), Wr w0 V g room bs → Blk V b 5 (pc (le k n)) → Calls Tryz.prog 84 #[.pointer (some ⟨g, 0, none⟩), .slice (some ⟨b, 0, none⟩) k k] V fun e w' => e = .returned (.int .i64 0) ∧ Wr w0 w' g room (bs ++ le k n) ∧ Oth V w') := Lib.hid (fun V b hV hb => by
    have := put84_any hV (some ⟨b, 0, none⟩) k (le k n) (At.blk hb) (by rw [le_length]; exact hf) hr
    rw [le_length] at this
    exact this)
  go_enter Tryz.func81, Tryz.ntmps81
  go_upto_region 3 with fail
  go_cut [11] from 12 to 17 (fun c wc => c = .bool false ∧ Keeps Non w wc)
  case first =>
    go_region_law (first
      | (go_simp; go_at_call 83; refine (HF.out _).mono ?_; rintro e w3 ⟨b3, rfl, hB3, hK3⟩; go_must (have HV3 := Lib.hid (HV.out _ _ hB3); have hk3 := (Keeps.refl Non w).drew.non hK3; have y1 : w3.cell? ⟨nb, 0, none⟩ = some (.int .u64 (n : Int)) := hk3.cell x1 id))
      | (go_simp; go_at_call 82; refine HV3.out.mono ?_; rintro e w4 ⟨rfl, hw4⟩; go_must (subst w4)))
    all_goals
      go_wp2_with fail
      go_meet
      case rel => exact ⟨by simp, hk3⟩
  case rest =>
    obtain ⟨rfl, hk3⟩ := hcut
    obtain ⟨w3, rfl⟩ : ∃ V : World, V = wc := ⟨_, rfl⟩
    have hW3 := h.non hk3
    have z0 : w3.drew.cell? ⟨kb, 0, none⟩ = some (.int .i64 (k : Int)) := hk3.cell x0 id
    have z1 : w3.drew.cell? ⟨nb, 0, none⟩ = some (.int .u64 (n : Int)) := hk3.cell x1 id
    have z2 : w3.drew.cell? ⟨wb, 0, none⟩ = some (.pointer (some ⟨g, 0, none⟩)) := hk3.cell x2 id
    clear x0 x1 x2 x0d x1d
    go_upto_region 5 with fail
    go_region_law (first
      | (go_simp; go_at_call 83; refine (HF.out _).mono ?_; rintro e w5 ⟨b5, rfl, hB5, hK5⟩; go_must (have hW5 := (hW3.non (Keeps.refl Non w3).drew).non hK5; have HP5 := Lib.hid (HP.out _ _ hW5 hB5); have z25 : w5.cell? ⟨wb, 0, none⟩ = some (.pointer (some ⟨g, 0, none⟩)) := hK5.cell z2 id))
      | (go_simp; go_at_call 84; refine HP5.out.mono ?_; rintro e w6 ⟨rfl, hW6, hY6⟩; go_must (have HW6 := Lib.hid hW6; have HY6 := Lib.hid (((Oth.of hk3).trans (Oth.of ((Keeps.refl Non w3).drew.non hK5))).trans hY6))))
    all_goals
      go_wp2_with fail
      go_ret
      exact ⟨rfl, HW6.out, HY6.out⟩
theorem boxes3 (w : World) (a b c : Value) (ta tb tc : TypeId) : Blk (((w.alloc (.cells #[a] ta)).alloc (.cells #[b] tb)).alloc (.cells #[c] tc)) w.heap.size ta #[a] ∧ Blk (((w.alloc (.cells #[a] ta)).alloc (.cells #[b] tb)).alloc (.cells #[c] tc)) (w.heap.size + 1) tb #[b] ∧ Blk (((w.alloc (.cells #[a] ta)).alloc (.cells #[b] tb)).alloc (.cells #[c] tc)) (w.heap.size + 1 + 1) tc #[c] ∧ Keeps Non w (((w.alloc (.cells #[a] ta)).alloc (.cells #[b] tb)).alloc (.cells #[c] tc)) := by
  have h1 := Blk.new w ta #[a]
  have k1 := (Keeps.refl Non w).alloc (.cells #[a] ta)
  obtain ⟨w1, hw1⟩ : ∃ V : World, V = w.alloc (.cells #[a] ta) := ⟨_, rfl⟩
  have z1 : w1.heap.size = w.heap.size + 1 := by rw [hw1]; simp
  rw [← hw1] at h1 k1 ⊢
  have h2 := Blk.new w1 tb #[b]
  have k2 := (Keeps.refl Non w1).alloc (.cells #[b] tb)
  obtain ⟨w2, hw2⟩ : ∃ V : World, V = w1.alloc (.cells #[b] tb) := ⟨_, rfl⟩
  have z2 : w2.heap.size = w.heap.size + 1 + 1 := by rw [hw2]; simp [z1]
  rw [← hw2] at h2 k2 ⊢
  rw [z1] at h2
  have h3 := Blk.new w2 tc #[c]
  have k3 := (Keeps.refl Non w2).alloc (.cells #[c] tc)
  rw [z2] at h3
  exact ⟨(h1.non k2).non k3, h2.non k3, h3, (k1.non k2).non k3⟩
theorem boxes2 (w : World) (a b : Value) (ta tb : TypeId) : Blk ((w.alloc (.cells #[a] ta)).alloc (.cells #[b] tb)) w.heap.size ta #[a] ∧ Blk ((w.alloc (.cells #[a] ta)).alloc (.cells #[b] tb)) (w.heap.size + 1) tb #[b] ∧ Keeps Non w ((w.alloc (.cells #[a] ta)).alloc (.cells #[b] tb)) := by
  have h1 := Blk.new w ta #[a]
  have k1 := (Keeps.refl Non w).alloc (.cells #[a] ta)
  obtain ⟨w1, hw1⟩ : ∃ V : World, V = w.alloc (.cells #[a] ta) := ⟨_, rfl⟩
  have z1 : w1.heap.size = w.heap.size + 1 := by rw [hw1]; simp
  rw [← hw1] at h1 k1 ⊢
  have h2 := Blk.new w1 tb #[b]
  have k2 := (Keeps.refl Non w1).alloc (.cells #[b] tb)
  rw [z1] at h2
  exact ⟨h1.non k2, h2, k1.non k2⟩
theorem Wr.ok {w0 w : World} {g room : Nat} {bs : List UInt8} (h : Wr w0 w g room bs) : Wr w0 (w.setCell ⟨g, 2, none⟩ (.int .i64 0)) g room bs := by
  obtain ⟨A, c, h1, h2, h3, h4, h5, h6⟩ := h
  have hk : Keeps (Only g) w (w.setCell ⟨g, 2, none⟩ (.int .i64 0)) := (Keeps.refl (Only g) _).set (p := ⟨g, 2, none⟩) rfl _
  exact ⟨A, c, h1.set 2 _, h2.keep hk fun q hq e => h3 (by unfold Only at e; exact e ▸ hq), h3, h4, h5, h6.setNew (p := ⟨g, 2, none⟩) h4 _⟩
theorem Wr.cell2 {w0 w : World} {g room : Nat} {bs : List UInt8} (h : Wr w0 w g room bs) : w.cell? ⟨g, 2, none⟩ = some (.int .i64 0) ∧ w.frozen? ⟨g, 2, none⟩ = false := by
  obtain ⟨A, c, h1, -⟩ := h
  exact ⟨h1.cell 2, h1.frozen 2⟩
set_option maxHeartbeats 2000000 in
theorem num42_any {w0 w : World} {g room : Nat} {bs : List UInt8} (h : Wr w0 w g room bs) (n k : Nat) (hk1 : 1 ≤ k) (hk8 : k ≤ 8) (hn : n < 256 ^ k) (hf : bs.length + k ≤ room) (hr : room ≤ 1099511627776) :
    Calls Tryz.prog 42 #[.pointer (some ⟨g, 0, none⟩), .int .u64 (n : Int), .int .i64 (k : Int)] w fun e w' => e = .returned (.tuple #[]) ∧ Wr w0 w' g room (bs ++ le k n) ∧ Oth w w' := by
  have HN := Lib.hid (fun V (hV : Wr w0 V g room bs) kb nb wb a b c => num81_any hV n k kb nb wb hk1 hk8 hn hf hr a b c)
  have HT : Hid (∀ (V : World) (kb nb wb : Nat), Wr w0 V g room bs → Blk V kb 3 #[.int .i64 (k : Int)] → Blk V nb 27 #[.int .u64 (n : Int)] → Blk V wb 107 #[.pointer (some ⟨g, 0, none⟩)] →
      Calls Tryz.prog 80 #[.pointer (some ⟨g, 0, none⟩), .func (.func 81) #[] #[.pointer (some ⟨kb, 0, none⟩), .pointer (some ⟨nb, 0, none⟩), .pointer (some ⟨wb, 0, none⟩)]] V fun e w' => e = .returned (.tuple #[]) ∧ Wr w0 w' g room (bs ++ le k n) ∧ Oth V w') := Lib.hid (by
    intro V kb nb wb hV a b c
    have HN2 := Lib.hid (HN.out V hV kb nb wb a b c)
    obtain ⟨c2, -⟩ := hV.cell2
    go_enter Tryz.func80, Tryz.ntmps80
    go_wp2_with ((go_at_call 81; go_must (refine HN2.out.mono ?_); rintro e w2 ⟨rfl, hW2, hY2⟩; have hc2 := hW2.cell2.1; have hf2 := hW2.cell2.2))
    go_end0
    exact ⟨rfl, hW2.ok, by obtain ⟨A, c, q1, -⟩ := hW2; exact hY2.set q1 2 _⟩)
  obtain ⟨b1, b2, b3, hk⟩ := boxes3 w (.pointer (some ⟨g, 0, none⟩)) (.int .u64 (n : Int)) (.int .i64 (k : Int)) 107 27 3
  go_enter Tryz.func42, Tryz.ntmps42
  go_upto_region 1 with fail
  obtain ⟨w3, hw3⟩ : ∃ V : World, V = ((w.alloc (.cells #[.pointer (some ⟨g, 0, none⟩)] 107)).alloc (.cells #[.int .u64 (n : Int)] 27)).alloc (.cells #[.int .i64 (k : Int)] 3) := ⟨_, rfl⟩
  rw [← hw3] at b1 b2 b3 hk ⊢
  clear hw3
  have HT3 := Lib.hid (HT.out w3 _ _ _ (h.non hk) b3 b2 b1)
  have x1 := one_cell b1
  go_wp2_with ((go_at_call 80; go_must (refine HT3.out.mono ?_); rintro e w4 ⟨rfl, hW4, hY4⟩))
  go_end0
  exact ⟨rfl, hW4, (Oth.of hk).trans hY4⟩
end Go.Proofs.YtipbjiepfnjojaaGreatDoor
namespace Go.Proofs.YtipbjiepfnjojaaGreatDoor
set_option maxRecDepth 100000
open Go.RowKit Go.Uc

set_option maxHeartbeats 2000000 in
theorem bytes43_any {w0 w : World} {g room : Nat} {bs : List UInt8} (h : Wr w0 w g room bs) (A : Option Addr) (c : Nat) (xs : List UInt8) (hA : At w A xs) (hf : bs.length + xs.length ≤ room) (hr : room ≤ 1099511627776) :
    Calls Tryz.prog 43 #[.pointer (some ⟨g, 0, none⟩), .slice A xs.length c] w fun e w' => e = .returned (.tuple #[]) ∧ Wr w0 w' g room (bs ++ xs) ∧ Oth w w' := by
  have HN : Hid (∀ (V : World) (wb bb : Nat), Wr w0 V g room bs → At V A xs → Blk V wb 107 #[.pointer (some ⟨g, 0, none⟩)] → Blk V bb 55 #[.slice A xs.length c] →
      Calls Tryz.prog 85 #[.pointer (some ⟨wb, 0, none⟩), .pointer (some ⟨bb, 0, none⟩)] V fun e w' => e = .returned (.int .i64 0) ∧ Wr w0 w' g room (bs ++ xs) ∧ Oth V w') := Lib.hid (by
    intro V wb bb hV hA' a b
    have HP := Lib.hid (put84_any hV A c xs hA' hf hr)
    have x0 := one_cell a
    have x1 := one_cell b
    go_enter Tryz.func85, Tryz.ntmps85
    go_wp2_with ((go_at_call 84; go_must (refine HP.out.mono ?_); rintro e w2 ⟨rfl, hW2, hY2⟩))
    go_ret
    exact ⟨rfl, hW2, hY2⟩)
  have HT : Hid (∀ (V : World) (wb bb : Nat), Wr w0 V g room bs → At V A xs → Blk V wb 107 #[.pointer (some ⟨g, 0, none⟩)] → Blk V bb 55 #[.slice A xs.length c] →
      Calls Tryz.prog 80 #[.pointer (some ⟨g, 0, none⟩), .func (.func 85) #[] #[.pointer (some ⟨wb, 0, none⟩), .pointer (some ⟨bb, 0, none⟩)]] V fun e w' => e = .returned (.tuple #[]) ∧ Wr w0 w' g room (bs ++ xs) ∧ Oth V w') := Lib.hid (by
    intro V wb bb hV hA' a b
    have HN2 := Lib.hid (HN.out V wb bb hV hA' a b)
    obtain ⟨c2, -⟩ := hV.cell2
    go_enter Tryz.func80, Tryz.ntmps80
    go_wp2_with ((go_at_call 85; go_must (refine HN2.out.mono ?_); rintro e w2 ⟨rfl, hW2, hY2⟩; have hc2 := hW2.cell2.1; have hf2 := hW2.cell2.2))
    go_end0
    exact ⟨rfl, hW2.ok, by obtain ⟨A, c, q1, -⟩ := hW2; exact hY2.set q1 2 _⟩)
  obtain ⟨b1, b2, hk⟩ := boxes2 w (.pointer (some ⟨g, 0, none⟩)) (.slice A xs.length c) 107 55
  go_enter Tryz.func43, Tryz.ntmps43
  go_upto_region 1 with fail
  obtain ⟨w3, hw3⟩ : ∃ V : World, V = (w.alloc (.cells #[.pointer (some ⟨g, 0, none⟩)] 107)).alloc (.cells #[.slice A xs.length c] 55) := ⟨_, rfl⟩
  rw [← hw3] at b1 b2 hk ⊢
  clear hw3
  have HT3 := Lib.hid (HT.out w3 _ _ (h.non hk) (hA.non hk) b1 b2)
  have x1 := one_cell b1
  go_wp2_with ((go_at_call 80; go_must (refine HT3.out.mono ?_); rintro e w4 ⟨rfl, hW4, hY4⟩))
  go_end0
  exact ⟨rfl, hW4, (Oth.of hk).trans hY4⟩
set_option maxHeartbeats 2000000 in
theorem pad106_any {w0 w : World} {g room : Nat} {bs : List UInt8} (h : Wr w0 w g room bs) (tn : Nat) (h1 : bs.length ≤ tn) (h2 : tn ≤ room) (hr : room ≤ 1099511627776) :
    Calls Tryz.prog 106 #[.pointer (some ⟨g, 0, none⟩), .int .i64 (tn : Int)] w fun e w' => e = .returned (.tuple #[]) ∧ Wr w0 w' g room (bs ++ zeros (tn - bs.length)) ∧ Oth w w' := by
  have HN : Hid (∀ (V : World) (tb wb : Nat), Wr w0 V g room bs → Blk V tb 3 #[.int .i64 (tn : Int)] → Blk V wb 107 #[.pointer (some ⟨g, 0, none⟩)] →
      Calls Tryz.prog 128 #[.pointer (some ⟨tb, 0, none⟩), .pointer (some ⟨wb, 0, none⟩)] V fun e w' => e = .returned (.int .i64 0) ∧ Wr w0 w' g room (bs ++ zeros (tn - bs.length)) ∧ Oth V w') := Lib.hid (by
    intro V tb wb hV a b
    obtain ⟨A, c, i1, i2, i3, i4, i5, i6⟩ := id hV
    have x0 := one_cell a
    have x1 := one_cell b
    have c0 : V.cell? ⟨g, 0, none⟩ = some (.int .i64 (room : Int)) := i1.cell 0
    have c1 : V.cell? ⟨g, 1, none⟩ = some (.slice A bs.length c) := i1.cell 1
    have d1 : decide ((tn : Int) < (bs.length : Int)) = false := decide_eq_false (by omega)
    have d2 : decide ((room : Int) < (tn : Int)) = false := decide_eq_false (by omega)
    have c1' := c1
    clear i1 i2 i3 i4 i5 i6
    go_enter Tryz.func128, Tryz.ntmps128
    go_upto_region 1 with fail
    go_quiet (fail)
    obtain ⟨V1, hV1⟩ : ∃ X : World, X = V.drewN nq := ⟨_, rfl⟩
    rw [← hV1]
    have k1 : Keeps Non V V1 := by rw [hV1]; exact (Keeps.refl _ _).drewN _
    clear hV1
    have y0 := k1.cell x0 id
    have y1 := k1.cell x1 id
    have e0 := k1.cell c0 id
    have e1 := k1.cell c1 id
    clear x0 x1 c0 c1
    go_upto_region 3 with fail
    go_quiet (fail)
    obtain ⟨V2, hV2⟩ : ∃ X : World, X = V1.drewN nq := ⟨_, rfl⟩
    rw [← hV2]
    have k2 : Keeps Non V V2 := by rw [hV2]; exact k1.drewN _
    clear hV2
    have z0 : V2.cell? ⟨tb, 0, none⟩ = some (.int .i64 (tn : Int)) := k2.cell (one_cell a) id
    have z1 : V2.cell? ⟨wb, 0, none⟩ = some (.pointer (some ⟨g, 0, none⟩)) := k2.cell (one_cell b) id
    have f1 := k2.cell c1' id
    clear y0 y1 e0 e1
    have hws : IntKind.i64.wrap ((tn : Int) - (bs.length : Int)) = ((tn - bs.length : Nat) : Int) := by rw [IntKind.wrap_i64]; omega
    have hws2 : wrap64 ((tn : Int) - (bs.length : Int)) = ((tn - bs.length : Nat) : Int) := by rw [IntWalk.wrap64_in _ ⟨by omega, by omega⟩]; omega
    have HP : Hid (∀ X : World, Keeps Non V2 X → ∀ b, At X (some ⟨b, 0, none⟩) (zeros (tn - bs.length)) → Calls Tryz.prog 84 #[.pointer (some ⟨g, 0, none⟩), .slice (some ⟨b, 0, none⟩) (tn - bs.length) (tn - bs.length)] X fun e w' => e = .returned (.int .i64 0) ∧ Wr w0 w' g room (bs ++ zeros (tn - bs.length)) ∧ Oth X w') := Lib.hid (fun X hX b hb => by
      have := put84_any ((hV.non k2).non hX) (some ⟨b, 0, none⟩) (tn - bs.length) (zeros (tn - bs.length)) hb (by rw [zeros_length]; omega) hr
      rw [zeros_length] at this
      exact this)
    go_upto_region 5 with fail
    have hkd : Keeps Non V2 V2.drew := (Keeps.refl _ _).drew
    have z0d : V2.drew.cell? ⟨tb, 0, none⟩ = some (.int .i64 (tn : Int)) := z0
    have z1d : V2.drew.cell? ⟨wb, 0, none⟩ = some (.pointer (some ⟨g, 0, none⟩)) := z1
    have f1d : V2.drew.cell? ⟨g, 1, none⟩ = some (.slice A bs.length c) := f1
    have hmk := made_bytes (tn - bs.length) (by omega)
    have HP1 : Hid (Calls Tryz.prog 84 #[.pointer (some ⟨g, 0, none⟩), .slice (some ⟨V2.heap.size, 0, none⟩) (tn - bs.length) (tn - bs.length)] (V2.alloc (.cells (pc (zeros (tn - bs.length))) 5)).drew fun e w' => e = .returned (.int .i64 0) ∧ Wr w0 w' g room (bs ++ zeros (tn - bs.length)) ∧ Oth (V2.alloc (.cells (pc (zeros (tn - bs.length))) 5)).drew w') :=
      Lib.hid (HP.out _ ((Keeps.refl Non V2).alloc _).drew _ (At.blk ((Blk.new V2 5 _).non (Keeps.refl Non _).drew)))
    have z11 : (V2.alloc (.cells (pc (zeros (tn - bs.length))) 5)).cell? ⟨wb, 0, none⟩ = some (.pointer (some ⟨g, 0, none⟩)) := ((Keeps.refl Non V2).alloc _).cell z1 id
    go_region_law (first
      | (go_simp; go_at_call 84; refine HP1.out.mono ?_; rintro e w4 ⟨rfl, hW4, hY4⟩; go_must (have HW4 := Lib.hid (And.intro hW4 ((Oth.of (k2.non ((Keeps.refl Non V2).alloc _).drew)).trans hY4)))))
    all_goals
      go_wp2_with fail
      go_ret
      exact ⟨rfl, HW4.out.1, HW4.out.2⟩)
  have HT : Hid (∀ (V : World) (tb wb : Nat), Wr w0 V g room bs → Blk V tb 3 #[.int .i64 (tn : Int)] → Blk V wb 107 #[.pointer (some ⟨g, 0, none⟩)] →
      Calls Tryz.prog 80 #[.pointer (some ⟨g, 0, none⟩), .func (.func 128) #[] #[.pointer (some ⟨tb, 0, none⟩), .pointer (some ⟨wb, 0, none⟩)]] V fun e w' => e = .returned (.tuple #[]) ∧ Wr w0 w' g room (bs ++ zeros (tn - bs.length)) ∧ Oth V w') := Lib.hid (by
    intro V tb wb hV a b
    have HN2 := Lib.hid (HN.out V tb wb hV a b)
    obtain ⟨c2, -⟩ := hV.cell2
    go_enter Tryz.func80, Tryz.ntmps80
    go_wp2_with ((go_at_call 128; go_must (refine HN2.out.mono ?_); rintro e w2 ⟨rfl, hW2, hY2⟩; have hc2 := hW2.cell2.1; have hf2 := hW2.cell2.2))
    go_end0
    exact ⟨rfl, hW2.ok, by obtain ⟨A, c, q1, -⟩ := hW2; exact hY2.set q1 2 _⟩)
  obtain ⟨b1, b2, hk⟩ := boxes2 w (.pointer (some ⟨g, 0, none⟩)) (.int .i64 (tn : Int)) 107 3
  go_enter Tryz.func106, Tryz.ntmps106
  go_upto_region 1 with fail
  obtain ⟨w3, hw3⟩ : ∃ V : World, V = (w.alloc (.cells #[.pointer (some ⟨g, 0, none⟩)] 107)).alloc (.cells #[.int .i64 (tn : Int)] 3) := ⟨_, rfl⟩
  rw [← hw3] at b1 b2 hk ⊢
  clear hw3
  have HT3 := Lib.hid (HT.out w3 _ _ (h.non hk) b2 b1)
  have x1 := one_cell b1
  go_wp2_with ((go_at_call 80; go_must (refine HT3.out.mono ?_); rintro e w4 ⟨rfl, hW4, hY4⟩))
  go_end0
  exact ⟨rfl, hW4, (Oth.of hk).trans hY4⟩
end Go.Proofs.YtipbjiepfnjojaaGreatDoor
namespace Go.Proofs.YtipbjiepfnjojaaGreatDoor
set_option maxRecDepth 100000
open Go.RowKit Go.Uc

theorem newWriter_any (room : Nat) (h0 : 0 < room) (w : World) :
    Calls Tryz.prog 41 #[.int .i64 (room : Int)] w fun e w' => ∃ g, e = .returned (.pointer (some ⟨g, 0, none⟩)) ∧ Wr w w' g room [] := by
  have hB := Blk.new w 158 #[.int .i64 (room : Int), .slice none 0 0, .int .i64 0]
  have hk := (Keeps.refl Non w).alloc (.cells #[.int .i64 (room : Int), .slice none 0 0, .int .i64 0] 158)
  go_enter Tryz.func41, Tryz.ntmps41
  go_wp2_with fail
  go_ret
  exact ⟨_, rfl, none, 0, hB, RowP.nil _ _ _ _, (by rw [own_nil]; simp), Nat.le_refl _, (fun q hq => by rw [own_nil] at hq; cases hq), hk⟩
set_option maxHeartbeats 1000000 in
theorem done44_any {w0 w : World} {g room : Nat} {bs : List UInt8} (h : Wr w0 w g room bs) (hl : bs.length ≤ 140737488355328) :
    Calls Tryz.prog 44 #[.pointer (some ⟨g, 0, none⟩)] w fun e w' => ∃ b, e = .returned (.tuple #[.slice (some ⟨b, 0, none⟩) bs.length bs.length, .int .i64 0]) ∧ Blk w' b 5 (pc bs) ∧ w.heap.size ≤ b ∧ Keeps Non w w' := by
  obtain ⟨A, c, h1, h2, -⟩ := id h
  have c1 : w.cell? ⟨g, 1, none⟩ = some (.slice A bs.length c) := h1.cell 1
  have c2 : w.cell? ⟨g, 2, none⟩ = some (.int .i64 0) := h1.cell 2
  have hA : At w A bs := by
    obtain ⟨A', c', e, -, hat⟩ := h2.ats encU_len
    injection e with e
    subst e
    rw [flat_encU] at hat
    intro i hi
    obtain ⟨ad, e1, hc⟩ := hat (by simp; omega)
    exact ⟨ad, e1, hc i _ (by rw [List.getElem?_map, List.getElem?_eq_getElem hi]; rfl)⟩
  have HC := Lib.hid (copied_any A c bs w hA hl)
  go_enter Tryz.func44, Tryz.ntmps44
  go_wp2_with ((go_at_call 86; go_must (refine HC.out.mono ?_); rintro e w2 ⟨rfl, hB2, hK2⟩))
  go_ret2
  exact ⟨_, rfl, hB2, Nat.le_refl _, hK2⟩
theorem drewN_add (w : World) (a b : Nat) : (w.drewN a).drewN b = w.drewN (a + b) := by simp [World.drewN, Nat.add_assoc]
/-- A reader at a place. -/
structure Rdr (w : World) (g : Nat) (A : Option Addr) (c : Nat) (bs : List UInt8) (at_ : Nat) : Prop where
  blk : Blk w g 169 #[.slice A bs.length c, .int .i64 (at_ : Int), .int .i64 0]
  row : At w A bs
  off : ∀ ad, A = some ad → ad.block ≠ g
  cap : bs.length ≤ c
  lim : at_ ≤ bs.length
  big : bs.length ≤ 1099511627776
theorem At.dropx {w : World} {A : Option Addr} {bs : List UInt8} (h : At w A bs) {b o : Nat} (hA : A = some ⟨b, o, none⟩) (k n : Nat) : At w (some ⟨b, o + k, none⟩) ((bs.drop k).take n) := by
  subst hA
  intro i hi
  simp only [List.length_take, List.length_drop] at hi
  obtain ⟨b2, o2, e, hc⟩ := h.at_ (k := k + i) (by omega)
  injection e with e
  injection e with e1 e2
  subst e1 e2
  refine ⟨_, rfl, ?_⟩
  rw [show (⟨b, o + k, none⟩ : Addr).add i = ⟨b, o + k + i, none⟩ from by unfold Addr.add; split <;> simp_all]
  rw [show o + k + i = o + (k + i) by omega, hc, List.getElem_take, List.getElem_drop]
set_option maxHeartbeats 2000000 in
theorem take93_any {w : World} {g c at_ b o : Nat} {bs : List UInt8} (h : Rdr w g (some ⟨b, o, none⟩) c bs at_) (n : Nat) (hn : 1 ≤ n) (hf : at_ + n ≤ bs.length) :
    Calls Tryz.prog 93 #[.pointer (some ⟨g, 0, none⟩), .int .i64 (n : Int), .int .i64 0] w fun e w' => (∃ c', e = .returned (.tuple #[.slice (some ⟨b, o + at_, none⟩) n c', .bool true]) ∧ n ≤ c') ∧ ∃ q, w' = w.drewN q := by
  have hbig := h.big
  have hcap := h.cap
  have c0 : w.cell? ⟨g, 0, none⟩ = some (.slice (some ⟨b, o, none⟩) bs.length c) := h.blk.cell 0
  have c1 : w.cell? ⟨g, 1, none⟩ = some (.int .i64 (at_ : Int)) := h.blk.cell 1
  have d1 : decide ((bs.length : Int) - (at_ : Int) < (n : Int)) = false := decide_eq_false (by omega)
  have hw1 : wrap64 ((bs.length : Int) - (at_ : Int)) = (bs.length : Int) - (at_ : Int) := IntWalk.wrap64_in _ ⟨by omega, by omega⟩
  have hw2 : wrap64 ((at_ : Int) + (n : Int)) = (at_ : Int) + (n : Int) := IntWalk.wrap64_in _ ⟨by omega, by omega⟩
  go_enter Tryz.func93, Tryz.ntmps93
  go_upto_region 1 with fail
  go_quiet (fail)
  obtain ⟨w1, hw1'⟩ : ∃ X : World, X = w.drewN nq := ⟨_, rfl⟩
  rw [← hw1']
  have HQ := Lib.hid hw1'
  have y0 : w1.cell? ⟨g, 0, none⟩ = some (.slice (some ⟨b, o, none⟩) bs.length c) := by rw [hw1']; exact c0
  have y1 : w1.cell? ⟨g, 1, none⟩ = some (.int .i64 (at_ : Int)) := by rw [hw1']; exact c1
  clear hw1' c0 c1
  have s1 : (at_ : Int) ≤ (at_ : Int) + (n : Int) := by omega
  have s2 : (at_ : Int) + (n : Int) ≤ (c : Int) := by omega
  have hne : ¬ c = at_ := by omega
  have HSU : Hid (at_ + n - at_ = n) := Lib.hid (by omega)
  go_upto_region 3 with fail
  go_quiet (fail)
  go_wp2_with fail
  go_ret2
  exact ⟨⟨c - at_, by show Ending.returned (.tuple #[.slice (some ⟨b, o + at_, none⟩) (at_ + n - at_) (c - at_), .bool true]) = _; rw [HSU.out], by omega⟩, _, by rw [HQ.out]; exact drewN_add _ _ _⟩
end Go.Proofs.YtipbjiepfnjojaaGreatDoor
namespace Go.Proofs.YtipbjiepfnjojaaGreatDoor
set_option maxRecDepth 100000
open Go.RowKit Go.Uc

/-- A reader that has failed at nothing, of memory newer than w0. -/
def Rg (w0 w : World) (g : Nat) (bs : List UInt8) (at_ : Nat) : Prop :=
  ∃ b, Blk w g 169 #[.slice (some ⟨b, 0, none⟩) bs.length bs.length, .int .i64 (at_ : Int), .int .i64 0] ∧ Blk w b 5 (pc bs) ∧ at_ ≤ bs.length ∧ bs.length ≤ 1099511627776 ∧ w0.heap.size ≤ g ∧ w0.heap.size ≤ b ∧ Keeps Non w0 w
section
variable {w0 w w' : World} {g at_ : Nat} {bs : List UInt8}
theorem Rg.non (h : Rg w0 w g bs at_) (hk : Keeps Non w w') : Rg w0 w' g bs at_ := by
  obtain ⟨b, h1, h2, h3, h4, h5, h6, h7⟩ := h
  exact ⟨b, h1.non hk, h2.non hk, h3, h4, h5, h6, h7.non hk⟩
theorem Rg.rdr (h : Rg w0 w g bs at_) : ∃ b, Rdr w g (some ⟨b, 0, none⟩) bs.length bs at_ := by
  obtain ⟨b, h1, h2, h3, h4, h5, h6, h7⟩ := h
  refine ⟨b, h1, At.blk h2, fun ad e => ?_, Nat.le_refl _, h3, h4⟩
  injection e with e
  subst e
  exact h2.ne h1 (by decide)
theorem Rg.cells (h : Rg w0 w g bs at_) : w.cell? ⟨g, 1, none⟩ = some (.int .i64 (at_ : Int)) ∧ w.cell? ⟨g, 2, none⟩ = some (.int .i64 0) ∧ (∀ i, w.frozen? ⟨g, i, none⟩ = false) ∧ at_ ≤ bs.length ∧ bs.length ≤ 1099511627776 := by
  obtain ⟨b, h1, h2, h3, h4, h5, h6, h7⟩ := h
  exact ⟨h1.cell 1, h1.cell 2, h1.frozen, h3, h4⟩
theorem Rg.ne {b t : Nat} {cs : Array Value} (h : Rg w0 w g bs at_) (hb : Blk w b t cs) (ht : t ≠ 169) : b ≠ g := by
  obtain ⟨b', h1, -⟩ := h
  exact hb.ne h1 ht
/-- On by so many. -/
theorem Rg.on (h : Rg w0 w g bs at_) (k : Nat) (hk : k ≤ bs.length) : Rg w0 (w.setCell ⟨g, 1, none⟩ (.int .i64 (k : Int))) g bs k := by
  obtain ⟨b, h1, h2, h3, h4, h5, h6, h7⟩ := h
  exact ⟨b, h1.set 1 _, h2.far (h2.ne h1 (by decide)) _, hk, h4, h5, h6, h7.setNew (p := ⟨g, 1, none⟩) h5 _⟩
theorem Rg.ok (h : Rg w0 w g bs at_) : Rg w0 (w.setCell ⟨g, 2, none⟩ (.int .i64 0)) g bs at_ := by
  obtain ⟨b, h1, h2, h3, h4, h5, h6, h7⟩ := h
  exact ⟨b, h1.set 2 _, h2.far (h2.ne h1 (by decide)) _, h3, h4, h5, h6, h7.setNew (p := ⟨g, 2, none⟩) h5 _⟩
/-- Another block of the call's own is stored into. -/
theorem Rg.far (h : Rg w0 w g bs at_) {p : Addr} {t : Nat} {cs : Array Value} (hb : Blk w p.block t cs) (h1 : t ≠ 169) (h2 : t ≠ 5) (hn : w0.heap.size ≤ p.block) (u : Value) : Rg w0 (w.setCell p u) g bs at_ := by
  obtain ⟨b, i1, i2, i3, i4, i5, i6, i7⟩ := h
  exact ⟨b, i1.far (i1.ne hb (Ne.symm h1)) _, i2.far (i2.ne hb (Ne.symm h2)) _, i3, i4, i5, i6, i7.setNew hn _⟩
end
theorem newReader_any (A : Option Addr) (c : Nat) (bs : List UInt8) (w : World) (hA : At w A bs) (hl : bs.length ≤ 1099511627776) :
    Calls Tryz.prog 48 #[.slice A bs.length c] w fun e w' => ∃ g, e = .returned (.pointer (some ⟨g, 0, none⟩)) ∧ Rg w w' g bs 0 := by
  have HC := Lib.hid (copied_any A c bs w hA (by omega))
  go_enter Tryz.func48, Tryz.ntmps48
  go_wp2_with ((go_at_call 86; go_must (refine HC.out.mono ?_); rintro e w2 ⟨rfl, hB2, hK2⟩))
  go_ret
  have hk := (Keeps.refl Non w2).alloc (.cells #[.slice (some ⟨w.heap.size, 0, none⟩) bs.length bs.length, .int .i64 0, .int .i64 0] 169)
  exact ⟨_, rfl, w.heap.size, Blk.new w2 169 _, hB2.non hk, Nat.zero_le _, hl, hK2.size, Nat.le_refl _, hK2.non hk⟩
set_option maxHeartbeats 2000000 in
theorem rnum92_any {w0 w : World} {g at_ : Nat} {bs : List UInt8} (h : Rg w0 w g bs at_) (k kb rb ob : Nat) (v : Value) (hk1 : 1 ≤ k) (hk8 : k ≤ 8) (hf : at_ + k ≤ bs.length) (hkb : Blk w kb 3 #[.int .i64 (k : Int)]) (hrb : Blk w rb 116 #[.pointer (some ⟨g, 0, none⟩)]) (hob : Blk w ob 27 #[v]) (hon : w0.heap.size ≤ ob) :
    Calls Tryz.prog 92 #[.pointer (some ⟨kb, 0, none⟩), .pointer (some ⟨rb, 0, none⟩), .pointer (some ⟨ob, 0, none⟩)] w fun e w' => e = .returned (.int .i64 0) ∧ Rg w0 w' g bs (at_ + k) ∧ Blk w' ob 27 #[.int .u64 (leVal ((bs.drop at_).take k) : Int)] ∧ Keeps (fun q => q = g ∨ q = ob) w w' := by
  obtain ⟨b, hR⟩ := h.rdr
  obtain ⟨-, -, -, hle, hbig⟩ := h.cells
  have x0 := one_cell hkb
  have x1 := one_cell hrb
  have x2 := one_cell hob
  have hkr : kb ≠ rb := hkb.ne hrb (by decide)
  have hko : kb ≠ ob := hkb.ne hob (by decide)
  have hro : rb ≠ ob := hrb.ne hob (by decide)
  have hkg := h.ne hkb (by decide)
  have hrg := h.ne hrb (by decide)
  have hog := h.ne hob (by decide)
  have HT := Lib.hid (take93_any hR k hk1 hf)
  have htl : ((bs.drop at_).take k).length = k := by rw [List.length_take, List.length_drop]; omega
  have HV : Hid (∀ V c', Keeps Non w V → Calls Tryz.prog 82 #[.slice (some ⟨b, at_, none⟩) k c'] V fun e w' => e = .returned (.int .u64 (leVal ((bs.drop at_).take k) : Int)) ∧ w' = V) := Lib.hid (fun V c' hV => by
    have := value_any (some ⟨b, 0 + at_, none⟩) c' ((bs.drop at_).take k) V (At.dropx (hR.row.non hV) rfl at_ k) (by rw [htl]; exact hk8)
    rw [htl, Nat.zero_add] at this
    exact this)
  rw [Nat.zero_add] at HT
  generalize leVal ((bs.drop at_).take k) = m at HV ⊢
  clear htl
  go_enter Tryz.func92, Tryz.ntmps92
  go_upto_region 4 with ((go_at_call 93; go_must (refine HT.out.mono ?_); rintro e _ ⟨⟨c', rfl, hc'⟩, q, rfl⟩))
  obtain ⟨w2, hw2⟩ : ∃ V : World, V = w.drewN q := ⟨_, rfl⟩
  have hk2 : Keeps Non w w2 := by rw [hw2]; exact (Keeps.refl _ _).drewN q
  rw [← hw2]
  clear hw2 HT
  have HV2 := Lib.hid (HV.out w2 c' hk2)
  have h2 := h.non hk2
  have hob2 := hob.non hk2
  have z0 := one_cell (hkb.non hk2)
  have z1 := one_cell (hrb.non hk2)
  have z2 := one_cell hob2
  have f2 := hob2.frozen 0
  clear x0 x1 x2
  go_upto_region 7 with ((go_at_call 82; go_must (refine HV2.out.mono ?_); rintro e w5 ⟨rfl, hw5⟩; subst w5))
  have h3 := h2.far (p := ⟨ob, 0, none⟩) hob2 (by decide) (by decide) hon (.int .u64 (m : Int))
  have hob3 := hob2.set 0 (.int .u64 (m : Int))
  have k3 : w2.setCell ⟨ob, 0, none⟩ (.int .u64 (m : Int)) = w2.setCell ⟨ob, 0, none⟩ (.int .u64 (m : Int)) := rfl
  have y0 := one_cell ((hkb.non hk2).far hko (p := ⟨ob, 0, none⟩) (.int .u64 (m : Int)))
  have y1 := one_cell ((hrb.non hk2).far hro (p := ⟨ob, 0, none⟩) (.int .u64 (m : Int)))
  have k23 : Keeps (fun q => q = g ∨ q = ob) w (w2.setCell ⟨ob, 0, none⟩ (.int .u64 (m : Int))) := (hk2.of_non).set (p := ⟨ob, 0, none⟩) (.inr rfl) _
  obtain ⟨w3, hw3⟩ : ∃ V : World, V = w2.setCell ⟨ob, 0, none⟩ (.int .u64 (m : Int)) := ⟨_, rfl⟩
  rw [← hw3] at h3 hob3 y0 y1 k23 ⊢
  clear hw3 k3 z0 z1 z2
  obtain ⟨g1, -, gf, -, -⟩ := h3.cells
  have hwv : IntKind.i64.wrap ((at_ : Int) + (k : Int)) = ((at_ + k : Nat) : Int) := by rw [IntKind.wrap_i64]; omega
  have h4 := (h3.on (at_ + k) hf).non (Keeps.refl Non _).drew
  have hob4 : Blk (w3.setCell ⟨g, 1, none⟩ (.int .i64 ((at_ + k : Nat) : Int))).drew ob 27 #[.int .u64 (m : Int)] := (hob3.far hog _).non (Keeps.refl Non _).drew
  have k34 : Keeps (fun q => q = g ∨ q = ob) w (w3.setCell ⟨g, 1, none⟩ (.int .i64 ((at_ + k : Nat) : Int))).drew := (k23.set (p := ⟨g, 1, none⟩) (.inl rfl) _).drew
  rw [← hwv] at h4 hob4 k34
  have HF := Lib.hid (And.intro h4 (And.intro hob4 k34))
  clear hwv
  have gfd : w3.drew.frozen? ⟨g, 1, none⟩ = false := gf 1
  have y0d : w3.drew.cell? ⟨kb, 0, none⟩ = some (.int .i64 (k : Int)) := y0
  have y1d : w3.drew.cell? ⟨rb, 0, none⟩ = some (.pointer (some ⟨g, 0, none⟩)) := y1
  have g1d : w3.drew.cell? ⟨g, 1, none⟩ = some (.int .i64 (at_ : Int)) := g1
  clear h3 hob3 h4 hob4
  go_region_with (fail)
  all_goals
    go_wp2_with fail
    go_ret
    exact ⟨rfl, HF.out.1, HF.out.2.1, HF.out.2.2⟩
end Go.Proofs.YtipbjiepfnjojaaGreatDoor
