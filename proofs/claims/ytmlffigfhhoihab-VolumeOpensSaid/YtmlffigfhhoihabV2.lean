import Derived.Test.YtmlffigfhhoihabV1
import Derived.Deep.RegionWith
namespace Go.Proofs.Ytmlffigfhhoihab
open Go.RowKit Go.Uc

/-- Bytes laid into others at a place. -/
def lay (xs : List UInt8) (at_ : Nat) (bs : List UInt8) : List UInt8 := xs.take at_ ++ (bs ++ xs.drop (at_ + bs.length))
theorem lay_length (xs : List UInt8) (at_ : Nat) (bs : List UInt8) (h : at_ + bs.length ≤ xs.length) : (lay xs at_ bs).length = xs.length := by
  simp [lay]; omega
theorem wB_of {n m : Nat} {at_ : Int} (h : wB n at_ m = true) : 0 ≤ at_ ∧ at_.toNat + m ≤ n := by
  simp [wB] at h; omega

theorem At.blkFrom {w : World} {g : Nat} {t : TypeId} {xs : List UInt8} (h : Blk w g t (pc xs)) (o : Nat) : At w (some ⟨g, o, none⟩) (xs.drop o) := by
  have := (At.blk h).drop o
  by_cases ho : o = 0
  · subst ho; simpa [Addr.add] using this
  · simpa [Addr.add, ho] using this

set_option maxHeartbeats 400000 in
theorem fill_no (g gb c : Nat) (xs : List UInt8) (at_ : Int) (A : Option Addr) (rs : List (List UInt8)) (w : World) (hv : VolB w g gb 55 xs) (hl : xs.length ≤ 16384) (hR : Recs w A rs) (hn : rs.length ≤ 100) (hf : (flat rs).length ≤ 140737488355328)
    (hw : wB xs.length at_ (flat rs).length = false) :
    Calls Try.prog 22 #[.pointer (some ⟨g, 0, none⟩), .int .i64 at_, .slice A rs.length c] w fun e w' => e = .returned (.int .i64 186) ∧ Keeps Non w w' := by
  go_enter Try.func22, Try.ntmps22
  go_wp2_with (first
    | (go_at_call 34; refine (concat_any A c rs _ hR (by omega) hf).mono ?_; rintro e w1 ⟨v, rfl, hO1, hK1⟩; obtain ⟨A2, c2, rfl, hc2, hA2, -⟩ := hO1.open; have hv1 : VolB w1 g gb 55 xs := ⟨hv.1.non hK1, hv.2.1.non hK1, hv.2.2⟩)
    | (go_at_call 23; refine (within_any g gb xs _ _ _ hv1 hl).mono ?_; rintro e w2 ⟨rfl, rfl⟩))
  go_ret
  exact ⟨rfl, hK1⟩

set_option maxHeartbeats 400000 in
theorem fill_ok (g gb c : Nat) (xs : List UInt8) (at_ : Nat) (A : Option Addr) (rs : List (List UInt8)) (w : World) (hv : VolB w g gb 55 xs) (hl : xs.length ≤ 16384) (hR : Recs w A rs) (hn : rs.length ≤ 100)
    (hw : at_ + (flat rs).length ≤ xs.length) :
    Calls Try.prog 22 #[.pointer (some ⟨g, 0, none⟩), .int .i64 at_, .slice A rs.length c] w fun e w' => e = .returned (.int .i64 0) ∧ VolB w' g gb 55 (lay xs at_ (flat rs)) ∧ Keeps (Only gb) w w' := by
  have hwb : wB xs.length (at_ : Int) ((flat rs).length : Nat) = true := by simp [wB]; omega
  by_cases he : xs.length = at_
  · subst he
    go_enter Try.func22, Try.ntmps22
    go_wp2_with (first
      | (go_at_call 34; refine (concat_any A c rs _ hR (by omega) (by omega)).mono ?_; rintro e w1 ⟨v, rfl, hO1, hK1⟩; obtain ⟨A2, c2, rfl, hc2, hA2, -⟩ := hO1.open; have hv1 : VolB w1 g gb 55 xs := ⟨hv.1.non hK1, hv.2.1.non hK1, hv.2.2⟩; have c0 : w1.cell? ⟨g, 0, none⟩ = some (.slice (some ⟨gb, 0, none⟩) xs.length xs.length) := hv1.1.cell 0)
      | (go_at_call 23; refine (within_any g gb xs _ _ _ hv1 hl).mono ?_; rw [hwb]; rintro e w2 ⟨rfl, rfl⟩)
      | ((with_reducible show wpList _ _ _ ({ dst := some 23, op := _, type := _, pos := _, after := _, guard := _ } :: _) _ _); refine wpList_copy_bytes rfl (.tmp 21) (.tmp 22) 23 23 rfl 5 Try.underlying23 (by kernel_rfl) (some ⟨gb, 0, none⟩) _ 0 0 _ _ rfl rfl gb xs.length xs 5 hv1.2.1 (flat rs) (by show _ = min _ _; omega) (fun _ => by omega) hA2 hw ?_; intro w3 hB3 hK3))
    go_ret
    refine ⟨rfl, ⟨?_, hB3, hv.2.2⟩, hK1.of_non.trans hK3⟩
    rw [lay_length _ _ _ hw]
    exact hv1.1.one hK3 hv.2.2
  · have hlt : at_ ≤ xs.length := by omega
    go_enter Try.func22, Try.ntmps22
    go_wp2_with (first
      | (go_at_call 34; refine (concat_any A c rs _ hR (by omega) (by omega)).mono ?_; rintro e w1 ⟨v, rfl, hO1, hK1⟩; obtain ⟨A2, c2, rfl, hc2, hA2, -⟩ := hO1.open; have hv1 : VolB w1 g gb 55 xs := ⟨hv.1.non hK1, hv.2.1.non hK1, hv.2.2⟩; have c0 : w1.cell? ⟨g, 0, none⟩ = some (.slice (some ⟨gb, 0, none⟩) xs.length xs.length) := hv1.1.cell 0)
      | (go_at_call 23; refine (within_any g gb xs _ _ _ hv1 hl).mono ?_; rw [hwb]; rintro e w2 ⟨rfl, rfl⟩)
      | ((with_reducible show wpList _ _ _ ({ dst := some 23, op := _, type := _, pos := _, after := _, guard := _ } :: _) _ _); refine wpList_copy_bytes rfl (.tmp 21) (.tmp 22) 23 23 rfl 5 Try.underlying23 (by kernel_rfl) (some ⟨gb, at_, none⟩) _ (xs.length - at_) (xs.length - at_) _ _ rfl rfl gb at_ xs 5 hv1.2.1 (flat rs) (by show _ = min _ _; omega) (fun _ => rfl) hA2 hw ?_; intro w3 hB3 hK3))
    go_ret
    refine ⟨rfl, ⟨?_, hB3, hv.2.2⟩, hK1.of_non.trans hK3⟩
    rw [lay_length _ _ _ hw]
    exact hv1.1.one hK3 hv.2.2

/-- A literal of one slice of bytes, as Concat reads it. -/
theorem recs_one {w w' : World} {A : Option Addr} {bs : List UInt8} {c : Nat} {e : TypeId} (hA : At w A bs) (hc : bs.length ≤ c) (h64 : bs.length ≤ 140737488351232) (g : Nat) (hK : Keeps Non w w') (hB : Blk w' g e #[.slice A bs.length c]) : Recs w' (some ⟨g, 0, none⟩) [bs] := by
  intro i hi
  obtain rfl : i = 0 := by simp at hi; exact hi
  exact ⟨g, 0, A, c, rfl, hB.cell 0, hA.non hK, hc, h64⟩

theorem write_no (g gb c : Nat) (xs bs : List UInt8) (at_ : Int) (A : Option Addr) (w : World) (hv : VolB w g gb 55 xs) (hl : xs.length ≤ 16384) (hA : At w A bs) (hc : bs.length ≤ c) (h64 : bs.length ≤ 140737488351232)
    (hw : wB xs.length at_ bs.length = false) :
    Calls Try.prog 10 #[.pointer (some ⟨g, 0, none⟩), .int .i64 at_, .slice A bs.length c] w fun e w' => e = .returned (.int .i64 186) ∧ Keeps Non w w' := by
  have hk := (Keeps.refl Non w).alloc (.cells #[.slice A bs.length c] 23)
  have hr := recs_one hA hc h64 _ hk (Blk.new w 23 #[.slice A bs.length c])
  have hv1 : VolB (w.alloc (.cells #[.slice A bs.length c] 23)) g gb 55 xs := ⟨hv.1.alloc _, hv.2.1.alloc _, hv.2.2⟩
  have hf : flat [bs] = bs := by simp [flat]
  have H := fill_no g gb 1 xs at_ (some ⟨w.heap.size, 0, none⟩) [bs] _ hv1 hl hr (by simp) (by rw [hf]; omega) (by rw [hf]; exact hw)
  have HH := Lib.hid H
  clear H hr hv1
  go_enter Try.func10, Try.ntmps10
  go_wp2_with (go_at_call 22; refine HH.out.mono ?_; rintro e w1 ⟨rfl, hK1⟩)
  go_ret
  exact ⟨rfl, hk.trans hK1⟩
theorem write_ok (g gb c : Nat) (xs bs : List UInt8) (at_ : Nat) (A : Option Addr) (w : World) (hv : VolB w g gb 55 xs) (hl : xs.length ≤ 16384) (hA : At w A bs) (hc : bs.length ≤ c)
    (hw : at_ + bs.length ≤ xs.length) :
    Calls Try.prog 10 #[.pointer (some ⟨g, 0, none⟩), .int .i64 at_, .slice A bs.length c] w fun e w' => e = .returned (.int .i64 0) ∧ VolB w' g gb 55 (lay xs at_ bs) ∧ Keeps (Only gb) w w' := by
  have hk := (Keeps.refl Non w).alloc (.cells #[.slice A bs.length c] 23)
  have hr := recs_one hA hc (by omega) _ hk (Blk.new w 23 #[.slice A bs.length c])
  have hv1 : VolB (w.alloc (.cells #[.slice A bs.length c] 23)) g gb 55 xs := ⟨hv.1.alloc _, hv.2.1.alloc _, hv.2.2⟩
  have hf : flat [bs] = bs := by simp [flat]
  have H := fill_ok g gb 1 xs at_ (some ⟨w.heap.size, 0, none⟩) [bs] _ hv1 hl hr (by simp) (by rw [hf]; omega)
  rw [hf] at H
  have HH := Lib.hid H
  clear H hr hv1
  go_enter Try.func10, Try.ntmps10
  go_wp2_with (go_at_call 22; refine HH.out.mono ?_; rintro e w1 ⟨rfl, hV1, hK1⟩)
  go_ret
  exact ⟨rfl, hV1, hk.of_non.trans hK1⟩

theorem discard_no (g gb : Nat) (xs : List UInt8) (at_ many : Int) (w : World) (hv : VolB w g gb 55 xs) (hl : xs.length ≤ 16384) (hw : wB xs.length at_ many = false) :
    Calls Try.prog 11 #[.pointer (some ⟨g, 0, none⟩), .int .i64 at_, .int .i64 many] w fun e w' => e = .returned (.int .i64 186) ∧ w = w' := by
  go_enter Try.func11, Try.ntmps11
  go_wp2_with (go_at_call 23; refine (within_any g gb xs _ _ _ hv hl).mono ?_; rw [hw]; rintro e w2 ⟨rfl, rfl⟩)
  go_ret
  exact ⟨rfl, rfl⟩
theorem blk_two (w : World) (o : Obj) (X : Array Value) (t : TypeId) (Z : Array Value) (h : Z = X := by rfl) : Blk ((w.alloc o).alloc (.cells Z t)) (w.heap.size + 1) t Z := by
  have := Blk.new (w.alloc o) t Z; simpa using this
theorem blk_three (w : World) (o p : Obj) (X : Array Value) (t : TypeId) (Z : Array Value) (h : Z = X := by rfl) : Blk (((w.alloc o).alloc p).alloc (.cells Z t)) (w.heap.size + 1 + 1) t Z := by
  have := Blk.new ((w.alloc o).alloc p) t Z; simpa using this
theorem vol_three {w : World} {g gb : Nat} {t : TypeId} {xs : List UInt8} (h : VolB w g gb t xs) (o p q : Obj) : VolB (((w.alloc o).alloc p).alloc q).drew g gb t xs :=
  ⟨(((h.1.alloc o).alloc p).alloc q).drew, (((h.2.1.alloc o).alloc p).alloc q).drew, h.2.2⟩
theorem keeps_three {S : Nat → Prop} (w : World) {w5 : World} (o p q : Obj) (h : Keeps S (((w.alloc o).alloc p).alloc q).drew w5) : Keeps S w w5 :=
  ((((Keeps.refl S w).alloc o).alloc p).alloc q).drew.trans h
theorem recs_two {W : World} {b1 b2 b3 : Nat} {xs ys : List UInt8} {t e : TypeId} (B1 : Blk W b1 t (pc xs)) (B2 : Blk W b2 t (pc ys)) (B3 : Blk W b3 e #[.slice (some ⟨b1, 0, none⟩) xs.length xs.length, .slice (some ⟨b2, 0, none⟩) ys.length ys.length])
    (h1 : xs.length ≤ 140737488351232) (h2 : ys.length ≤ 140737488351232) : Recs W (some ⟨b3, 0, none⟩) [xs, ys] := by
  intro i hi
  match i, hi with
  | 0, _ => exact ⟨b3, 0, _, _, rfl, B3.cell 0, At.blk B1, Nat.le_refl _, h1⟩
  | 1, _ => exact ⟨b3, 0, _, _, rfl, B3.cell 1, At.blk B2, Nat.le_refl _, h2⟩
theorem fill_two (g gb : Nat) (xs : List UInt8) (at_ n1 n2 b1 b2 b3 : Nat) (W : World) (hv : VolB W g gb 55 xs) (hl : xs.length ≤ 16384) (B1 : Blk W b1 5 (pc (zeros n1))) (B2 : Blk W b2 5 (pc (zeros n2)))
    (B3 : Blk W b3 23 #[.slice (some ⟨b1, 0, none⟩) n1 n1, .slice (some ⟨b2, 0, none⟩) n2 n2]) (hw : at_ + (n1 + n2) ≤ xs.length) :
    Calls Try.prog 22 #[.pointer (some ⟨g, 0, none⟩), .int .i64 at_, .slice (some ⟨b3, 0, none⟩) 2 2] W fun e w' => e = .returned (.int .i64 0) ∧ VolB w' g gb 55 (lay xs at_ (zeros (n1 + n2))) ∧ Keeps (Only gb) W w' := by
  have hf : flat [zeros n1, zeros n2] = zeros (n1 + n2) := by simp [flat, zeros_add]
  have hr : Recs W (some ⟨b3, 0, none⟩) [zeros n1, zeros n2] := recs_two B1 B2 (by simpa [zeros_length] using B3) (by rw [zeros_length]; omega) (by rw [zeros_length]; omega)
  have := fill_ok g gb 2 xs at_ (some ⟨b3, 0, none⟩) [zeros n1, zeros n2] W hv hl hr (by simp) (by rw [hf, zeros_length]; exact hw)
  rwa [hf] at this
theorem run_make_zeros (n : Nat) (hn : n ≤ 100000) : ∀ W : World, (Instr.makeSlice 23 (.int .i64 (n : Int)) (.int .i64 (n : Int))).run Try.prog W = .ok (.slice (some ⟨W.heap.size, 0, none⟩) n n) (W.alloc (.cells (pc (zeros n)) 5)) := by
  intro W
  obtain ⟨i, hi0, hz0, hz1, hz2⟩ := info_parts info5
  have hrun := run_make (P := Try.prog) W 23 5 i (.int .u8 0) Try.underlying23 hi0 hz0 .i64 .i64 n n (by omega) (by omega) (by rw [hz2]; omega) (by omega)
  have e1 : madeCells (Value.int .u8 0).cells ((n : Int).toNat * i.size) = pc (zeros n) := by
    rw [hz1]
    apply Array.ext
    · simp [size_madeCells, pc_size, zeros_length]
    · intro j h1 h2
      simp [madeCells, Value.cells, pc, zeros, bv, Nat.mod_one]
  rwa [e1] at hrun
set_option maxHeartbeats 1000000 in
theorem discard_ok (g gb : Nat) (xs : List UInt8) (at_ many : Nat) (w : World) (hv : VolB w g gb 55 xs) (hl : xs.length ≤ 16384) (hw : at_ + many ≤ xs.length) :
    Calls Try.prog 11 #[.pointer (some ⟨g, 0, none⟩), .int .i64 at_, .int .i64 many] w fun e w' => e = .returned (.int .i64 0) ∧ VolB w' g gb 55 (lay xs at_ (zeros many)) ∧ Keeps (Only gb) w w' := by
  have hwb : wB xs.length (at_ : Int) (many : Nat) = true := by simp [wB]; omega
  go_enter Try.func11, Try.ntmps11
  go_wp2_with (go_at_call 23; refine (within_any g gb xs _ _ _ hv hl).mono ?_; rw [hwb]; rintro e w2 ⟨rfl, rfl⟩)
  obtain ⟨n1, hn1⟩ : ∃ n1 : Nat, n1 = many / 2 := ⟨_, rfl⟩
  obtain ⟨n2, hn2⟩ : ∃ n2 : Nat, n2 = many - many / 2 := ⟨_, rfl⟩
  have W1 : IntKind.i64.wrap ((many : Int) / 2) = (n1 : Int) := by rw [IntWalk.i64_in _ (by omega)]; omega
  have W2 : IntKind.i64.wrap ((many : Int) - (n1 : Int)) = (n2 : Int) := by rw [IntWalk.i64_in _ (by omega)]; omega
  have m1 := run_make_zeros n1 (by omega)
  have m2 := run_make_zeros n2 (by omega)
  have hN : n1 + n2 = many := by omega
  have HN := Lib.hid hN
  clear hn1 hn2 hN
  have HV := Lib.hid hv
  clear hv
  go_region_with (first
    | (go_at_call 22; refine (fill_two g gb xs at_ n1 n2 _ _ _ _ (vol_three HV.out _ _ _) hl ((((Blk.new w 5 (pc (zeros n1))).alloc _).alloc _).drew) (((blk_two w _ _ 5 _).alloc _).drew) ((blk_three w _ _ _ 23 _).drew) (by have := HN.out; omega)).mono ?_; rintro e w5 ⟨rfl, hV5, hK5⟩; have hk5 := keeps_three w _ _ _ hK5)
    | (go_at_call 22; refine (fill_two g gb xs at_ n1 n2 _ _ _ _ (vol_three HV.out _ _ _) hl (((blk_two w _ _ 5 _).alloc _).drew) ((((Blk.new w 5 (pc (zeros n2))).alloc _).alloc _).drew) ((blk_three w _ _ _ 23 _).drew) (by have := HN.out; omega)).mono ?_; rintro e w5 ⟨rfl, hV5, hK5⟩; have hk5 := keeps_three w _ _ _ hK5))
  all_goals
    go_wp2
    go_ret
    rw [HN.out] at hV5
    exact ⟨rfl, hV5, hk5⟩
end Go.Proofs.Ytmlffigfhhoihab
