/- Rows of whatever elements: a slice of the program's own, each element laid by enc in k cells. More words for memory. Numbers as bytes (code.form, code.value, code.copied). The writer: put, Num, Bytes. -/
import Derived.Test.YtolknnmaadkgiaaGreatDoorG1
import Derived.Deep.RegionLaw
import Derived.Lib.SlBytesConst
import Derived.RegionTactic
import Derived.Deep.CutRange
import Derived.Deep.RegionHeld3
import Derived.Deep.LoopGhost
import Derived.WalkLawsBesides
import Derived.Lib.Hide
import Derived.Deep.DeepMust
set_option linter.unusedVariables false
set_option linter.unusedSimpArgs false
namespace Go.Uc
open Go.RowKit
def own (v : Value) : List Nat := v.ownBlock.toList
theorem mem_own {v : Value} {g : Nat} : g ∈ own v ↔ v.ownBlock = some g := by unfold own; cases v.ownBlock <;> simp [eq_comm]
theorem own_slice (g n c : Nat) : own (.slice (some ⟨g, 0, none⟩) n c) = [g] := rfl
theorem own_nil (n c : Nat) : own (.slice none n c) = [] := rfl
section rows
variable {α : Type} {w w' : World} {e : TypeId} {k : Nat} {enc : α → List Value} {v : Value} {xs : List α}
def RowP (w : World) (e : TypeId) (k : Nat) (enc : α → List Value) (v : Value) (xs : List α) : Prop := w.ownsRow 0 e k v xs.length (xs.flatMap enc)
theorem flat_len (henc : ∀ x, (enc x).length = k) (xs : List α) : (xs.flatMap enc).length = xs.length * k := by
 induction xs with
 | nil => simp
 | cons x xs ih => rw [List.flatMap_cons, List.length_append, ih, henc, List.length_cons, Nat.succ_mul, Nat.add_comm]
theorem flat_get (henc : ∀ x, (enc x).length = k) : ∀ (xs : List α) (i j : Nat) (hi : i < xs.length), j < k → (xs.flatMap enc)[i * k + j]? = (enc xs[i])[j]? := by
 intro xs
 induction xs with
 | nil => intro i j hi; simp at hi
 | cons x xs ih =>
   intro i j hi hj
   rw [List.flatMap_cons]
   cases i with
   | zero =>
     rw [Nat.zero_mul, Nat.zero_add, List.getElem?_append_left (by rw [henc]; exact hj)]
     rfl
   | succ i =>
     simp at hi
     rw [List.getElem?_append_right (by rw [henc, Nat.succ_mul]; omega), henc, show (i + 1) * k + j - k = i * k + j by rw [Nat.succ_mul]; omega, ih i j hi hj]
     rfl
theorem RowP.nil (w : World) (e : TypeId) (k : Nat) (enc : α → List Value) : RowP w e k enc (.slice none 0 0) [] := World.ownsRow_nil _ _ _ _
theorem RowP.keep {S : Nat → Prop} (h : RowP w e k enc v xs) (hk : Keeps S w w') (hb : ∀ g ∈ own v, ¬ S g) : RowP w' e k enc v xs := row_keep h hk fun g hg => hb g (mem_own.2 hg)
theorem RowP.non (h : RowP w e k enc v xs) (hk : Keeps Non w w') : RowP w' e k enc v xs := h.keep hk fun _ _ e => e
theorem RowP.form (h : RowP w e k enc v xs) : (v = .slice none 0 0 ∧ xs = []) ∨ ∃ g cap cur, v = .slice (some ⟨g, 0, none⟩) xs.length cap ∧ Blk w g e cur ∧ xs.length ≤ cap ∧ cap ≤ maxLen ∧ cur.size = cap * k ∧ cur.toList.take (xs.length * k) = xs.flatMap enc := by
 rcases h.2 with ⟨h1, h2⟩ | ⟨g, cap, cur, h1, _, h3, h4, h5, h6, h7⟩
 · exact .inl ⟨h1, List.eq_nil_of_length_eq_zero h2⟩
 · exact .inr ⟨g, cap, cur, h1, h3, h4, h5, h6, h7⟩
theorem RowP.mk {g cap : Nat} {cur : Array Value} (henc : ∀ x, (enc x).length = k) (hB : Blk w g e cur) (hl : xs.length ≤ cap) (hc : cap ≤ maxLen) (hs : cur.size = cap * k) (ht : cur.toList.take (xs.length * k) = xs.flatMap enc) : RowP w e k enc (.slice (some ⟨g, 0, none⟩) xs.length cap) xs :=
 ⟨flat_len henc xs, .inr ⟨g, cap, cur, rfl, Nat.zero_le _, hB, hl, hc, hs, ht⟩⟩
theorem RowP.val (h : RowP w e k enc v xs) : ∃ A c, v = .slice A xs.length c ∧ xs.length ≤ c ∧ c ≤ maxLen := by
 rcases h.form with ⟨rfl, rfl⟩ | ⟨g, cap, cur, rfl, _, h4, h5, _⟩
 · exact ⟨none, 0, rfl, Nat.le_refl _, by decide⟩
 · exact ⟨_, cap, rfl, h4, h5⟩
theorem RowP.lt (h : RowP w e k enc v xs) : ∀ g ∈ own v, g < w.heap.size := by
 intro g hg
 rcases h.form with ⟨rfl, rfl⟩ | ⟨g', cap, cur, rfl, h3, _⟩
 · simp [own_nil] at hg
 · simp [own_slice] at hg
   subst hg
   exact h3.lt
theorem RowP.at_ (henc : ∀ x, (enc x).length = k) (h : RowP w e k enc v xs) {i : Nat} (hi : i < xs.length) : ∃ g cap, v = .slice (some ⟨g, 0, none⟩) xs.length cap ∧ xs.length ≤ cap ∧ cap ≤ maxLen ∧ (∀ j, j < k → w.cell? ⟨g, i * k + j, none⟩ = (enc xs[i])[j]?) ∧ (∀ j, w.frozen? ⟨g, j, none⟩ = false) ∧ g < w.heap.size := by
 rcases h.form with ⟨rfl, rfl⟩ | ⟨g, cap, cur, rfl, h3, h4, h5, h6, h7⟩
 · simp at hi
 · refine ⟨g, cap, rfl, h4, h5, fun j hj => ?_, fun j => h3.frozen j, h3.lt⟩
   rw [h3.cell, ← flat_get henc xs i j hi hj, ← h7]
   have : i * k + j < xs.length * k := by
     calc i * k + j < i * k + k := by omega
       _ = (i + 1) * k := by rw [Nat.succ_mul]
       _ ≤ xs.length * k := Nat.mul_le_mul_right _ (by omega)
   rw [List.getElem?_take, if_pos this]
   simp
theorem RowP.ats (h : RowP w e k enc v xs) (henc : ∀ x, (enc x).length = k) : ∃ A c, v = .slice A xs.length c ∧ xs.length ≤ c ∧ Ats w A (xs.flatMap enc) := by
 rcases h.form with ⟨rfl, rfl⟩ | ⟨g, cap, cur, rfl, h3, h4, h5, h6, h7⟩
 · exact ⟨none, 0, rfl, Nat.le_refl _, fun h => absurd h (by simp)⟩
 · refine ⟨_, cap, rfl, h4, fun _ => ⟨_, rfl, fun j u hj => ?_⟩⟩
   have hlt : j < (xs.flatMap enc).length := (List.getElem?_eq_some_iff.1 hj).1
   rw [flat_len henc] at hlt
   rw [show (⟨g, 0, none⟩ : Addr).add j = ⟨g, j, none⟩ from by unfold Addr.add; split <;> simp_all, h3.cell]
   rw [← h7, List.getElem?_take, if_pos hlt] at hj
   simpa using hj
theorem RowP.put {g cap : Nat} {cur : Array Value} {ys : List α} (h : RowP w e k enc (.slice (some ⟨g, 0, none⟩) xs.length cap) xs) (henc : ∀ x, (enc x).length = k) (hB : Blk w' g e cur) (hl : ys.length ≤ cap) (hs : cur.size = cap * k) (hg : ∀ p, p < ys.length * k → cur[p]? = (ys.flatMap enc)[p]?) : RowP w' e k enc (.slice (some ⟨g, 0, none⟩) ys.length cap) ys := by
 obtain ⟨A, c, e1, _, hc⟩ := h.val
 injection e1 with _ _ e1
 subst e1
 refine RowP.mk henc hB hl hc hs ?_
 apply List.ext_getElem?
 intro p
 rw [List.getElem?_take]
 by_cases hp : p < ys.length * k
 · rw [if_pos hp, ← hg p hp]
   simp
 · rw [if_neg hp, List.getElem?_eq_none (by rw [flat_len henc]; omega)]
theorem info_p {P : Program} {e : TypeId} {z : Value} {k bytes : Nat} (h : (P.info? e).map (fun i => (i.zero, i.size, i.bytes)) = some (some z, k, bytes)) : ∃ i, P.info? e = some i ∧ i.zero = some z ∧ i.size = k ∧ i.bytes = bytes := by
 cases hi : P.info? e with
 | none => simp [hi] at h
 | some i => simp [hi] at h; exact ⟨i, rfl, h.1, h.2.1, h.2.2⟩
variable {P : Program} {ops : Array Oper} {rest : List Oper} {o : Oper} {a : Act} {Q : Exit → Act → World → Prop}
theorem wp_append_row {K : Act → World → Prop} (s x : Operand) (t : TypeId)
   (ho : o.op = .call { callee := .builtin .append, args := #[s, x], argTypes := #[t, t] })
   (e : TypeId) (k : Nat) (enc : α → List Value) (z : Value) (bytes : Nat) (ht : P.underlying t = some (.slice e)) (hi : (P.info? e).map (fun i => (i.zero, i.size, i.bytes)) = some (some z, k, bytes)) (hz : z.cells.size = k) (hk : 0 < k)
   (henc : ∀ x, (enc x).length = k) (h1 : ∀ x, ∀ u ∈ enc x, u.oneCell' = true)
   (v : Value) (xs : List α) (hs : a.eval s = v) (hrow : RowP w e k enc v xs)
   (A : Option Addr) (m c : Nat) (ys : List α) (hx : a.eval x = .slice A m c) (hm : m = ys.length) (hr : Ats w A (ys.flatMap enc))
   (hmax : xs.length + ys.length ≤ maxLen) (hbytes : (xs.length + ys.length) * bytes ≤ 140737488355328)
   (h : ∀ v' w', RowP w' e k enc v' (xs ++ ys) → Keeps (· ∈ own v) w w' → (v'.ownBlock = v.ownBlock ∨ v'.ownBlock = some w.heap.size) → K (a.put o.dst v') w') : o.wp P a w K Q := by
 obtain ⟨i, hi0, hz0, hz1, hz2⟩ := info_p hi
 subst hm
 refine wp_append_any s x t ho 0 e i z k bytes ht hi0 hz0 hz1 hz2 hz hk v xs.length (xs.flatMap enc) hs hrow A ys.length c (ys.flatMap enc) hx (flat_len henc ys) hr ?_ hmax hbytes (Nat.zero_le _) fun v' w' h2 h3 h4 => h v' w' ?_ (h3.mono fun g hg => mem_own.2 hg) h4
 · intro u hu
   obtain ⟨x, _, hu⟩ := List.mem_flatMap.1 hu
   exact h1 x u hu
 · unfold RowP
   rw [List.length_append, List.flatMap_append]
   exact h2
theorem wpList_append_row (hgd : o.guard = none) (s x : Operand) (t : TypeId)
   (ho : o.op = .call { callee := .builtin .append, args := #[s, x], argTypes := #[t, t] })
   (e : TypeId) (k : Nat) (enc : α → List Value) (z : Value) (bytes : Nat) (ht : P.underlying t = some (.slice e)) (hi : (P.info? e).map (fun i => (i.zero, i.size, i.bytes)) = some (some z, k, bytes)) (hz : z.cells.size = k) (hk : 0 < k)
   (henc : ∀ x, (enc x).length = k) (h1 : ∀ x, ∀ u ∈ enc x, u.oneCell' = true)
   (v : Value) (xs : List α) (hs : a.eval s = v) (hrow : RowP w e k enc v xs)
   (A : Option Addr) (m c : Nat) (ys : List α) (hx : a.eval x = .slice A m c) (hm : m = ys.length) (hr : Ats w A (ys.flatMap enc))
   (hmax : xs.length + ys.length ≤ maxLen) (hbytes : (xs.length + ys.length) * bytes ≤ 140737488355328)
   (h : ∀ v' w', RowP w' e k enc v' (xs ++ ys) → Keeps (· ∈ own v) w w' → (v'.ownBlock = v.ownBlock ∨ v'.ownBlock = some w.heap.size) → wpList P ops Q rest (a.put o.dst v') w') : wpList P ops Q (o :: rest) a w :=
 wpList_plain hgd fun _ hK => wp_append_row s x t ho e k enc z bytes ht hi hz hk henc h1 v xs hs hrow A m c ys hx hm hr hmax hbytes fun v' w' h2 h3 h4 => hK _ _ (h v' w' h2 h3 h4)
theorem step_append_row {K : Act → World → Prop} {E : Prop} (hgd : o.guard = none) (s x : Operand) (t : TypeId)
   (ho : o.op = .call { callee := .builtin .append, args := #[s, x], argTypes := #[t, t] })
   (e : TypeId) (k : Nat) (enc : α → List Value) (z : Value) (bytes : Nat) (ht : P.underlying t = some (.slice e)) (hi : (P.info? e).map (fun i => (i.zero, i.size, i.bytes)) = some (some z, k, bytes)) (hz : z.cells.size = k) (hk : 0 < k)
   (henc : ∀ x, (enc x).length = k) (h1 : ∀ x, ∀ u ∈ enc x, u.oneCell' = true)
   (v : Value) (xs : List α) (hs : a.eval s = v) (hrow : RowP w e k enc v xs)
   (A : Option Addr) (m c : Nat) (ys : List α) (hx : a.eval x = .slice A m c) (hm : m = ys.length) (hr : Ats w A (ys.flatMap enc))
   (hmax : xs.length + ys.length ≤ maxLen) (hbytes : (xs.length + ys.length) * bytes ≤ 140737488355328)
   (h : ∀ v' w', RowP w' e k enc v' (xs ++ ys) → Keeps (· ∈ own v) w w' → (v'.ownBlock = v.ownBlock ∨ v'.ownBlock = some w.heap.size) → K (a.put o.dst v') w') :
   if Region.wanted o (yielded ops a.tmps) = true then Oper.wp P o a w K Q else E := by
 have hw : Region.wanted o (yielded ops a.tmps) = true := by simp [Region.wanted, hgd]
 rw [if_pos hw]
 exact wp_append_row s x t ho e k enc z bytes ht hi hz hk henc h1 v xs hs hrow A m c ys hx hm hr hmax hbytes h
theorem Ats.lit (w : World) (cs : Array Value) (t : TypeId) (L : List Value) (h : cs = L.toArray) : Ats (w.alloc (.cells cs t)) (some ⟨w.heap.size, 0, none⟩) L := fun _ => ⟨_, rfl, fun j u hj => by
 rw [show (⟨w.heap.size, 0, none⟩ : Addr).add j = ⟨w.heap.size, j, none⟩ from by unfold Addr.add; split <;> simp_all, (Blk.new w t cs).cell, h]
 simpa using hj⟩
theorem Ats.non {A : Option Addr} {L : List Value} (h : Ats w A L) (hk : Keeps Non w w') : Ats w' A L := fun hp => by
 obtain ⟨ad, e, hc⟩ := h hp
 exact ⟨ad, e, fun j u hj => hk.cell (hc j u hj) id⟩
theorem RowP.lit (henc : ∀ x, (enc x).length = k) (w : World) (e : TypeId) (xs : List α) (cs : Array Value) (h : cs = (xs.flatMap enc).toArray) (hm : xs.length ≤ maxLen) : RowP (w.alloc (.cells cs e)) e k enc (.slice (some ⟨w.heap.size, 0, none⟩) xs.length xs.length) xs := by
 subst h
 refine RowP.mk henc (Blk.new w e _) (Nat.le_refl _) hm ?_ ?_
 · simp [flat_len henc]
 · simp [List.take_of_length_le, flat_len henc]
end rows
end Go.Uc
namespace Go.Uc
open Go.RowKit
theorem At.lit (w : World) (e : TypeId) (fr : Nat × Nat) (C : Array Value) (bs : List UInt8) (h : C = pc bs) : At (w.alloc (.cells C e fr)) (Option.some ⟨w.heap.size, 0, none⟩) bs := by
 subst h
 intro i hi
 refine ⟨_, rfl, ?_⟩
 rw [show (⟨w.heap.size, 0, none⟩ : Addr).add i = ⟨w.heap.size, i, none⟩ from by unfold Addr.add; split <;> simp_all]
 rw [cell_of_row (w.alloc (.cells (pc bs) e fr)) w.heap.size i (pc bs) e fr (heap_alloc_new w _), pc_get, List.getElem?_eq_getElem hi]
 rfl
end Go.Uc
namespace Go.Proofs.YtolknnmaadkgiaaGreatDoor
set_option maxRecDepth 100000
open Go.RowKit Go.Uc
theorem info5 : (Tryz.prog.info? 5).map (fun i => (i.zero, i.size, i.bytes)) = some (some (.int .u8 0), 1, 1) := by kernel_rfl
theorem infoS5 : (Tryz.prog.info? 5).map (·.size) = some 1 := by kernel_rfl
def leVal : List UInt8 → Nat
 | [] => 0
 | x :: xs => x.toNat + 256 * leVal xs
theorem leVal_snoc (xs : List UInt8) (x : UInt8) : leVal (xs ++ [x]) = leVal xs + x.toNat * 256 ^ xs.length := by
 induction xs with
 | nil => simp [leVal]
 | cons y ys ih =>
   simp only [List.cons_append, leVal, ih, List.length_cons, Nat.pow_succ, Nat.mul_add]
   rw [Nat.mul_left_comm, Nat.mul_comm 256 (256 ^ _)]
   omega
theorem leVal_lt (xs : List UInt8) : leVal xs < 256 ^ xs.length := by
 induction xs with
 | nil => simp [leVal]
 | cons x xs ih =>
   have := x.toNat_lt
   simp only [leVal, List.length_cons, Nat.pow_succ]
   omega
theorem leVal_le (k n : Nat) : leVal (le k n) = n % 256 ^ k := by
 induction k generalizing n with
 | zero => simp [leVal, le, Nat.mod_one]
 | succ k ih =>
   simp only [leVal, le, ih]
   rw [ofNat_toNat _ (Nat.mod_lt _ (by decide)), Nat.pow_succ, Nat.mul_comm (256 ^ k), Nat.mod_mul]
theorem or_byte64 (m x k : Nat) (hm : m < 256 ^ k) (hx : x < 256) (hk : k ≤ 7) : bits .or .u64 (m : Int) (IntKind.u64.wrap ((x : Int) * 2 ^ (8 * k))) = ((m + x * 256 ^ k : Nat) : Int) := by
 have e : (2 : Int) ^ (8 * k) = ((256 ^ k : Nat) : Int) := by rw [Int.pow_mul]; simp
 have e2 : (256 : Nat) ^ k = 2 ^ (8 * k) := by rw [Nat.pow_mul]
 have hp : (256 : Nat) ^ k ≤ 256 ^ 7 := Nat.pow_le_pow_right (by decide) hk
 have hy : x * 256 ^ k < 18446744073709551616 := by
   have := Nat.mul_le_mul (show x ≤ 255 by omega) hp
   omega
 have hm2 : m < 18446744073709551616 := by omega
 rw [e, ← Int.natCast_mul, wrap64_nat hy]
 have h := or64 (BitVec.ofNat 64 m) (BitVec.ofNat 64 (x * 256 ^ k))
 unfold v64 at h
 rw [BitVec.toNat_ofNat, BitVec.toNat_ofNat, Nat.mod_eq_of_lt (by omega), Nat.mod_eq_of_lt (by omega)] at h
 rw [h, BitVec.toNat_or, BitVec.toNat_ofNat, BitVec.toNat_ofNat, Nat.mod_eq_of_lt (by omega), Nat.mod_eq_of_lt (by omega)]
 congr 1
 rw [Nat.or_comm, e2, Nat.mul_comm x, ← Nat.two_pow_add_eq_or_of_lt (by rw [← e2]; exact hm) x]
 omega
set_option maxHeartbeats 1000000 in
theorem form_any (n k : Nat) (hk : k ≤ 8) (hn : n < 18446744073709551616) (w : World) :
   Calls Tryz.prog 122 #[.int .u64 (n : Int), .int .i64 (k : Int)] w fun e w' => e = .returned (.slice (some ⟨w.heap.size, 0, none⟩) k k) ∧ Blk w' w.heap.size 5 (pc (le k n)) ∧ Keeps Non w w' := by
 go_enter Tryz.func122, Tryz.ntmps122
 go_upto_region 2 with (at_make; go_must (refine wpList_make_bytes rfl _ _ 22 rfl 5 Tryz.underlying22 info5 .i64 .i64 _ _ k rfl rfl rfl rfl (by omega) ?_); intro w1 hB1 hK1)
 obtain ⟨g, hg⟩ : ∃ g, g = w.heap.size := ⟨_, rfl⟩
 rw [← hg] at hB1 ⊢
 have HG := Lib.hid hg
 clear hg
 go_upto_region 3 with fail
 go_loopw [11] (fun i wr => ∃ j : Nat, j ≤ k ∧ i = .int .i64 (j : Int) ∧ Blk wr g 5 (pc (le j n ++ zeros (k - j))) ∧ Keeps Non w wr) (fun i _ => k - (intOf i).toNat)
 case atStart => exact ⟨0, Nat.zero_le _, rfl, by simpa [le] using hB1, hK1⟩
 case round =>
   obtain ⟨j, hj, rfl, hB, hK⟩ := hrel
   obtain ⟨wx, rfl⟩ : ∃ V : World, V = wr := ⟨_, rfl⟩
   clear hB1 hK1
   by_cases hlt : j < k
   · obtain ⟨v, hc2⟩ : ∃ v, wx.cell? ⟨g, j, none⟩ = some v := ⟨_, hB.byte (by simp [zeros_length, le_length]; omega)⟩
     have hf := hB.frozen j
     have hji : (j : Int) < (k : Int) := by omega
     have hBn : Hid (Blk (wx.setCell ⟨g, j, none⟩ (.int .u8 ((n : Int) / 2 ^ (8 * j) % 256))) g 5 (pc (le (j + 1) n ++ zeros (k - (j + 1))))) := Lib.hid (by
       rw [shr_byte]
       have hB' := hB.set j (bv (UInt8.ofNat (n / 256 ^ j % 256)))
       rw [set_pc] at hB'
       have e := set_zeros (le j n) j k (UInt8.ofNat (n / 256 ^ j % 256)) hlt
       rw [le_length] at e
       rw [e, ← le_snoc] at hB'
       exact hB')
     have hKn : Keeps Non w (wx.setCell ⟨g, j, none⟩ (.int .u8 ((n : Int) / 2 ^ (8 * j) % 256))) := hK.setNew (p := ⟨g, j, none⟩) (by rw [HG.out]; exact Nat.le_refl _) _
     clear hB
     go_wp2_with fail
     go_roundw
     case rel => exact ⟨j + 1, by omega, by go_num, hBn.out, hKn⟩
     case measure => simp [intOf]; omega
   · obtain rfl : j = k := by omega
     go_wp2_with fail
     go_ret
     obtain rfl := HG.out
     exact ⟨rfl, by simpa [zeros] using hB, hK⟩
set_option maxHeartbeats 1000000 in
theorem value_any (A : Option Addr) (c : Nat) (bs : List UInt8) (w : World) (hA : At w A bs) (hn : bs.length ≤ 8) :
   Calls Tryz.prog 121 #[.slice A bs.length c] w fun e w' => e = .returned (.int .u64 (leVal bs : Int)) ∧ w' = w := by
 go_enter Tryz.func121, Tryz.ntmps121
 go_upto_region 3 with fail
 go_loop [3, 8] (fun s i => ∃ k : Nat, k ≤ bs.length ∧ i = .int .i64 (k : Int) ∧ s = .int .u64 (leVal (bs.take k) : Int)) (fun _ i => bs.length - (intOf i).toNat)
 case atStart => exact ⟨0, Nat.zero_le _, rfl, rfl⟩
 case round =>
   obtain ⟨k, hk, rfl, rfl⟩ := hrel
   by_cases hlt : k < bs.length
   · obtain ⟨b, off, rfl, hc⟩ := hA.at_ (k := k) hlt
     have hc' : w.cell? ⟨b, off + k, none⟩ = some (.int .u8 (bs[k]).toNat) := hc
     have hml := leVal_lt (bs.take k)
     rw [List.length_take, Nat.min_eq_left (by omega)] at hml
     have HS : Hid (leVal (bs.take (k + 1)) = leVal (bs.take k) + (bs[k]).toNat * 256 ^ k) := Lib.hid (by rw [← take_snoc bs k hlt, leVal_snoc, List.length_take, Nat.min_eq_left (by omega)])
     have hx8 : (bs[k]).toNat < 256 := (bs[k]).toNat_lt
     generalize (bs[k]).toNat = x at hc' HS hx8
     generalize leVal (bs.take k) = m at hml HS
     have hor := or_byte64 m x k hml hx8 (by omega)
     have hki : (k : Int) < (bs.length : Int) := by omega
     clear hc hA hml
     go_wp2_with fail
     go_round
     case rel => exact ⟨k + 1, by omega, by go_num, by rw [HS.out]; simp⟩
     case measure => simp [intOf]; omega
   · obtain rfl : k = bs.length := by omega
     go_wp2_with fail
     go_ret
     exact ⟨rfl, rfl⟩
set_option maxHeartbeats 1000000 in
theorem copied_any (A : Option Addr) (c : Nat) (bs : List UInt8) (w : World) (hA : At w A bs) (hn : bs.length ≤ 140737488355328) :
   Calls Tryz.prog 125 #[.slice A bs.length c] w fun e w' => e = .returned (.slice (some ⟨w.heap.size, 0, none⟩) bs.length bs.length) ∧ Blk w' w.heap.size 5 (pc bs) ∧ Keeps Non w w' := by
 go_enter Tryz.func125, Tryz.ntmps125
 go_upto_region 2 with (at_make; go_must (refine wpList_make_bytes rfl _ _ 22 rfl 5 Tryz.underlying22 info5 .i64 .i64 _ _ bs.length rfl rfl rfl rfl (by omega) ?_); intro w1 hB1 hK1)
 obtain ⟨g, hg⟩ : ∃ g, g = w.heap.size := ⟨_, rfl⟩
 rw [← hg] at hB1 ⊢
 have HG := Lib.hid hg
 clear hg
 have hA1 := hA.non hK1
 have HZ : Hid ((zeros bs.length).take 0 ++ (bs ++ (zeros bs.length).drop (0 + bs.length)) = bs) := Lib.hid (by rw [zeros_drop]; simp [zeros])
 go_wp2_with ((with_reducible show wpList _ _ _ ({ dst := some 9, op := _, type := _, pos := _, after := _, guard := _ } :: _) _ _); go_must (refine wpList_copy_bytes rfl (.tmp 7) (.tmp 8) 22 22 rfl 5 Tryz.underlying22 infoS5 (some ⟨g, 0, none⟩) A bs.length bs.length bs.length c rfl rfl g 0 (zeros bs.length) 5 hB1 bs (by simp) (fun _ => rfl) hA1 (by rw [zeros_length]; omega) ?_); intro w3 hB3 hK3)
 go_ret
 obtain rfl := HG.out
 rw [HZ.out] at hB3
 exact ⟨rfl, hB3, hK1.then hK3 fun i hi e => by unfold Only at e; omega⟩
end Go.Proofs.YtolknnmaadkgiaaGreatDoor
namespace Go.Proofs.YtolknnmaadkgiaaGreatDoor
set_option maxRecDepth 100000
open Go.RowKit Go.Uc
structure Sl where
 A : Option Addr
 n : Nat
 c : Nat
abbrev Sl.v (s : Sl) : Value := .slice s.A s.n s.c
theorem RowP.sl {α : Type} {w : World} {e : TypeId} {k : Nat} {enc : α → List Value} {v : Value} {xs : List α} (h : RowP w e k enc v xs) : ∃ s : Sl, v = s.v ∧ s.n = xs.length := by
 obtain ⟨A, c, rfl, _⟩ := h.val
 exact ⟨⟨A, xs.length, c⟩, rfl, rfl⟩
def encU (c : UInt8) : List Value := [bv c]
theorem encU_len (c : UInt8) : (encU c).length = 1 := rfl
theorem encU_one (c : UInt8) : ∀ u ∈ encU c, u.oneCell' = true := by intro u hu; simp [encU] at hu; subst hu; rfl
theorem flat_encU (bs : List UInt8) : bs.flatMap encU = bs.map bv := by
 induction bs with
 | nil => rfl
 | cons x bs ih => rw [List.flatMap_cons, ih]; rfl
theorem made_bytes (n : Nat) (hn : n ≤ 281474976710656) (W : World) : (Instr.makeSlice 22 (.int .i64 (n : Int)) (.int .i64 (n : Int))).run Tryz.prog W = .ok (.slice (some ⟨W.heap.size, 0, none⟩) n n) (W.alloc (.cells (pc (zeros n)) 5)) := by
 obtain ⟨i, hi0, hz0, hz1, hz2⟩ := info_parts info5
 have hrun := run_make (P := Tryz.prog) W 22 5 i (.int .u8 0) Tryz.underlying22 hi0 hz0 .i64 .i64 n n (by omega) (by omega) (by rw [hz2]; omega) (by omega)
 have e1 : madeCells (Value.int .u8 0).cells ((n : Int).toNat * i.size) = pc (zeros n) := by
   rw [hz1]
   apply Array.ext
   · simp [size_madeCells, pc_size, zeros_length]
   · intro j h1 h2
     simp [madeCells, Value.cells, pc, zeros, bv, Nat.mod_one]
 rw [e1] at hrun
 exact hrun
abbrev RowU (w : World) (v : Value) (bs : List UInt8) : Prop := RowP w 5 1 encU v bs
def Wr (w0 w : World) (g room : Nat) (bs : List UInt8) : Prop :=
 ∃ A c, Blk w g 234 #[.int .i64 (room : Int), .slice A bs.length c, .int .i64 0] ∧ RowU w (.slice A bs.length c) bs ∧ g ∉ own (.slice A bs.length c) ∧ w0.heap.size ≤ g ∧ (∀ q ∈ own (.slice A bs.length c), w0.heap.size ≤ q) ∧ Keeps Non w0 w
theorem Wr.non {w0 w w' : World} {g room : Nat} {bs : List UInt8} (h : Wr w0 w g room bs) (hk : Keeps Non w w') : Wr w0 w' g room bs := by
 obtain ⟨A, c, h1, h2, h3, h4, h5, h6⟩ := h
 exact ⟨A, c, h1.non hk, h2.non hk, h3, h4, h5, h6.non hk⟩
theorem Wr.keep {w0 w : World} {g room : Nat} {bs : List UInt8} (h : Wr w0 w g room bs) : Keeps Non w0 w := by
 obtain ⟨A, c, h1, h2, h3, h4, h5, h6⟩ := h
 exact h6
theorem Wr.more {w0 w w2 : World} {g room : Nat} {A A2 : Option Addr} {c c2 n2 : Nat} {bs xs : List UInt8} (h1 : Blk w g 234 #[.int .i64 (room : Int), .slice A bs.length c, .int .i64 0]) (h3 : g ∉ own (.slice A bs.length c)) (h4 : w0.heap.size ≤ g) (h5 : ∀ q ∈ own (.slice A bs.length c), w0.heap.size ≤ q) (h6 : Keeps Non w0 w)
   (hn : n2 = (bs ++ xs).length) (hO : RowU w2 (.slice A2 n2 c2) (bs ++ xs)) (hK : Keeps (· ∈ own (.slice A bs.length c)) w w2) (hat : (Value.slice A2 n2 c2).ownBlock = (Value.slice A bs.length c).ownBlock ∨ (Value.slice A2 n2 c2).ownBlock = some w.heap.size) :
   Wr w0 (w2.setCell ⟨g, 1, none⟩ (.slice A2 n2 c2)) g room (bs ++ xs) := by
 subst hn
 have hg2 : g ∉ own (.slice A2 (bs ++ xs).length c2) := fun hq => by
   rw [mem_own] at hq
   rcases hat with e | e
   · rw [e] at hq; exact h3 (mem_own.2 hq)
   · rw [e] at hq; injection hq with hq; have := h1.lt; omega
 have hk9 : Keeps (Only g) w2 (w2.setCell ⟨g, 1, none⟩ (.slice A2 (bs ++ xs).length c2)) := (Keeps.refl (Only g) _).set (p := ⟨g, 1, none⟩) rfl _
 refine ⟨A2, c2, (h1.keep hK h3).set 1 _, hO.keep hk9 fun q hq e => hg2 (by unfold Only at e; exact e ▸ hq), hg2, h4, fun q hq => ?_, (h6.then hK fun q hq e => by have := h5 q e; omega).setNew (p := ⟨g, 1, none⟩) h4 _⟩
 rw [mem_own] at hq
 rcases hat with e | e
 · rw [e] at hq; exact h5 q (mem_own.2 hq)
 · rw [e] at hq; injection hq with hq; have := h6.size; omega
def Oth (w w' : World) : Prop := ∀ (b t : Nat) (cs : Array Value), Blk w b t cs → t ≠ 234 → t ≠ 5 → Blk w' b t cs
theorem Oth.trans {w w1 w2 : World} (h : Oth w w1) (k : Oth w1 w2) : Oth w w2 := fun b t cs hb h1 h2 => k b t cs (h b t cs hb h1 h2) h1 h2
theorem Oth.of {w w' : World} (hk : Keeps Non w w') : Oth w w' := fun _ _ _ hb _ _ => hb.non hk
theorem Oth.set {w w1 : World} {g : Nat} {cs : Array Value} (h : Oth w w1) (hg : Blk w1 g 234 cs) (i : Nat) (u : Value) : Oth w (w1.setCell ⟨g, i, none⟩ u) := fun b t cs' hb h1 h2 => by
 have hb1 := h b t cs' hb h1 h2
 exact hb1.far (hb1.ne hg h1) _
theorem oth_row {w w2 : World} {A : Option Addr} {n c : Nat} {bs : List UInt8} (h2 : RowU w (.slice A n c) bs) (hK : Keeps (· ∈ own (.slice A n c)) w w2) : Oth w w2 := fun b t cs hb h1 h5 => by
 refine hb.keep hK fun hq => ?_
 rcases h2.form with ⟨e, -⟩ | ⟨g, cap, cur, e, hB, -⟩
 · rw [e] at hq; exact (List.not_mem_nil hq).elim
 · rw [e] at hq
   have : b ∈ [g] := hq
   rw [List.mem_singleton] at this
   subst this
   exact (hb.ne hB h5) rfl
set_option maxHeartbeats 2000000 in
theorem put84_any {w0 w : World} {g room : Nat} {bs : List UInt8} (h : Wr w0 w g room bs) (A : Option Addr) (c : Nat) (xs : List UInt8) (hA : At w A xs) (hf : bs.length + xs.length ≤ room) (hr : room ≤ 1099511627776) :
   Calls Tryz.prog 123 #[.pointer (some ⟨g, 0, none⟩), .slice A xs.length c] w fun e w' => e = .returned (.int .i64 0) ∧ Wr w0 w' g room (bs ++ xs) ∧ Oth w w' := by
 obtain ⟨sA, sc, h1, h2, h3, h4, h5, h6⟩ := h
 have c0 : w.cell? ⟨g, 0, none⟩ = some (.int .i64 (room : Int)) := h1.cell 0
 have c1 : w.cell? ⟨g, 1, none⟩ = some (.slice sA bs.length sc) := h1.cell 1
 have hgt : ¬ (room : Int) - (bs.length : Int) < (xs.length : Int) := by omega
 have hgd : decide ((room : Int) - (bs.length : Int) < (xs.length : Int)) = false := decide_eq_false hgt
 have hwr : IntKind.i64.wrap ((room : Int) - (bs.length : Int)) = (room : Int) - (bs.length : Int) := by rw [IntKind.wrap_i64]; omega
 have hwr2 : wrap64 ((room : Int) - (bs.length : Int)) = (room : Int) - (bs.length : Int) := IntWalk.wrap64_in _ ⟨by omega, by omega⟩
 go_enter Tryz.func123, Tryz.ntmps123
 go_upto_region 1 with fail
 go_quiet (fail)
 obtain ⟨w2, hw2⟩ : ∃ V : World, V = w.drewN nq := ⟨_, rfl⟩
 have hk2 : Keeps Non w w2 := by rw [hw2]; exact (Keeps.refl _ _).drewN _
 first | rw [← hw2] | skip
 clear hw2 c0 c1
 have d1 : w2.cell? ⟨g, 1, none⟩ = some (.slice sA bs.length sc) := (h1.non hk2).cell 1
 have hB2 := h1.non hk2
 have hR2 := h2.non hk2
 have hA2 : Ats w2 A (xs.flatMap encU) := by rw [flat_encU]; exact (hA.non hk2).ats
 have HB : Hid (bs.length + xs.length ≤ maxLen ∧ (bs.length + xs.length) * 1 ≤ 140737488355328) := Lib.hid (by unfold maxLen; omega)
 have H3 := Lib.hid h3
 go_wp2_with (at_builtin; go_must (refine wpList_append_row (o := ⟨some 24, _, _, _, _, _⟩) rfl (.tmp 22) (.tmp 23) 22 rfl 5 1 encU _ 1 Tryz.underlying22 info5 rfl (by decide) encU_len encU_one (.slice sA bs.length sc) bs rfl hR2 A xs.length c xs rfl rfl hA2 HB.out.1 HB.out.2 ?_); intro u8 w8 hO8 hK8 hat; obtain ⟨⟨A8, n8, c8⟩, rfl, h8⟩ := RowP.sl hO8; have hn8 : n8 = bs.length + xs.length := (by rw [show n8 = (bs ++ xs).length from h8, List.length_append]); clear h8; subst hn8; have hB8 := hB2.keep hK8 H3.out; have z8 := hB8.cell 1; have f8 := hB8.frozen 1)
 go_ret
 exact ⟨rfl, Wr.more hB2 h3 h4 h5 (h6.non hk2) (by simp) hO8 hK8 hat, ((Oth.of hk2).trans (oth_row hR2 hK8)).set hB8 1 _⟩
theorem one_cell {w : World} {b t : Nat} {v : Value} (h : Blk w b t #[v]) : w.cell? ⟨b, 0, none⟩ = some v := h.cell 0
set_option maxHeartbeats 2000000 in
theorem num81_any {w0 w : World} {g room : Nat} {bs : List UInt8} (h : Wr w0 w g room bs) (n k kb nb wb : Nat) (hk1 : 1 ≤ k) (hk8 : k ≤ 8) (hn : n < 256 ^ k) (hf : bs.length + k ≤ room) (hr : room ≤ 1099511627776) (hkb : Blk w kb 3 #[.int .i64 (k : Int)]) (hnb : Blk w nb 29 #[.int .u64 (n : Int)]) (hwb : Blk w wb 158 #[.pointer (some ⟨g, 0, none⟩)]) :
   Calls Tryz.prog 120 #[.pointer (some ⟨kb, 0, none⟩), .pointer (some ⟨nb, 0, none⟩), .pointer (some ⟨wb, 0, none⟩)] w fun e w' => e = .returned (.int .i64 0) ∧ Wr w0 w' g room (bs ++ le k n) ∧ Oth w w' := by
 have hn64 : n < 18446744073709551616 := Nat.lt_of_lt_of_le hn (Nat.pow_le_pow_right (by decide) hk8)
 have x0 : w.cell? ⟨kb, 0, none⟩ = some (.int .i64 (k : Int)) := hkb.cell 0
 have x1 : w.cell? ⟨nb, 0, none⟩ = some (.int .u64 (n : Int)) := hnb.cell 0
 have x2 : w.cell? ⟨wb, 0, none⟩ = some (.pointer (some ⟨g, 0, none⟩)) := hwb.cell 0
 have x0d : w.drew.cell? ⟨kb, 0, none⟩ = some (.int .i64 (k : Int)) := hkb.cell 0
 have x1d : w.drew.cell? ⟨nb, 0, none⟩ = some (.int .u64 (n : Int)) := hnb.cell 0
 have HF : Hid (∀ V : World, Calls Tryz.prog 122 #[.int .u64 (n : Int), .int .i64 (k : Int)] V fun e w' => ∃ b, e = .returned (.slice (some ⟨b, 0, none⟩) k k) ∧ Blk w' b 5 (pc (le k n)) ∧ Keeps Non V w') := Lib.hid (fun V => (form_any n k hk8 hn64 V).mono fun e w' ⟨a, b, c⟩ => ⟨_, a, b, c⟩)
 have HV : Hid (∀ V b, Blk V b 5 (pc (le k n)) → Calls Tryz.prog 121 #[.slice (some ⟨b, 0, none⟩) k k] V fun e w' => e = .returned (.int .u64 (n : Int)) ∧ w' = V) := Lib.hid (fun V b hb => by
   have := value_any (some ⟨b, 0, none⟩) k (le k n) V (At.blk hb) (by rw [le_length]; exact hk8)
   rw [le_length, leVal_le, Nat.mod_eq_of_lt hn] at this
   exact this)
 have HP : Hid (∀ (V : World) (b : Nat), Wr w0 V g room bs → Blk V b 5 (pc (le k n)) → Calls Tryz.prog 123 #[.pointer (some ⟨g, 0, none⟩), .slice (some ⟨b, 0, none⟩) k k] V fun e w' => e = .returned (.int .i64 0) ∧ Wr w0 w' g room (bs ++ le k n) ∧ Oth V w') := Lib.hid (fun V b hV hb => by
   have := put84_any hV (some ⟨b, 0, none⟩) k (le k n) (At.blk hb) (by rw [le_length]; exact hf) hr
   rw [le_length] at this
   exact this)
 go_enter Tryz.func120, Tryz.ntmps120
 go_upto_region 3 with fail
 go_cut [11] from 12 to 17 (fun c wc => c = .bool false ∧ Keeps Non w wc)
 case first =>
   go_region_law (first
     | (go_simp; go_at_call 122; refine (HF.out _).mono ?_; rintro e w3 ⟨b3, rfl, hB3, hK3⟩; go_must (have HV3 := Lib.hid (HV.out _ _ hB3); have hk3 := (Keeps.refl Non w).drew.non hK3; have y1 : w3.cell? ⟨nb, 0, none⟩ = some (.int .u64 (n : Int)) := hk3.cell x1 id))
     | (go_simp; go_at_call 121; refine HV3.out.mono ?_; rintro e w4 ⟨rfl, hw4⟩; go_must (subst w4)))
   all_goals
     go_wp2_with fail
     go_meet
     case rel => exact ⟨by simp, hk3⟩
 case rest =>
   obtain ⟨rfl, hk3⟩ := hcut
   obtain ⟨w3, rfl⟩ : ∃ V : World, V = wc := ⟨_, rfl⟩
   have hW3 := h.non hk3
   have z0 : w3.drew.cell? ⟨kb, 0, none⟩ = some (.int .i64 (k : Int)) := hk3.cell x0 id
   have z1 : w3.drew.cell? ⟨nb, 0, none⟩ = some (.int .u64 (n : Int)) := hk3.cell x1 id
   have z2 : w3.drew.cell? ⟨wb, 0, none⟩ = some (.pointer (some ⟨g, 0, none⟩)) := hk3.cell x2 id
   clear x0 x1 x2 x0d x1d
   go_upto_region 5 with fail
   go_region_law (first
     | (go_simp; go_at_call 122; refine (HF.out _).mono ?_; rintro e w5 ⟨b5, rfl, hB5, hK5⟩; go_must (have hW5 := (hW3.non (Keeps.refl Non w3).drew).non hK5; have HP5 := Lib.hid (HP.out _ _ hW5 hB5); have z25 : w5.cell? ⟨wb, 0, none⟩ = some (.pointer (some ⟨g, 0, none⟩)) := hK5.cell z2 id))
     | (go_simp; go_at_call 123; refine HP5.out.mono ?_; rintro e w6 ⟨rfl, hW6, hY6⟩; go_must (have HW6 := Lib.hid hW6; have HY6 := Lib.hid (((Oth.of hk3).trans (Oth.of ((Keeps.refl Non w3).drew.non hK5))).trans hY6))))
   all_goals
     go_wp2_with fail
     go_ret
     exact ⟨rfl, HW6.out, HY6.out⟩
theorem boxes3 (w : World) (a b c : Value) (ta tb tc : TypeId) : Blk (((w.alloc (.cells #[a] ta)).alloc (.cells #[b] tb)).alloc (.cells #[c] tc)) w.heap.size ta #[a] ∧ Blk (((w.alloc (.cells #[a] ta)).alloc (.cells #[b] tb)).alloc (.cells #[c] tc)) (w.heap.size + 1) tb #[b] ∧ Blk (((w.alloc (.cells #[a] ta)).alloc (.cells #[b] tb)).alloc (.cells #[c] tc)) (w.heap.size + 1 + 1) tc #[c] ∧ Keeps Non w (((w.alloc (.cells #[a] ta)).alloc (.cells #[b] tb)).alloc (.cells #[c] tc)) := by
 have h1 := Blk.new w ta #[a]
 have k1 := (Keeps.refl Non w).alloc (.cells #[a] ta)
 obtain ⟨w1, hw1⟩ : ∃ V : World, V = w.alloc (.cells #[a] ta) := ⟨_, rfl⟩
 have z1 : w1.heap.size = w.heap.size + 1 := by rw [hw1]; simp
 rw [← hw1] at h1 k1 ⊢
 have h2 := Blk.new w1 tb #[b]
 have k2 := (Keeps.refl Non w1).alloc (.cells #[b] tb)
 obtain ⟨w2, hw2⟩ : ∃ V : World, V = w1.alloc (.cells #[b] tb) := ⟨_, rfl⟩
 have z2 : w2.heap.size = w.heap.size + 1 + 1 := by rw [hw2]; simp [z1]
 rw [← hw2] at h2 k2 ⊢
 rw [z1] at h2
 have h3 := Blk.new w2 tc #[c]
 have k3 := (Keeps.refl Non w2).alloc (.cells #[c] tc)
 rw [z2] at h3
 exact ⟨(h1.non k2).non k3, h2.non k3, h3, (k1.non k2).non k3⟩
theorem boxes2 (w : World) (a b : Value) (ta tb : TypeId) : Blk ((w.alloc (.cells #[a] ta)).alloc (.cells #[b] tb)) w.heap.size ta #[a] ∧ Blk ((w.alloc (.cells #[a] ta)).alloc (.cells #[b] tb)) (w.heap.size + 1) tb #[b] ∧ Keeps Non w ((w.alloc (.cells #[a] ta)).alloc (.cells #[b] tb)) := by
 have h1 := Blk.new w ta #[a]
 have k1 := (Keeps.refl Non w).alloc (.cells #[a] ta)
 obtain ⟨w1, hw1⟩ : ∃ V : World, V = w.alloc (.cells #[a] ta) := ⟨_, rfl⟩
 have z1 : w1.heap.size = w.heap.size + 1 := by rw [hw1]; simp
 rw [← hw1] at h1 k1 ⊢
 have h2 := Blk.new w1 tb #[b]
 have k2 := (Keeps.refl Non w1).alloc (.cells #[b] tb)
 rw [z1] at h2
 exact ⟨h1.non k2, h2, k1.non k2⟩
theorem Wr.ok {w0 w : World} {g room : Nat} {bs : List UInt8} (h : Wr w0 w g room bs) : Wr w0 (w.setCell ⟨g, 2, none⟩ (.int .i64 0)) g room bs := by
 obtain ⟨A, c, h1, h2, h3, h4, h5, h6⟩ := h
 have hk : Keeps (Only g) w (w.setCell ⟨g, 2, none⟩ (.int .i64 0)) := (Keeps.refl (Only g) _).set (p := ⟨g, 2, none⟩) rfl _
 exact ⟨A, c, h1.set 2 _, h2.keep hk fun q hq e => h3 (by unfold Only at e; exact e ▸ hq), h3, h4, h5, h6.setNew (p := ⟨g, 2, none⟩) h4 _⟩
theorem Wr.cell2 {w0 w : World} {g room : Nat} {bs : List UInt8} (h : Wr w0 w g room bs) : w.cell? ⟨g, 2, none⟩ = some (.int .i64 0) ∧ w.frozen? ⟨g, 2, none⟩ = false := by
 obtain ⟨A, c, h1, -⟩ := h
 exact ⟨h1.cell 2, h1.frozen 2⟩
set_option maxHeartbeats 2000000 in
theorem num42_any {w0 w : World} {g room : Nat} {bs : List UInt8} (h : Wr w0 w g room bs) (n k : Nat) (hk1 : 1 ≤ k) (hk8 : k ≤ 8) (hn : n < 256 ^ k) (hf : bs.length + k ≤ room) (hr : room ≤ 1099511627776) :
   Calls Tryz.prog 69 #[.pointer (some ⟨g, 0, none⟩), .int .u64 (n : Int), .int .i64 (k : Int)] w fun e w' => e = .returned (.tuple #[]) ∧ Wr w0 w' g room (bs ++ le k n) ∧ Oth w w' := by
 have HN := Lib.hid (fun V (hV : Wr w0 V g room bs) kb nb wb a b c => num81_any hV n k kb nb wb hk1 hk8 hn hf hr a b c)
 have HT : Hid (∀ (V : World) (kb nb wb : Nat), Wr w0 V g room bs → Blk V kb 3 #[.int .i64 (k : Int)] → Blk V nb 29 #[.int .u64 (n : Int)] → Blk V wb 158 #[.pointer (some ⟨g, 0, none⟩)] →
     Calls Tryz.prog 119 #[.pointer (some ⟨g, 0, none⟩), .func (.func 120) #[] #[.pointer (some ⟨kb, 0, none⟩), .pointer (some ⟨nb, 0, none⟩), .pointer (some ⟨wb, 0, none⟩)]] V fun e w' => e = .returned (.tuple #[]) ∧ Wr w0 w' g room (bs ++ le k n) ∧ Oth V w') := Lib.hid (by
   intro V kb nb wb hV a b c
   have HN2 := Lib.hid (HN.out V hV kb nb wb a b c)
   obtain ⟨c2, -⟩ := hV.cell2
   go_enter Tryz.func119, Tryz.ntmps119
   go_wp2_with ((go_at_call 120; go_must (refine HN2.out.mono ?_); rintro e w2 ⟨rfl, hW2, hY2⟩; have hc2 := hW2.cell2.1; have hf2 := hW2.cell2.2))
   go_end0
   exact ⟨rfl, hW2.ok, by obtain ⟨A, c, q1, -⟩ := hW2; exact hY2.set q1 2 _⟩)
 obtain ⟨b1, b2, b3, hk⟩ := boxes3 w (.pointer (some ⟨g, 0, none⟩)) (.int .u64 (n : Int)) (.int .i64 (k : Int)) 158 29 3
 go_enter Tryz.func69, Tryz.ntmps69
 go_upto_region 1 with fail
 obtain ⟨w3, hw3⟩ : ∃ V : World, V = ((w.alloc (.cells #[.pointer (some ⟨g, 0, none⟩)] 158)).alloc (.cells #[.int .u64 (n : Int)] 29)).alloc (.cells #[.int .i64 (k : Int)] 3) := ⟨_, rfl⟩
 rw [← hw3] at b1 b2 b3 hk ⊢
 clear hw3
 have HT3 := Lib.hid (HT.out w3 _ _ _ (h.non hk) b3 b2 b1)
 have x1 := one_cell b1
 go_wp2_with ((go_at_call 119; go_must (refine HT3.out.mono ?_); rintro e w4 ⟨rfl, hW4, hY4⟩))
 go_end0
 exact ⟨rfl, hW4, (Oth.of hk).trans hY4⟩
end Go.Proofs.YtolknnmaadkgiaaGreatDoor
