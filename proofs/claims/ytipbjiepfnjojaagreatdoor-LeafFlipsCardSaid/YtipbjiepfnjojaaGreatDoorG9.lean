/- How arguments of any depth are read: 'Rd': these cells read as a value of that type, none of whose slices is longer than a machine reaches. A disk of one power in memory; what only reads of it. A disk is read. -/
import Derived.Test.YtipbjiepfnjojaaGreatDoorG2
import Derived.Lib.SmallJoins
import Derived.Deep.Slices
import Derived.Deep.Fields
import Derived.Deep.Strs
import Derived.Test.YtipbjiepfnjojaaGreatDoorG8
namespace Go.Uc
open Go.RowKit Go.ChangeShapes Go.WideShapes Go.Joins Go.Deep

section
variable {H : Type} (enc : TypeId × Value → H) (P : Program) (w : World) (base : Nat) (held : Bool)
/-- These cells read as a value of the type t. -/
def Rd (t : TypeId) (cs : List Value) : Prop := ∃ fuel x, DataW.trod enc P w base (fun _ => true) held fuel t cs = some x ∧ ∀ m ∈ x.1.weights P t, m ≤ reachBytes
end
/-- Strings, wherever they lie. -/
def StrsAt (w : World) (A : Option Addr) (xs : List ByteArray) : Prop := ∀ i (h : i < xs.length), ∃ ad, A = some ad ∧ w.cell? (ad.add i) = some (.string xs[i])
section
variable {H : Type} {enc : TypeId × Value → H} {P : Program} {w : World} {base : Nat} {held : Bool} {t : TypeId} {cs : List Value}
theorem addr_add_none (b off j : Nat) : (⟨b, off, none⟩ : Addr).add j = ⟨b, off + j, none⟩ := by unfold Addr.add; split <;> simp_all
theorem Rd.int {k : IntKind} (h : Rd enc P w base held t cs) (ht : P.underlying t = some (.int k)) : ∃ n, cs = [.int k n] ∧ (Lit.int k n).wf = true := by
  obtain ⟨fuel, x, h, -⟩ := h
  obtain ⟨n, e, -, hw⟩ := DataW.trod_int ht h
  exact ⟨n, e, hw⟩
theorem Rd.i64 (h : Rd enc P w base held t cs) (ht : P.underlying t = some (.int .i64)) : ∃ n, cs = [.int .i64 n] ∧ -9223372036854775808 ≤ n ∧ n ≤ 9223372036854775807 := by
  obtain ⟨n, e, hw⟩ := h.int ht
  have := bounds_i64 hw
  exact ⟨n, e, this.1, this.2⟩
theorem Rd.string (h : Rd enc P w base held t cs) (ht : P.underlying t = some .string) : ∃ s, cs = [.string s] := by
  obtain ⟨fuel, x, h, -⟩ := h
  obtain ⟨s, e, -⟩ := DataW.trod_string ht h
  exact ⟨s, e⟩
theorem Rd.struct {fs : Array Field} (h : Rd enc P w base held t cs) (ht : P.underlying t = some (.struct fs)) : cs.length = P.cellsOf t ∧
    ∀ (i : Nat) (f : Field), fs[i]? = some f → Rd enc P w base held f.type ((cs.drop f.offset).take (P.cellsOf f.type)) := by
  obtain ⟨fuel, x, h, hw⟩ := h
  obtain ⟨xs, n, -, rfl, hl, hlen, hf⟩ := DataW.trod_struct ht h
  refine ⟨hl, fun i f hi => ?_⟩
  have hi2 : i < fs.size := by
    rcases Nat.lt_or_ge i fs.size with h | h
    · exact h
    · rw [Array.getElem?_eq_none h] at hi; cases hi
  have hx := hf i f hi
  rw [List.getElem?_eq_getElem (by omega)] at hx
  refine ⟨n, xs[i], hx, fun m hm => hw m ?_⟩
  simp only [DataW.weights, ht]
  refine DataW.weights_mem_each (j := i) (t := f.type) (d := xs[i].1) ?_ ?_ m hm
  · rw [List.getElem?_map]
    have : fs.toList[i]? = some f := by simpa using hi
    rw [this]; rfl
  · rw [List.getElem?_map, List.getElem?_eq_getElem (by omega)]; rfl
theorem Rd.slice {e : TypeId} {N : Nat} (h : Rd enc P w base held t cs) (ht : P.underlying t = some (.slice e)) (ce : P.cellsOf e = N) (hN : 0 < N) :
    ∃ A n c, cs = [.slice A n c] ∧ n ≤ c ∧ n * P.bytesOf e ≤ 140737488351232 ∧ ∀ i, i < n → ∃ b off cs', A = some ⟨b, off, none⟩ ∧ cs'.length = N ∧ (∀ j, j < N → w.cell? ⟨b, off + i * N + j, none⟩ = cs'[j]?) ∧ Rd enc P w base held e cs' := by
  obtain ⟨fuel, x, h, hw⟩ := h
  rcases open_slice ht h with ⟨rfl, _⟩ | ⟨a, len, cap, mm, nn, D, Pl, rfl, _, hl, hm, hmm, hx, hi⟩
  · exact ⟨none, 0, 0, rfl, Nat.le_refl _, by omega, fun i hi => absurd hi (by omega)⟩
  · simp only [if_true] at hmm
    subst hmm
    have hx1 : x.1 = .slice ((List.range len).map D) ((List.range (mm - len)).map fun j => D (len + j)) := by rw [hx]
    rw [hx1] at hw
    simp only [DataW.weights, ht] at hw
    have hcap := hw _ (List.mem_cons_self ..)
    simp only [List.length_map, List.length_range, reachBytes] at hcap
    rw [show len + (mm - len) = mm by omega] at hcap
    have h5 : len * P.bytesOf e ≤ mm * P.bytesOf e := Nat.mul_le_mul_right _ (by omega)
    refine ⟨some a, len, mm, rfl, hl, by omega, fun i hin => ?_⟩
    obtain ⟨cs', hc, ht'⟩ := hi i (by omega)
    rw [ce] at hc
    obtain ⟨_, hcl, hat⟩ := World.cells?_some hc
    obtain ⟨b, off, sp⟩ := a
    have hsp : sp = none := by
      obtain ⟨cs0, hc0, _⟩ := hi 0 (by omega)
      rw [ce] at hc0
      obtain ⟨_, hcl0, hat0⟩ := World.cells?_some hc0
      have h00 := hat0 0 (by omega)
      rw [List.getElem?_eq_getElem (by omega)] at h00
      have := World.cell?_spot h00
      simpa [Addr.add] using this
    subst hsp
    have hmem : D i ∈ (List.range len).map D := List.mem_map.2 ⟨i, List.mem_range.2 hin, rfl⟩
    refine ⟨b, off, cs', rfl, hcl, fun j hj => ?_, nn, (D i, Pl i), ht', fun m hm => hw m (List.mem_cons_of_mem _ (List.mem_append_left _ (mem_weightsAll (P := P) (e := e) hmem m hm)))⟩
    have := hat j hj
    rwa [addr_add_none, addr_add_none] at this
theorem Rd.bytes {q : TypeId} (h : Rd enc P w base held t cs) (ht : P.underlying t = some (.slice q)) (hq : P.underlying q = some (.int .u8)) (cq : P.cellsOf q = 1) (bq : P.bytesOf q = 1) :
    ∃ A c bs, cs = [.slice A bs.length c] ∧ At w A bs ∧ bs.length ≤ c ∧ bs.length ≤ 140737488351232 := by
  obtain ⟨A, n, c, rfl, -⟩ := h.slice ht cq (by omega)
  obtain ⟨fuel, x, h, hw⟩ := h
  obtain ⟨bs, rfl, hA, hl, hm⟩ := bytes_open ht hq cq bq h hw
  exact ⟨A, c, bs, rfl, hA, hl, by omega⟩
theorem Rd.strs {q : TypeId} (h : Rd enc P w base held t cs) (ht : P.underlying t = some (.slice q)) (hq : P.underlying q = some .string) (cq : P.cellsOf q = 1) :
    ∃ A c xs, cs = [.slice A xs.length c] ∧ StrsAt w A xs ∧ xs.length ≤ c ∧ xs.length * P.bytesOf q ≤ 140737488351232 := by
  obtain ⟨A, n, c, rfl, hl, hb, he⟩ := h.slice ht cq (by omega)
  have key : ∀ i, i < n → ∃ s ad, A = some ad ∧ w.cell? (ad.add i) = some (.string s) := fun i hi => by
    obtain ⟨b, off, cs', rfl, hcl, hc, hr⟩ := he i hi
    obtain ⟨s, rfl⟩ := hr.string hq
    refine ⟨s, _, rfl, ?_⟩
    rw [addr_add_none]
    have := hc 0 (by omega)
    simpa using this
  have ch : ∀ i, ∃ s, i < n → ∃ ad, A = some ad ∧ w.cell? (ad.add i) = some (.string s) := fun i => by
    by_cases h : i < n
    · obtain ⟨s, hs⟩ := key i h
      exact ⟨s, fun _ => hs⟩
    · exact ⟨ByteArray.empty, fun h' => absurd h' h⟩
  refine ⟨A, c, (List.range n).map fun i => (ch i).choose, by simp, fun i hi => ?_, by simpa using hl, by simpa using hb⟩
  simp at hi
  obtain ⟨ad, h1, h2⟩ := (ch i).choose_spec hi
  exact ⟨ad, h1, by simpa using h2⟩
/-- What each element of a slice reads as, gathered into a list. -/
theorem gather {α : Type} {n : Nat} {Q : Nat → α → Prop} [Inhabited α] (h : ∀ i, i < n → ∃ a, Q i a) : ∃ xs : List α, xs.length = n ∧ ∀ i (hi : i < xs.length), Q i xs[i] := by
  have ch : ∀ i, ∃ a, i < n → Q i a := fun i => by
    by_cases hi : i < n
    · obtain ⟨a, ha⟩ := h i hi
      exact ⟨a, fun _ => ha⟩
    · exact ⟨default, fun h' => absurd h' hi⟩
  refine ⟨(List.range n).map fun i => (ch i).choose, by simp, fun i hi => ?_⟩
  simp at hi
  simpa using (ch i).choose_spec hi
end
end Go.Uc
namespace Go.Proofs.YtipbjiepfnjojaaGreatDoor
set_option maxRecDepth 100000
open Go.RowKit Go.Uc

/-- A write that waits. -/
structure Wt where
  at_ : Nat
  b : List UInt8
  hb : b.length = 128
/-- A disk, and the power that it hangs on. -/
structure Dsk where
  n : Nat
  plat : List UInt8
  now : List UInt8
  waits : List Wt
  left : Int
  off : Bool
def encW (d : Nat) (x : Wt) : List Value := .pointer (some ⟨d, 0, none⟩) :: .int .i64 (x.at_ : Int) :: x.b.map bv
theorem encW_len (d : Nat) (x : Wt) : (encW d x).length = 130 := by simp [encW, x.hb]
theorem encW_one (d : Nat) (x : Wt) : ∀ u ∈ encW d x, u.oneCell' = true := by
  intro u hu
  simp only [encW, List.mem_cons] at hu
  rcases hu with rfl | rfl | hu
  · rfl
  · rfl
  · exact pc_one _ u hu
/-- Where they lie. -/
structure Kb where
  p : Nat
  d : Nat
  pl : Nat
  nw : Nat
  db : Nat
  dc : Nat
/-- What may be. -/
structure Dsk.ok (s : Dsk) : Prop where
  n1 : 1 ≤ s.n
  n2 : s.n ≤ 8192
  pl : s.plat.length = 128 * s.n
  nw : s.now.length = 128 * s.n
  wt : ∀ x ∈ s.waits, x.at_ < s.n
  l1 : -1 ≤ s.left
  l2 : s.left ≤ 9223372036854775807
/-- A disk in memory. -/
structure Dm (w0 w : World) (K : Kb) (s : Dsk) (wv : Sl) : Prop where
  ok : s.ok
  pw : ∃ z, Blk w K.p 94 #[wv.v, .int .i64 s.left, .bool s.off, .int .i64 z, .slice (some ⟨K.db, 0, none⟩) 1 K.dc]
  dk : Blk w K.d 100 #[.pointer (some ⟨K.p, 0, none⟩), .slice (some ⟨K.pl, 0, none⟩) (128 * s.n) (128 * s.n), .slice (some ⟨K.nw, 0, none⟩) (128 * s.n) (128 * s.n), .bool false]
  pl : Blk w K.pl 5 (pc s.plat)
  nw : Blk w K.nw 5 (pc s.now)
  db : ∃ cs, Blk w K.db 35 cs ∧ cs[0]? = some (.pointer (some ⟨K.d, 0, none⟩)) ∧ 1 ≤ K.dc
  wt : RowP w 97 130 (encW K.d) wv.v s.waits
  wn : wv.n = s.waits.length
  ne : K.pl ≠ K.nw
  new : w0.heap.size ≤ K.p ∧ w0.heap.size ≤ K.d ∧ w0.heap.size ≤ K.pl ∧ w0.heap.size ≤ K.nw ∧ w0.heap.size ≤ K.db ∧ ∀ q ∈ own wv.v, w0.heap.size ≤ q
  keep : Keeps Non w0 w
/-- What a call may turn. -/
def Fr (K : Kb) (wv : Sl) (g : Nat) : Prop := g = K.p ∨ g = K.pl ∨ g = K.nw ∨ g ∈ own wv.v
section
variable {w0 w w' : World} {K : Kb} {s : Dsk} {wv : Sl}
theorem Dm.non (h : Dm w0 w K s wv) (hk : Keeps Non w w') : Dm w0 w' K s wv :=
  ⟨h.ok, h.pw.imp fun _ i => i.non hk, h.dk.non hk, h.pl.non hk, h.nw.non hk, h.db.imp fun _ i => ⟨i.1.non hk, i.2⟩, h.wt.non hk, h.wn, h.ne, h.new, h.keep.non hk⟩
/-- All that it lies in is of before. -/
theorem Dm.old (h : Dm w0 w K s wv) {g : Nat} (hg : w.heap.size ≤ g) : ¬ Fr K wv g ∧ g ≠ K.d ∧ g ≠ K.db := by
  obtain ⟨z, hp⟩ := h.pw
  obtain ⟨cs, hd, -⟩ := h.db
  have h1 := hp.lt
  have h2 := h.dk.lt
  have h3 := h.pl.lt
  have h4 := h.nw.lt
  have h5 := hd.lt
  refine ⟨?_, by omega, by omega⟩
  rintro (e | e | e | e)
  · omega
  · omega
  · omega
  · have := RowP.lt h.wt _ e; omega
/-- Blocks of other types are not of it. -/
theorem Dm.free (h : Dm w0 w K s wv) {g t : Nat} {cs : Array Value} (hg : Blk w g t cs) (h1 : t ≠ 94) (h5 : t ≠ 5) (h97 : t ≠ 97) : ¬ Fr K wv g := by
  obtain ⟨z, hp⟩ := h.pw
  rintro (e | e | e | e)
  · exact hg.ne hp h1 e
  · exact hg.ne h.pl h5 e
  · exact hg.ne h.nw h5 e
  · exact own_type h.wt hg h97 e
/-- So do blocks that are of before. -/
theorem Dm.low (h : Dm w0 w K s wv) {g : Nat} (hg : g < w0.heap.size) : ¬ Fr K wv g := by
  obtain ⟨n1, n2, n3, n4, n5, n6⟩ := h.new
  rintro (e | e | e | e)
  · omega
  · omega
  · omega
  · have := n6 _ e; omega
end
set_option maxHeartbeats 1000000 in
theorem sectors52_any {w0 w : World} {K : Kb} {s : Dsk} {wv : Sl} (h : Dm w0 w K s wv) : Calls Tryz.prog 52 #[.pointer (some ⟨K.d, 0, none⟩)] w fun e w' => e = .returned (.int .i64 (s.n : Int)) ∧ w' = w := by
  have c1 : w.cell? ⟨K.d, 1, none⟩ = some (.slice (some ⟨K.pl, 0, none⟩) (128 * s.n) (128 * s.n)) := h.dk.cell 1
  have hq : wrap64 (s.n : Int) = (s.n : Int) := IntWalk.wrap64_in _ (by have := h.ok.n2; exact ⟨by omega, by omega⟩)
  go_enter Tryz.func52, Tryz.ntmps52
  go_wp2_with fail
  go_ret
  exact ⟨by show Ending.returned (.int .i64 (wrap64 (s.n : Int))) = _; rw [hq], rfl⟩
set_option maxHeartbeats 1000000 in
theorem down70_any {w0 w : World} {K : Kb} {s : Dsk} {wv : Sl} (h : Dm w0 w K s wv) : Calls Tryz.prog 70 #[.pointer (some ⟨K.d, 0, none⟩)] w fun e w' => e = .returned (.int .i64 (if s.off then 5 else 0)) ∧ w' = w := by
  obtain ⟨z, hp⟩ := h.pw
  have c0 : w.cell? ⟨K.d, 0, none⟩ = some (.pointer (some ⟨K.p, 0, none⟩)) := h.dk.cell 0
  have c3 : w.cell? ⟨K.d, 3, none⟩ = some (.bool false) := h.dk.cell 3
  have p2 : w.cell? ⟨K.p, 2, none⟩ = some (.bool s.off) := hp.cell 2
  generalize s.off = o at p2 ⊢
  clear h hp
  go_enter Tryz.func70, Tryz.ntmps70
  cases o
  · go_wp2_with fail
    go_ret
    exact ⟨rfl, rfl⟩
  · go_wp2_with fail
    go_ret
    exact ⟨rfl, rfl⟩
set_option maxHeartbeats 1000000 in
theorem sector34_any (v : Value) (b n at_ : Nat) (w : World) (ha : at_ < n) (hn : n ≤ 8192) : Calls Tryz.prog 34 #[v, .slice (some ⟨b, 0, none⟩) (128 * n) (128 * n), .int .i64 (at_ : Int)] w fun e w' => e = .returned (.slice (some ⟨b, 128 * at_, none⟩) 128 (128 * n - 128 * at_)) ∧ w' = w := by
  go_enter Tryz.func34, Tryz.ntmps34
  go_wp2_with fail
  go_ret
  refine ⟨?_, rfl⟩
  show Ending.returned (.slice (some ⟨b, at_ * 128, none⟩) ((at_ + 1) * 128 - at_ * 128) (128 * n - at_ * 128)) = _
  rw [show (at_ + 1) * 128 - at_ * 128 = 128 by omega, Nat.mul_comm at_]
set_option maxHeartbeats 1000000 in
theorem has71_yes {w0 w : World} {K : Kb} {s : Dsk} {wv : Sl} (h : Dm w0 w K s wv) (at_ m : Nat) (ha : at_ + m ≤ s.n) : Calls Tryz.prog 71 #[.pointer (some ⟨K.d, 0, none⟩), .int .i64 (at_ : Int), .int .i64 (m : Int)] w fun e w' => e = .returned (.bool true) ∧ w' = w := by
  have HS := Lib.hid (sectors52_any h)
  have hn := h.ok.n2
  have d1 : decide ((at_ : Int) ≤ (s.n : Int)) = true := decide_eq_true (by omega)
  have d2 : decide ((m : Int) ≤ (s.n : Int) - (at_ : Int)) = true := decide_eq_true (by omega)
  clear h
  generalize s.n = n at *
  go_enter Tryz.func71, Tryz.ntmps71
  go_wp2_with ((go_at_call 52; go_must (refine HS.out.mono ?_); rintro e _ ⟨rfl, rfl⟩))
  go_ret
  exact ⟨rfl, rfl⟩
set_option maxHeartbeats 1000000 in
theorem has71_no {w0 w : World} {K : Kb} {s : Dsk} {wv : Sl} (h : Dm w0 w K s wv) (at_ : Int) (m : Nat) (ha : ¬ (0 ≤ at_ ∧ at_ + m ≤ s.n)) (h1 : -9223372036854775808 ≤ at_) (h2 : at_ ≤ 9223372036854775807) (hm : m ≤ 1099511627776000) : Calls Tryz.prog 71 #[.pointer (some ⟨K.d, 0, none⟩), .int .i64 at_, .int .i64 (m : Int)] w fun e w' => e = .returned (.bool false) ∧ w' = w := by
  have HS := Lib.hid (sectors52_any h)
  have hn := h.ok.n2
  clear h
  generalize s.n = n at *
  by_cases q1 : 0 ≤ at_
  · by_cases q2 : at_ ≤ (n : Int)
    · have d2 : decide ((m : Int) ≤ (n : Int) - at_) = false := decide_eq_false (by omega)
      have d1 : decide (at_ ≤ (n : Int)) = true := decide_eq_true q2
      have d0 : decide (0 ≤ at_) = true := decide_eq_true q1
      go_enter Tryz.func71, Tryz.ntmps71
      go_wp2_with ((go_at_call 52; go_must (refine HS.out.mono ?_); rintro e _ ⟨rfl, rfl⟩))
      go_ret
      exact ⟨rfl, rfl⟩
    · have d1 : decide (at_ ≤ (n : Int)) = false := decide_eq_false q2
      have d0 : decide (0 ≤ at_) = true := decide_eq_true q1
      go_enter Tryz.func71, Tryz.ntmps71
      go_wp2_with ((go_at_call 52; go_must (refine HS.out.mono ?_); rintro e _ ⟨rfl, rfl⟩))
      go_ret
      exact ⟨rfl, rfl⟩
  · have d0 : decide (0 ≤ at_) = false := decide_eq_false q1
    go_enter Tryz.func71, Tryz.ntmps71
    go_wp2_with ((go_at_call 52; go_must (refine HS.out.mono ?_); rintro e _ ⟨rfl, rfl⟩))
    go_ret
    exact ⟨rfl, rfl⟩
end Go.Proofs.YtipbjiepfnjojaaGreatDoor
namespace Go.Proofs.YtipbjiepfnjojaaGreatDoor
set_option maxRecDepth 100000
open Go.RowKit Go.Uc

/-- Sectors of bytes. -/
def secs (L : List UInt8) (at_ m : Nat) : List UInt8 := (L.drop (128 * at_)).take (128 * m)
theorem secs_len {L : List UInt8} {n at_ m : Nat} (hl : L.length = 128 * n) (h : at_ + m ≤ n) : (secs L at_ m).length = 128 * m := by
  unfold secs
  rw [List.length_take, List.length_drop]
  omega
set_option maxHeartbeats 2000000 in
theorem read35_ok {w0 w : World} {K : Kb} {s : Dsk} {wv : Sl} (h : Dm w0 w K s wv) (ho : s.off = false) (at_ m : Nat) (ha : at_ + m ≤ s.n) (hlt : at_ < s.n) :
    Calls Tryz.prog 35 #[.pointer (some ⟨K.d, 0, none⟩), .int .i64 (at_ : Int), .int .i64 (m : Int)] w fun e w' => ∃ b, e = .returned (.tuple #[.slice (some ⟨b, 0, none⟩) (128 * m) (128 * m), .int .i64 0]) ∧ Blk w' b 5 (pc (secs s.now at_ m)) ∧ w.heap.size ≤ b ∧ Keeps Non w w' := by
  have HD : Hid (Calls Tryz.prog 70 #[.pointer (some ⟨K.d, 0, none⟩)] w fun e w' => e = .returned (.int .i64 0) ∧ w' = w) := Lib.hid (by have := down70_any h; rw [ho] at this; exact this)
  have HH := Lib.hid (has71_yes h at_ m ha)
  have hn := h.ok.n2
  have hl := secs_len h.ok.nw ha
  have HZ : Hid ((zeros (128 * m)).take 0 ++ (secs s.now at_ m ++ (zeros (128 * m)).drop (0 + (secs s.now at_ m).length)) = secs s.now at_ m) := Lib.hid (by rw [hl, zeros_drop]; simp [zeros])
  have HA : Hid (∀ V, Keeps Non w V → At V (some ⟨K.nw, at_ * 128, none⟩) (secs s.now at_ m)) := Lib.hid (fun V hV => by
    have := At.dropx (At.blk (h.nw.non hV)) rfl (128 * at_) (128 * m)
    rw [Nat.zero_add, Nat.mul_comm 128 at_] at this
    unfold secs
    rw [Nat.mul_comm 128 at_]
    exact this)
  have HC : Hid (∀ V, Keeps Non w V → V.cell? ⟨K.d, 2, none⟩ = some (.slice (some ⟨K.nw, 0, none⟩) (128 * s.n) (128 * s.n))) := Lib.hid (fun V hV => (h.dk.non hV).cell 2)
  generalize secs s.now at_ m = X at hl HZ HA ⊢
  generalize s.n = n at *
  clear h
  have hne : ¬ 128 * n = at_ * 128 := by omega
  go_enter Tryz.func35, Tryz.ntmps35
  go_upto_region 6 with (first
    | (go_at_call 70; go_must (refine HD.out.mono ?_); rintro e w9 ⟨rfl, hw9⟩; subst w9)
    | (go_at_call 71; go_must (refine HH.out.mono ?_); rintro e w9 ⟨rfl, hw9⟩; subst w9))
  go_upto_region 7 with (at_make; go_must (refine wpList_make_bytes rfl _ _ 55 rfl 5 Tryz.underlying55 info5 .i64 .i64 _ _ (128 * m) rfl rfl (by omega) (by omega) (by omega) ?_); intro w1 hB1 hK1)
  obtain ⟨g, hg⟩ : ∃ g, g = w.heap.size := ⟨_, rfl⟩
  rw [← hg] at hB1 ⊢
  have HG := Lib.hid hg
  clear hg
  have c2 := HC.out w1 hK1
  have hA1 := HA.out w1 hK1
  go_wp2_with ((with_reducible show wpList _ _ _ ({ dst := some 31, op := _, type := _, pos := _, after := _, guard := _ } :: _) _ _); go_must (refine wpList_copy_bytes rfl (.tmp 23) (.tmp 30) 55 55 rfl 5 Tryz.underlying55 infoS5 (some ⟨g, 0, none⟩) (some ⟨K.nw, at_ * 128, none⟩) (128 * m) (128 * m) (128 * n - at_ * 128) (128 * n - at_ * 128) rfl rfl g 0 (zeros (128 * m)) 5 hB1 X (by rw [hl]; show _ = min _ _; omega) (fun _ => rfl) hA1 (by rw [zeros_length, hl]; omega) ?_); intro w3 hB3 hK3)
  go_ret2
  obtain rfl := HG.out
  rw [HZ.out] at hB3
  exact ⟨_, rfl, hB3, Nat.le_refl _, hK1.then hK3 fun i hi e => by unfold Only at e; omega⟩
set_option maxHeartbeats 2000000 in
theorem read35_off {w0 w : World} {K : Kb} {s : Dsk} {wv : Sl} (h : Dm w0 w K s wv) (ho : s.off = true) (a m : Value) :
    Calls Tryz.prog 35 #[.pointer (some ⟨K.d, 0, none⟩), a, m] w fun e w' => e = .returned (.tuple #[.slice none 0 0, .int .i64 5]) ∧ w' = w := by
  have HD : Hid (Calls Tryz.prog 70 #[.pointer (some ⟨K.d, 0, none⟩)] w fun e w' => e = .returned (.int .i64 5) ∧ w' = w) := Lib.hid (by have := down70_any h; rw [ho] at this; exact this)
  go_enter Tryz.func35, Tryz.ntmps35
  go_wp2_with (go_at_call 70; go_must (refine HD.out.mono ?_); rintro e w9 ⟨rfl, hw9⟩; subst w9)
  go_ret2
  exact ⟨rfl, rfl⟩
end Go.Proofs.YtipbjiepfnjojaaGreatDoor
