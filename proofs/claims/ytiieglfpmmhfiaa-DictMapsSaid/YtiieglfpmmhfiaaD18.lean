/- In which order: plainly. -/
import Derived.Test.YtiieglfpmmhfiaaD17
import Derived.Laws.MakeOwn
namespace Go.Uc
open Go.RowKit
section make
variable {P : Program} {ops : Array Oper} {rest : List Oper} {o : Oper} {a : Act} {w : World} {Q : Exit → Act → World → Prop}
def bools (l : List Bool) : Array Value := (l.map Value.bool).toArray
theorem bools_get (l : List Bool) (i : Nat) : (bools l)[i]? = l[i]?.map Value.bool := by simp [bools]
theorem bools_set (l : List Bool) (i : Nat) (b : Bool) : (bools l).setIfInBounds i (.bool b) = bools (l.set i b) := by
  apply Array.ext_getElem?
  intro k
  rw [Array.getElem?_setIfInBounds, bools_get, bools_get, List.getElem?_set]
  have hs : (bools l).size = l.length := by simp [bools]
  by_cases h : i = k
  · subst h
    simp only [if_true, hs]
    by_cases hl : i < l.length
    · simp [hl]
    · simp [hl]
  · simp [h]
/-- 'make([]bool, n)'. -/
theorem wpList_make_bools (hg : o.guard = none) (l c : Operand) (t : TypeId) (hop : o.op = Op.makeSlice t l c)
    (e : TypeId) (h1 : P.underlying t = Option.some (.slice e)) (hi : (P.info? e).map (fun i => (i.zero, i.size, i.bytes)) = Option.some (Option.some (.bool false), 1, 1))
    (kl kc : IntKind) (L C : Int) (n : Nat) (hl : a.eval l = .int kl L) (hc : a.eval c = .int kc C) (hL : L = (n : Int)) (hC : C = (n : Int)) (b2 : n ≤ 70368744177664)
    (hK : ∀ w', Blk w' w.heap.size e (bools (List.replicate n false)) → Keeps Non w w' → wpList P ops Q rest (a.put o.dst (.slice (Option.some ⟨w.heap.size, 0, none⟩) n n)) w') :
    wpList P ops Q (o :: rest) a w := by
  obtain ⟨i, hi0, hz0, hz1, hz2⟩ := info_parts hi
  refine wpList_plain hg fun K hK' => ?_
  subst hL
  subst hC
  have hrun := run_make (P := P) w t e i (.bool false) h1 hi0 hz0 kl kc n n (by omega) (by omega) (by rw [hz2]; omega) (by omega)
  have e1 : madeCells (Value.bool false).cells ((n : Int).toNat * i.size) = bools (List.replicate n false) := by
    rw [hz1]
    apply Array.ext
    · simp [size_madeCells, bools]
    · intro j h1 h2
      simp [madeCells, Value.cells, bools, Nat.mod_one]
  rw [e1] at hrun
  unfold Oper.wp
  simp [execOp, hop, hl, hc, hrun, Result.andThen]
  exact hK' _ _ (hK _ (Blk.new _ _ _) ((Keeps.refl _ _).alloc _))
end make
end Go.Uc
namespace Go.Proofs.Ytiieglfpmmhfiaa
open Go.RowKit Go.Uc

theorem mem_allE {d : Dic} (h : Inv0 d) (e : Ent) : e ∈ allE d.leaves ↔ val d e.name = some e.val := by
  unfold allE
  rw [List.mem_flatMap]
  constructor
  · rintro ⟨x, hx, he⟩
    obtain ⟨k, hk, rfl⟩ := List.getElem_of_mem hx
    rw [← leafAt_get hk] at he
    have hat := h.at_ k hk e he
    unfold val
    rw [hat]
    have hs := h.ok.srt _ (leaf_mem hk)
    generalize (leafAt d k).l = L at he hs
    have hpw : L.Pairwise fun a b => a.name ≠ b.name := hs.imp fun h => lt_ne h
    clear hs hat
    unfold getE
    induction L with
    | nil => simp at he
    | cons y L ih =>
      rw [List.pairwise_cons] at hpw
      rw [List.find?_cons]
      rcases List.mem_cons.1 he with rfl | he
      · simp
      · have := hpw.1 e he
        rw [show (y.name == e.name) = false by simp [this]]
        exact ih he hpw.2
  · intro hv
    have hk := kOf_lt h.ok e.name
    refine ⟨leafAt d (kOf d e.name), leaf_mem hk, ?_⟩
    unfold val getE at hv
    obtain ⟨x, hx, hv⟩ := Option.map_eq_some_iff.1 hv
    have hm := List.mem_of_find?_eq_some hx
    have hn : x.name = e.name := by have := List.find?_some hx; simpa using this
    have e2 := Ent.ext' hn hv
    exact e2 ▸ hm
/-- Put, told apart. -/
theorem putD_cases {d : Dic} (h : Inv d) (n : List UInt8) (v : Int) (h0 : 0 ≤ v) (h1 : v ≤ 2147483647) :
    Inv (putD d n v).2 ∧ (((putD d n v).1 = 152 ∨ nameB n = false) ∧ (putD d n v).2 = d ∨ nameB n = true ∧ ∀ m, val (putD d n v).2 m = if n = m then some v else val d m) := by
  unfold putD
  cases hb : nameB n
  · rw [if_pos rfl]; exact ⟨h, .inl ⟨.inr rfl, rfl⟩⟩
  · rw [if_neg (by simp), if_neg (by omega)]
    have hg : GoodE ⟨n, v⟩ := by unfold nameB at hb; simp at hb; exact ⟨hb.1, hb.2, h0, h1⟩
    by_cases hh : has (leafAt d (kOf d n)).l n = true
    · rw [if_pos hh]
      have hs := h.ok.srt _ (leaf_mem (kOf_lt h.ok n))
      have hf := h.ok.fit _ (leaf_mem (kOf_lt h.ok n))
      have hfi : fitE (ins (leafAt d (kOf d n)).l ⟨n, v⟩) = true := by
        rw [← ins_set hs ⟨n, v⟩ hh]
        obtain ⟨hl, he⟩ := (has_lb hs n).1 hh
        have hr : roomE ((leafAt d (kOf d n)).l.set (lb (leafAt d (kOf d n)).l n) ⟨n, v⟩) = roomE (leafAt d (kOf d n)).l := by
          generalize (leafAt d (kOf d n)).l = L at hl he
          generalize lb L n = i at hl he
          clear hf hs hg hh
          induction L generalizing i with
          | nil => simp at hl
          | cons x L ih =>
            cases i with
            | zero => simp only [List.getElem_cons_zero] at he; simp [roomE, he]
            | succ i =>
              have := ih i (by simpa using hl) (by simpa using he)
              simp only [roomE, List.set_cons_succ, List.map_cons, List.sum_cons] at *
              omega
        unfold fitE at *
        show decide (3 + roomE ((leafAt d (kOf d n)).l.set (lb (leafAt d (kOf d n)).l n) ⟨n, v⟩) ≤ 256) = true
        rw [hr]; exact hf
      exact ⟨ins_inv h ⟨n, v⟩ hg hfi, .inr ⟨rfl, fun m => val_ins h.ok ⟨n, v⟩ m⟩⟩
    · rw [if_neg hh]
      cases hp : putL 8 d ⟨n, v⟩ with
      | none => exact ⟨h, .inl ⟨.inl rfl, rfl⟩⟩
      | some d' =>
        obtain ⟨h2, h3⟩ := putL_inv 8 d ⟨n, v⟩ h hg d' hp
        exact ⟨h2, .inr ⟨rfl, fun m => h3 m⟩⟩
/-- It holds just these names, each with its length. -/
def Cont (S : List UInt8 → Prop) (d : Dic) : Prop := ∀ m v, val d m = some v ↔ nameB m = true ∧ S m ∧ v = (m.length : Int)
theorem cont_empty {S : List UInt8 → Prop} (h : ∀ m, ¬ S m) : Cont S emptyD := fun m v => by rw [val_empty]; constructor; (intro e; cases e); (intro e; exact absurd e.2.1 (h m))
theorem cont_put {S S' : List UInt8 → Prop} {d : Dic} (hi : Inv d) (hc : Cont S d) (n : List UInt8) (hn : n.length ≤ 2147483647 ∨ nameB n = false) (hf : (putD d n n.length).1 ≠ 152) (hS : ∀ m, S' m ↔ S m ∨ m = n) : Cont S' (putD d n n.length).2 := by
  intro m v
  by_cases hb : nameB n = false
  · have : putD d n n.length = (150, d) := by unfold putD; rw [if_pos hb]
    rw [this, hc, hS]
    constructor
    · rintro ⟨a, b, c⟩; exact ⟨a, .inl b, c⟩
    · rintro ⟨a, b | b, c⟩
      · exact ⟨a, b, c⟩
      · subst b; rw [a] at hb; cases hb
  · have hb' : nameB n = true := by simpa using hb
    rcases (putD_cases hi n n.length (by omega) (by rcases hn with h | h; omega; exact absurd h hb)).2 with ⟨h1 | h1, -⟩ | ⟨-, h2⟩
    · exact absurd h1 hf
    · exact absurd h1 hb
    · rw [h2]
      by_cases hm : n = m
      · subst hm
        rw [if_pos rfl, hS]
        constructor
        · intro e; injection e with e; exact ⟨hb', .inr rfl, e.symm⟩
        · rintro ⟨-, -, e⟩; rw [e]
      · rw [if_neg hm, hc, hS]
        constructor
        · rintro ⟨a, b, c⟩; exact ⟨a, .inl b, c⟩
        · rintro ⟨a, b | b, c⟩
          · exact ⟨a, b, c⟩
          · exact absurd b.symm hm
theorem put_inv {d : Dic} (hi : Inv d) (n : List UInt8) : Inv (putD d n n.length).2 := by
  by_cases hb : nameB n = false
  · have : putD d n n.length = (150, d) := by unfold putD; rw [if_pos hb]
    rw [this]; exact hi
  · have hb' : nameB n = true := by simpa using hb
    have : n.length ≤ 24 := by unfold nameB at hb'; simp at hb'; exact hb'.2
    exact (putD_cases hi n n.length (by omega) (by omega)).1
theorem name_or (n : List UInt8) : n.length ≤ 2147483647 ∨ nameB n = false := by
  cases h : nameB n
  · exact .inr rfl
  · unfold nameB at h; simp at h; exact .inl (by omega)
/-- The same names: the same list. -/
theorem same_list {S : List UInt8 → Prop} {d1 d2 : Dic} (h1 : Inv0 d1) (h2 : Inv0 d2) (c1 : Cont S d1) (c2 : Cont S d2) {R1 R2 : List Ent} (l1 : IsList d1 R1) (l2 : IsList d2 R2) : R1 = R2 :=
  srt_unique l1.srt l2.srt fun e => by
    rw [l1.perm.mem_iff, l2.perm.mem_iff, mem_allE h1, mem_allE h2, c1, c2]
/-- The names that are done. -/
def doneS (names : List (List UInt8)) (done : List Bool) (m : List UInt8) : Prop := ∃ j : Nat, done[j]? = some true ∧ names[j]? = some m
theorem doneS_set {names : List (List UInt8)} {done : List Bool} {k : Nat} (hk : k < names.length) (hl : done.length = names.length) (m : List UInt8) : doneS names (done.set k true) m ↔ doneS names done m ∨ m = names[k] := by
  unfold doneS
  constructor
  · rintro ⟨j, h1, h2⟩
    rw [List.getElem?_set] at h1
    by_cases hkj : k = j
    · subst hkj
      right
      rw [List.getElem?_eq_getElem hk] at h2
      injection h2 with h2; exact h2.symm
    · rw [if_neg hkj] at h1; exact .inl ⟨j, h1, h2⟩
  · rintro (⟨j, h1, h2⟩ | rfl)
    · refine ⟨j, ?_, h2⟩
      rw [List.getElem?_set]
      by_cases hkj : k = j
      · subst hkj; rw [if_pos rfl, if_pos (by omega)]
      · rw [if_neg hkj]; exact h1
    · refine ⟨k, ?_, List.getElem?_eq_getElem hk⟩
      rw [List.getElem?_set, if_pos rfl, if_pos (by omega)]
end Go.Proofs.Ytiieglfpmmhfiaa
