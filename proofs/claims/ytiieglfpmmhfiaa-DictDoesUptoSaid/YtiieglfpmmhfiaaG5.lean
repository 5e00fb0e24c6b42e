/- awake. In which order: plainly. An append that fits; clear of one element; Delete. Delete; Drop. Drop; Len. What the dictionary holds, beside a plain list. The document's put and List, plainly. -/
import Derived.Test.YtiieglfpmmhfiaaG4
import Derived.Test.YtiieglfpmmhfiaaD10
import Derived.Laws.MakeOwn
import Derived.Test.YtiieglfpmmhfiaaG2
import Derived.Laws.OwnMore
import Derived.Deep.RegionLaw
import Derived.Test.YtiieglfpmmhfiaaG3
namespace Go.Proofs.Ytiieglfpmmhfiaa
set_option maxRecDepth 100000
open Go.RowKit Go.Uc

def oneD : Dic := ⟨true, 0, [0], [⟨0, [⟨[97], 5⟩]⟩]⟩
theorem kOf_flat {d : Dic} (hd : d.depth = 0) (ht : d.table = [0]) (n : List UInt8) : kOf d n = 0 := by
  unfold kOf plc
  rw [hd, ht, Nat.pow_zero, Nat.mod_one]
  rfl
theorem put_one : putD emptyD [97] 5 = (0, oneD) := by
  have hk : kOf emptyD [97] = 0 := kOf_flat rfl rfl _
  unfold putD
  rw [hk]
  rw [if_neg (by decide), if_neg (by decide), if_neg (by decide)]
  unfold putL
  show outL (if fitE (ins (leafAt emptyD (kOf emptyD [97])).l ⟨[97], 5⟩) = true then some (setL emptyD (kOf emptyD [97]) (ins (leafAt emptyD (kOf emptyD [97])).l ⟨[97], 5⟩)) else _) _ = _
  rw [hk, if_pos (by decide)]
  rfl
theorem put_two : putD oneD [] 5 = (150, oneD) := by unfold putD; rw [if_pos (by decide)]
theorem put_three : putD oneD [97] (-1) = (1, oneD) := by unfold putD; rw [if_neg (by decide), if_pos (by decide)]
theorem one_inv : Inv oneD := by
  have h := ins_inv empty_inv ⟨[97], 5⟩ (by unfold GoodE; decide) (by rw [kOf_flat rfl rfl]; decide)
  rw [kOf_flat (d := emptyD) rfl rfl] at h
  exact h
theorem val_one : val oneD [97] = some 5 := by unfold val; rw [kOf_flat rfl rfl]; rfl
theorem hash_none : v32 (hashB []) = 2166103257 := by kernel_rfl
theorem laid_one : laidB 109 (UInt8.ofNat (leafAt oneD 0).l.length) 0 (leafAt oneD 0).l = [109, 1, 0, 1, 97, 5, 0, 0, 0, 0] ++ zeros 246 := by kernel_rfl
section steps
variable {w : World} {g : Nat} {t l : Sl} {ps : List (Nat × Sl)}
theorem step_one (h : DictM 69 66 w g emptyD t l ps) : Calls Try.prog 9 #[.pointer (some ⟨g, 0, none⟩), .string { data := #[97] }, .int .i64 5] w fun e w' => e = .returned (.int .i64 0) ∧ DoneD 69 66 w g t l ps oneD w' := by
  have := put_any h empty_inv [97] (by decide) 5
  rw [put_one] at this
  exact this
theorem step_two (h : DictM 69 66 w g oneD t l ps) : Calls Try.prog 9 #[.pointer (some ⟨g, 0, none⟩), .string { data := #[] }, .int .i64 5] w fun e w' => e = .returned (.int .i64 150) ∧ DoneD 69 66 w g t l ps oneD w' := by
  have := put_any h one_inv [] (by decide) 5
  rw [put_two] at this
  exact this
theorem step_three (h : DictM 69 66 w g oneD t l ps) : Calls Try.prog 9 #[.pointer (some ⟨g, 0, none⟩), .string { data := #[97] }, .int .i64 (-1)] w fun e w' => e = .returned (.int .i64 1) ∧ DoneD 69 66 w g t l ps oneD w' := by
  have := put_any h one_inv [97] (by decide) (-1)
  rw [put_three] at this
  exact this
theorem step_four (h : DictM 69 66 w g oneD t l ps) : Calls Try.prog 25 #[.pointer (some ⟨g, 0, none⟩), .string { data := #[97] }] w fun e w' => e = .returned (.tuple #[.int .i64 5, .bool true]) ∧ Keeps Non w w' := by
  have := get_any h one_inv.ok [97] (by decide)
  rw [val_one] at this
  exact this
theorem step_five (h : DictM 69 66 w g oneD t l ps) : Calls Try.prog 22 #[.pointer (some ⟨g, 0, none⟩)] w fun e w' => ∃ (ob pb c : Nat), e = .returned (.slice (some ⟨ob, 0, none⟩) 1 1) ∧ Blk w' ob 53 #[.slice (some ⟨pb, 0, none⟩) 256 c] ∧ 256 ≤ c ∧ At w' (some ⟨pb, 0, none⟩) ([109, 1, 0, 1, 97, 5, 0, 0, 0, 0] ++ zeros 246) ∧ Keeps Non w w' := by
  have := pages_small h one_inv.toInv0 rfl
  rw [laid_one] at this
  exact this
theorem step_six (w : World) : Calls Try.prog 16 #[.string { data := #[] }] w fun e w' => e = .returned (.int .u32 2166103257) ∧ w' = w := by
  have := hash_any [] (by decide) w
  rw [hash_none] at this
  exact this
end steps
/-- Nothing of what was there has changed, since the dictionary is new. -/
theorem DoneD.new {w0 w w' : World} {g : Nat} {t l : Sl} {ps : List (Nat × Sl)} {d' : Dic} (h : DoneD 69 66 w g t l ps d' w') (hK : Keeps Non w0 w) (hN : ∀ q ∈ foot g t l ps, w0.heap.size ≤ q) :
    ∃ t2 l2 ps2, DictM 69 66 w' g d' t2 l2 ps2 ∧ Keeps Non w0 w' ∧ ∀ q ∈ foot g t2 l2 ps2, w0.heap.size ≤ q := by
  obtain ⟨t2, l2, ps2, h1, h2, h3⟩ := h
  have hz := hK.size
  refine ⟨t2, l2, ps2, h1, hK.then h2 fun i hi e => ?_, fun q hq => ?_⟩
  · have := hN i e; omega
  · rcases h3 q hq with h' | h'
    · exact hN q h'
    · omega
set_option maxHeartbeats 4000000 in
theorem awake_any (w : World) : Calls Try.prog 7 #[] w fun e w' => e = .returned (.bool true) ∧ Keeps Non w w' := by
  go_enter Try.func7, Try.ntmps7
  go_upto_region 4 with ((go_at_call 8; refine (new_any w).mono ?_; rintro e w1 ⟨g, t1, l1, ps1, rfl, h1, hN1, hK1⟩))
  have H1 := Lib.hid (step_one h1)
  go_upto_region 5 with ((go_at_call 9; refine H1.out.mono ?_; rintro e w2 ⟨rfl, hd2⟩))
  obtain ⟨t2, l2, ps2, h2, hK2, hN2⟩ := hd2.new hK1 hN1
  have H2 := Lib.hid (step_two h2)
  clear hd2 H1 h1 hN1 hK1
  go_upto_region 6 with ((go_at_call 9; refine H2.out.mono ?_; rintro e w3 ⟨rfl, hd3⟩))
  obtain ⟨t3, l3, ps3, h3, hK3, hN3⟩ := hd3.new hK2 hN2
  have H3 := Lib.hid (step_three h3)
  clear hd3 H2 h2 hN2 hK2
  go_upto_region 7 with ((go_at_call 9; refine H3.out.mono ?_; rintro e w4 ⟨rfl, hd4⟩))
  obtain ⟨t4, l4, ps4, h4, hK4, hN4⟩ := hd4.new hK3 hN3
  have H4 := Lib.hid (step_four h4)
  clear hd4 H3 h3 hN3 hK3
  go_upto_region 8 with ((go_at_call 25; refine H4.out.mono ?_; rintro e w5 ⟨rfl, hK5⟩))
  have h5 := h4.non hK5
  have H5 := Lib.hid (step_five h5)
  clear H4 h4
  go_upto_region 9 with ((go_at_call 22; refine H5.out.mono ?_; rintro e w6 ⟨ob, pb, c, rfl, hB6, hc6, hA6, hK6⟩))
  have H6 := Lib.hid (step_six w6)
  have hK06 := (hK4.non hK5).non hK6
  clear H5 h5
  go_upto_region 10 with ((go_at_call 16; refine H6.out.mono ?_; rintro e w7 ⟨rfl, hw7⟩; subst w7))
  clear H6
  have hA10 := hA6.take 10
  have cv : (convert 53 9 (.slice (some ⟨pb, 0, none⟩) 10 c)).run Try.prog w6 = .ok (.string { data := #[109, 1, 0, 1, 97, 5, 0, 0, 0, 0] }) w6 := run_convert_at 53 9 5 Try.underlying53 Try.underlying5 Try.underlying9 _ _ hA10 10 c (by simp)
  have x0 : w6.cell? ⟨ob, 0, none⟩ = some (.slice (some ⟨pb, 0, none⟩) 256 c) := hB6.cell 0
  have hci : (10 : Int) ≤ (c : Int) := by omega
  have hcn : 10 ≤ c := by omega
  clear hA6 hA10 hB6
  go_wp2_with fail
  trace_state
  go_ret
  exact ⟨rfl, hK06⟩
end Go.Proofs.Ytiieglfpmmhfiaa
namespace Go.Uc
open Go.RowKit
section make
variable {P : Program} {ops : Array Oper} {rest : List Oper} {o : Oper} {a : Act} {w : World} {Q : Exit → Act → World → Prop}
def bools (l : List Bool) : Array Value := (l.map Value.bool).toArray
theorem bools_get (l : List Bool) (i : Nat) : (bools l)[i]? = l[i]?.map Value.bool := by simp [bools]
theorem bools_set (l : List Bool) (i : Nat) (b : Bool) : (bools l).setIfInBounds i (.bool b) = bools (l.set i b) := by
  apply Array.ext_getElem?
  intro k
  rw [Array.getElem?_setIfInBounds, bools_get, bools_get, List.getElem?_set]
  have hs : (bools l).size = l.length := by simp [bools]
  by_cases h : i = k
  · subst h
    simp only [if_true, hs]
    by_cases hl : i < l.length
    · simp [hl]
    · simp [hl]
  · simp [h]
/-- 'make([]bool, n)'. -/
theorem wpList_make_bools (hg : o.guard = none) (l c : Operand) (t : TypeId) (hop : o.op = Op.makeSlice t l c)
    (e : TypeId) (h1 : P.underlying t = Option.some (.slice e)) (hi : (P.info? e).map (fun i => (i.zero, i.size, i.bytes)) = Option.some (Option.some (.bool false), 1, 1))
    (kl kc : IntKind) (L C : Int) (n : Nat) (hl : a.eval l = .int kl L) (hc : a.eval c = .int kc C) (hL : L = (n : Int)) (hC : C = (n : Int)) (b2 : n ≤ 70368744177664)
    (hK : ∀ w', Blk w' w.heap.size e (bools (List.replicate n false)) → Keeps Non w w' → wpList P ops Q rest (a.put o.dst (.slice (Option.some ⟨w.heap.size, 0, none⟩) n n)) w') :
    wpList P ops Q (o :: rest) a w := by
  obtain ⟨i, hi0, hz0, hz1, hz2⟩ := info_parts hi
  refine wpList_plain hg fun K hK' => ?_
  subst hL
  subst hC
  have hrun := run_make (P := P) w t e i (.bool false) h1 hi0 hz0 kl kc n n (by omega) (by omega) (by rw [hz2]; omega) (by omega)
  have e1 : madeCells (Value.bool false).cells ((n : Int).toNat * i.size) = bools (List.replicate n false) := by
    rw [hz1]
    apply Array.ext
    · simp [size_madeCells, bools]
    · intro j h1 h2
      simp [madeCells, Value.cells, bools, Nat.mod_one]
  rw [e1] at hrun
  unfold Oper.wp
  simp [execOp, hop, hl, hc, hrun, Result.andThen]
  exact hK' _ _ (hK _ (Blk.new _ _ _) ((Keeps.refl _ _).alloc _))
end make
end Go.Uc
namespace Go.Proofs.Ytiieglfpmmhfiaa
open Go.RowKit Go.Uc

theorem mem_allE {d : Dic} (h : Inv0 d) (e : Ent) : e ∈ allE d.leaves ↔ val d e.name = some e.val := by
  unfold allE
  rw [List.mem_flatMap]
  constructor
  · rintro ⟨x, hx, he⟩
    obtain ⟨k, hk, rfl⟩ := List.getElem_of_mem hx
    rw [← leafAt_get hk] at he
    have hat := h.at_ k hk e he
    unfold val
    rw [hat]
    have hs := h.ok.srt _ (leaf_mem hk)
    generalize (leafAt d k).l = L at he hs
    have hpw : L.Pairwise fun a b => a.name ≠ b.name := hs.imp fun h => lt_ne h
    clear hs hat
    unfold getE
    induction L with
    | nil => simp at he
    | cons y L ih =>
      rw [List.pairwise_cons] at hpw
      rw [List.find?_cons]
      rcases List.mem_cons.1 he with rfl | he
      · simp
      · have := hpw.1 e he
        rw [show (y.name == e.name) = false by simp [this]]
        exact ih he hpw.2
  · intro hv
    have hk := kOf_lt h.ok e.name
    refine ⟨leafAt d (kOf d e.name), leaf_mem hk, ?_⟩
    unfold val getE at hv
    obtain ⟨x, hx, hv⟩ := Option.map_eq_some_iff.1 hv
    have hm := List.mem_of_find?_eq_some hx
    have hn : x.name = e.name := by have := List.find?_some hx; simpa using this
    have e2 := Ent.ext' hn hv
    exact e2 ▸ hm
/-- Put, told apart. -/
theorem putD_cases {d : Dic} (h : Inv d) (n : List UInt8) (v : Int) (h0 : 0 ≤ v) (h1 : v ≤ 2147483647) :
    Inv (putD d n v).2 ∧ (((putD d n v).1 = 152 ∨ nameB n = false) ∧ (putD d n v).2 = d ∨ nameB n = true ∧ ∀ m, val (putD d n v).2 m = if n = m then some v else val d m) := by
  unfold putD
  cases hb : nameB n
  · rw [if_pos rfl]; exact ⟨h, .inl ⟨.inr rfl, rfl⟩⟩
  · rw [if_neg (by simp), if_neg (by omega)]
    have hg : GoodE ⟨n, v⟩ := by unfold nameB at hb; simp at hb; exact ⟨hb.1, hb.2, h0, h1⟩
    by_cases hh : has (leafAt d (kOf d n)).l n = true
    · rw [if_pos hh]
      have hs := h.ok.srt _ (leaf_mem (kOf_lt h.ok n))
      have hf := h.ok.fit _ (leaf_mem (kOf_lt h.ok n))
      have hfi : fitE (ins (leafAt d (kOf d n)).l ⟨n, v⟩) = true := by
        rw [← ins_set hs ⟨n, v⟩ hh]
        obtain ⟨hl, he⟩ := (has_lb hs n).1 hh
        have hr : roomE ((leafAt d (kOf d n)).l.set (lb (leafAt d (kOf d n)).l n) ⟨n, v⟩) = roomE (leafAt d (kOf d n)).l := by
          generalize (leafAt d (kOf d n)).l = L at hl he
          generalize lb L n = i at hl he
          clear hf hs hg hh
          induction L generalizing i with
          | nil => simp at hl
          | cons x L ih =>
            cases i with
            | zero => simp only [List.getElem_cons_zero] at he; simp [roomE, he]
            | succ i =>
              have := ih i (by simpa using hl) (by simpa using he)
              simp only [roomE, List.set_cons_succ, List.map_cons, List.sum_cons] at *
              omega
        unfold fitE at *
        show decide (3 + roomE ((leafAt d (kOf d n)).l.set (lb (leafAt d (kOf d n)).l n) ⟨n, v⟩) ≤ 256) = true
        rw [hr]; exact hf
      exact ⟨ins_inv h ⟨n, v⟩ hg hfi, .inr ⟨rfl, fun m => val_ins h.ok ⟨n, v⟩ m⟩⟩
    · rw [if_neg hh]
      cases hp : putL 8 d ⟨n, v⟩ with
      | none => exact ⟨h, .inl ⟨.inl rfl, rfl⟩⟩
      | some d' =>
        obtain ⟨h2, h3⟩ := putL_inv 8 d ⟨n, v⟩ h hg d' hp
        exact ⟨h2, .inr ⟨rfl, fun m => h3 m⟩⟩
/-- It holds just these names, each with its length. -/
def Cont (S : List UInt8 → Prop) (d : Dic) : Prop := ∀ m v, val d m = some v ↔ nameB m = true ∧ S m ∧ v = (m.length : Int)
theorem cont_empty {S : List UInt8 → Prop} (h : ∀ m, ¬ S m) : Cont S emptyD := fun m v => by rw [val_empty]; constructor; (intro e; cases e); (intro e; exact absurd e.2.1 (h m))
theorem cont_put {S S' : List UInt8 → Prop} {d : Dic} (hi : Inv d) (hc : Cont S d) (n : List UInt8) (hn : n.length ≤ 2147483647 ∨ nameB n = false) (hf : (putD d n n.length).1 ≠ 152) (hS : ∀ m, S' m ↔ S m ∨ m = n) : Cont S' (putD d n n.length).2 := by
  intro m v
  by_cases hb : nameB n = false
  · have : putD d n n.length = (150, d) := by unfold putD; rw [if_pos hb]
    rw [this, hc, hS]
    constructor
    · rintro ⟨a, b, c⟩; exact ⟨a, .inl b, c⟩
    · rintro ⟨a, b | b, c⟩
      · exact ⟨a, b, c⟩
      · subst b; rw [a] at hb; cases hb
  · have hb' : nameB n = true := by simpa using hb
    rcases (putD_cases hi n n.length (by omega) (by rcases hn with h | h; omega; exact absurd h hb)).2 with ⟨h1 | h1, -⟩ | ⟨-, h2⟩
    · exact absurd h1 hf
    · exact absurd h1 hb
    · rw [h2]
      by_cases hm : n = m
      · subst hm
        rw [if_pos rfl, hS]
        constructor
        · intro e; injection e with e; exact ⟨hb', .inr rfl, e.symm⟩
        · rintro ⟨-, -, e⟩; rw [e]
      · rw [if_neg hm, hc, hS]
        constructor
        · rintro ⟨a, b, c⟩; exact ⟨a, .inl b, c⟩
        · rintro ⟨a, b | b, c⟩
          · exact ⟨a, b, c⟩
          · exact absurd b.symm hm
theorem put_inv {d : Dic} (hi : Inv d) (n : List UInt8) : Inv (putD d n n.length).2 := by
  by_cases hb : nameB n = false
  · have : putD d n n.length = (150, d) := by unfold putD; rw [if_pos hb]
    rw [this]; exact hi
  · have hb' : nameB n = true := by simpa using hb
    have : n.length ≤ 24 := by unfold nameB at hb'; simp at hb'; exact hb'.2
    exact (putD_cases hi n n.length (by omega) (by omega)).1
theorem name_or (n : List UInt8) : n.length ≤ 2147483647 ∨ nameB n = false := by
  cases h : nameB n
  · exact .inr rfl
  · unfold nameB at h; simp at h; exact .inl (by omega)
/-- The same names: the same list. -/
theorem same_list {S : List UInt8 → Prop} {d1 d2 : Dic} (h1 : Inv0 d1) (h2 : Inv0 d2) (c1 : Cont S d1) (c2 : Cont S d2) {R1 R2 : List Ent} (l1 : IsList d1 R1) (l2 : IsList d2 R2) : R1 = R2 :=
  srt_unique l1.srt l2.srt fun e => by
    rw [l1.perm.mem_iff, l2.perm.mem_iff, mem_allE h1, mem_allE h2, c1, c2]
/-- The names that are done. -/
def doneS (names : List (List UInt8)) (done : List Bool) (m : List UInt8) : Prop := ∃ j : Nat, done[j]? = some true ∧ names[j]? = some m
theorem doneS_set {names : List (List UInt8)} {done : List Bool} {k : Nat} (hk : k < names.length) (hl : done.length = names.length) (m : List UInt8) : doneS names (done.set k true) m ↔ doneS names done m ∨ m = names[k] := by
  unfold doneS
  constructor
  · rintro ⟨j, h1, h2⟩
    rw [List.getElem?_set] at h1
    by_cases hkj : k = j
    · subst hkj
      right
      rw [List.getElem?_eq_getElem hk] at h2
      injection h2 with h2; exact h2.symm
    · rw [if_neg hkj] at h1; exact .inl ⟨j, h1, h2⟩
  · rintro (⟨j, h1, h2⟩ | rfl)
    · refine ⟨j, ?_, h2⟩
      rw [List.getElem?_set]
      by_cases hkj : k = j
      · subst hkj; rw [if_pos rfl, if_pos (by omega)]
      · rw [if_neg hkj]; exact h1
    · refine ⟨k, ?_, List.getElem?_eq_getElem hk⟩
      rw [List.getElem?_set, if_pos rfl, if_pos (by omega)]
end Go.Proofs.Ytiieglfpmmhfiaa
namespace Go.Uc
open Go.RowKit
section fits
variable {α : Type} {P : Program} {ops : Array Oper} {rest : List Oper} {o : Oper} {a : Act} {w : World} {Q : Exit → Act → World → Prop}
theorem wp_append_fit {K : Act → World → Prop} (s x : Operand) (t : TypeId)
    (ho : o.op = .call { callee := .builtin .append, args := #[s, x], argTypes := #[t, t] })
    (e : TypeId) (k : Nat) (enc : α → List Value) (z : Value) (bytes : Nat) (ht : P.underlying t = some (.slice e)) (hi : (P.info? e).map (fun i => (i.zero, i.size, i.bytes)) = some (some z, k, bytes))
    (hk : 0 < k) (henc : ∀ x, (enc x).length = k) (h1 : ∀ x, ∀ u ∈ enc x, u.oneCell' = true)
    (g cap : Nat) (xs : List α) (n : Nat) (hn : n = xs.length) (hs : a.eval s = .slice (some ⟨g, 0, none⟩) n cap) (hrow : RowP w e k enc (.slice (some ⟨g, 0, none⟩) xs.length cap) xs)
    (A : Option Addr) (m c : Nat) (ys : List α) (hx : a.eval x = .slice A m c) (hm : m = ys.length) (hr : Ats w A (ys.flatMap enc)) (hroom : xs.length + ys.length ≤ cap) (N : Nat) (hN : N = xs.length + ys.length)
    (h : ∀ w', RowP w' e k enc (.slice (some ⟨g, 0, none⟩) N cap) (xs ++ ys) → Keeps (Only g) w w' → K (a.put o.dst (.slice (some ⟨g, 0, none⟩) N cap)) w') : o.wp P a w K Q := by
  obtain ⟨i, hi0, hz0, hz1, hz2⟩ := info_p hi
  subst hm
  subst hn
  subst hN
  have hrun : ∃ w', (Builtin.append_ #[t, t] o.type #[.slice (some ⟨g, 0, none⟩) xs.length cap, .slice A ys.length c]).run P w = .ok (.slice (some ⟨g, 0, none⟩) (xs.length + ys.length) cap) w' ∧
      RowP w' e k enc (.slice (some ⟨g, 0, none⟩) (xs.length + ys.length) cap) (xs ++ ys) ∧ Keeps (Only g) w w' := by
    by_cases hp : 0 < (ys.flatMap enc).length
    · obtain ⟨ad, rfl, hc⟩ := hr hp
      obtain ⟨w', hrun, h2, h3⟩ := run_append_fits (P := P) w 0 t o.type e i k ht hi0 hz1 g xs.length cap (xs.flatMap enc) hrow ad ys.length c (ys.flatMap enc) (flat_len henc ys) hc (fun u hu => by obtain ⟨x, _, hu⟩ := List.mem_flatMap.1 hu; exact h1 x u hu) hroom
      refine ⟨w', hrun, ?_, keeps_grown (v := .slice (some ⟨g, 0, none⟩) xs.length cap) h3 |>.mono fun q hq => ?_⟩
      · unfold RowP
        rw [List.length_append, List.flatMap_append]
        exact h2
      · have : some g = some q := hq
        injection this with e1; exact e1.symm
    · have hy0 : (ys.flatMap enc).length = 0 := by omega
      cases A with
      | none =>
        have hl : ys.length = 0 := by
          rw [flat_len henc] at hy0
          rcases Nat.mul_eq_zero.1 hy0 with h | h
          · exact h
          · omega
        obtain rfl : ys = [] := List.eq_nil_of_length_eq_zero hl
        exact ⟨w, run_append_of_nil 0 t o.type e i k ht hi0 _ xs.length (xs.flatMap enc) hrow c, by simpa using hrow, Keeps.refl _ _⟩
      | some ad =>
        obtain ⟨w', hrun, h2, h3⟩ := run_append_fits (P := P) w 0 t o.type e i k ht hi0 hz1 g xs.length cap (xs.flatMap enc) hrow ad ys.length c (ys.flatMap enc) (flat_len henc ys) (fun j u hj => by have := (List.getElem?_eq_some_iff.1 hj).1; omega) (fun u hu => by obtain ⟨x, _, hu⟩ := List.mem_flatMap.1 hu; exact h1 x u hu) hroom
        refine ⟨w', hrun, ?_, keeps_grown (v := .slice (some ⟨g, 0, none⟩) xs.length cap) h3 |>.mono fun q hq => ?_⟩
        · unfold RowP
          rw [List.length_append, List.flatMap_append]
          exact h2
        · have : some g = some q := hq
          injection this with e1; exact e1.symm
  obtain ⟨w', hrun, h2, h3⟩ := hrun
  unfold Oper.wp execOp
  simp only [ho, resolve, invoke, builtin, Sem.run_bind, Sem.run_pure, Result.andThen_ok, List.map_toArray, List.map_cons, List.map_nil, hs, hx, hrun]
  exact h w' h2 h3
theorem step_append_fit {K : Act → World → Prop} {E : Prop} (hgd : o.guard = none) (s x : Operand) (t : TypeId)
    (ho : o.op = .call { callee := .builtin .append, args := #[s, x], argTypes := #[t, t] })
    (e : TypeId) (k : Nat) (enc : α → List Value) (z : Value) (bytes : Nat) (ht : P.underlying t = some (.slice e)) (hi : (P.info? e).map (fun i => (i.zero, i.size, i.bytes)) = some (some z, k, bytes))
    (hk : 0 < k) (henc : ∀ x, (enc x).length = k) (h1 : ∀ x, ∀ u ∈ enc x, u.oneCell' = true)
    (g cap : Nat) (xs : List α) (n : Nat) (hn : n = xs.length) (hs : a.eval s = .slice (some ⟨g, 0, none⟩) n cap) (hrow : RowP w e k enc (.slice (some ⟨g, 0, none⟩) xs.length cap) xs)
    (A : Option Addr) (m c : Nat) (ys : List α) (hx : a.eval x = .slice A m c) (hm : m = ys.length) (hr : Ats w A (ys.flatMap enc)) (hroom : xs.length + ys.length ≤ cap) (N : Nat) (hN : N = xs.length + ys.length)
    (h : ∀ w', RowP w' e k enc (.slice (some ⟨g, 0, none⟩) N cap) (xs ++ ys) → Keeps (Only g) w w' → K (a.put o.dst (.slice (some ⟨g, 0, none⟩) N cap)) w') :
    if Region.wanted o (yielded ops a.tmps) = true then Oper.wp P o a w K Q else E := by
  have hw : Region.wanted o (yielded ops a.tmps) = true := by simp [Region.wanted, hgd]
  rw [if_pos hw]
  exact wp_append_fit s x t ho e k enc z bytes ht hi hk henc h1 g cap xs n hn hs hrow A m c ys hx hm hr hroom N hN h
/-- 'clear(s)', s of one element. -/
theorem wpList_clear_one (hgd : o.guard = none) (s : Operand) (t : TypeId)
    (ho : o.op = .call { callee := .builtin .clear, args := #[s], argTypes := #[t] }) (e : TypeId) (ht : P.underlying t = some (.slice e)) (z : Value) (hz : ∀ w, (zeroValue e).run P w = .ok z w) (h1 : ∀ u ∈ z.cells, u.oneCell' = true)
    (g off c : Nat) (hs : a.eval s = .slice (some ⟨g, off, none⟩) 1 c) (cur : Array Value) (ty : TypeId) (hg : Blk w g ty cur) (hfit : off + z.cells.size ≤ cur.size)
    (h : ∀ w', Blk w' g ty (cur.toList.take off ++ (z.cells.toList ++ cur.toList.drop (off + z.cells.size))).toArray → Keeps (Only g) w w' → wpList P ops Q rest (a.put o.dst (.tuple #[])) w') : wpList P ops Q (o :: rest) a w := by
  have hzc : (Builtin.zeroCells z.cells 1).toList = z.cells.toList := by
    simp [Builtin.zeroCells]
    apply List.ext_getElem
    · simp
    · intro i h1 h2
      simp at h1 ⊢
      simp only [Nat.mod_eq_of_lt h1]
      exact getElem!_pos z.cells i h1
  have hst := run_storeCells_at (P := P) g off ty z.cells.toList 0 cur w hg (by simpa using hfit) (fun v hv => h1 v (by simpa using hv))
  simp only [Nat.add_zero, Array.length_toList] at hst
  have hrun : (Builtin.clear_ #[t] o.type #[.slice (some ⟨g, off, none⟩) 1 c]).run P w = .ok (.tuple #[]) (w.setRow g (cur.toList.take off ++ z.cells.toList ++ cur.toList.drop (off + z.cells.size)).toArray) := by
    simp [Builtin.clear_, run_underlying ht, hz, hzc, hst]
  refine wpList_plain hgd fun K hK => ?_
  unfold Oper.wp
  simp [execOp, ho, resolve, invoke, builtin, hs, hrun, Result.andThen]
  exact hK _ _ (h _ (hg.row _) (Keeps.row _ _ _))
end fits
/-- A shorter row in the same block. -/
theorem RowP.front {α : Type} {w : World} {e : TypeId} {k : Nat} {enc : α → List Value} {g cap : Nat} {xs : List α} (henc : ∀ x, (enc x).length = k) (h : RowP w e k enc (.slice (some ⟨g, 0, none⟩) xs.length cap) xs) (n : Nat) (hn : n ≤ xs.length) :
    RowP w e k enc (.slice (some ⟨g, 0, none⟩) n cap) (xs.take n) := by
  rcases h.form with ⟨e1, -⟩ | ⟨g', cap', cur, e1, hB, h4, h5, h6, h7⟩
  · cases e1
  injection e1 with e1 _ e2
  injection e1 with e1
  injection e1 with e1
  subst e1 e2
  have hl : (xs.take n).length = n := by simp; omega
  have := RowP.mk (xs := xs.take n) henc hB (by rw [hl]; omega) h5 h6 ?_
  · rw [hl] at this; exact this
  · rw [hl]
    have h8 : n * k ≤ xs.length * k := Nat.mul_le_mul_right _ hn
    have h9 := congrArg (List.take (n * k)) h7
    rw [List.take_take, Nat.min_eq_left h8] at h9
    rw [h9]
    have h10 : xs.flatMap enc = (xs.take n).flatMap enc ++ (xs.drop n).flatMap enc := by rw [← List.flatMap_append, List.take_append_drop]
    rw [h10]
    exact List.take_left' (by rw [flat_len henc, hl])
end Go.Uc
namespace Go.Proofs.Ytiieglfpmmhfiaa
set_option maxRecDepth 100000
open Go.RowKit Go.Uc

set_option maxHeartbeats 4000000 in
theorem delete_any (g cap : Nat) (l : List Ent) (N i : Nat) (hN : l.length = N + 1) (hi : i ≤ N) (hn : N ≤ 1000000000000) (w : World) (h : RowE w (.slice (some ⟨g, 0, none⟩) (N + 1) cap) l) :
    Calls Try.prog 46 #[.slice (some ⟨g, 0, none⟩) ((N + 1 : Nat)) cap, .int .i64 (i : Int), .int .i64 ((i : Int) + 1)] w fun e w' => e = .returned (.slice (some ⟨g, 0, none⟩) N cap) ∧ RowE w' (.slice (some ⟨g, 0, none⟩) N cap) (l.take i ++ l.drop (i + 1)) ∧ Keeps (Only g) w w' := by
  rw [← hN] at h
  obtain ⟨A0, c0, e0, hlc, hcm⟩ := h.val
  injection e0 with e01 e02 e03
  subst e03
  clear e01 e02
  unfold maxLen at hcm
  rw [hN] at hlc
  have hfr := (h.front encE_len i (by omega)).non (Keeps.refl Non w).drew
  obtain ⟨A1, c1, e1, -, hats⟩ := h.ats encE_len
  injection e1 with e11 e12 e13
  subst e11
  clear e12 e13
  have hdr := ats_drop (hats.non (Keeps.refl Non w).drew) (i + 1)
  have hit : (l.take i).length = i := by simp; omega
  have hdl : (l.drop (i + 1)).length = N - i := by simp; omega
  have HIT := Lib.hid hit
  have HDL := Lib.hid hdl
  have hne : ((i : Int) == (i : Int) + 1) = false := beq_eq_false_iff_ne.2 (by omega)
  have hz := zero56
  clear hit hdl hats
  have HNE := Lib.hid hN
  obtain ⟨i1, hi1⟩ : ∃ k, k = i + 1 := ⟨_, rfl⟩
  rw [← hi1] at hdr HDL ⊢
  rw [show (i : Int) + 1 = (i1 : Int) by omega] at hne ⊢
  have HI1 := Lib.hid hi1
  have hib : i1 ≤ N + 1 := by omega
  have hii : i ≤ i1 := by omega
  have hic : i ≤ cap := by omega
  have hibi : (i1 : Int) ≤ (N : Int) + 1 := by omega
  clear hN hi1
  have HA : Hid (Ats w.drew (if cap = i1 then some ⟨g, 0, none⟩ else some ⟨g, i1 * 2, none⟩) ((l.drop i1).flatMap encE)) := Lib.hid (by
    by_cases hc : cap = i1
    · rw [if_pos hc]
      have : l.drop i1 = [] := List.drop_eq_nil_of_le (by rw [HNE.out]; omega)
      rw [this]
      exact fun h => absurd h (by simp)
    · rw [if_neg hc]
      exact fun _ => ⟨_, rfl, hdr⟩)
  clear hdr h
  go_enter Try.func46, Try.ntmps46
  go_upto_region 5 with fail
  go_region_law (first
    | (go_loud (refine step_append_fit (o := ⟨some 26, _, _, _, _, _⟩) rfl (.tmp 22) (.tmp 25) 32 rfl 56 2 encE _ 24 Try.underlying32 info56 (by decide) encE_len encE_one g cap (l.take i) i HIT.out.symm rfl (by rw [HIT.out]; exact hfr) (if cap = i1 then some ⟨g, 0, none⟩ else some ⟨g, i1 * 2, none⟩) (N + 1 - i1) (cap - i1) (l.drop i1) rfl (by rw [HDL.out]; have := HI1.out; omega) HA.out (by rw [HIT.out, HDL.out]; omega) N (by rw [HIT.out, HDL.out]; omega) ?_; intro w2 hO hK2)))
  have hO' : RowE w2 (.slice (some ⟨g, 0, none⟩) N cap) (l.take i ++ l.drop i1) := hO
  have hlen : (l.take i ++ l.drop i1).length = N := by rw [List.length_append, HIT.out, HDL.out]; omega
  rcases hO'.form with ⟨e1, -⟩ | ⟨g', cap', cur, e1, hB, h4, h5, h6, h7⟩
  · cases e1
  injection e1 with e1 e2 e3
  injection e1 with e1
  injection e1 with e1
  subst e1 e3
  clear e2
  rw [hlen] at h7
  have h7' := Lib.hid h7
  have hK2' : Keeps (Only g) w w2 := ((Keeps.refl (Only g) w).drew).trans hK2
  have hcN : ¬ cap = N := by omega
  have hNc : N ≤ cap := by omega
  have hN1 : N ≤ N + 1 := by omega
  have HLEN := Lib.hid hlen
  clear h7 hlen hO hO' hfr hK2 h4 HA
  generalize (if cap = i1 then (some ⟨g, 0, none⟩ : Option Addr) else some ⟨g, i1 * 2, none⟩) = vA
  go_wp2_with ((with_reducible show wpList _ _ _ ({ dst := none, op := Op.call _, type := _, pos := _, after := _, guard := _ } :: _) _ _); go_loud (refine wpList_clear_one (o := ⟨none, _, _, _, _, _⟩) rfl (.tmp 31) 32 rfl 56 Try.underlying32 (.agg #[.string ByteArray.empty, .int .i64 0]) zero56 (by intro u hu; simp [Value.cells] at hu; rcases hu with rfl | rfl <;> rfl) g (N * 2) (cap - N) rfl cur 56 hB (by rw [h6]; show N * 2 + 2 ≤ cap * 2; omega) ?_); intro w3 hB3 hK3)
  go_ret
  have hl3 : (l.take i ++ l.drop i1).length = N := HLEN.out
  refine ⟨rfl, ?_, hK2'.trans hK3⟩
  have hsz : cur.size = cap * 2 := h6
  have := RowP.mk (xs := l.take i ++ l.drop i1) encE_len hB3 (by rw [hl3]; exact hNc) h5 ?_ ?_
  · rw [hl3] at this; exact this
  · simp [Value.cells]
    omega
  · rw [hl3, ← h7'.out]
    simp only
    exact List.take_left' (by simp; omega)
end Go.Proofs.Ytiieglfpmmhfiaa
namespace Go.Proofs.Ytiieglfpmmhfiaa
set_option maxRecDepth 100000
open Go.RowKit Go.Uc

theorem slice_blk {a b n c n' c' : Nat} (h : Value.slice (some ⟨a, 0, none⟩) n c = .slice (some ⟨b, 0, none⟩) n' c') : a = b := by
  injection h with h; injection h with h; injection h
def dropD (d : Dic) (n : List UInt8) : Int × Dic :=
  if has (leafAt d (kOf d n)).l n = true then (0, setL d (kOf d n) (drp (leafAt d (kOf d n)).l n)) else (171, d)
theorem drop_inv {d : Dic} (h : Inv d) (n : List UInt8) : Inv (dropD d n).2 := by
  unfold dropD
  split
  · have hk := kOf_lt h.ok n
    refine setL_inv h _ hk _ (drp_srt (h.ok.srt _ (leaf_mem hk)) n) (fitE_sub List.filter_sublist (h.ok.fit _ (leaf_mem hk))) fun e he => ?_
    exact leaf_good h.toInv0 _ hk e (List.mem_filter.1 he).1
  · exact h
theorem getE_drp (l : List Ent) (n m : List UInt8) : getE (drp l n) m = if n = m then none else getE l m := by
  unfold drp
  by_cases h : n = m
  · subst h
    rw [if_pos rfl]
    unfold getE
    have : (l.filter fun x => x.name != n).find? (fun x => x.name == n) = none := by
      rw [List.find?_eq_none]
      intro x hx hh
      have h1 := (List.mem_filter.1 hx).2
      have h2 : x.name = n := by simpa using hh
      rw [h2] at h1; simp at h1
    rw [this]; rfl
  · rw [if_neg h]
    exact getE_filter (fun a => a != n) l m (by simp; exact fun e => h e.symm)
theorem val_drop {d : Dic} (h : Inv d) (n m : List UInt8) : val (dropD d n).2 m = if n = m then none else val d m := by
  have hk := kOf_lt h.ok n
  unfold dropD
  split
  · show val (setL d (kOf d n) _) m = _
    rw [val_setL _ hk, getE_drp]
    by_cases hn : n = m
    · subst hn; simp
    · rw [if_neg hn, if_neg hn]
      split
      · rename_i e1; unfold val; rw [e1]
      · rfl
  · rename_i hh
    show val d m = _
    by_cases hn : n = m
    · subst hn
      rw [if_pos rfl]
      rw [has_getE] at hh
      unfold val
      cases hg : getE (leafAt d (kOf d n)).l n with
      | none => rfl
      | some v => rw [hg] at hh; exact absurd rfl hh
    · rw [if_neg hn]
theorem drop_code {d : Dic} (n : List UInt8) : (dropD d n).1 = if (val d n).isSome = true then 0 else 171 := by
  unfold dropD val
  rw [has_getE]
  split <;> rfl

set_option maxHeartbeats 4000000 in
theorem drop_any {w : World} {g : Nat} {d : Dic} {t l : Sl} {ps : List (Nat × Sl)} (h : DictM 69 66 w g d t l ps) (ho : Ok d) (n : List UInt8) (hn : n.length ≤ 9223372036854775807) :
    Calls Try.prog 20 #[.pointer (some ⟨g, 0, none⟩), .string (str n)] w fun e w' => e = .returned (.int .i64 (dropD d n).1) ∧ DoneD 69 66 w g t l ps (dropD d n).2 w' := by
  have hkd := kOf_lt ho n
  have hkp : kOf d n < ps.length := by rw [h.len]; exact hkd
  have HO := Lib.hid (of_any h ho n hn)
  obtain ⟨R, hR⟩ : ∃ R, R = dropD d n := ⟨_, rfl⟩
  rw [← hR]
  have HR : Hid (R = if has (leafAt d (kOf d n)).l n = true then (0, setL d (kOf d n) (drp (leafAt d (kOf d n)).l n)) else (171, d)) := Lib.hid hR
  clear hR
  obtain ⟨k, hk⟩ : ∃ k, k = kOf d n := ⟨_, rfl⟩
  rw [← hk] at hkd hkp HO
  have HK := Lib.hid hk
  clear hk
  obtain ⟨lA, lc, hle, -, -⟩ := h.lvs.val
  obtain rfl : l = ⟨lA, ps.length, lc⟩ := by cases l; injection hle with h1 h2 h3; subst h1 h2 h3; rfl
  clear hle
  obtain ⟨bl, cl, e2, -⟩ := rowP_at h.lvs hkp
  injection e2 with e2 e2b e2c
  clear e2b
  subst e2 e2c
  obtain ⟨L, hL⟩ : ∃ L, L = (leafAt d k).l := ⟨_, rfl⟩
  have hLs : Srt L := by rw [hL]; exact ho.srt _ (leaf_mem hkd)
  have hLn : L.length ≤ 50 := by rw [hL]; exact (fitE_len (ho.fit _ (leaf_mem hkd))).1
  have hE : RowE w ps[k].2.v L := by rw [hL, leafAt_get hkd]; exact h.ent k hkp hkd
  have HL := Lib.hid hL
  clear hL
  have HF := Lib.hid (fun W (hW : Keeps Non w W) => find_any ps[k].2.v L n (by omega) hLs W (hE.non hW))
  obtain ⟨eA, ec, hev, hec, -⟩ := hE.val
  rw [hev] at HF
  have HEV := Lib.hid hev
  clear hev
  have HHL := Lib.hid (has_lb hLs n)
  obtain ⟨hb, hhb⟩ : ∃ b, b = has L n := ⟨_, rfl⟩
  have HHB := Lib.hid hhb
  rw [← hhb] at HF
  clear hhb
  go_enter Try.func20, Try.ntmps20
  go_upto_region 2 with ((go_at_call 27; refine HO.out.mono ?_; rintro e _ ⟨⟨b2, hb2, rfl⟩, q2, rfl⟩))
  obtain ⟨w2, hw2⟩ : ∃ W : World, W = w.drewN q2 := ⟨_, rfl⟩
  have hK2 : Keeps Non w w2 := by rw [hw2]; exact (Keeps.refl _ _).drewN q2
  rw [← hw2]
  obtain rfl : b2 = bl := by injection hb2 with e; injection e with e; exact e.symm
  clear hw2 hb2 HO
  have x1 : w2.cell? ⟨b2, k * 2 + 1, none⟩ = some (.slice eA L.length ec) := by
    obtain ⟨b3, _, e3, -, -, x1, -⟩ := rowP_at (h.non hK2).lvs hkp
    injection e3 with e3
    injection e3 with e3
    injection e3 with e3
    rw [e3, x1, HEV.out]
  have HF2 := Lib.hid (HF.out w2 hK2)
  clear HF
  go_upto_if 21 with ((go_at_call 28; refine HF2.out.mono ?_; rintro e w3 ⟨rfl, hK3⟩))
  clear HF2
  have hK23 := hK2.non hK3
  cases hb
  case true =>
    obtain ⟨hlt, hat⟩ := HHL.out.1 HHB.out.symm
    have HRR : Hid (R = (0, setL d k (drp L n))) := Lib.hid (by rw [HR.out, ← HK.out, ← HL.out, if_pos HHB.out.symm])
    have h3 := h.non hK23
    have hE3 := hE.non hK23
    have HDRP : Hid (L.take (lb L n) ++ L.drop (lb L n + 1) = drp L n) := Lib.hid (drp_lb hLs n HHB.out.symm)
    rw [HEV.out] at hE3
    obtain ⟨eb, ecap, ee, -, -, -, -, -⟩ := rowE_at hE3 hlt
    injection ee with e1 e2 e3
    clear e2
    subst e1 e3
    have y1 : w3.cell? ⟨b2, k * 2 + 1, none⟩ = some (.slice (some ⟨eb, 0, none⟩) L.length ec) := hK3.cell x1 id
    obtain ⟨N, hN⟩ : ∃ N, L.length = N + 1 := ⟨L.length - 1, by omega⟩
    have hE3' : RowE w3 (.slice (some ⟨eb, 0, none⟩) (N + 1) ec) L := by rw [← hN]; exact hE3
    have HDel := Lib.hid (delete_any eb ec L N (lb L n) hN (by omega) (by omega) w3 hE3')
    have hbl : (lb L n : Int) ≤ 50 := by omega
    have hebb : b2 ≠ eb := by
      have hn0 := nod_iff.1 h.nod
      rintro rfl
      refine hn0.le _ (by show b2 ∈ [b2]; simp) (mem_ents.2 ⟨k, hkp, ?_⟩)
      rw [HEV.out]; show b2 ∈ [b2]; simp
    rw [hN] at y1
    have HNN := Lib.hid hN
    clear hN hat
    generalize lb L n = at_ at *
    have hwr : IntKind.i64.wrap ((at_ : Int) + 1) = (at_ : Int) + 1 := by rw [IntKind.wrap_i64]; omega
    have hown : ∀ q, q ∈ own ps[k].2.v ↔ q = eb := fun q => by rw [HEV.out]; show q ∈ [eb] ↔ _; simp
    have HOWN := Lib.hid hown
    clear hown
    go_wp2_with ((go_at_call 46; refine HDel.out.mono ?_; rintro e w4 ⟨rfl, hRd, hK4⟩; go_must (have h4l := h3.lvs.keep hK4 (fun q hq e => by unfold Only at e; subst e; exact (nod_iff.1 h.nod).le _ hq (mem_ents.2 ⟨k, hkp, (HOWN.out _).2 rfl⟩)); obtain ⟨b7, _, e7, -, -, z1, zf, -⟩ := rowP_at h4l hkp; have hb7 := (slice_blk e7).symm; rw [hb7] at z1 zf; have zfa := zf (k * 2 + 1))))
    go_ret
    have hkS : Keeps (Only b2) w4 (w4.setCell ⟨b2, k * 2 + 1, none⟩ (.slice (some ⟨eb, 0, none⟩) N ec)) := (Keeps.refl (Only b2) _).set (p := ⟨b2, k * 2 + 1, none⟩) rfl _
    have hk4 : Keeps (· ∈ own ps[k].2.v) w3 w4 := hK4.mono fun q e => by unfold Only at e; exact (HOWN.out q).2 e
    have hRd' : RowE w4 (⟨some ⟨eb, 0, none⟩, N, ec⟩ : Sl).v (drp L n) := by rw [← HDRP.out]; exact hRd
    have hS := h3.setE (dp := ps[k].1) (a := ⟨some ⟨eb, 0, none⟩, N, ec⟩) hkp hk4 hRd' (fun q hq => .inl ((HOWN.out q).2 (by have : q ∈ [eb] := hq; simpa using this))) hkS (rowP_setE h4l hkp)
    rw [h.dep k hkp hkd, ← leafAt_get hkd] at hS
    refine ⟨by rw [HRR.out]; rfl, ?_⟩
    rw [HRR.out]
    have hbf : b2 ∈ foot g t ⟨some ⟨b2, 0, none⟩, ps.length, lc⟩ ps := foot_l (by show b2 ∈ [b2]; simp)
    have hef : ∀ q, q ∈ own ps[k].2.v → q ∈ foot g t ⟨some ⟨b2, 0, none⟩, ps.length, lc⟩ ps := fun q hq => mem_foot.2 (.inr (.inr (.inr (mem_ents.2 ⟨k, hkp, hq⟩))))
    refine ⟨t, _, _, hS, ((hK23.of_non).trans (hk4.mono hef)).trans (hkS.mono fun q e => by unfold Only at e; exact e ▸ hbf), fun q hq => .inl ?_⟩
    rcases mem_foot.1 hq with e | e | e | e
    · exact e ▸ foot_g
    · exact foot_t e
    · exact foot_l e
    · obtain ⟨i, hi, hqi⟩ := mem_ents.1 e
      rw [List.getElem_set] at hqi
      by_cases hik : k = i
      · rw [if_pos hik] at hqi
        exact hef q ((HOWN.out q).2 (by have : q ∈ [eb] := hqi; simpa using this))
      · rw [if_neg hik] at hqi
        exact mem_foot.2 (.inr (.inr (.inr (mem_ents.2 ⟨i, by simpa using hi, hqi⟩))))
  case false =>
    have HRR : Hid (R = (171, d)) := Lib.hid (by rw [HR.out, ← HK.out, ← HL.out, if_neg (by rw [← HHB.out]; simp)])
    go_wp2_with fail
    go_ret
    exact ⟨by rw [HRR.out]; rfl, by rw [HRR.out]; exact h.doneSelf hK23⟩
end Go.Proofs.Ytiieglfpmmhfiaa
namespace Go.Proofs.Ytiieglfpmmhfiaa
open Go.Uc

/-- Put, whatever the value. -/
theorem putD_spec {d : Dic} (h : Inv d) (n : List UInt8) (v : Int) :
    Inv (putD d n v).2 ∧ ((putD d n v).1 = 0 ∧ nameB n = true ∧ (∀ m, val (putD d n v).2 m = if n = m then some v else val d m) ∨ (putD d n v).1 ≠ 0 ∧ (putD d n v).2 = d ∧ ((val d n).isSome = true → nameB n = true → (putD d n v).1 = 1)) := by
  cases hb : nameB n
  · have e : putD d n v = (150, d) := by unfold putD; rw [hb, if_pos rfl]
    rw [e]
    exact ⟨h, .inr ⟨by show (150 : Int) ≠ 0; decide, rfl, fun _ h => by cases h⟩⟩
  · by_cases hv : v < 0 ∨ 2147483647 < v
    · have e : putD d n v = (1, d) := by unfold putD; rw [hb, if_neg (by simp), if_pos hv]
      rw [e]
      exact ⟨h, .inr ⟨by show (1 : Int) ≠ 0; decide, rfl, fun _ _ => rfl⟩⟩
    · obtain ⟨h1, h2⟩ := putD_cases h n v (by omega) (by omega)
      refine ⟨h1, ?_⟩
      have hc : (putD d n v).1 = 0 ∨ (putD d n v = (152, d) ∧ has (leafAt d (kOf d n)).l n ≠ true) := by
        unfold putD
        rw [hb, if_neg (by simp), if_neg hv]
        by_cases hh : has (leafAt d (kOf d n)).l n = true
        · rw [if_pos hh]; exact .inl rfl
        · rw [if_neg hh]
          cases putL 8 d ⟨n, v⟩ with
          | none => exact .inr ⟨rfl, hh⟩
          | some d' => exact .inl rfl
      rcases hc with hc | ⟨hc, hh⟩
      · rcases h2 with ⟨h3 | h3, _⟩ | ⟨_, h3⟩
        · omega
        · rw [hb] at h3; cases h3
        · exact .inl ⟨hc, rfl, h3⟩
      · rw [hc]
        refine .inr ⟨by show (152 : Int) ≠ 0; decide, rfl, fun hi _ => ?_⟩
        rw [has_getE] at hh
        exact absurd hi hh
/-- A list that says what the dictionary holds. -/
structure Same (d : Dic) (l : List Ent) : Prop where
  nod : (l.map (·.name)).Nodup
  mem : ∀ e, e ∈ l ↔ val d e.name = some e.val
/-- Without one name. -/
def but (l : List Ent) (n : List UInt8) : List Ent := l.filter fun e => !(e.name == n)
theorem Same.empty : Same emptyD [] := ⟨by simp, fun e => by rw [val_empty]; simp⟩
theorem nodup_names {l : List Ent} (h : (l.map (·.name)).Nodup) : l.Nodup := by
  unfold List.Nodup at *
  rw [List.pairwise_map] at h
  exact h.imp fun h e => h (by rw [e])
theorem Same.perm {d : Dic} (hi : Inv0 d) {l : List Ent} (h : Same d l) : l.Perm (allE d.leaves) :=
  (List.perm_ext_iff_of_nodup (nodup_names h.nod) (nodup_names (allE_nodup hi))).2 fun e => by rw [h.mem, mem_allE hi]
theorem all_le {d : Dic} (hi : Inv0 d) : (allE d.leaves).length ≤ 1600 := by
  have h1 := allE_len d.leaves fun x hx => (fitE_len (hi.ok.fit x hx)).1
  have h2 := hi.ok.many
  omega
theorem Same.len {d : Dic} (hi : Inv0 d) {l : List Ent} (h : Same d l) : l.length ≤ 1600 := by rw [(h.perm hi).length_eq]; exact all_le hi
theorem Same.was {d : Dic} {l : List Ent} (h : Same d l) (n : List UInt8) : (l.any fun e => e.name == n) = (val d n).isSome := by
  rw [Bool.eq_iff_iff, List.any_eq_true, Option.isSome_iff_exists]
  constructor
  · rintro ⟨e, he, hn⟩
    have hn : e.name = n := by simpa using hn
    exact ⟨e.val, by rw [← hn]; exact (h.mem e).1 he⟩
  · rintro ⟨v, hv⟩
    exact ⟨⟨n, v⟩, (h.mem ⟨n, v⟩).2 hv, by simp⟩
theorem mem_but {l : List Ent} {n : List UInt8} {e : Ent} : e ∈ but l n ↔ e ∈ l ∧ e.name ≠ n := by unfold but; simp
theorem but_nodup {l : List Ent} (h : (l.map (·.name)).Nodup) (n : List UInt8) : ((but l n).map (·.name)).Nodup := List.Nodup.sublist (List.Sublist.map _ List.filter_sublist) h
theorem Same.put {d d' : Dic} {l : List Ent} (h : Same d l) (n : List UInt8) (v : Int) (hv : ∀ m, val d' m = if n = m then some v else val d m) : Same d' (but l n ++ [⟨n, v⟩]) := by
  refine ⟨?_, fun e => ?_⟩
  · rw [List.map_append, List.nodup_append]
    refine ⟨but_nodup h.nod n, by simp, ?_⟩
    intro a ha b hb
    obtain ⟨e, he, rfl⟩ := List.mem_map.1 ha
    simp at hb
    rw [hb]
    exact (mem_but.1 he).2
  · rw [List.mem_append, mem_but, h.mem, List.mem_singleton, hv]
    by_cases hn : n = e.name
    · rw [if_pos hn]
      constructor
      · rintro (⟨_, h2⟩ | rfl)
        · exact absurd hn.symm h2
        · rfl
      · intro e1
        injection e1 with e1
        right
        exact Ent.ext' hn.symm e1.symm
    · rw [if_neg hn]
      constructor
      · rintro (⟨h1, _⟩ | rfl)
        · exact h1
        · exact absurd rfl hn
      · intro h1
        exact .inl ⟨h1, fun e1 => hn e1.symm⟩
theorem Same.drop {d d' : Dic} {l : List Ent} (h : Same d l) (n : List UInt8) (hv : ∀ m, val d' m = if n = m then none else val d m) : Same d' (but l n) := by
  refine ⟨but_nodup h.nod n, fun e => ?_⟩
  rw [mem_but, h.mem, hv]
  by_cases hn : n = e.name
  · rw [if_pos hn]
    constructor
    · rintro ⟨_, h2⟩; exact absurd hn.symm h2
    · intro e1; cases e1
  · rw [if_neg hn]
    exact ⟨fun h => h.1, fun h1 => ⟨h1, fun e1 => hn e1.symm⟩⟩
/-- What holds asks for. -/
structure Held (d : Dic) (l : List Ent) (n : List UInt8) : Prop where
  vals : ∀ e ∈ l, e.name ≠ n → val d e.name = some e.val
  many : (allE d.leaves).length = (but l n).length + (if n = [] then 0 else 1)
theorem val_name {d : Dic} (hi : Inv0 d) {n : List UInt8} {v : Int} (h : val d n = some v) : nameB n = true := by
  have := (mem_allE hi ⟨n, v⟩).2 h
  unfold allE at this
  obtain ⟨x, hx, he⟩ := List.mem_flatMap.1 this
  obtain ⟨k, hk, rfl⟩ := List.getElem_of_mem hx
  rw [← leafAt_get hk] at he
  have hg := hi.good k hk _ he
  unfold nameB
  simp [hg.1, hg.2.1]
/-- Behind one more call of Put. -/
theorem Same.held_put {d d' : Dic} (hi : Inv0 d') {l : List Ent} (h : Same d l) (n : List UInt8) (v : Int) (hn : nameB n = true) (hv : ∀ m, val d' m = if n = m then some v else val d m) : Held d' l n := by
  have h' := h.put n v hv
  refine ⟨fun e he hne => ?_, ?_⟩
  · rw [hv, if_neg fun e1 => hne e1.symm]
    exact (h.mem e).1 he
  · rw [← (h'.perm hi).length_eq, List.length_append]
    rw [if_neg (by rintro rfl; unfold nameB at hn; simp at hn)]
    rfl
theorem Same.held {d : Dic} (hi : Inv0 d) {l : List Ent} (h : Same d l) : Held d l [] := by
  refine ⟨fun e he _ => (h.mem e).1 he, ?_⟩
  rw [← (h.perm hi).length_eq, if_pos rfl]
  have : but l [] = l := by
    unfold but
    rw [List.filter_eq_self]
    intro e he
    have := val_name hi ((h.mem e).1 he)
    have hne : e.name ≠ [] := by intro e1; rw [e1] at this; unfold nameB at this; simp at this
    simp [hne]
  rw [this]
  rfl
end Go.Proofs.Ytiieglfpmmhfiaa
namespace Go.Proofs.Ytiieglfpmmhfiaa
open Go.Uc

/-- One round of put: is it in, and what there is so far. -/
def stepP (e : Ent) (s : Bool × List Ent) (x : Ent) : Bool × List Ent :=
  let s1 := if s.1 = false ∧ lt x.name e.name = false then (true, s.2 ++ [e]) else s
  if x.name = e.name then s1 else (s1.1, s1.2 ++ [x])
def foldP (e : Ent) (l : List Ent) : Bool × List Ent := l.foldl (stepP e) (false, [])
def finP (e : Ent) (s : Bool × List Ent) : List Ent := if s.1 = true then s.2 else s.2 ++ [e]
theorem foldP_succ {l : List Ent} {k : Nat} (hk : k < l.length) (e : Ent) : foldP e (l.take (k + 1)) = stepP e (foldP e (l.take k)) l[k] := by
  unfold foldP
  rw [List.take_succ_eq_append_getElem hk, List.foldl_append]
  rfl
theorem stepP_len (e : Ent) (s : Bool × List Ent) (x : Ent) : (stepP e s x).2.length ≤ s.2.length + 2 := by
  have h : ∀ (s1 : Bool × List Ent), s1.2.length ≤ s.2.length + 1 → (if x.name = e.name then s1 else (s1.1, s1.2 ++ [x])).2.length ≤ s.2.length + 2 := fun s1 h => by
    by_cases h2 : x.name = e.name
    · rw [if_pos h2]; omega
    · rw [if_neg h2]; simp; omega
  unfold stepP
  by_cases h1 : s.1 = false ∧ lt x.name e.name = false
  · rw [if_pos h1]; exact h _ (by simp)
  · rw [if_neg h1]; exact h _ (by omega)
theorem foldP_len (e : Ent) (l : List Ent) : (foldP e l).2.length ≤ 2 * l.length := by
  unfold foldP
  have key : ∀ (l : List Ent) (s : Bool × List Ent), (l.foldl (stepP e) s).2.length ≤ s.2.length + 2 * l.length := by
    intro l
    induction l with
    | nil => intro s; simp
    | cons x l ih =>
      intro s
      rw [List.foldl_cons, List.length_cons]
      have h1 := ih (stepP e s x)
      have h2 := stepP_len e s x
      omega
  have := key l (false, [])
  simpa using this
theorem foldP_true (e : Ent) : ∀ (l acc : List Ent), l.foldl (stepP e) (true, acc) = (true, acc ++ l.filter fun x => !(x.name == e.name)) := by
  intro l
  induction l with
  | nil => intro acc; simp
  | cons x l ih =>
    intro acc
    rw [List.foldl_cons]
    by_cases h : x.name = e.name
    · have : stepP e (true, acc) x = (true, acc) := by unfold stepP; simp [h]
      rw [this, ih, List.filter_cons_of_neg (by simp [h])]
    · have : stepP e (true, acc) x = (true, acc ++ [x]) := by unfold stepP; simp [h]
      rw [this, ih, List.filter_cons_of_pos (by simp [h])]
      simp
theorem foldP_ins (e : Ent) : ∀ (l acc : List Ent), Srt l → finP e (l.foldl (stepP e) (false, acc)) = acc ++ ins l e := by
  intro l
  induction l with
  | nil => intro acc _; simp [finP, ins]
  | cons x l ih =>
    intro acc hs
    unfold Srt at hs
    rw [List.pairwise_cons] at hs
    rw [List.foldl_cons]
    cases hlt : lt x.name e.name
    · have hgt : ∀ y ∈ l, lt e.name y.name = true := fun y hy => by
        have h1 := hs.1 y hy
        cases h2 : lt e.name x.name
        · rw [← lt_tri _ _ hlt h2]; exact h1
        · exact lt_trans h2 h1
      have hf1 : (x :: l).filter (fun y => lt y.name e.name) = [] := by
        rw [List.filter_cons_of_neg (by simp [hlt]), List.filter_eq_nil_iff]
        intro y hy
        rw [lt_asymm (hgt y hy)]; simp
      have hf2 : l.filter (fun y => !(y.name == e.name)) = l := by
        rw [List.filter_eq_self]
        intro y hy
        have := lt_ne (hgt y hy)
        simp
        exact fun h => this h.symm
      have hf3 : l.filter (fun y => lt e.name y.name) = l := by rw [List.filter_eq_self]; exact hgt
      by_cases h : x.name = e.name
      · have : stepP e (false, acc) x = (true, acc ++ [e]) := by simp [stepP, h, lt_irrefl]
        rw [this, foldP_true, hf2]
        unfold finP ins
        rw [hf1, List.filter_cons_of_neg (p := fun y : Ent => lt e.name y.name) (by rw [h, lt_irrefl]; simp), hf3]
        simp
      · have : stepP e (false, acc) x = (true, acc ++ [e] ++ [x]) := by simp [stepP, h, hlt]
        have hx : lt e.name x.name = true := by
          cases h2 : lt e.name x.name
          · exact absurd (lt_tri _ _ hlt h2) h
          · rfl
        rw [this, foldP_true, hf2]
        unfold finP ins
        rw [hf1, List.filter_cons_of_pos (p := fun y : Ent => lt e.name y.name) hx, hf3]
        simp
    · have h : ¬ x.name = e.name := lt_ne hlt
      have : stepP e (false, acc) x = (false, acc ++ [x]) := by simp [stepP, h, hlt]
      rw [this, ih _ hs.2]
      unfold ins
      rw [List.filter_cons_of_pos (p := fun x : Ent => lt x.name e.name) hlt, List.filter_cons_of_neg (p := fun x : Ent => lt e.name x.name) (by rw [lt_asymm hlt]; simp)]
      simp
theorem put_ins {l : List Ent} (hs : Srt l) (e : Ent) : finP e (foldP e l) = ins l e := by
  have := foldP_ins e l [] hs
  rw [List.nil_append] at this
  exact this
/-- All entries, put one by one. -/
def listI (L : List Ent) : List Ent := L.foldl ins []
theorem listI_succ {l : List Ent} {k : Nat} (hk : k < l.length) : listI (l.take (k + 1)) = ins (listI (l.take k)) l[k] := by
  unfold listI
  rw [List.take_succ_eq_append_getElem hk, List.foldl_append]
  rfl
theorem ins_perm {l : List Ent} (hs : Srt l) (e : Ent) (h : has l e.name = false) : (ins l e).Perm (e :: l) := by
  rw [← ins_mid hs e h]
  refine List.perm_middle.trans ?_
  rw [List.take_append_drop]
theorem foldI (L : List Ent) : ∀ acc, Srt acc → ((acc ++ L).map (·.name)).Nodup → Srt (L.foldl ins acc) ∧ (L.foldl ins acc).Perm (acc ++ L) := by
  induction L with
  | nil => intro acc hs _; simp only [List.foldl_nil, List.append_nil]; exact ⟨hs, List.Perm.refl _⟩
  | cons e L ih =>
    intro acc hs hn
    rw [List.foldl_cons]
    have hno : has acc e.name = false := by
      rw [List.map_append, List.nodup_append] at hn
      cases h : has acc e.name
      · rfl
      · obtain ⟨x, hx, he⟩ := List.any_eq_true.1 h
        have he : x.name = e.name := by simpa using he
        exact absurd he (hn.2.2 x.name (List.mem_map.2 ⟨x, hx, rfl⟩) e.name (by simp))
    have hp := ins_perm hs e hno
    have hp2 : (ins acc e ++ L).Perm (acc ++ e :: L) := (List.Perm.append_right L hp).trans (List.perm_middle (l₁ := acc) (l₂ := L) (a := e)).symm
    obtain ⟨h1, h2⟩ := ih (ins acc e) (ins_srt hs e) ((List.Perm.map _ hp2).nodup_iff.2 hn)
    exact ⟨h1, h2.trans hp2⟩
theorem listI_is {d : Dic} (h : Inv0 d) : IsList d (listI (allE d.leaves)) := by
  obtain ⟨h1, h2⟩ := foldI (allE d.leaves) [] List.Pairwise.nil (by simpa using allE_nodup h)
  rw [List.nil_append] at h2
  exact ⟨h2, h1⟩
theorem isList_eq {d : Dic} {R R' : List Ent} (h : IsList d R) (h' : IsList d R') : R = R' := srt_unique h.srt h'.srt fun e => by rw [h.perm.mem_iff, h'.perm.mem_iff]
end Go.Proofs.Ytiieglfpmmhfiaa
