/- A dictionary that grows while it is read; pages by value. -/
import Derived.Test.YtiieglfpmmhfiaaD27
namespace Go.Uc
open Go.RowKit
section load
variable {P : Program} {ops : Array Oper} {rest : List Oper} {o : Oper} {a : Act} {w : World} {Q : Exit → Act → World → Prop}
theorem run_loadVar_at (w : World) (ad : Addr) (ty : TypeId) (cs : List Value) (d : TypeDesc) (hc : ∀ j v, cs[j]? = some v → w.cell? (ad.add j) = some v)
    (hu : P.underlying ty = some d) (hd : (match d with | .struct _ | .array _ _ => true | _ => false) = true) (hi : (P.info? ty).map (·.size) = some cs.length) :
    (loadVar ty ad).run P w = .ok (.agg cs.toArray) w := by
  have hl : (loadCells ad cs.length).run P w = .ok cs.toArray w := run_loadCells_list (P := P) w ad cs hc
  cases hq : P.info? ty with
  | none => simp [hq] at hi
  | some i =>
    have hs : i.size = cs.length := by simpa [hq] using hi
    have hagg : (isAgg ty).run P w = .ok true w := by
      unfold isAgg
      rw [Sem.run_bind, run_underlying hu w]
      cases d <;> simp_all
    simp [loadVar, Sem.run_bind, hagg, sizeOf, typeInfo, hq, hs, hl]
theorem wp_load_at {K : Act → World → Prop} (ty : TypeId) (x : Operand) (ho : o.op = .load ty x)
    (ad : Addr) (hx : a.eval x = .pointer (some ad)) (cs : List Value) (d : TypeDesc) (hc : ∀ j v, cs[j]? = some v → w.cell? (ad.add j) = some v)
    (hu : P.underlying ty = some d) (hd : (match d with | .struct _ | .array _ _ => true | _ => false) = true) (hi : (P.info? ty).map (·.size) = some cs.length)
    (h : K (a.put o.dst (.agg cs.toArray)) w) : o.wp P a w K Q := by
  unfold Oper.wp execOp
  simp only [ho, hx, Instr.loadAt, Instr.sureAddr, Sem.run_bind, Sem.run_pure, Result.andThen_ok, run_loadVar_at w ad ty cs d hc hu hd hi]
  exact h
/-- A whole array or struct read, wherever it lies. -/
theorem wpList_load_at (hgd : o.guard = none) (ty : TypeId) (x : Operand) (ho : o.op = .load ty x)
    (ad : Addr) (hx : a.eval x = .pointer (some ad)) (cs : List Value) (d : TypeDesc) (hc : ∀ j v, cs[j]? = some v → w.cell? (ad.add j) = some v)
    (hu : P.underlying ty = some d) (hd : (match d with | .struct _ | .array _ _ => true | _ => false) = true) (hi : (P.info? ty).map (·.size) = some cs.length)
    (h : wpList P ops Q rest (a.put o.dst (.agg cs.toArray)) w) : wpList P ops Q (o :: rest) a w :=
  wpList_plain hgd fun _ hK => wp_load_at ty x ho ad hx cs d hc hu hd hi (hK _ _ h)
end load
end Go.Uc
namespace Go.Proofs.Ytiieglfpmmhfiaa
set_option maxRecDepth 100000
open Go.RowKit Go.Uc

/-- A page's cells. -/
def encPg (p : List UInt8) : List Value := ((p ++ zeros 256).take 256).map bv
theorem encPg_len (p : List UInt8) : (encPg p).length = 256 := by simp [encPg, zeros]
theorem encPg_one (p : List UInt8) : ∀ u ∈ encPg p, u.oneCell' = true := by
  intro u hu
  obtain ⟨x, -, rfl⟩ := List.mem_map.1 hu
  rfl
theorem encPg_eq {p : List UInt8} (h : p.length = 256) : encPg p = p.map bv := by
  unfold encPg
  rw [List.take_append_of_le_length (by omega), List.take_of_length_le (by omega)]
/-- Pages by value. -/
abbrev RowPg (w : World) (v : Value) (rs : List (List UInt8)) : Prop := RowP w 96 256 encPg v rs
theorem rowPg_at {w : World} {v : Value} {rs : List (List UInt8)} (h : RowPg w v rs) (h256 : ∀ p ∈ rs, p.length = 256) {i : Nat} (hi : i < rs.length) :
    ∃ g cap, v = .slice (some ⟨g, 0, none⟩) rs.length cap ∧ rs.length ≤ cap ∧ (∀ j, j < 256 → w.cell? ⟨g, i * 256 + j, none⟩ = some (.int .u8 (((rs.getD i []).getD j 0).toNat : Int))) ∧ g < w.heap.size := by
  obtain ⟨g, cap, e, h1, _, h2, h3, h4⟩ := h.at_ encPg_len hi
  refine ⟨g, cap, e, h1, fun j hj => ?_, h4⟩
  have hl := h256 _ (List.getElem_mem hi)
  rw [h2 j hj, encPg_eq hl]
  have : rs.getD i [] = rs[i] := by rw [List.getD_eq_getElem?_getD, List.getElem?_eq_getElem hi]; rfl
  rw [this, List.getElem?_map, List.getElem?_eq_getElem (by omega), List.getD_eq_getElem?_getD, List.getElem?_eq_getElem (by omega)]
  rfl
/-- A dictionary of the call's own. -/
structure Grown (T L : TypeId) (w0 w : World) (g : Nat) (d : Dic) (t l : Sl) (ps : List (Nat × Sl)) : Prop where
  m : DictM T L w g d t l ps
  k : Keeps Non w0 w
  n : ∀ q ∈ foot g t l ps, w0.heap.size ≤ q
section grown
variable {T L : TypeId} {w0 w w' wA w8 : World} {g : Nat} {d : Dic} {t l s8 : Sl} {ps : List (Nat × Sl)}
theorem Grown.non (h : Grown T L w0 w g d t l ps) (hk : Keeps Non w w') : Grown T L w0 w' g d t l ps := ⟨h.m.non hk, h.k.non hk, h.n⟩
theorem Grown.done (h : Grown T L w0 w g d t l ps) {d' : Dic} {t' l' : Sl} {ps' : List (Nat × Sl)} (hm : DictM T L w' g d' t' l' ps') (hk : Keeps (· ∈ foot g t l ps) w w') (hn : ∀ q ∈ foot g t' l' ps', q ∈ foot g t l ps ∨ w.heap.size ≤ q) : Grown T L w0 w' g d' t' l' ps' :=
  ⟨hm, h.k.then hk fun i hi e => by have := h.n i e; omega, fun q hq => by
    rcases hn q hq with e | e
    · exact h.n q e
    · have := h.k.size; omega⟩
/-- Another table, appended to. -/
theorem DictM.tab8 (h : DictM T L w g d t l ps) {T' : List Nat} (hA : Keeps Non w wA) (hO : RowN w8 s8.v T') (hK : Keeps (· ∈ own t.v) wA w8) (hat : s8.v.ownBlock = t.v.ownBlock ∨ s8.v.ownBlock = some wA.heap.size) :
    DictM T L (w8.setCell ⟨g, 2, none⟩ s8.v) g { d with table := T' } s8 l ps ∧ Keeps (· ∈ foot g t l ps) w (w8.setCell ⟨g, 2, none⟩ s8.v) ∧ ∀ q ∈ own s8.v, q ∈ own t.v ∨ w.heap.size ≤ q := by
  have hn := nod_iff.1 h.nod
  have hlow := h.low
  have hsz := hA.size
  have k9 : Keeps (Only g) w8 (w8.setCell ⟨g, 2, none⟩ s8.v) := (Keeps.refl (Only g) _).set (p := ⟨g, 2, none⟩) rfl _
  have h8 : ∀ q ∈ own s8.v, q ∈ own t.v ∨ q = wA.heap.size := fun q hq => by
    rw [mem_own] at hq
    rcases hat with e | e
    · rw [e] at hq; exact .inl (mem_own.2 hq)
    · rw [e] at hq; injection hq with hq; exact .inr hq.symm
  have hg8 : g ∉ own s8.v := fun hq => by
    rcases h8 _ hq with h' | h'
    · exact hn.gt h'
    · have := hlow g foot_g; omega
  have hb9 := ((h.blk.non hA).keep hK hn.gt).set 2 s8.v
  refine ⟨⟨hb9, ?_, ?_, h.len, h.dep, ?_, nod_iff.2 (hn.table fun q hq => ?_)⟩, ?_, fun q hq => ?_⟩
  · exact hO.keep k9 fun q hq e => hg8 (by unfold Only at e; exact e ▸ hq)
  · exact ((h.lvs.non hA).keep hK fun q hq hq' => hn.tl q hq' hq).keep k9 fun q hq e => hn.gl (by unfold Only at e; exact e ▸ hq)
  · intro i hi hi'
    have hm : ∀ q ∈ own ps[i].2.v, q ∈ ents ps := fun q hq => mem_ents.2 ⟨i, hi, hq⟩
    exact (((h.ent i hi hi').non hA).keep hK fun q hq hq' => hn.te q hq' (hm q hq)).keep k9 fun q hq e => hn.ge (by unfold Only at e; exact e ▸ hm q hq)
  · rcases h8 _ hq with h' | h'
    · exact ⟨fun e => hn.gt (e ▸ h'), fun hl => hn.tl _ h' hl, hn.te _ h'⟩
    · have hq' : ∀ x ∈ foot g t l ps, q ≠ x := fun x hx e => by have := hlow x hx; omega
      exact ⟨hq' _ foot_g, fun ht => hq' q (foot_l ht) rfl, fun he => hq' q (mem_foot.2 (.inr (.inr (.inr he)))) rfl⟩
  · have a2 : Keeps (· ∈ foot g t l ps) w w8 := (hA.of_non).trans (hK.mono fun q hq => foot_t hq)
    exact a2.trans (k9.mono fun q e => by unfold Only at e; exact e ▸ foot_g)
  · rcases h8 _ hq with h' | h'
    · exact .inl h'
    · exact .inr (by omega)
theorem Grown.tab8 (h : Grown T L w0 w g d t l ps) {T' : List Nat} (hA : Keeps Non w wA) (hO : RowN w8 s8.v T') (hK : Keeps (· ∈ own t.v) wA w8) (hat : s8.v.ownBlock = t.v.ownBlock ∨ s8.v.ownBlock = some wA.heap.size) :
    Grown T L w0 (w8.setCell ⟨g, 2, none⟩ s8.v) g { d with table := T' } s8 l ps := by
  obtain ⟨h1, h2, h3⟩ := h.m.tab8 hA hO hK hat
  refine h.done h1 h2 fun q hq => ?_
  rcases mem_foot.1 hq with e | e | e | e
  · exact .inl (e ▸ foot_g)
  · rcases h3 q e with e | e
    · exact .inl (foot_t e)
    · exact .inr e
  · exact .inl (foot_l e)
  · exact .inl (mem_foot.2 (.inr (.inr (.inr e))))
theorem Grown.leaf8 {dp : Nat} {b : Sl} {E : List Ent} (h : Grown T L w0 w g d t l ps) (hE : RowE w b.v E) (hb : ∀ q ∈ own b.v, q ∉ foot g t l ps) (hbn : ∀ q ∈ own b.v, w0.heap.size ≤ q) (hA : Keeps Non w wA)
    (hO : RowP w8 L 2 encP s8.v (ps ++ [(dp, b)])) (hK : Keeps (· ∈ own l.v) wA w8) (hat : s8.v.ownBlock = l.v.ownBlock ∨ s8.v.ownBlock = some wA.heap.size) :
    Grown T L w0 (w8.setCell ⟨g, 3, none⟩ s8.v) g { d with leaves := d.leaves ++ [⟨dp, E⟩] } t s8 (ps ++ [(dp, b)]) := by
  obtain ⟨h1, h2, h3⟩ := h.m.snoc hE hb hA hO hK hat
  refine ⟨h1, h.k.then h2 fun i hi e => by have := h.n i e; omega, fun q hq => ?_⟩
  have hz := h.k.size
  rcases mem_foot.1 hq with e | e | e | e
  · exact h.n q (e ▸ foot_g)
  · exact h.n q (foot_t e)
  · rcases h3 q e with e | e
    · exact h.n q (foot_l e)
    · omega
  · rw [ents_snoc, List.mem_append] at e
    rcases e with e | e
    · exact h.n q (mem_foot.2 (.inr (.inr (.inr e))))
    · exact hbn q e
/-- A dictionary just made, with nothing in it. -/
theorem Grown.new (hk : Keeps Non w0 w) (sm : Bool) (dep : Nat) : Grown T L w0 (w.alloc (.cells #[.bool sm, .int .i64 (dep : Int), .slice none 0 0, .slice none 0 0] T)) w.heap.size ⟨sm, dep, [], []⟩ ⟨none, 0, 0⟩ ⟨none, 0, 0⟩ [] := by
  refine ⟨⟨Blk.new w T _, RowP.nil _ _ _ _, RowP.nil _ _ _ _, rfl, fun i h => absurd h (by simp), fun i h => absurd h (by simp), ?_⟩, hk.alloc _, fun q hq => ?_⟩
  · show ([w.heap.size] : List Nat).Nodup
    simp
  · have : q ∈ [w.heap.size] := hq
    rw [List.mem_singleton] at this
    rw [this]
    exact hk.size
end grown
end Go.Proofs.Ytiieglfpmmhfiaa
