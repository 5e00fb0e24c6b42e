/- Pages in memory. -/
import Derived.Test.YtiieglfpmmhfiaaD16
namespace Go.Proofs.Ytiieglfpmmhfiaa
set_option maxRecDepth 100000
open Go.RowKit Go.Uc

theorem info53 : (Try.prog.info? 53).map (fun i => (i.zero, i.size, i.bytes)) = some (some (.slice none 0 0), 1, 24) := by kernel_rfl
def encS (s : Sl) : List Value := [s.v]
theorem encS_len (s : Sl) : (encS s).length = 1 := rfl
theorem encS_one (s : Sl) : ∀ u ∈ encS s, u.oneCell' = true := by intro u hu; simp [encS] at hu; subst hu; rfl
/-- The root's page. -/
def rootB (d : Dic) : List UInt8 := pad ([114, UInt8.ofNat d.depth] ++ d.table.map fun x => UInt8.ofNat (x + 1))
def leafB (x : Leaf) : List UInt8 := laidB 108 (UInt8.ofNat x.depth) (UInt8.ofNat x.l.length) x.l
/-- The pages of a dictionary. -/
def pagesD (d : Dic) : List (List UInt8) :=
  if d.small = true then [laidB 109 (UInt8.ofNat (leafAt d 0).l.length) 0 (leafAt d 0).l] else rootB d :: d.leaves.map leafB
/-- The blocks of pages. -/
def footS (o : Sl) (ss : List Sl) : List Nat := own o.v ++ ss.flatMap fun s => own s.v
/-- A row of pages, each in memory of its own. -/
structure PgM (w : World) (o : Sl) (ss : List Sl) (bs : List (List UInt8)) : Prop where
  row : RowP w 53 1 encS o.v ss
  len : ss.length = bs.length
  pg : ∀ i (h : i < ss.length) (h' : i < bs.length), RowU w ss[i].v bs[i]
  nod : (footS o ss).Nodup
theorem mem_footS {o : Sl} {ss : List Sl} {q : Nat} : q ∈ footS o ss ↔ q ∈ own o.v ∨ ∃ i, ∃ h : i < ss.length, q ∈ own ss[i].v := by
  unfold footS
  rw [List.mem_append, List.mem_flatMap]
  refine or_congr Iff.rfl ⟨?_, ?_⟩
  · rintro ⟨s, hs, hq⟩
    obtain ⟨i, hi, rfl⟩ := List.getElem_of_mem hs
    exact ⟨i, hi, hq⟩
  · rintro ⟨i, hi, hq⟩
    exact ⟨_, List.getElem_mem hi, hq⟩
section pgm
variable {w w' : World} {o : Sl} {ss : List Sl} {bs : List (List UInt8)}
theorem PgM.keep {S : Nat → Prop} (h : PgM w o ss bs) (hk : Keeps S w w') (hS : ∀ q ∈ footS o ss, ¬ S q) : PgM w' o ss bs :=
  ⟨h.row.keep hk fun q hq => hS q (mem_footS.2 (.inl hq)), h.len, fun i hi hi' => (h.pg i hi hi').keep hk fun q hq => hS q (mem_footS.2 (.inr ⟨i, hi, hq⟩)), h.nod⟩
theorem PgM.non (h : PgM w o ss bs) (hk : Keeps Non w w') : PgM w' o ss bs := h.keep hk fun _ _ e => e
theorem PgM.low (h : PgM w o ss bs) : ∀ q ∈ footS o ss, q < w.heap.size := by
  intro q hq
  rcases mem_footS.1 hq with e | ⟨i, hi, e⟩
  · exact h.row.lt q e
  · exact (h.pg i hi (by have := h.len; omega)).lt q e
/-- One more page. -/
theorem PgM.snoc {wA w8 : World} {s o8 : Sl} {b : List UInt8} (h : PgM w o ss bs) (hs : RowU w s.v b) (hn : ∀ q ∈ own s.v, q ∉ footS o ss) (hA : Keeps Non w wA)
    (hO : RowP w8 53 1 encS o8.v (ss ++ [s])) (hK : Keeps (· ∈ own o.v) wA w8) (hat : o8.v.ownBlock = o.v.ownBlock ∨ o8.v.ownBlock = some wA.heap.size) : PgM w8 o8 (ss ++ [s]) (bs ++ [b]) := by
  have hz := hA.size
  have hlow := h.low
  have hslt := hs.lt
  have hnd : (own o.v ++ ss.flatMap fun s => own s.v).Nodup := h.nod
  rw [List.nodup_append] at hnd
  obtain ⟨-, n2, n3⟩ := hnd
  have h8 : ∀ q ∈ own o8.v, q ∈ own o.v ∨ q = wA.heap.size := fun q hq => by
    rw [mem_own] at hq
    rcases hat with e | e
    · rw [e] at hq; exact .inl (mem_own.2 hq)
    · rw [e] at hq; injection hq with hq; exact .inr hq.symm
  have hp : ∀ i (hi : i < ss.length) q, q ∈ own ss[i].v → q ∈ ss.flatMap fun s => own s.v := fun i hi q hq => List.mem_flatMap.2 ⟨_, List.getElem_mem hi, hq⟩
  refine ⟨hO, by simp [h.len], fun i hi hi' => ?_, ?_⟩
  · simp only [List.length_append, List.length_singleton] at hi hi'
    rcases Nat.lt_or_ge i ss.length with hlt | hge
    · have hlt' : i < bs.length := by rw [← h.len]; exact hlt
      simp only [List.getElem_append_left hlt, List.getElem_append_left hlt']
      exact ((h.pg i hlt hlt').non hA).keep hK fun q hq hq' => n3 q hq' q (hp i hlt q hq) rfl
    · obtain rfl : i = ss.length := by omega
      rw [List.getElem_append_right (Nat.le_refl _), List.getElem_append_right (by rw [h.len]; exact Nat.le_refl _)]
      simp only [Nat.sub_self, List.getElem_cons_zero, h.len]
      exact (hs.non hA).keep hK fun q hq hq' => hn q hq (mem_footS.2 (.inl hq'))
  · show (own o8.v ++ (ss ++ [s]).flatMap fun s => own s.v).Nodup
    rw [List.flatMap_append, List.nodup_append, List.nodup_append]
    simp only [List.flatMap_cons, List.flatMap_nil, List.append_nil, List.mem_append]
    refine ⟨own_nodup _, ⟨n2, own_nodup _, ?_⟩, ?_⟩
    · rintro q hq q' hq' rfl
      exact hn q hq' (List.mem_append_right _ hq)
    · rintro q hq q' hq' rfl
      rcases h8 q hq with e | e
      · rcases hq' with hq' | hq'
        · exact n3 q e q hq' rfl
        · exact hn q hq' (mem_footS.2 (.inl e))
      · rcases hq' with hq' | hq'
        · have := hlow q (List.mem_append_right _ hq'); omega
        · have := hslt q hq'; omega
end pgm
end Go.Proofs.Ytiieglfpmmhfiaa
