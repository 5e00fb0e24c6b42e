/- Pages in memory. Pages read, plainly. Pages read, plainly: what is taken, and what that says. Pages of a large dictionary. Pages. The document's Same of pages. -/
import Derived.Test.YtiieglfpmmhfiaaG4
import Derived.Test.YtiieglfpmmhfiaaG1
import Derived.RegionTactic
namespace Go.Proofs.Ytiieglfpmmhfiaa
set_option maxRecDepth 100000
open Go.RowKit Go.Uc

theorem info53 : (Try.prog.info? 53).map (fun i => (i.zero, i.size, i.bytes)) = some (some (.slice none 0 0), 1, 24) := by kernel_rfl
def encS (s : Sl) : List Value := [s.v]
theorem encS_len (s : Sl) : (encS s).length = 1 := rfl
theorem encS_one (s : Sl) : ∀ u ∈ encS s, u.oneCell' = true := by intro u hu; simp [encS] at hu; subst hu; rfl
/-- The root's page. -/
def rootB (d : Dic) : List UInt8 := pad ([114, UInt8.ofNat d.depth] ++ d.table.map fun x => UInt8.ofNat (x + 1))
def leafB (x : Leaf) : List UInt8 := laidB 108 (UInt8.ofNat x.depth) (UInt8.ofNat x.l.length) x.l
/-- The pages of a dictionary. -/
def pagesD (d : Dic) : List (List UInt8) :=
  if d.small = true then [laidB 109 (UInt8.ofNat (leafAt d 0).l.length) 0 (leafAt d 0).l] else rootB d :: d.leaves.map leafB
/-- The blocks of pages. -/
def footS (o : Sl) (ss : List Sl) : List Nat := own o.v ++ ss.flatMap fun s => own s.v
/-- A row of pages, each in memory of its own. -/
structure PgM (w : World) (o : Sl) (ss : List Sl) (bs : List (List UInt8)) : Prop where
  row : RowP w 53 1 encS o.v ss
  len : ss.length = bs.length
  pg : ∀ i (h : i < ss.length) (h' : i < bs.length), RowU w ss[i].v bs[i]
  nod : (footS o ss).Nodup
theorem mem_footS {o : Sl} {ss : List Sl} {q : Nat} : q ∈ footS o ss ↔ q ∈ own o.v ∨ ∃ i, ∃ h : i < ss.length, q ∈ own ss[i].v := by
  unfold footS
  rw [List.mem_append, List.mem_flatMap]
  refine or_congr Iff.rfl ⟨?_, ?_⟩
  · rintro ⟨s, hs, hq⟩
    obtain ⟨i, hi, rfl⟩ := List.getElem_of_mem hs
    exact ⟨i, hi, hq⟩
  · rintro ⟨i, hi, hq⟩
    exact ⟨_, List.getElem_mem hi, hq⟩
section pgm
variable {w w' : World} {o : Sl} {ss : List Sl} {bs : List (List UInt8)}
theorem PgM.keep {S : Nat → Prop} (h : PgM w o ss bs) (hk : Keeps S w w') (hS : ∀ q ∈ footS o ss, ¬ S q) : PgM w' o ss bs :=
  ⟨h.row.keep hk fun q hq => hS q (mem_footS.2 (.inl hq)), h.len, fun i hi hi' => (h.pg i hi hi').keep hk fun q hq => hS q (mem_footS.2 (.inr ⟨i, hi, hq⟩)), h.nod⟩
theorem PgM.non (h : PgM w o ss bs) (hk : Keeps Non w w') : PgM w' o ss bs := h.keep hk fun _ _ e => e
theorem PgM.low (h : PgM w o ss bs) : ∀ q ∈ footS o ss, q < w.heap.size := by
  intro q hq
  rcases mem_footS.1 hq with e | ⟨i, hi, e⟩
  · exact h.row.lt q e
  · exact (h.pg i hi (by have := h.len; omega)).lt q e
/-- One more page. -/
theorem PgM.snoc {wA w8 : World} {s o8 : Sl} {b : List UInt8} (h : PgM w o ss bs) (hs : RowU w s.v b) (hn : ∀ q ∈ own s.v, q ∉ footS o ss) (hA : Keeps Non w wA)
    (hO : RowP w8 53 1 encS o8.v (ss ++ [s])) (hK : Keeps (· ∈ own o.v) wA w8) (hat : o8.v.ownBlock = o.v.ownBlock ∨ o8.v.ownBlock = some wA.heap.size) : PgM w8 o8 (ss ++ [s]) (bs ++ [b]) := by
  have hz := hA.size
  have hlow := h.low
  have hslt := hs.lt
  have hnd : (own o.v ++ ss.flatMap fun s => own s.v).Nodup := h.nod
  rw [List.nodup_append] at hnd
  obtain ⟨-, n2, n3⟩ := hnd
  have h8 : ∀ q ∈ own o8.v, q ∈ own o.v ∨ q = wA.heap.size := fun q hq => by
    rw [mem_own] at hq
    rcases hat with e | e
    · rw [e] at hq; exact .inl (mem_own.2 hq)
    · rw [e] at hq; injection hq with hq; exact .inr hq.symm
  have hp : ∀ i (hi : i < ss.length) q, q ∈ own ss[i].v → q ∈ ss.flatMap fun s => own s.v := fun i hi q hq => List.mem_flatMap.2 ⟨_, List.getElem_mem hi, hq⟩
  refine ⟨hO, by simp [h.len], fun i hi hi' => ?_, ?_⟩
  · simp only [List.length_append, List.length_singleton] at hi hi'
    rcases Nat.lt_or_ge i ss.length with hlt | hge
    · have hlt' : i < bs.length := by rw [← h.len]; exact hlt
      simp only [List.getElem_append_left hlt, List.getElem_append_left hlt']
      exact ((h.pg i hlt hlt').non hA).keep hK fun q hq hq' => n3 q hq' q (hp i hlt q hq) rfl
    · obtain rfl : i = ss.length := by omega
      rw [List.getElem_append_right (Nat.le_refl _), List.getElem_append_right (by rw [h.len]; exact Nat.le_refl _)]
      simp only [Nat.sub_self, List.getElem_cons_zero, h.len]
      exact (hs.non hA).keep hK fun q hq hq' => hn q hq (mem_footS.2 (.inl hq'))
  · show (own o8.v ++ (ss ++ [s]).flatMap fun s => own s.v).Nodup
    rw [List.flatMap_append, List.nodup_append, List.nodup_append]
    simp only [List.flatMap_cons, List.flatMap_nil, List.append_nil, List.mem_append]
    refine ⟨own_nodup _, ⟨n2, own_nodup _, ?_⟩, ?_⟩
    · rintro q hq q' hq' rfl
      exact hn q hq' (List.mem_append_right _ hq)
    · rintro q hq q' hq' rfl
      rcases h8 q hq with e | e
      · rcases hq' with hq' | hq'
        · exact n3 q e q hq' rfl
        · exact hn q hq' (mem_footS.2 (.inl e))
      · rcases hq' with hq' | hq'
        · have := hlow q (List.mem_append_right _ hq'); omega
        · have := hslt q hq'; omega
end pgm
end Go.Proofs.Ytiieglfpmmhfiaa
namespace Go.Proofs.Ytiieglfpmmhfiaa
open Go.Uc

/-- Four bytes as a number. -/
def rd4 (p : List UInt8) (at_ : Nat) : Nat := (p.getD at_ 0).toNat + (p.getD (at_ + 1) 0).toNat * 256 + (p.getD (at_ + 2) 0).toNat * 65536 + (p.getD (at_ + 3) 0).toNat * 16777216
/-- So many entries from a place on, behind those that there are; none: it refuses. -/
def entG (p : List UInt8) : Nat → Nat → List Ent → Option (Nat × List Ent)
  | 0, at_, l => some (at_, l)
  | m + 1, at_, l =>
    if 256 ≤ at_ then none
    else
      let n := (p.getD at_ 0).toNat
      if n < 1 ∨ 24 < n ∨ 256 < at_ + n + 5 then none
      else
        let e : Ent := ⟨(p.drop (at_ + 1)).take n, (rd4 p (at_ + 1 + n) : Int)⟩
        if 2147483647 < e.val ∨ (l.getLast?.map fun x => lt x.name e.name) = some false then none
        else entG p m (at_ + n + 5) (l ++ [e])
/-- Those of a page, all behind them noughts. -/
def entF (p : List UInt8) (m : Nat) : Option (List Ent) :=
  match entG p m 3 [] with
  | some (at_, l) => if (p.drop at_).all (· == 0) = true then some l else none
  | none => none
theorem le4_read (x y : List UInt8) (m : Nat) (h : m < 4294967296) : rd4 (x ++ le 4 m ++ y) x.length = m := by
  unfold rd4
  have hg : ∀ i, i < 4 → (x ++ le 4 m ++ y).getD (x.length + i) 0 = UInt8.ofNat (m / 256 ^ i % 256) := fun i hi => by
    rw [List.getD_eq_getElem?_getD, List.append_assoc, List.getElem?_append_right (by omega), Nat.add_sub_cancel_left, List.getElem?_append_left (by rw [le_length]; exact hi)]
    have : i = 0 ∨ i = 1 ∨ i = 2 ∨ i = 3 := by omega
    rcases this with rfl | rfl | rfl | rfl <;> simp [le, Nat.div_div_eq_div_mul]
  have h0 := hg 0 (by omega)
  rw [Nat.add_zero] at h0
  rw [h0, hg 1 (by omega), hg 2 (by omega), hg 3 (by omega), ofNat_toNat _ (Nat.mod_lt _ (by decide)), ofNat_toNat _ (Nat.mod_lt _ (by decide)), ofNat_toNat _ (Nat.mod_lt _ (by decide)), ofNat_toNat _ (Nat.mod_lt _ (by decide))]
  simp only [Nat.pow_zero, Nat.div_one, Nat.pow_one]
  omega
theorem entG_laid : ∀ (r acc : List Ent) (X Z p : List UInt8), p = X ++ r.flatMap entB ++ Z → X.length + roomE r ≤ 256 → (∀ e ∈ r, GoodE e) → Srt (acc ++ r) → entG p r.length X.length acc = some (X.length + roomE r, acc ++ r) := by
  intro r
  induction r with
  | nil => intro acc X Z p _ _ _ _; simp [entG, roomE]
  | cons e r ih =>
    intro acc X Z p hp hl hg hs
    obtain ⟨g1, g2, g3, g4⟩ := hg e (by simp)
    have hr : roomE (e :: r) = 5 + e.name.length + roomE r := by simp [roomE]
    obtain ⟨v, hv⟩ : ∃ v : Nat, e.val = (v : Int) := ⟨e.val.toNat, by omega⟩
    have hp1 : p = X ++ (UInt8.ofNat e.name.length :: (e.name ++ le 4 v)) ++ (r.flatMap entB ++ Z) := by
      rw [hp, List.flatMap_cons]
      simp [entB, hv]
    have h1 : (p.getD X.length 0).toNat = e.name.length := by
      rw [hp1, List.getD_eq_getElem?_getD, List.append_assoc, List.getElem?_append_right (Nat.le_refl _)]
      simp
      omega
    have h2 : (p.drop (X.length + 1)).take e.name.length = e.name := by
      have e1 : p = (X ++ [UInt8.ofNat e.name.length]) ++ (e.name ++ (le 4 v ++ (r.flatMap entB ++ Z))) := by rw [hp1]; simp
      have e2 : X.length + 1 = (X ++ [UInt8.ofNat e.name.length]).length := by simp
      rw [e2, e1, List.drop_left, List.take_left]
    have h3 : rd4 p (X.length + 1 + e.name.length) = v := by
      have e1 : p = (X ++ (UInt8.ofNat e.name.length :: e.name)) ++ le 4 v ++ (r.flatMap entB ++ Z) := by rw [hp1]; simp
      have e2 : X.length + 1 + e.name.length = (X ++ (UInt8.ofNat e.name.length :: e.name)).length := by simp; omega
      rw [e2, e1]
      exact le4_read _ _ v (by omega)
    show entG p (r.length + 1) X.length acc = _
    unfold entG
    rw [if_neg (by omega)]
    simp only [h1, h2, h3, ← hv]
    rw [if_neg (by omega)]
    have he : (⟨e.name, e.val⟩ : Ent) = e := rfl
    rw [if_neg]
    · have hX : (X ++ entB e).length = X.length + e.name.length + 5 := by rw [List.length_append, entB_len]; omega
      have := ih (acc ++ [e]) (X ++ entB e) Z p (by rw [hp, List.flatMap_cons]; simp) (by rw [hX]; omega) (fun x hx => hg x (by simp [hx])) (by rw [List.append_assoc]; exact hs)
      rw [hX] at this
      rw [this, hr]
      simp
      omega
    · rintro (h | h)
      · omega
      · obtain ⟨x, hx, hlt⟩ := Option.map_eq_some_iff.1 h
        have hm := List.mem_of_getLast? hx
        unfold Srt at hs
        rw [List.pairwise_append] at hs
        rw [hs.2.2 x hm e (by simp)] at hlt
        cases hlt
theorem entF_laid (a b c : UInt8) {l : List Ent} (hf : fitE l = true) (hg : ∀ e ∈ l, GoodE e) (hs : Srt l) : entF (laidB a b c l) l.length = some l := by
  have hr := (fitE_len hf).2
  have hx : ([a, b, c] ++ l.flatMap entB).length = 3 + roomE l := by rw [List.length_append, ents_len]; rfl
  have hp : laidB a b c l = [a, b, c] ++ l.flatMap entB ++ zeros (256 - (3 + roomE l)) := by unfold laidB pad; rw [hx]
  have h1 := entG_laid l [] [a, b, c] (zeros (256 - (3 + roomE l))) (laidB a b c l) hp (by show 3 + roomE l ≤ 256; omega) hg (by simpa using hs)
  unfold entF
  rw [show (3 : Nat) = [a, b, c].length from rfl, h1]
  simp only [List.nil_append]
  rw [if_pos]
  rw [hp, show [a, b, c].length + roomE l = ([a, b, c] ++ l.flatMap entB).length by rw [hx]; rfl, List.drop_left]
  simp [zeros]
end Go.Proofs.Ytiieglfpmmhfiaa
namespace Go.Proofs.Ytiieglfpmmhfiaa
open Go.Uc

theorem le4_rd4 (p : List UInt8) (a : Nat) (h : a + 4 ≤ p.length) : le 4 (rd4 p a) = (p.drop a).take 4 := by
  have hg : ∀ i, i < 4 → p.getD (a + i) 0 = p[a + i]! := fun i hi => by
    rw [List.getD_eq_getElem?_getD, List.getElem!_eq_getElem?_getD]; rfl
  have hd : (p.drop a).take 4 = [p.getD a 0, p.getD (a + 1) 0, p.getD (a + 2) 0, p.getD (a + 3) 0] := by
    apply List.ext_getElem?
    intro i
    rw [List.getElem?_take]
    by_cases hi : i < 4
    · rw [if_pos hi, List.getElem?_drop]
      have : i = 0 ∨ i = 1 ∨ i = 2 ∨ i = 3 := by omega
      have hh : ∀ j, j < 4 → p[a + j]? = some (p.getD (a + j) 0) := fun j hj => by
        rw [List.getD_eq_getElem?_getD, List.getElem?_eq_getElem (by omega)]; rfl
      rcases this with rfl | rfl | rfl | rfl
      · rw [hh 0 (by omega)]; rfl
      · rw [hh 1 (by omega)]; rfl
      · rw [hh 2 (by omega)]; rfl
      · rw [hh 3 (by omega)]; rfl
    · rw [if_neg hi, List.getElem?_eq_none (by simp; omega)]
  rw [hd]
  unfold rd4
  generalize p.getD a 0 = x0
  generalize p.getD (a + 1) 0 = x1
  generalize p.getD (a + 2) 0 = x2
  generalize p.getD (a + 3) 0 = x3
  have h0 := x0.toNat_lt
  have h1 := x1.toNat_lt
  have h2 := x2.toNat_lt
  have h3 := x3.toNat_lt
  have key : ∀ (n : Nat) (x : UInt8), n = x.toNat → UInt8.ofNat n = x := fun n x e => by rw [e]; simp
  simp only [le]
  rw [key _ x0 (by omega), key _ x1 (by omega), key _ x2 (by omega), key _ x3 (by omega)]
theorem srt_snoc {l : List Ent} (hs : Srt l) (e : Ent) (h : ¬ (l.getLast?.map fun x => lt x.name e.name) = some false) : Srt (l ++ [e]) := by
  unfold Srt at *
  rw [List.pairwise_append]
  refine ⟨hs, by simp, ?_⟩
  intro x hx y hy
  rw [List.mem_singleton] at hy
  subst hy
  rcases List.eq_nil_or_concat l with rfl | ⟨L, b, rfl⟩
  · simp at hx
  · rw [List.concat_eq_append] at *
    rw [List.getLast?_concat] at h
    have hb : lt b.name y.name = true := by
      cases hh : lt b.name y.name
      · exact absurd (by simp [hh]) h
      · rfl
    rw [List.pairwise_append] at hs
    rcases List.mem_append.1 hx with hx | hx
    · exact lt_trans (hs.2.2 x hx b (by simp)) hb
    · rw [List.mem_singleton] at hx; rw [hx]; exact hb
theorem entG_big {p : List UInt8} {m a : Nat} {l : List Ent} (h : 256 ≤ a) : entG p (m + 1) a l = none := by unfold entG; rw [if_pos h]
theorem entG_bad {p : List UInt8} {m a : Nat} {l : List Ent} (h0 : ¬ 256 ≤ a) (h : (p.getD a 0).toNat < 1 ∨ 24 < (p.getD a 0).toNat ∨ 256 < a + (p.getD a 0).toNat + 5) : entG p (m + 1) a l = none := by
  unfold entG; rw [if_neg h0]; simp only; rw [if_pos h]
theorem entG_val {p : List UInt8} {m a n : Nat} {l : List Ent} {e : Ent} (h0 : ¬ 256 ≤ a) (hn : n = (p.getD a 0).toNat) (h : ¬ (n < 1 ∨ 24 < n ∨ 256 < a + n + 5)) (he : e = ⟨(p.drop (a + 1)).take n, (rd4 p (a + 1 + n) : Int)⟩) (h2 : 2147483647 < e.val ∨ (l.getLast?.map fun x => lt x.name e.name) = some false) : entG p (m + 1) a l = none := by
  subst hn he
  unfold entG; rw [if_neg h0]; simp only; rw [if_neg h]
  exact if_pos h2
theorem entG_ok {p : List UInt8} {m a n : Nat} {l : List Ent} {e : Ent} (h0 : ¬ 256 ≤ a) (hn : n = (p.getD a 0).toNat) (h : ¬ (n < 1 ∨ 24 < n ∨ 256 < a + n + 5)) (he : e = ⟨(p.drop (a + 1)).take n, (rd4 p (a + 1 + n) : Int)⟩) (h2 : ¬ (2147483647 < e.val ∨ (l.getLast?.map fun x => lt x.name e.name) = some false)) : entG p (m + 1) a l = entG p m (a + n + 5) (l ++ [e]) := by
  subst hn he
  conv => lhs; unfold entG
  rw [if_neg h0]; simp only; rw [if_neg h]
  exact if_neg h2
theorem entG_some : ∀ (m : Nat) (p : List UInt8) (at_ : Nat) (l : List Ent) (at' : Nat) (l' : List Ent), p.length = 256 → entG p m at_ l = some (at', l') → Srt l → at_ ≤ 256 →
    ∃ r, l' = l ++ r ∧ r.length = m ∧ at' = at_ + roomE r ∧ at' ≤ 256 ∧ (∀ e ∈ r, GoodE e) ∧ Srt (l ++ r) ∧ (p.drop at_).take (roomE r) = r.flatMap entB := by
  intro m
  induction m with
  | zero =>
    intro p at_ l at' l' _ h hs ha
    simp only [entG, Option.some.injEq, Prod.mk.injEq] at h
    obtain ⟨rfl, rfl⟩ := h
    exact ⟨[], by simp, rfl, by simp [roomE], ha, by simp, by simpa using hs, by simp [roomE]⟩
  | succ m ih =>
    intro p at_ l at' l' hp h hs ha
    by_cases h1 : 256 ≤ at_
    · rw [entG_big h1] at h; cases h
    have hal : at_ < p.length := by omega
    obtain ⟨n, hn⟩ : ∃ n, n = (p.getD at_ 0).toNat := ⟨_, rfl⟩
    by_cases h2 : n < 1 ∨ 24 < n ∨ 256 < at_ + n + 5
    · rw [entG_bad h1 (by rw [← hn]; exact h2)] at h; cases h
    obtain ⟨e, he⟩ : ∃ e : Ent, e = ⟨(p.drop (at_ + 1)).take n, (rd4 p (at_ + 1 + n) : Int)⟩ := ⟨_, rfl⟩
    have hen : e.name = (p.drop (at_ + 1)).take n := by rw [he]
    have hev : e.val = (rd4 p (at_ + 1 + n) : Int) := by rw [he]
    have henl : e.name.length = n := by rw [hen, List.length_take, List.length_drop]; omega
    by_cases h3 : 2147483647 < e.val ∨ (l.getLast?.map fun x => lt x.name e.name) = some false
    · rw [entG_val h1 hn h2 he h3] at h; cases h
    rw [entG_ok h1 hn h2 he h3] at h
    have hs2 := srt_snoc hs e (fun hh => h3 (.inr hh))
    obtain ⟨r, e1, e2, e3, e4, e5, e6, e7⟩ := ih p (at_ + n + 5) (l ++ [e]) at' l' hp h hs2 (by omega)
    have hr : roomE (e :: r) = 5 + n + roomE r := by simp [roomE, henl]
    refine ⟨e :: r, by rw [e1]; simp, by simp [e2], by rw [hr, e3]; omega, e4, ?_, by rw [List.append_assoc] at e6; exact e6, ?_⟩
    · intro x hx
      rcases List.mem_cons.1 hx with rfl | hx
      · exact ⟨by omega, by omega, by omega, by omega⟩
      · exact e5 x hx
    · rw [hr, List.flatMap_cons, ← e7, List.take_add, List.drop_drop]
      rw [show at_ + (5 + n) = at_ + n + 5 by omega]
      congr 1
      unfold entB
      rw [henl, hev, Int.toNat_natCast, le4_rd4 _ _ (by omega), hen]
      have hc : p.drop at_ = p[at_]'hal :: p.drop (at_ + 1) := List.drop_eq_getElem_cons hal
      rw [hc, show 5 + n = (n + 4) + 1 by omega, List.take_succ_cons, List.take_add, List.drop_drop]
      have hg : p.getD at_ 0 = p[at_]'hal := by rw [List.getD_eq_getElem?_getD, List.getElem?_eq_getElem hal]; rfl
      have hc2 : UInt8.ofNat n = p[at_]'hal := by rw [hn, hg]; simp
      rw [hc2]
/-- What a page says that is taken. -/
theorem entF_some {p : List UInt8} {m : Nat} {l : List Ent} (hp : p.length = 256) (h : entF p m = some l) :
    l.length = m ∧ fitE l = true ∧ (∀ e ∈ l, GoodE e) ∧ Srt l ∧ p = laidB (p.getD 0 0) (p.getD 1 0) (p.getD 2 0) l := by
  unfold entF at h
  cases hg : entG p m 3 [] with
  | none => rw [hg] at h; cases h
  | some q =>
    obtain ⟨at', l'⟩ := q
    rw [hg] at h
    simp only at h
    by_cases hz : ((p.drop at').all (· == 0)) = true
    · rw [if_pos hz] at h
      injection h with h
      subst h
      obtain ⟨r, e1, e2, e3, e4, e5, e6, e7⟩ := entG_some m p 3 [] at' l' hp hg (List.Pairwise.nil) (by omega)
      rw [List.nil_append] at e1 e6
      subst e1
      refine ⟨e2, by unfold fitE; exact decide_eq_true (by omega), e5, e6, ?_⟩
      have h3 : p = p.take 3 ++ (p.drop 3) := (List.take_append_drop 3 p).symm
      have h4 : p.take 3 = [p.getD 0 0, p.getD 1 0, p.getD 2 0] := by
        match p, hp with
        | a :: b :: c :: p, _ => rfl
      have h5 : p.drop 3 = l'.flatMap entB ++ p.drop at' := by
        rw [← e7, e3]
        have := (List.take_append_drop (roomE l') (p.drop 3)).symm
        rw [List.drop_drop] at this
        exact this
      have h6 : p.drop at' = zeros (256 - at') := by
        apply List.ext_getElem
        · simp [zeros, hp]
        · intro i h1 h2
          have := List.all_eq_true.1 hz _ (List.getElem_mem h1)
          simp [zeros]
          simpa using this
      unfold laidB pad
      rw [List.length_append, ents_len]
      rw [← h4]
      have hl3 : (p.take 3).length = 3 := by rw [List.length_take]; omega
      rw [hl3, ← e3, ← h6, List.append_assoc, ← h5]
      exact h3
    · rw [if_neg hz] at h; cases h
end Go.Proofs.Ytiieglfpmmhfiaa
namespace Go.Proofs.Ytiieglfpmmhfiaa
set_option maxRecDepth 100000
open Go.RowKit Go.Uc

set_option maxHeartbeats 8000000 in
theorem pages_large {w : World} {g : Nat} {d : Dic} {t l : Sl} {ps : List (Nat × Sl)} (hM : DictM 69 66 w g d t l ps) (hi : Inv0 d) (hsm : d.small = false) :
    Calls Try.prog 22 #[.pointer (some ⟨g, 0, none⟩)] w fun e w' => ∃ (o : Sl) (ss : List Sl), e = .returned o.v ∧ PgM w' o ss (pagesD d) ∧ (∀ q ∈ footS o ss, w.heap.size ≤ q) ∧ Keeps Non w w' := by
  have ho := hi.ok
  have hdd := ho.dep
  have htl : d.table.length ≤ 32 := by rw [ho.tab]; have := two_pow d.depth ho.dep; omega
  have hpl : ps.length ≤ 32 := by rw [hM.len]; exact ho.many
  have hll : d.leaves.length ≤ 32 := ho.many
  obtain ⟨tA, tc, htv, -, -⟩ := hM.tab.val
  obtain rfl : t = ⟨tA, d.table.length, tc⟩ := by cases t; injection htv with h1 h2 h3; subst h1 h2 h3; rfl
  clear htv
  obtain ⟨lA, lc, hle, -, -⟩ := hM.lvs.val
  obtain rfl : l = ⟨lA, ps.length, lc⟩ := by cases l; injection hle with h1 h2 h3; subst h1 h2 h3; rfl
  clear hle
  have c0 : w.cell? ⟨g, 0, none⟩ = some (.bool false) := by rw [← hsm]; exact hM.blk.cell 0
  have c1 : w.cell? ⟨g, 1, none⟩ = some (.int .i64 (d.depth : Int)) := hM.blk.cell 1
  have c2 : w.cell? ⟨g, 2, none⟩ = some (.slice tA d.table.length tc) := hM.blk.cell 2
  have c3 : w.cell? ⟨g, 3, none⟩ = some (.slice lA ps.length lc) := hM.blk.cell 3
  have HSM := Lib.hid hsm
  clear hsm
  have hz := zero96
  have hsz : (pc (zeros 256)).size = 256 := by rw [pc_size, zeros_length]
  have e0 : (((pc (zeros 256)).setIfInBounds 0 (.int .u8 114)).setIfInBounds 1 (.int .u8 (d.depth : Int))) = pc (pad [114, UInt8.ofNat d.depth]) := by
    rw [← bv_ofNat d.depth (by omega)]
    show (((pc (zeros 256)).setIfInBounds 0 (bv 114)).setIfInBounds 1 (bv (UInt8.ofNat d.depth))) = _
    rw [set_pc, set_pc]
    rfl
  have E0 := Lib.hid e0
  clear e0
  have HL2 : Hid ((pad [114, UInt8.ofNat d.depth]).length = 256) := Lib.hid (pad_len (by simp))
  have hB0 := Blk.new w 96 (pc (zeros 256))
  have hK0 := (Keeps.refl Non w).alloc (.cells (pc (zeros 256)) 96)
  go_enter Try.func22, Try.ntmps22
  go_upto_region 6 with ((with_reducible show wpList _ _ _ ({ dst := none, op := Op.store 96 _ _, type := _, pos := _, after := _, guard := _ } :: _) _ _); go_must (refine wpList_store_blk rfl 96 (.tmp 5) (.tmp 36) rfl w.heap.size (((pc (zeros 256)).setIfInBounds 0 (.int .u8 114)).setIfInBounds 1 (.int .u8 (d.depth : Int))) rfl rfl 96 (pc (zeros 256)) hB0 (by rw [E0.out, pc_size, HL2.out]; exact info96) (by rw [E0.out, pc_size, pc_size, HL2.out, zeros_length]) (by rw [E0.out]; exact pc_all _) ?_); intro w1 hB1 hK1; rw [E0.out] at hB1)
  have hK01 : Keeps Non w w1 := hK0.then hK1 fun i hi e => by unfold Only at e; omega
  obtain ⟨rb, hrb⟩ : ∃ b, b = w.heap.size := ⟨_, rfl⟩
  rw [← hrb] at hB1 ⊢
  have hrw : w.heap.size ≤ rb := by omega
  clear hB0 hK0 hK1 hz hsz c0 c1 hrb
  have h1 := hM.non hK01
  have c2 : w1.cell? ⟨g, 2, none⟩ = some (.slice tA d.table.length tc) := h1.blk.cell 2
  have hxl : ∀ k, k ≤ d.table.length → ([114, UInt8.ofNat d.depth] ++ (d.table.take k).map fun x => UInt8.ofNat (x + 1)).length = 2 + k := fun k hk => by simp; omega
  have HXL := Lib.hid hxl
  clear hxl
  go_upto_region 7 with fail
  go_loopw [42] (fun i wr => ∃ k, k ≤ d.table.length ∧ i = .int .i64 (k : Int) ∧ Blk wr rb 96 (pc (pad ([114, UInt8.ofNat d.depth] ++ (d.table.take k).map fun x => UInt8.ofNat (x + 1)))) ∧ Keeps Non w wr) (fun i _ => d.table.length - (intOf i).toNat)
  case atStart => exact ⟨0, Nat.zero_le _, rfl, hB1, hK01⟩
  case round =>
    obtain ⟨k, hk, rfl, hB, hK⟩ := hrel
    obtain ⟨wx, rfl⟩ : ∃ W : World, W = wr := ⟨_, rfl⟩
    clear hB1 hK01 h1 c2
    have hx := hM.non hK
    by_cases hlt : k < d.table.length
    · obtain ⟨bt, ct, e1, -, x0, -⟩ := rowN_at hx.tab hlt
      injection e1 with e1 e2 e3
      clear e2
      subst e1 e3
      have hrg := ho.rng _ (List.getElem_mem hlt)
      have hmap : (d.table.take (k + 1)).map (fun x => UInt8.ofNat (x + 1)) = (d.table.take k).map (fun x => UInt8.ofNat (x + 1)) ++ [UInt8.ofNat (d.table[k] + 1)] := by rw [List.take_succ_eq_append_getElem hlt, List.map_append]; rfl
      have HMAP := Lib.hid hmap
      clear hmap
      have hxk := HXL.out k (by omega)
      obtain ⟨X, hX⟩ : ∃ X, X = [114, UInt8.ofNat d.depth] ++ (d.table.take k).map fun x => UInt8.ofNat (x + 1) := ⟨_, rfl⟩
      rw [← hX] at hB hxk
      have HX := Lib.hid hX
      clear hX
      generalize d.table[k] = x at x0 hrg HMAP
      have hBs := hB.set (2 + k) (bv (UInt8.ofNat (x + 1)))
      rw [set_pc, ← hxk, pad_set _ (by omega), hxk, bv_ofNat _ (by omega)] at hBs
      have hKs := hK.setNew (p := ⟨rb, 2 + k, none⟩) hrw (.int .u8 ((x + 1 : Nat) : Int))
      have hpl2 : (pad X).length = 256 := pad_len (by omega)
      obtain ⟨z, y2⟩ : ∃ z, wx.cell? ⟨rb, 2 + k, none⟩ = some z := ⟨bv ((pad X)[2 + k]'(by omega)), by rw [hB.cell, pc_get, List.getElem?_eq_getElem (by omega)]; rfl⟩
      have y3 := hB.frozen (2 + k)
      clear hxk hpl2
      go_wp2_with fail
      go_roundw
      case rel => exact ⟨k + 1, by omega, by go_num, by rw [HMAP.out, ← List.append_assoc, ← HX.out]; exact hBs, hKs⟩
      case measure => simp [intOf]; omega
    · obtain rfl : k = d.table.length := by omega
      have hBr : Blk wx rb 96 (pc (rootB d)) := by rw [List.take_of_length_le (Nat.le_refl _)] at hB; exact hB
      have hrl : (rootB d).length = 256 := by
        have := HXL.out d.table.length (Nat.le_refl _)
        rw [List.take_of_length_le (Nat.le_refl _)] at this
        exact pad_len (by omega)
      have HRL := Lib.hid hrl
      have HCl := Lib.hid (cloneU_any (some ⟨rb, 0, none⟩) 256 (rootB d) wx (At.blk hBr) (by omega) (by omega))
      rw [hrl] at HCl
      clear hB hrl hlt hk
      go_upto_region 12 with ((go_at_call 50; refine HCl.out.mono ?_; rintro e w2 ⟨⟨sA, sn, sc⟩, rfl, hU, hN, hK2⟩))
      have hRow : RowP (w2.alloc (.cells #[.slice sA sn sc] 53)) 53 1 encS (.slice (some ⟨w2.heap.size, 0, none⟩) 1 1) [(⟨sA, sn, sc⟩ : Sl)] := RowP.lit encS_len w2 53 [(⟨sA, sn, sc⟩ : Sl)] _ rfl (by show 1 ≤ maxLen; decide)
      have hka := (Keeps.refl Non w2).alloc (.cells #[.slice sA sn sc] 53)
      have hult := hU.lt
      have hz2 := hK2.size
      have hPg : PgM (w2.alloc (.cells #[.slice sA sn sc] 53)) ⟨some ⟨w2.heap.size, 0, none⟩, 1, 1⟩ [⟨sA, sn, sc⟩] (rootB d :: (d.leaves.take 0).map leafB) := by
        refine ⟨hRow, rfl, fun i hi hi' => ?_, ?_⟩
        · simp at hi; subst hi; exact hU.non hka
        · show ([w2.heap.size] ++ (own (⟨sA, sn, sc⟩ : Sl).v ++ [])).Nodup
          rw [List.append_nil, List.nodup_append]
          refine ⟨by simp, own_nodup _, ?_⟩
          rintro q hq q' hq' rfl
          simp at hq
          have := hult q hq'
          omega
      have hNw : ∀ q ∈ footS ⟨some ⟨w2.heap.size, 0, none⟩, 1, 1⟩ [(⟨sA, sn, sc⟩ : Sl)], w.heap.size ≤ q := fun q hq => by
        have hz := hK.size
        rcases mem_footS.1 hq with e | ⟨i, hi, e⟩
        · have : q ∈ [w2.heap.size] := e
          simp at this; omega
        · simp at hi; subst hi
          have := hN q e; omega
      have hKw : Keeps Non w (w2.alloc (.cells #[.slice sA sn sc] 53)) := (hK.non hK2).non hka
      obtain ⟨w3, hw3⟩ : ∃ V : World, V = w2.alloc (.cells #[.slice sA sn sc] 53) := ⟨_, rfl⟩
      obtain ⟨ob, hob⟩ : ∃ b, b = w2.heap.size := ⟨_, rfl⟩
      rw [← hw3] at hPg hKw ⊢
      rw [← hob] at hPg hNw ⊢
      clear hw3 hob hRow hka hult hz2 hU hN hK2 HCl hBr hK hx
      have h3 := hM.non hKw
      have c3 : w3.cell? ⟨g, 3, none⟩ = some (.slice lA ps.length lc) := h3.blk.cell 3
      have hlen0 := hM.len
      have HLEN := Lib.hid hlen0
      clear hlen0
      go_upto_region 13 with fail
      go_loopw [8, 62] (fun s8 i wr => ∃ (k : Nat) (o : Sl) (ss : List Sl), k ≤ ps.length ∧ i = .int .i64 (k : Int) ∧ s8 = o.v ∧ PgM wr o ss (rootB d :: (d.leaves.take k).map leafB) ∧ (∀ q ∈ footS o ss, w.heap.size ≤ q) ∧ Keeps Non w wr) (fun _ i _ => ps.length - (intOf i).toNat)
      case atStart => exact ⟨0, _, _, Nat.zero_le _, rfl, rfl, hPg, hNw, hKw⟩
      case round =>
        obtain ⟨k, o, ss, hk, rfl, rfl, hP, hN, hK⟩ := hrel
        obtain ⟨wy, rfl⟩ : ∃ V : World, V = wr := ⟨_, rfl⟩
        clear hPg hNw hKw h3 c3
        by_cases hlt : k < ps.length
        · have hkd : k < d.leaves.length := by rw [← HLEN.out]; exact hlt
          have hxM := hM.non hK
          obtain ⟨gl, cap, ev, -, x0, x1, -, -⟩ := rowP_at hxM.lvs hlt
          injection ev with e1 e2 e3
          clear e2
          subst e1 e3
          have hE := hxM.ent k hlt hkd
          have hdep := hxM.dep k hlt hkd
          have hd5 : ps[k].1 ≤ 5 := by rw [hdep]; exact Nat.le_trans (ho.low _ (List.getElem_mem hkd)) hdd
          have hf := ho.fit _ (List.getElem_mem hkd)
          have hG : ∀ e ∈ d.leaves[k].l, GoodE e := by rw [← leafAt_get hkd]; exact hi.good k hkd
          have hmap : (d.leaves.take (k + 1)).map leafB = (d.leaves.take k).map leafB ++ [laidB 108 (UInt8.ofNat ps[k].1) (UInt8.ofNat d.leaves[k].l.length) d.leaves[k].l] := by
            rw [List.take_succ_eq_append_getElem hkd, List.map_append, hdep]; rfl
          have HMAP := Lib.hid hmap
          clear hmap hdep
          obtain ⟨L, hL⟩ : ∃ L, L = d.leaves[k].l := ⟨_, rfl⟩
          rw [← hL] at hE hf hG HMAP
          clear hL
          obtain ⟨dk, hdk⟩ : ∃ n, n = ps[k].1 := ⟨_, rfl⟩
          rw [← hdk] at x0 hd5 HMAP
          clear hdk
          have h50 := (fitE_len hf).1
          have HLd := Lib.hid (fun W (hW : Keeps Non wy W) => laid_any 108 (UInt8.ofNat dk) (UInt8.ofNat L.length) ps[k].2.v L hf hG W (hE.non hW))
          rw [bv_ofNat _ (by omega), bv_ofNat _ (by omega)] at HLd
          obtain ⟨eA, ec, hev, -, -⟩ := hE.val
          rw [hev] at x1 HLd
          change Hid (∀ W, Keeps Non wy W → Calls Try.prog 49 #[.int .u8 108, .int .u8 (dk : Int), .int .u8 (L.length : Int), .slice eA L.length ec] W _) at HLd
          have hll := laid_len (a := 108) (b := UInt8.ofNat dk) (c := UInt8.ofNat L.length) hf
          have HLL := Lib.hid hll
          obtain ⟨B, hB⟩ : ∃ B, B = laidB 108 (UInt8.ofNat dk) (UInt8.ofNat L.length) L := ⟨_, rfl⟩
          rw [← hB] at HLL HLd HMAP
          clear hll hB hE hev hf hG
          have hk4 := (Keeps.refl Non wy).alloc (.cells #[.int .i64 (dk : Int), .slice eA L.length ec] 66)
          have hX4 := Blk.new wy 66 #[.int .i64 (dk : Int), .slice eA L.length ec]
          go_upto_region 15 with fail
          obtain ⟨w4, hw4⟩ : ∃ V : World, V = wy.alloc (.cells #[.int .i64 (dk : Int), .slice eA L.length ec] 66) := ⟨_, rfl⟩
          obtain ⟨xb, hxb⟩ : ∃ b, b = wy.heap.size := ⟨_, rfl⟩
          rw [← hw4] at hk4 hX4 ⊢
          rw [← hxb] at hX4 ⊢
          clear hw4 hxb x0 x1
          have y0 : w4.cell? ⟨xb, 0, none⟩ = some (.int .i64 (dk : Int)) := hX4.cell 0
          have y1 : w4.cell? ⟨xb, 1, none⟩ = some (.slice eA L.length ec) := hX4.cell 1
          have HLd4 := Lib.hid (HLd.out w4 hk4)
          have hz := zero96
          have hsz : (pc (zeros 256)).size = 256 := by rw [pc_size, zeros_length]
          go_upto_region 16 with (first
            | (go_at_call 49; refine HLd4.out.mono ?_; rintro e w5 ⟨rfl, hK5⟩; have hB5 := Blk.new w5 96 (pc (zeros 256)); have hK5a := (Keeps.refl Non w5).alloc (.cells (pc (zeros 256)) 96))
            | ((with_reducible show wpList _ _ _ ({ dst := none, op := Op.store 96 _ _, type := _, pos := _, after := _, guard := _ } :: _) _ _); go_must (refine wpList_store_blk rfl 96 (.tmp 11) (.tmp 75) rfl w5.heap.size (pc B) rfl rfl 96 (pc (zeros 256)) hB5 (by rw [pc_size, HLL.out]; exact info96) (by rw [pc_size, pc_size, HLL.out, zeros_length]) (pc_all _) ?_); intro w6 hB6 hK6))
          have hAt6 : At w6 (some ⟨w5.heap.size, 0, none⟩) B := At.blk hB6
          have HCl := Lib.hid (cloneU_any (some ⟨w5.heap.size, 0, none⟩) 256 B w6 hAt6 (by rw [HLL.out]; omega) (by rw [HLL.out]; omega))
          rw [HLL.out] at HCl
          have hK46 : Keeps Non wy w6 := ((hk4.non hK5).non hK5a).then hK6 fun i hi e => by unfold Only at e; have := (hk4.non hK5).size; omega
          have hP6 := hP.non hK46
          clear hz hsz hB5 hK5a hAt6 HLd HLd4 y0 y1 hX4
          generalize w5.heap.size = pb at *
          obtain ⟨oA, on, oc⟩ := o
          obtain rfl : on = ss.length := by obtain ⟨_, _, e, -⟩ := hP.row.val; injection e
          have hsl : ss.length ≤ 33 := by rw [hP.len]; simp; omega
          have HB1 : Hid (ss.length + 1 ≤ maxLen ∧ (ss.length + 1) * 24 ≤ 140737488355328) := Lib.hid (by unfold maxLen; omega)
          go_wp2_with (first
            | (go_at_call 50; refine HCl.out.mono ?_; rintro e w7 ⟨⟨sA, sn, sc⟩, rfl, hU7, hN7, hK7⟩; have hP7 := hP6.non hK7; have hPA := hP7.non ((Keeps.refl Non w7).alloc (.cells #[.slice sA sn sc] 53)))
            | (at_builtin; go_must (refine wpList_append_row (o := ⟨some 80, _, _, _, _, _⟩) rfl (.tmp 76) (.tmp 79) 42 rfl 53 1 encS _ 24 Try.underlying42 info53 rfl (by decide) encS_len encS_one (.slice oA ss.length oc) ss rfl hPA.row (some ⟨w7.heap.size, 0, none⟩) 1 1 [(⟨sA, sn, sc⟩ : Sl)] rfl rfl (Ats.lit w7 #[.slice sA sn sc] 53 _ rfl) HB1.out.1 HB1.out.2 ?_); intro u8 w8 hO8 hK8 hat; obtain ⟨s8, rfl, -⟩ := RowP.sl hO8))
          have hlow := hP.low
          have hz46 := hK46.size
          have hz7 := hK7.size
          have hPS := hP7.snoc hU7 (fun q hq hq' => by have := hN7 q hq; have := hlow q hq'; omega) ((Keeps.refl Non w7).alloc (.cells #[.slice sA sn sc] 53)) hO8 hK8 hat
          have hKK : Keeps Non w w8 := (((hK.non hK46).non hK7).alloc _).then hK8 fun i hi e => by have := hN i (mem_footS.2 (.inl e)); omega
          have hNN : ∀ q ∈ footS s8 (ss ++ [(⟨sA, sn, sc⟩ : Sl)]), w.heap.size ≤ q := fun q hq => by
            have hzw := hK.size
            rcases mem_footS.1 hq with e | ⟨i, hi, e⟩
            · rw [mem_own] at e
              rcases hat with e' | e'
              · rw [e'] at e; exact hN q (mem_footS.2 (.inl (mem_own.2 e)))
              · rw [e'] at e; injection e with e; simp at e; omega
            · simp at hi
              rcases Nat.lt_or_ge i ss.length with hlt2 | hge
              · rw [List.getElem_append_left hlt2] at e; exact hN q (mem_footS.2 (.inr ⟨i, hlt2, e⟩))
              · obtain rfl : i = ss.length := by omega
                rw [List.getElem_append_right (Nat.le_refl _)] at e
                simp at e
                have := hN7 q e; omega
          go_roundw
          case rel => exact ⟨k + 1, s8, _, by omega, by go_num, rfl, by rw [HMAP.out]; exact hPS, hNN, hKK⟩
          case measure => simp [intOf]; omega
        · obtain rfl : k = ps.length := by omega
          have HPD : Hid (rootB d :: (d.leaves.take ps.length).map leafB = pagesD d) := Lib.hid (by
            unfold pagesD
            rw [HSM.out, List.take_of_length_le (by rw [HLEN.out]; exact Nat.le_refl _)]
            rfl)
          obtain ⟨oA, on, oc⟩ := o
          go_wp2_with fail
          go_ret
          exact ⟨⟨oA, on, oc⟩, ss, rfl, by rw [← HPD.out]; exact hP, hN, hK⟩
end Go.Proofs.Ytiieglfpmmhfiaa
namespace Go.Proofs.Ytiieglfpmmhfiaa
set_option maxRecDepth 100000
open Go.RowKit Go.Uc

set_option maxHeartbeats 4000000 in
theorem pages_small' {w : World} {g : Nat} {d : Dic} {t l : Sl} {ps : List (Nat × Sl)} (h : DictM 69 66 w g d t l ps) (hi : Inv0 d) (hsm : d.small = true) :
    Calls Try.prog 22 #[.pointer (some ⟨g, 0, none⟩)] w fun e w' => ∃ (o : Sl) (ss : List Sl), e = .returned o.v ∧ PgM w' o ss (pagesD d) ∧ (∀ q ∈ footS o ss, w.heap.size ≤ q) ∧ Keeps Non w w' := by
  have HPD : pagesD d = [laidB 109 (UInt8.ofNat (leafAt d 0).l.length) 0 (leafAt d 0).l] := by unfold pagesD; rw [if_pos hsm]
  rw [HPD]
  clear HPD
  have hl1 := (hi.sm hsm).2
  have hkd : 0 < d.leaves.length := by omega
  have hkp : 0 < ps.length := by rw [h.len]; exact hkd
  obtain ⟨L, hL⟩ : ∃ L, L = (leafAt d 0).l := ⟨_, rfl⟩
  rw [← hL]
  have hf : fitE L = true := by rw [hL]; exact hi.ok.fit _ (leaf_mem hkd)
  have hG : ∀ e ∈ L, GoodE e := by rw [hL]; exact hi.good 0 hkd
  have hE : RowE w ps[0].2.v L := by rw [hL, leafAt_get hkd]; exact h.ent 0 hkp hkd
  clear hL
  obtain ⟨h50, -⟩ := fitE_len hf
  have HLd := Lib.hid (laid_any 109 (UInt8.ofNat L.length) 0 ps[0].2.v L hf hG w hE)
  rw [bv_ofNat _ (by omega)] at HLd
  obtain ⟨eA, ec, hev, -, -⟩ := hE.val
  rw [hev] at HLd
  obtain ⟨lA, lc, hle, -, -⟩ := h.lvs.val
  have c0 : w.cell? ⟨g, 0, none⟩ = some (.bool true) := by rw [← hsm]; exact h.blk.cell 0
  have c3 : w.cell? ⟨g, 3, none⟩ = some (.slice lA ps.length lc) := by rw [← hle]; exact h.blk.cell 3
  obtain ⟨bl, cl, e2, -, -, x1, -, -⟩ := rowP_at h.lvs hkp
  rw [hle] at e2
  injection e2 with e2 e2b e2c
  clear e2b
  subst e2 e2c
  rw [hev] at x1
  have x1' : w.cell? ⟨bl, 1, none⟩ = some (.slice eA L.length ec) := x1
  have hkpi : (0 : Int) < (ps.length : Int) := by omega
  have hll := laid_len (a := 109) (b := UInt8.ofNat L.length) (c := 0) hf
  have HLL := Lib.hid hll
  obtain ⟨B, hB⟩ : ∃ B, B = laidB 109 (UInt8.ofNat L.length) 0 L := ⟨_, rfl⟩
  rw [← hB] at hll HLL HLd ⊢
  clear hll hB h hi hE hG hf hev hle hl1 hkd hsm x1
  have hz := zero96
  have hsz : (pc (zeros 256)).size = 256 := by rw [pc_size, zeros_length]
  generalize ps.length = pn at *
  change Hid (Calls Try.prog 49 #[.int .u8 109, .int .u8 (L.length : Int), .int .u8 0, .slice eA L.length ec] w _) at HLd
  go_enter Try.func22, Try.ntmps22
  go_upto_region 4 with (first
    | (go_at_call 49; refine HLd.out.mono ?_; rintro e w2 ⟨rfl, hK2⟩; have hB0 := Blk.new w2 96 (pc (zeros 256)); have hKa := (Keeps.refl Non w2).alloc (.cells (pc (zeros 256)) 96))
    | ((with_reducible show wpList _ _ _ ({ dst := none, op := Op.store 96 _ _, type := _, pos := _, after := _, guard := _ } :: _) _ _); go_must (refine wpList_store_blk rfl 96 (.tmp 4) (.tmp 27) rfl w2.heap.size (pc B) rfl rfl 96 (pc (zeros 256)) hB0 (by rw [pc_size, HLL.out]; exact info96) (by rw [pc_size, pc_size, HLL.out, zeros_length]) (pc_all _) ?_); intro w3 hB3 hK3))
  have hAt3 : At w3 (some ⟨w2.heap.size, 0, none⟩) B := At.blk hB3
  have HCl := Lib.hid (cloneU_any (some ⟨w2.heap.size, 0, none⟩) 256 B w3 hAt3 (by rw [HLL.out]; omega) (by rw [HLL.out]; omega))
  rw [HLL.out] at HCl
  have hK03 : Keeps Non w w3 := (hK2.non hKa).then hK3 fun i hi e => by unfold Only at e; have := hK2.size; omega
  clear hz hsz hB0 hKa hAt3
  generalize w2.heap.size = pb at *
  go_wp2_with ((go_at_call 50; refine HCl.out.mono ?_; rintro e w4 ⟨⟨sA, sn, sc⟩, rfl, hU4, hN4, hK4⟩))
  go_ret
  have hRow : RowP (w4.alloc (.cells #[.slice sA sn sc] 53)) 53 1 encS (.slice (some ⟨w4.heap.size, 0, none⟩) 1 1) [(⟨sA, sn, sc⟩ : Sl)] := RowP.lit encS_len w4 53 [(⟨sA, sn, sc⟩ : Sl)] _ rfl (by show 1 ≤ maxLen; decide)
  have hka := (Keeps.refl Non w4).alloc (.cells #[.slice sA sn sc] 53)
  have hult := hU4.lt
  have hz3 := hK03.size
  have hz4 := hK4.size
  refine ⟨⟨some ⟨w4.heap.size, 0, none⟩, 1, 1⟩, [⟨sA, sn, sc⟩], rfl, ⟨hRow, rfl, fun i hi hi' => ?_, ?_⟩, fun q hq => ?_, (hK03.non hK4).non hka⟩
  · simp at hi; subst hi; exact hU4.non hka
  · show ([w4.heap.size] ++ (own (⟨sA, sn, sc⟩ : Sl).v ++ [])).Nodup
    rw [List.append_nil, List.nodup_append]
    refine ⟨by simp, own_nodup _, ?_⟩
    rintro q hq q' hq' rfl
    simp at hq
    have := hult q hq'
    omega
  · rcases mem_footS.1 hq with e | ⟨i, hi, e⟩
    · have : q ∈ [w4.heap.size] := e
      simp at this; omega
    · simp at hi; subst hi
      have := hN4 q e; omega
theorem pages_any {w : World} {g : Nat} {d : Dic} {t l : Sl} {ps : List (Nat × Sl)} (h : DictM 69 66 w g d t l ps) (hi : Inv0 d) :
    Calls Try.prog 22 #[.pointer (some ⟨g, 0, none⟩)] w fun e w' => ∃ (o : Sl) (ss : List Sl), e = .returned o.v ∧ PgM w' o ss (pagesD d) ∧ (∀ q ∈ footS o ss, w.heap.size ≤ q) ∧ Keeps Non w w' := by
  cases hs : d.small
  · exact pages_large h hi hs
  · exact pages_small' h hi hs
end Go.Proofs.Ytiieglfpmmhfiaa
namespace Go.Proofs.Ytiieglfpmmhfiaa
set_option maxRecDepth 100000
open Go.RowKit Go.Uc
/-- Pages as they are read. -/
def PgR (w : World) (A : Option Addr) (rs : List (List UInt8)) : Prop := ∀ i (h : i < rs.length), ∃ b off Ai ci, A = some ⟨b, off, none⟩ ∧ w.cell? ⟨b, off + i, none⟩ = some (.slice Ai rs[i].length ci) ∧ At w Ai rs[i]
theorem PgR.non {w w' : World} {A : Option Addr} {rs : List (List UInt8)} (h : PgR w A rs) (hk : Keeps Non w w') : PgR w' A rs := fun i hi => by
  obtain ⟨b, off, Ai, ci, e, hc, ha⟩ := h i hi
  exact ⟨b, off, Ai, ci, e, hk.cell hc id, ha.non hk⟩
theorem PgM.read {w : World} {A : Option Addr} {n c : Nat} {ss : List Sl} {bs : List (List UInt8)} (h : PgM w ⟨A, n, c⟩ ss bs) : n = bs.length ∧ PgR w A bs := by
  obtain ⟨A', c', e, -, -⟩ := h.row.val
  have e' : Value.slice A n c = .slice A' ss.length c' := e
  injection e' with e1 e2 e3
  refine ⟨by rw [e2, h.len], fun i hi => ?_⟩
  have hi' : i < ss.length := by rw [h.len]; exact hi
  obtain ⟨g, cap, e4, -, -, hc, -⟩ := h.row.at_ encS_len hi'
  have e5 : Value.slice A n c = .slice (some ⟨g, 0, none⟩) ss.length cap := e4
  injection e5 with e6
  have hp := h.pg i hi' hi
  obtain ⟨As, cs, es, -⟩ := hp.val
  have := hc 0 (by decide)
  refine ⟨g, 0, As, cs, e6, ?_, ?_⟩
  · rw [Nat.zero_add]
    simp [encS] at this
    rw [this]
    exact congrArg some es
  · have hp' : RowU w (.slice As bs[i].length cs) bs[i] := by rw [← es]; exact hp
    exact hp'.at_.2
theorem takeL_succ {a b : List (List UInt8)} {k : Nat} (hk : k < a.length) (hb : k < b.length) (h : a.take k = b.take k) : a.take (k + 1) = b.take (k + 1) ↔ a[k] = b[k] := by
  rw [List.take_succ_eq_append_getElem hk, List.take_succ_eq_append_getElem hb, h]
  constructor
  · intro e
    have := List.append_cancel_left e
    injection this
  · intro e; rw [e]
set_option maxHeartbeats 2000000 in
theorem same_any {w : World} {A B : Option Addr} {ca cb : Nat} {a b : List (List UInt8)} (ha : PgR w A a) (hb : PgR w B b) (hmx : a.length ≤ 9223372036854775807) :
    Calls Try.prog 51 #[.slice A a.length ca, .slice B b.length cb] w fun e w' => e = .returned (.bool (decide (a = b))) ∧ ∃ q, w' = w.drewN q := by
  by_cases hl : a.length = b.length
  · have hlb : ((a.length : Int) != (b.length : Int)) = false := by simp [hl]
    have HL := Lib.hid hl
    clear hl
    go_enter Try.func51, Try.ntmps51
    go_upto_region 4 with fail
    go_loopw [5] (fun i wr => ∃ k, k ≤ a.length ∧ i = .int .i64 (k : Int) ∧ Hid (a.take k = b.take k) ∧ ∃ q, wr = w.drewN q) (fun i _ => a.length - (intOf i).toNat)
    case atStart => exact ⟨0, Nat.zero_le _, rfl, rfl, 0, rfl⟩
    case round =>
      obtain ⟨k, hk, rfl, hE, q, hq⟩ := hrel
      obtain ⟨wx, rfl⟩ : ∃ W : World, W = wr := ⟨_, rfl⟩
      have hK : Keeps Non w wx := by rw [hq]; exact (Keeps.refl _ _).drewN q
      have HQ := Lib.hid hq
      clear hq
      by_cases hlt : k < a.length
      · have hltb : k < b.length := by have := HL.out; omega
        obtain ⟨b1, o1, A1, c1, rfl, x0, hA1⟩ := ((ha.non hK).non (Keeps.refl Non wx).drew) k hlt
        obtain ⟨b2, o2, A2, c2, rfl, y0, hA2⟩ := ((hb.non hK).non (Keeps.refl Non wx).drew) k hltb
        have HTK := Lib.hid (takeL_succ hlt hltb hE.out)
        have HAB : Hid (a.take (k + 1) ≠ b.take (k + 1) → a ≠ b) := Lib.hid (fun h e => h (by rw [e]))
        have hi1 : (k : Int) < (a.length : Int) := by omega
        have hi2 : (k : Int) < (b.length : Int) := by omega
        have cv1 : (convert 53 9 (.slice A1 a[k].length c1)).run Try.prog wx.drew = .ok (.string (str a[k])) wx.drew := run_convert_at 53 9 5 Try.underlying53 Try.underlying5 Try.underlying9 _ _ hA1 _ _ rfl
        have cv2 : (convert 53 9 (.slice A2 b[k].length c2)).run Try.prog wx.drew = .ok (.string (str b[k])) wx.drew := run_convert_at 53 9 5 Try.underlying53 Try.underlying5 Try.underlying9 _ _ hA2 _ _ rfl
        clear hA1 hA2
        generalize a[k] = ea at x0 cv1 HTK
        generalize b[k] = eb at y0 cv2 HTK
        by_cases hn : (str ea).toList = (str eb).toList
        · have HEE : Hid (ea = eb) := Lib.hid (by rw [str_toList, str_toList] at hn; exact hn)
          have hnb : ((str ea).toList == (str eb).toList) = true := by simp [hn]
          go_upto_region 6 with fail
          go_region
          go_wp2_with fail
          go_roundw
          case rel => exact ⟨k + 1, by omega, by go_num, Lib.hid (HTK.out.2 HEE.out), q + 1, by rw [HQ.out]; rfl⟩
          case measure => simp [intOf]; omega
        · have HD : Hid (decide (a = b) = false) := Lib.hid (decide_eq_false (HAB.out fun e => hn (by rw [HTK.out.1 e])))
          have hnb : ((str ea).toList == (str eb).toList) = false := by simp [hn]
          go_upto_region 6 with fail
          go_region
          go_wp2_with fail
          go_ret
          exact ⟨by rw [HD.out]; rfl, q + 1, by rw [HQ.out]; rfl⟩
      · obtain rfl : k = a.length := by omega
        have hab : a = b := by
          have := hE.out
          rw [List.take_of_length_le (Nat.le_refl _), List.take_of_length_le (by have := HL.out; omega)] at this
          exact this
        have HD : Hid (decide (a = b) = true) := Lib.hid (decide_eq_true hab)
        go_wp2_with fail
        go_ret
        exact ⟨by rw [HD.out]; rfl, q, HQ.out⟩
  · have hlb : ((a.length : Int) != (b.length : Int)) = true := by simp; omega
    have HD : Hid (decide (a = b) = false) := Lib.hid (decide_eq_false fun e => hl (by rw [e]))
    clear hl
    go_enter Try.func51, Try.ntmps51
    go_wp2_with fail
    go_ret
    exact ⟨by rw [HD.out]; rfl, 0, rfl⟩
end Go.Proofs.Ytiieglfpmmhfiaa
namespace Go.Proofs.Ytiieglfpmmhfiaa
open Go.RowKit Go.Uc
set_option maxHeartbeats 1000000 in
theorem Same_any {w : World} {A B : Option Addr} {ca cb : Nat} {a b : List (List UInt8)} (ha : PgR w A a) (hb : PgR w B b) (hmx : a.length ≤ 9223372036854775807) :
    Calls Try.prog 23 #[.slice A a.length ca, .slice B b.length cb] w fun e w' => e = .returned (.bool (decide (a = b))) ∧ ∃ q, w' = w.drewN q := by
  have H := Lib.hid (same_any (ca := ca) (cb := cb) ha hb hmx)
  clear ha hb hmx
  generalize decide (a = b) = r at H ⊢
  go_enter Try.func23, Try.ntmps23
  go_wp2_with ((go_at_call 51; refine H.out.mono ?_; rintro e w2 ⟨rfl, q, rfl⟩))
  go_ret
  exact ⟨rfl, q, rfl⟩
/-- slices.Index. -/
def idx (l : List Nat) (k : Nat) : Option Nat := l.findIdx? (· == k)
set_option maxHeartbeats 2000000 in
theorem index_any {w : World} {v : Value} {l : List Nat} (h : RowN w v l) (k : Nat) :
    Calls Try.prog 85 #[v, .int .i64 (k : Int)] w fun e w' => (∃ i : Nat, ∃ hi : i < l.length, e = .returned (.int .i64 (i : Int)) ∧ l[i] = k ∧ ∀ j (hj : j < l.length), j < i → l[j] ≠ k) ∧ w' = w ∨ (e = .returned (.int .i64 (-1)) ∧ k ∉ l) ∧ w' = w := by
  obtain ⟨A, c, rfl, hc, hm⟩ := h.val
  unfold maxLen at hm
  obtain ⟨Q, hQ⟩ : ∃ Q : Ending → World → Prop, Q = fun e w' => (∃ i : Nat, ∃ hi : i < l.length, e = .returned (.int .i64 (i : Int)) ∧ l[i] = k ∧ ∀ j (hj : j < l.length), j < i → l[j] ≠ k) ∧ w' = w ∨ (e = .returned (.int .i64 (-1)) ∧ k ∉ l) ∧ w' = w := ⟨_, rfl⟩
  rw [← hQ]
  have HQ := Lib.hid hQ
  clear hQ
  go_enter Try.func85, Try.ntmps85
  go_upto_region 2 with fail
  go_loopw [8] (fun i wr => ∃ m, m ≤ l.length ∧ i = .int .i64 (m : Int) ∧ wr = w ∧ Hid (∀ j (hj : j < l.length), j < m → l[j] ≠ k)) (fun i _ => l.length - (intOf i).toNat)
  case atStart => exact ⟨0, Nat.zero_le _, rfl, rfl, Lib.hid (fun j _ h => by omega)⟩
  case round =>
    obtain ⟨m, hm2, rfl, rfl, hN⟩ := hrel
    by_cases hlt : m < l.length
    · obtain ⟨g, cap, e1, -, x0, -⟩ := rowN_at h hlt
      injection e1 with e1 e2 e3
      clear e2
      subst e1 e3
      obtain ⟨x, hx⟩ : ∃ x, x = l[m] := ⟨_, rfl⟩
      rw [← hx] at x0
      have HX := Lib.hid hx
      clear hx
      by_cases hxk : x = k
      · have hb : ((k : Int) == (x : Int)) = true := by simp [hxk]
        have HXK := Lib.hid hxk
        clear hxk
        go_wp2_with fail
        rw [HQ.out]
        exact .inl ⟨⟨m, hlt, rfl, by rw [← HX.out]; exact HXK.out, hN.out⟩, rfl⟩
      · have hb : ((k : Int) == (x : Int)) = false := beq_eq_false_iff_ne.2 (by omega)
        have HXK := Lib.hid hxk
        clear hxk
        go_wp2_with fail
        go_roundw
        case rel => exact ⟨m + 1, by omega, by go_num, by trivial, Lib.hid (fun j hj h => by rcases Nat.lt_or_ge j m with h' | h'; (exact hN.out j hj h'); (obtain rfl : j = m := by omega); rw [← HX.out]; exact HXK.out)⟩
        case measure => simp [intOf]; omega
    · obtain rfl : m = l.length := by omega
      go_wp2_with fail
      rw [HQ.out]
      exact .inr ⟨⟨rfl, fun hk => by obtain ⟨j, hj, e⟩ := List.getElem_of_mem hk; exact hN.out j hj hj e⟩, rfl⟩
end Go.Proofs.Ytiieglfpmmhfiaa
