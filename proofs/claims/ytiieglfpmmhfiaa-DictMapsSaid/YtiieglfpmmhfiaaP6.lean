/- Pages read, plainly: what is taken, and what that says. -/
import Derived.Test.YtiieglfpmmhfiaaP5
namespace Go.Proofs.Ytiieglfpmmhfiaa
open Go.Uc

theorem le4_rd4 (p : List UInt8) (a : Nat) (h : a + 4 ≤ p.length) : le 4 (rd4 p a) = (p.drop a).take 4 := by
  have hg : ∀ i, i < 4 → p.getD (a + i) 0 = p[a + i]! := fun i hi => by
    rw [List.getD_eq_getElem?_getD, List.getElem!_eq_getElem?_getD]; rfl
  have hd : (p.drop a).take 4 = [p.getD a 0, p.getD (a + 1) 0, p.getD (a + 2) 0, p.getD (a + 3) 0] := by
    apply List.ext_getElem?
    intro i
    rw [List.getElem?_take]
    by_cases hi : i < 4
    · rw [if_pos hi, List.getElem?_drop]
      have : i = 0 ∨ i = 1 ∨ i = 2 ∨ i = 3 := by omega
      have hh : ∀ j, j < 4 → p[a + j]? = some (p.getD (a + j) 0) := fun j hj => by
        rw [List.getD_eq_getElem?_getD, List.getElem?_eq_getElem (by omega)]; rfl
      rcases this with rfl | rfl | rfl | rfl
      · rw [hh 0 (by omega)]; rfl
      · rw [hh 1 (by omega)]; rfl
      · rw [hh 2 (by omega)]; rfl
      · rw [hh 3 (by omega)]; rfl
    · rw [if_neg hi, List.getElem?_eq_none (by simp; omega)]
  rw [hd]
  unfold rd4
  generalize p.getD a 0 = x0
  generalize p.getD (a + 1) 0 = x1
  generalize p.getD (a + 2) 0 = x2
  generalize p.getD (a + 3) 0 = x3
  have h0 := x0.toNat_lt
  have h1 := x1.toNat_lt
  have h2 := x2.toNat_lt
  have h3 := x3.toNat_lt
  have key : ∀ (n : Nat) (x : UInt8), n = x.toNat → UInt8.ofNat n = x := fun n x e => by rw [e]; simp
  simp only [le]
  rw [key _ x0 (by omega), key _ x1 (by omega), key _ x2 (by omega), key _ x3 (by omega)]
theorem srt_snoc {l : List Ent} (hs : Srt l) (e : Ent) (h : ¬ (l.getLast?.map fun x => lt x.name e.name) = some false) : Srt (l ++ [e]) := by
  unfold Srt at *
  rw [List.pairwise_append]
  refine ⟨hs, by simp, ?_⟩
  intro x hx y hy
  rw [List.mem_singleton] at hy
  subst hy
  rcases List.eq_nil_or_concat l with rfl | ⟨L, b, rfl⟩
  · simp at hx
  · rw [List.concat_eq_append] at *
    rw [List.getLast?_concat] at h
    have hb : lt b.name y.name = true := by
      cases hh : lt b.name y.name
      · exact absurd (by simp [hh]) h
      · rfl
    rw [List.pairwise_append] at hs
    rcases List.mem_append.1 hx with hx | hx
    · exact lt_trans (hs.2.2 x hx b (by simp)) hb
    · rw [List.mem_singleton] at hx; rw [hx]; exact hb
theorem entG_big {p : List UInt8} {m a : Nat} {l : List Ent} (h : 256 ≤ a) : entG p (m + 1) a l = none := by unfold entG; rw [if_pos h]
theorem entG_bad {p : List UInt8} {m a : Nat} {l : List Ent} (h0 : ¬ 256 ≤ a) (h : (p.getD a 0).toNat < 1 ∨ 24 < (p.getD a 0).toNat ∨ 256 < a + (p.getD a 0).toNat + 5) : entG p (m + 1) a l = none := by
  unfold entG; rw [if_neg h0]; simp only; rw [if_pos h]
theorem entG_val {p : List UInt8} {m a n : Nat} {l : List Ent} {e : Ent} (h0 : ¬ 256 ≤ a) (hn : n = (p.getD a 0).toNat) (h : ¬ (n < 1 ∨ 24 < n ∨ 256 < a + n + 5)) (he : e = ⟨(p.drop (a + 1)).take n, (rd4 p (a + 1 + n) : Int)⟩) (h2 : 2147483647 < e.val ∨ (l.getLast?.map fun x => lt x.name e.name) = some false) : entG p (m + 1) a l = none := by
  subst hn he
  unfold entG; rw [if_neg h0]; simp only; rw [if_neg h]
  exact if_pos h2
theorem entG_ok {p : List UInt8} {m a n : Nat} {l : List Ent} {e : Ent} (h0 : ¬ 256 ≤ a) (hn : n = (p.getD a 0).toNat) (h : ¬ (n < 1 ∨ 24 < n ∨ 256 < a + n + 5)) (he : e = ⟨(p.drop (a + 1)).take n, (rd4 p (a + 1 + n) : Int)⟩) (h2 : ¬ (2147483647 < e.val ∨ (l.getLast?.map fun x => lt x.name e.name) = some false)) : entG p (m + 1) a l = entG p m (a + n + 5) (l ++ [e]) := by
  subst hn he
  conv => lhs; unfold entG
  rw [if_neg h0]; simp only; rw [if_neg h]
  exact if_neg h2
theorem entG_some : ∀ (m : Nat) (p : List UInt8) (at_ : Nat) (l : List Ent) (at' : Nat) (l' : List Ent), p.length = 256 → entG p m at_ l = some (at', l') → Srt l → at_ ≤ 256 →
    ∃ r, l' = l ++ r ∧ r.length = m ∧ at' = at_ + roomE r ∧ at' ≤ 256 ∧ (∀ e ∈ r, GoodE e) ∧ Srt (l ++ r) ∧ (p.drop at_).take (roomE r) = r.flatMap entB := by
  intro m
  induction m with
  | zero =>
    intro p at_ l at' l' _ h hs ha
    simp only [entG, Option.some.injEq, Prod.mk.injEq] at h
    obtain ⟨rfl, rfl⟩ := h
    exact ⟨[], by simp, rfl, by simp [roomE], ha, by simp, by simpa using hs, by simp [roomE]⟩
  | succ m ih =>
    intro p at_ l at' l' hp h hs ha
    by_cases h1 : 256 ≤ at_
    · rw [entG_big h1] at h; cases h
    have hal : at_ < p.length := by omega
    obtain ⟨n, hn⟩ : ∃ n, n = (p.getD at_ 0).toNat := ⟨_, rfl⟩
    by_cases h2 : n < 1 ∨ 24 < n ∨ 256 < at_ + n + 5
    · rw [entG_bad h1 (by rw [← hn]; exact h2)] at h; cases h
    obtain ⟨e, he⟩ : ∃ e : Ent, e = ⟨(p.drop (at_ + 1)).take n, (rd4 p (at_ + 1 + n) : Int)⟩ := ⟨_, rfl⟩
    have hen : e.name = (p.drop (at_ + 1)).take n := by rw [he]
    have hev : e.val = (rd4 p (at_ + 1 + n) : Int) := by rw [he]
    have henl : e.name.length = n := by rw [hen, List.length_take, List.length_drop]; omega
    by_cases h3 : 2147483647 < e.val ∨ (l.getLast?.map fun x => lt x.name e.name) = some false
    · rw [entG_val h1 hn h2 he h3] at h; cases h
    rw [entG_ok h1 hn h2 he h3] at h
    have hs2 := srt_snoc hs e (fun hh => h3 (.inr hh))
    obtain ⟨r, e1, e2, e3, e4, e5, e6, e7⟩ := ih p (at_ + n + 5) (l ++ [e]) at' l' hp h hs2 (by omega)
    have hr : roomE (e :: r) = 5 + n + roomE r := by simp [roomE, henl]
    refine ⟨e :: r, by rw [e1]; simp, by simp [e2], by rw [hr, e3]; omega, e4, ?_, by rw [List.append_assoc] at e6; exact e6, ?_⟩
    · intro x hx
      rcases List.mem_cons.1 hx with rfl | hx
      · exact ⟨by omega, by omega, by omega, by omega⟩
      · exact e5 x hx
    · rw [hr, List.flatMap_cons, ← e7, List.take_add, List.drop_drop]
      rw [show at_ + (5 + n) = at_ + n + 5 by omega]
      congr 1
      unfold entB
      rw [henl, hev, Int.toNat_natCast, le4_rd4 _ _ (by omega), hen]
      have hc : p.drop at_ = p[at_]'hal :: p.drop (at_ + 1) := List.drop_eq_getElem_cons hal
      rw [hc, show 5 + n = (n + 4) + 1 by omega, List.take_succ_cons, List.take_add, List.drop_drop]
      have hg : p.getD at_ 0 = p[at_]'hal := by rw [List.getD_eq_getElem?_getD, List.getElem?_eq_getElem hal]; rfl
      have hc2 : UInt8.ofNat n = p[at_]'hal := by rw [hn, hg]; simp
      rw [hc2]
/-- What a page says that is taken. -/
theorem entF_some {p : List UInt8} {m : Nat} {l : List Ent} (hp : p.length = 256) (h : entF p m = some l) :
    l.length = m ∧ fitE l = true ∧ (∀ e ∈ l, GoodE e) ∧ Srt l ∧ p = laidB (p.getD 0 0) (p.getD 1 0) (p.getD 2 0) l := by
  unfold entF at h
  cases hg : entG p m 3 [] with
  | none => rw [hg] at h; cases h
  | some q =>
    obtain ⟨at', l'⟩ := q
    rw [hg] at h
    simp only at h
    by_cases hz : ((p.drop at').all (· == 0)) = true
    · rw [if_pos hz] at h
      injection h with h
      subst h
      obtain ⟨r, e1, e2, e3, e4, e5, e6, e7⟩ := entG_some m p 3 [] at' l' hp hg (List.Pairwise.nil) (by omega)
      rw [List.nil_append] at e1 e6
      subst e1
      refine ⟨e2, by unfold fitE; exact decide_eq_true (by omega), e5, e6, ?_⟩
      have h3 : p = p.take 3 ++ (p.drop 3) := (List.take_append_drop 3 p).symm
      have h4 : p.take 3 = [p.getD 0 0, p.getD 1 0, p.getD 2 0] := by
        match p, hp with
        | a :: b :: c :: p, _ => rfl
      have h5 : p.drop 3 = l'.flatMap entB ++ p.drop at' := by
        rw [← e7, e3]
        have := (List.take_append_drop (roomE l') (p.drop 3)).symm
        rw [List.drop_drop] at this
        exact this
      have h6 : p.drop at' = zeros (256 - at') := by
        apply List.ext_getElem
        · simp [zeros, hp]
        · intro i h1 h2
          have := List.all_eq_true.1 hz _ (List.getElem_mem h1)
          simp [zeros]
          simpa using this
      unfold laidB pad
      rw [List.length_append, ents_len]
      rw [← h4]
      have hl3 : (p.take 3).length = 3 := by rw [List.length_take]; omega
      rw [hl3, ← e3, ← h6, List.append_assoc, ← h5]
      exact h3
    · rw [if_neg hz] at h; cases h
end Go.Proofs.Ytiieglfpmmhfiaa
