/- Rows of replies of the call's own; tables as plain lists. -/
import Derived.Test.YtmlffigfhhoihacS13
namespace Go.Proofs.Ytmlffigfhhoihac
open Go.RowKit Go.Uc

/-- Is there a reply? -/
def Rp.there (r : Rp) : Bool := decide (0 < r.id)
/-- The replies of the first n sessions. -/
def listTo (K : Nat → Rp) (n : Nat) : List Rp := ((List.range n).map K).filter Rp.there
/-- The replies of n sessions from m on. -/
def listFrom (K : Nat → Rp) (m n : Nat) : List Rp := listTo (fun i => K (m + i)) n
theorem listTo_succ (K : Nat → Rp) (n : Nat) : listTo K (n + 1) = listTo K n ++ (if 0 < (K n).id then [K n] else []) := by
  unfold listTo
  rw [List.range_succ, List.map_append, List.filter_append]
  congr 1
  by_cases h : 0 < (K n).id <;> simp [h, Rp.there]
theorem listTo_length (K : Nat → Rp) (n : Nat) : (listTo K n).length ≤ n := by
  unfold listTo
  exact Nat.le_trans (List.length_filter_le _ _) (by simp)
theorem listTo_add (K : Nat → Rp) (m n : Nat) : listTo K (m + n) = listTo K m ++ listFrom K m n := by
  unfold listFrom listTo
  rw [List.range_add, List.map_append, List.filter_append, List.map_map]
  rfl
theorem listTo_congr {K K' : Nat → Rp} {n : Nat} (h : ∀ i, i < n → K i = K' i) : listTo K n = listTo K' n := by
  unfold listTo
  congr 1
  exact List.map_congr_left fun i hi => h i (List.mem_range.1 hi)
theorem listTo_none {K : Nat → Rp} {n : Nat} (h : ∀ i, i < n → K i = Rp.none) : listTo K n = [] := by
  induction n with
  | zero => rfl
  | succ n ih => rw [listTo_succ, ih fun i hi => h i (by omega), h n (by omega)]; rfl
theorem listFrom_succ (K : Nat → Rp) (m n : Nat) : listFrom K m (n + 1) = (if 0 < (K m).id then [K m] else []) ++ listFrom K (m + 1) n := by
  have h1 : listFrom K m (1 + n) = listTo (fun i => K (m + i)) 1 ++ listFrom (fun i => K (m + i)) 1 n := listTo_add _ 1 n
  rw [Nat.add_comm n 1, h1, listTo_succ]
  congr 1
  unfold listFrom
  refine listTo_congr fun i _ => ?_
  show K (m + (1 + i)) = _
  rw [show m + (1 + i) = m + 1 + i by omega]
theorem list_mid (K : Nat → Rp) {s : Nat} (h : s ≤ 8) : listTo K 9 = listTo K s ++ ((if 0 < (K s).id then [K s] else []) ++ listFrom K (s + 1) (8 - s)) := by
  have e := listTo_add K (s + 1) (8 - s)
  rw [listTo_succ K s, List.append_assoc, show s + 1 + (8 - s) = 9 by omega] at e
  exact e
theorem list_put (K : Nat → Rp) {s : Nat} (h : s ≤ 8) (p : Rp) (hp : 0 < p.id) : listTo (upd K s p) 9 = listTo K s ++ (p :: listFrom K (s + 1) (8 - s)) := by
  have e1 : listTo (upd K s p) s = listTo K s := listTo_congr fun i hi => upd_other _ (by omega) _
  have e2 : listFrom (upd K s p) (s + 1) (8 - s) = listFrom K (s + 1) (8 - s) := listTo_congr fun i hi => upd_other _ (by omega) _
  rw [list_mid _ h, upd_same, if_pos hp, e1, e2]
  rfl

/-- Every reply lies at its session, and has a number. -/
def Good (K : Nat → Rp) : Prop := ∀ i, K i = Rp.none ∨ (1 ≤ i ∧ i ≤ 8 ∧ (K i).ses = i ∧ 1 ≤ (K i).id ∧ (K i).id ≤ 1073741824)
theorem Good.none : Good fun _ => Rp.none := fun _ => .inl rfl
theorem Good.upd {K : Nat → Rp} {p : Rp} (h : Good K) (hb : isB p.ses p.id = true) : Good (upd K p.ses.toNat p) := fun i => by
  have := isB_of hb
  by_cases e : i = p.ses.toNat
  · rw [e, upd_same]; exact .inr ⟨by omega, by omega, by omega, by omega, by omega⟩
  · rw [upd_other _ e]; exact h i
theorem Good.mem {K : Nat → Rp} {m n : Nat} {r : Rp} (h : Good K) (hr : r ∈ listFrom K m n) : ∃ i, m ≤ i ∧ i < m + n ∧ 1 ≤ i ∧ i ≤ 8 ∧ r = K i ∧ r.ses = i ∧ 1 ≤ r.id ∧ r.id ≤ 1073741824 := by
  unfold listFrom listTo at hr
  rw [List.mem_filter, List.mem_map] at hr
  obtain ⟨⟨j, hj, rfl⟩, hp⟩ := hr
  have hj := List.mem_range.1 hj
  rcases h (m + j) with e | ⟨h1, h2, h3, h4, h5⟩
  · simp only [e] at hp; exact absurd hp (by decide)
  · exact ⟨m + j, by omega, by omega, h1, h2, rfl, h3, h4, h5⟩
theorem listTo_from (K : Nat → Rp) (n : Nat) : listTo K n = listFrom K 0 n := listTo_congr fun i _ => by rw [Nat.zero_add]
/-- The reply that is kept of a session. -/
def ofV (K : Nat → Rp) (s : Int) : Rp := if 1 ≤ s ∧ s ≤ 8 then K s.toNat else Rp.none
theorem of_found {K : Nat → Rp} {r : Rp} (h : Good K) (hr : r ∈ listTo K 9) : ofV K r.ses = r := by
  rw [listTo_from] at hr
  obtain ⟨i, -, -, h1, h2, h3, h4, -⟩ := h.mem hr
  unfold ofV
  rw [if_pos (by omega), show r.ses.toNat = i by omega, h3]
theorem of_none {K : Nat → Rp} {s : Int} (h : Good K) (hr : ∀ r ∈ listTo K 9, r.ses ≠ s) : ofV K s = Rp.none := by
  unfold ofV
  by_cases hs : 1 ≤ s ∧ s ≤ 8
  · rw [if_pos hs]
    rcases h s.toNat with e | ⟨h1, h2, h3, h4, h5⟩
    · exact e
    · refine absurd ?_ (hr (K s.toNat) ?_)
      · omega
      · unfold listTo
        rw [List.mem_filter, List.mem_map]
        exact ⟨⟨s.toNat, List.mem_range.2 (by omega), rfl⟩, by simp [Rp.there]; omega⟩
  · rw [if_neg hs]
theorem ofV_is {K : Nat → Rp} {s i : Int} (h : isB s i = true) : ofV K s = K s.toNat := by
  have := isB_of h
  unfold ofV
  rw [if_pos (by omega)]
theorem ofV_last {K : Nat → Rp} (s : Int) : (ofV K s).id = lastV K s := by
  unfold ofV lastV
  by_cases h : 1 ≤ s ∧ s ≤ 8
  · rw [if_pos h, if_pos (by simp [isB]; omega)]
  · rw [if_neg h, if_neg (by simp [isB]; omega)]; rfl

/-- One step of the document's Keep. -/
def insS (p : Rp) (st : List Rp × Bool) (x : Rp) : List Rp × Bool :=
  ((if x.ses = p.ses then (if st.2 = false ∧ p.ses ≤ x.ses then st.1 ++ [p] else st.1) else (if st.2 = false ∧ p.ses ≤ x.ses then st.1 ++ [p] else st.1) ++ [x]), st.2 || decide (p.ses ≤ x.ses))
def insF (p : Rp) (st : List Rp × Bool) : List Rp := if st.2 = true then st.1 else st.1 ++ [p]
theorem ins_lo {p : Rp} : ∀ (L out : List Rp), (∀ x ∈ L, x.ses < p.ses) → L.foldl (insS p) (out, false) = (out ++ L, false)
  | [], out, _ => by simp
  | x :: L, out, h => by
    have hx := h x (by simp)
    have e : insS p (out, false) x = (out ++ [x], false) := by
      unfold insS
      rw [if_neg (by omega), if_neg (by omega)]
      simp; omega
    rw [List.foldl_cons, e, ins_lo L _ fun y hy => h y (by simp [hy])]
    simp
theorem ins_hi {p : Rp} : ∀ (L out : List Rp), (∀ x ∈ L, p.ses < x.ses) → L.foldl (insS p) (out, true) = (out ++ L, true)
  | [], out, _ => by simp
  | x :: L, out, h => by
    have hx := h x (by simp)
    have e : insS p (out, true) x = (out ++ [x], true) := by
      unfold insS
      rw [if_neg (by omega), if_neg (by simp)]
      simp
    rw [List.foldl_cons, e, ins_hi L _ fun y hy => h y (by simp [hy])]
    simp
theorem ins_end {p : Rp} (L out : List Rp) (h : ∀ x ∈ L, p.ses < x.ses) : insF p (L.foldl (insS p) (out, false)) = out ++ p :: L := by
  cases L with
  | nil => simp [insF]
  | cons x L =>
    have hx := h x (by simp)
    have e : insS p (out, false) x = (out ++ [p] ++ [x], true) := by
      unfold insS
      rw [if_neg (by omega), if_pos ⟨rfl, by omega⟩]
      simp; omega
    rw [List.foldl_cons, e, ins_hi L _ fun y hy => h y (by simp [hy])]
    simp [insF]
theorem ins_list {K : Nat → Rp} {p : Rp} (h : Good K) (hb : isB p.ses p.id = true) : insF p ((listTo K 9).foldl (insS p) ([], false)) = listTo (upd K p.ses.toNat p) 9 := by
  have hB := isB_of hb
  obtain ⟨s, hs⟩ := Int.eq_ofNat_of_zero_le (show 0 ≤ p.ses by omega)
  have hst : p.ses.toNat = s := by omega
  rw [hst, list_put K (by omega) p (by omega), list_mid K (s := s) (by omega), List.foldl_append, List.foldl_append]
  have hlo : ∀ x ∈ listTo K s, x.ses < p.ses := fun x hx => by
    rw [listTo_from] at hx
    obtain ⟨i, -, hi, -, -, -, e, -⟩ := h.mem hx
    omega
  have hhi : ∀ x ∈ listFrom K (s + 1) (8 - s), p.ses < x.ses := fun x hx => by
    obtain ⟨i, hi, -, -, -, -, e, -⟩ := h.mem hx
    omega
  rw [ins_lo _ _ hlo, List.nil_append]
  by_cases hk : 0 < (K s).id
  · have hks : (K s).ses = p.ses := by
      rcases h s with e | ⟨-, -, e, -⟩
      · rw [e] at hk; exact absurd hk (by decide)
      · omega
    have e : insS p (listTo K s, false) (K s) = (listTo K s ++ [p], true) := by
      unfold insS
      rw [if_pos hks, if_pos ⟨rfl, by omega⟩]
      simp; omega
    rw [if_pos hk, List.foldl_cons, List.foldl_nil, e, ins_hi _ _ hhi]
    simp [insF]
  · rw [if_neg hk, List.foldl_nil, ins_end _ _ hhi]
theorem take_foldl {α β : Type} (f : β → α → β) (z : β) (L : List α) (k : Nat) (h : k < L.length) : (L.take (k + 1)).foldl f z = f ((L.take k).foldl f z) L[k] := by
  rw [List.take_succ_eq_append_getElem h, List.foldl_append]
  rfl

/-- Is a list one that Load takes? -/
def loadB : Int → List Rp → Bool
  | _, [] => true
  | last, r :: rs => isB r.ses r.id && decide (last < r.ses) && loadB r.ses rs
/-- The table that a list makes. -/
def tabF (K : Nat → Rp) : List Rp → Nat → Rp
  | [] => K
  | r :: rs => tabF (upd K r.ses.toNat r) rs
theorem load_list : ∀ (rs : List Rp) (K : Nat → Rp) (last : Nat), last ≤ 8 → Good K → (∀ i, last < i → K i = Rp.none) → loadB last rs = true → listTo (tabF K rs) 9 = listTo K 9 ++ rs ∧ Good (tabF K rs)
  | [], K, last, _, hg, _, _ => by simp [tabF, hg]
  | r :: rs, K, last, hl, hg, hz, hb => by
    simp only [loadB, Bool.and_eq_true, decide_eq_true_eq] at hb
    obtain ⟨⟨h1, h2⟩, h3⟩ := hb
    have hB := isB_of h1
    obtain ⟨s, hs⟩ := Int.eq_ofNat_of_zero_le (show 0 ≤ r.ses by omega)
    have hst : r.ses.toNat = s := by omega
    rw [hs] at h3
    have ih := load_list rs (upd K r.ses.toNat r) s (by omega) (hg.upd h1) (fun i hi => by rw [hst, upd_other _ (by omega)]; exact hz i (by omega)) h3
    refine ⟨?_, ih.2⟩
    have e1 : listFrom K (s + 1) (8 - s) = [] := listTo_none fun i _ => hz _ (by omega)
    have e2 : K s = Rp.none := hz s (by omega)
    show listTo (tabF (upd K r.ses.toNat r) rs) 9 = _
    rw [ih.1, hst, list_put K (by omega) r (by omega), list_mid K (s := s) (by omega), e1, e2]
    simp [Rp.none]
theorem load_back : ∀ (n m : Nat) (K K0 : Nat → Rp) (last : Nat), Good K → last < m → (∀ i, i < m → K0 i = K i) → (∀ i, m ≤ i → K0 i = Rp.none) →
    loadB last (listFrom K m n) = true ∧ ∀ i, tabF K0 (listFrom K m n) i = if i < m + n then K i else Rp.none
  | 0, m, K, K0, last, hg, hl, h1, h2 => by
    refine ⟨rfl, fun i => ?_⟩
    show K0 i = _
    by_cases h : i < m
    · rw [if_pos (by omega)]; exact h1 i h
    · rw [if_neg (by omega)]; exact h2 i (by omega)
  | n + 1, m, K, K0, last, hg, hl, h1, h2 => by
    rw [listFrom_succ]
    by_cases hk : 0 < (K m).id
    · rcases hg m with e | ⟨a1, a2, a3, a4, a5⟩
      · rw [e] at hk; exact absurd hk (by decide)
      have hst : (K m).ses.toNat = m := by omega
      have ih := load_back n (m + 1) K (upd K0 m (K m)) m hg (by omega) (fun i hi => by
        by_cases e : i = m
        · rw [e, upd_same]
        · rw [upd_other _ e]; exact h1 i (by omega)) (fun i hi => by rw [upd_other _ (by omega)]; exact h2 i (by omega))
      rw [if_pos hk]
      constructor
      · simp only [List.cons_append, List.nil_append, loadB, a3, ih.1, Bool.and_true, Bool.and_eq_true, decide_eq_true_eq]
        exact ⟨by simp [isB]; omega, by omega⟩
      · intro i
        show tabF (upd K0 (K m).ses.toNat (K m)) (listFrom K (m + 1) n) i = _
        rw [hst, ih.2 i, show m + 1 + n = m + (n + 1) by omega]
    · have e : K m = Rp.none := by
        rcases hg m with e | ⟨_, _, _, a4, _⟩
        · exact e
        · omega
      have ih := load_back n (m + 1) K K0 last hg (by omega) (fun i hi => by
        by_cases e' : i = m
        · rw [e', h2 m (by omega), e]
        · exact h1 i (by omega)) (fun i hi => h2 i (by omega))
      rw [if_neg hk, List.nil_append]
      refine ⟨ih.1, fun i => ?_⟩
      rw [ih.2 i, show m + 1 + n = m + (n + 1) by omega]
theorem load_all {K : Nat → Rp} (h : Good K) : loadB 0 (listTo K 9) = true ∧ tabF (fun _ => Rp.none) (listTo K 9) = K := by
  have e0 : K 0 = Rp.none := by
    rcases h 0 with e | ⟨e, -⟩
    · exact e
    · omega
  have e1 : listTo K 1 = [] := listTo_none fun i hi => by rw [show i = 0 by omega]; exact e0
  have e2 : listTo K 9 = listFrom K 1 8 := by
    have := listTo_add K 1 8
    rw [e1] at this
    exact this
  have hb := load_back 8 1 K (fun _ => Rp.none) 0 h (by omega) (fun i hi => by rw [show i = 0 by omega]; exact e0.symm) (fun _ _ => rfl)
  rw [e2]
  refine ⟨hb.1, funext fun i => ?_⟩
  rw [hb.2 i]
  by_cases hi : i < 1 + 8
  · rw [if_pos hi]
  · rw [if_neg hi]
    rcases h i with e | ⟨_, e, _⟩
    · exact e.symm
    · omega
end Go.Proofs.Ytmlffigfhhoihac
