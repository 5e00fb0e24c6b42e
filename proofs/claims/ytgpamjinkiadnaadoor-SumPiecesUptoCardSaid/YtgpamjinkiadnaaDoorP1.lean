/- Fletcher's sum, the plain laws. -/
import Derived.Test.YtgpamjinkiadnaaDoorU7
namespace Go.Proofs.YtgpamjinkiadnaaDoor
open Go.RowKit Go.Uc

theorem Rn.add_append (x : Rn) (a b : List UInt8) : (x.add a).add b = x.add (a ++ b) := by simp [Rn.add, List.foldl_append]
/-- What is not in yet is nought. -/
def Rn.Ok (x : Rn) : Prop := x.k < 4 ∧ (x.k = 0 → x.p = 0) ∧ (x.k ≤ 1 → x.q = 0) ∧ (x.k ≤ 2 → x.r = 0) ∧ (x.k ≤ 3 → x.t = 0)
theorem rn0_ok : rn0.Ok := by unfold Rn.Ok rn0; simp
theorem Rn.cases4 (x : Rn) (h : x.k < 4) : x.k = 0 ∨ x.k = 1 ∨ x.k = 2 ∨ x.k = 3 := by omega
theorem Rn.step_ok (x : Rn) (c : UInt8) (h : x.Ok) : (x.step c).Ok := by
  obtain ⟨s, p, q, r, t, k⟩ := x
  obtain ⟨h0, h1, h2, h3, h4⟩ := h
  simp only at h0 h1 h2 h3 h4
  rcases (show k = 0 ∨ k = 1 ∨ k = 2 ∨ k = 3 by omega) with rfl | rfl | rfl | rfl <;> simp_all [Rn.step, Rn.Ok]
theorem Rn.add_ok (bs : List UInt8) : ∀ (x : Rn), x.Ok → (x.add bs).Ok := by
  induction bs with
  | nil => exact fun _ h => h
  | cons c bs ih => exact fun x h => ih _ (x.step_ok c h)
theorem Rn.step_k (x : Rn) (c : UInt8) (h : x.k < 4) : (x.step c).k = (x.k + 1) % 4 := by
  obtain ⟨s, p, q, r, t, k⟩ := x
  simp only at h
  rcases (show k = 0 ∨ k = 1 ∨ k = 2 ∨ k = 3 by omega) with rfl | rfl | rfl | rfl <;> simp [Rn.step]
theorem Rn.add_k (bs : List UInt8) : ∀ (x : Rn), x.k < 4 → (x.add bs).k = (x.k + bs.length) % 4 := by
  induction bs with
  | nil => intro x h; simp [Rn.add]; omega
  | cons c bs ih =>
    intro x h
    have := ih (x.step c) (x.step_lt c)
    show ((x.step c).add bs).k = _
    rw [this, x.step_k c h, List.length_cons]
    omega
/-- Noughts up to a whole word leave the value as it is. -/
theorem Rn.pad (x : Rn) (h : x.Ok) : (x.add (zeros ((4 - x.k) % 4))).value = x.value ∧ (x.add (zeros ((4 - x.k) % 4))).k = 0 := by
  obtain ⟨s, p, q, r, t, k⟩ := x
  obtain ⟨h0, h1, h2, h3, h4⟩ := h
  simp only at h0 h1 h2 h3 h4
  rcases (show k = 0 ∨ k = 1 ∨ k = 2 ∨ k = 3 by omega) with rfl | rfl | rfl | rfl
  · simp [zeros, Rn.add]
  · have e2 := h2 (by omega); have e3 := h3 (by omega); have e4 := h4 (by omega)
    subst e2 e3 e4
    simp [zeros, List.replicate, Rn.add, Rn.step, Rn.value]
  · have e3 := h3 (by omega); have e4 := h4 (by omega)
    subst e3 e4
    simp [zeros, List.replicate, Rn.add, Rn.step, Rn.value]
  · have e4 := h4 (by omega)
    subst e4
    simp [zeros, Rn.add, Rn.step, Rn.value]
/-- Four noughts more behind whole words. -/
theorem Rn.next0 (x : Rn) (h : x.k = 0) : (x.add [0, 0, 0, 0]).value = ⟨x.value.a, x.value.b + x.value.a, x.value.c + (x.value.b + x.value.a), x.value.d + (x.value.c + (x.value.b + x.value.a))⟩ := by
  obtain ⟨⟨A, B, C, D⟩, p, q, r, t, k⟩ := x
  simp only at h
  subst h
  have hw : word4 0 0 0 0 = 0 := by decide
  simp [Rn.add, Rn.step, Rn.value, Sum4.plus, hw]
/-- The sum of bytes. -/
def sumF (bs : List UInt8) : Sum4 := (rn0.add bs).value
/-- How many noughts make whole words. -/
def lacks (n : Nat) : Nat := (4 - n % 4) % 4
theorem sumF_pad (bs : List UInt8) : sumF (bs ++ zeros (lacks bs.length)) = sumF bs := by
  have h := (Rn.pad _ (Rn.add_ok bs rn0 rn0_ok)).1
  have hk : (rn0.add bs).k = bs.length % 4 := by rw [Rn.add_k bs rn0 (by decide)]; simp [rn0]
  rw [hk, Rn.add_append] at h
  exact h
theorem sumF_next (bs : List UInt8) (h : bs.length % 4 = 0) : sumF (bs ++ [0, 0, 0, 0]) = ⟨(sumF bs).a, (sumF bs).b + (sumF bs).a, (sumF bs).c + ((sumF bs).b + (sumF bs).a), (sumF bs).d + ((sumF bs).c + ((sumF bs).b + (sumF bs).a))⟩ := by
  have hk : (rn0.add bs).k = 0 := by rw [Rn.add_k bs rn0 (by decide)]; simp [rn0, h]
  have := Rn.next0 _ hk
  rw [Rn.add_append] at this
  exact this
#print axioms sumF_next
#print axioms sumF_pad
end Go.Proofs.YtgpamjinkiadnaaDoor
