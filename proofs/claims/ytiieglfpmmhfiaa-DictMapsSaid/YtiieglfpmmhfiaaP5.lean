/- Pages read, plainly. -/
import Derived.Test.YtiieglfpmmhfiaaM4
namespace Go.Proofs.Ytiieglfpmmhfiaa
open Go.Uc

/-- Four bytes as a number. -/
def rd4 (p : List UInt8) (at_ : Nat) : Nat := (p.getD at_ 0).toNat + (p.getD (at_ + 1) 0).toNat * 256 + (p.getD (at_ + 2) 0).toNat * 65536 + (p.getD (at_ + 3) 0).toNat * 16777216
/-- So many entries from a place on, behind those that there are; none: it refuses. -/
def entG (p : List UInt8) : Nat → Nat → List Ent → Option (Nat × List Ent)
  | 0, at_, l => some (at_, l)
  | m + 1, at_, l =>
    if 256 ≤ at_ then none
    else
      let n := (p.getD at_ 0).toNat
      if n < 1 ∨ 24 < n ∨ 256 < at_ + n + 5 then none
      else
        let e : Ent := ⟨(p.drop (at_ + 1)).take n, (rd4 p (at_ + 1 + n) : Int)⟩
        if 2147483647 < e.val ∨ (l.getLast?.map fun x => lt x.name e.name) = some false then none
        else entG p m (at_ + n + 5) (l ++ [e])
/-- Those of a page, all behind them noughts. -/
def entF (p : List UInt8) (m : Nat) : Option (List Ent) :=
  match entG p m 3 [] with
  | some (at_, l) => if (p.drop at_).all (· == 0) = true then some l else none
  | none => none
theorem le4_read (x y : List UInt8) (m : Nat) (h : m < 4294967296) : rd4 (x ++ le 4 m ++ y) x.length = m := by
  unfold rd4
  have hg : ∀ i, i < 4 → (x ++ le 4 m ++ y).getD (x.length + i) 0 = UInt8.ofNat (m / 256 ^ i % 256) := fun i hi => by
    rw [List.getD_eq_getElem?_getD, List.append_assoc, List.getElem?_append_right (by omega), Nat.add_sub_cancel_left, List.getElem?_append_left (by rw [le_length]; exact hi)]
    have : i = 0 ∨ i = 1 ∨ i = 2 ∨ i = 3 := by omega
    rcases this with rfl | rfl | rfl | rfl <;> simp [le, Nat.div_div_eq_div_mul]
  have h0 := hg 0 (by omega)
  rw [Nat.add_zero] at h0
  rw [h0, hg 1 (by omega), hg 2 (by omega), hg 3 (by omega), ofNat_toNat _ (Nat.mod_lt _ (by decide)), ofNat_toNat _ (Nat.mod_lt _ (by decide)), ofNat_toNat _ (Nat.mod_lt _ (by decide)), ofNat_toNat _ (Nat.mod_lt _ (by decide))]
  simp only [Nat.pow_zero, Nat.div_one, Nat.pow_one]
  omega
theorem entG_laid : ∀ (r acc : List Ent) (X Z p : List UInt8), p = X ++ r.flatMap entB ++ Z → X.length + roomE r ≤ 256 → (∀ e ∈ r, GoodE e) → Srt (acc ++ r) → entG p r.length X.length acc = some (X.length + roomE r, acc ++ r) := by
  intro r
  induction r with
  | nil => intro acc X Z p _ _ _ _; simp [entG, roomE]
  | cons e r ih =>
    intro acc X Z p hp hl hg hs
    obtain ⟨g1, g2, g3, g4⟩ := hg e (by simp)
    have hr : roomE (e :: r) = 5 + e.name.length + roomE r := by simp [roomE]
    obtain ⟨v, hv⟩ : ∃ v : Nat, e.val = (v : Int) := ⟨e.val.toNat, by omega⟩
    have hp1 : p = X ++ (UInt8.ofNat e.name.length :: (e.name ++ le 4 v)) ++ (r.flatMap entB ++ Z) := by
      rw [hp, List.flatMap_cons]
      simp [entB, hv]
    have h1 : (p.getD X.length 0).toNat = e.name.length := by
      rw [hp1, List.getD_eq_getElem?_getD, List.append_assoc, List.getElem?_append_right (Nat.le_refl _)]
      simp
      omega
    have h2 : (p.drop (X.length + 1)).take e.name.length = e.name := by
      have e1 : p = (X ++ [UInt8.ofNat e.name.length]) ++ (e.name ++ (le 4 v ++ (r.flatMap entB ++ Z))) := by rw [hp1]; simp
      have e2 : X.length + 1 = (X ++ [UInt8.ofNat e.name.length]).length := by simp
      rw [e2, e1, List.drop_left, List.take_left]
    have h3 : rd4 p (X.length + 1 + e.name.length) = v := by
      have e1 : p = (X ++ (UInt8.ofNat e.name.length :: e.name)) ++ le 4 v ++ (r.flatMap entB ++ Z) := by rw [hp1]; simp
      have e2 : X.length + 1 + e.name.length = (X ++ (UInt8.ofNat e.name.length :: e.name)).length := by simp; omega
      rw [e2, e1]
      exact le4_read _ _ v (by omega)
    show entG p (r.length + 1) X.length acc = _
    unfold entG
    rw [if_neg (by omega)]
    simp only [h1, h2, h3, ← hv]
    rw [if_neg (by omega)]
    have he : (⟨e.name, e.val⟩ : Ent) = e := rfl
    rw [if_neg]
    · have hX : (X ++ entB e).length = X.length + e.name.length + 5 := by rw [List.length_append, entB_len]; omega
      have := ih (acc ++ [e]) (X ++ entB e) Z p (by rw [hp, List.flatMap_cons]; simp) (by rw [hX]; omega) (fun x hx => hg x (by simp [hx])) (by rw [List.append_assoc]; exact hs)
      rw [hX] at this
      rw [this, hr]
      simp
      omega
    · rintro (h | h)
      · omega
      · obtain ⟨x, hx, hlt⟩ := Option.map_eq_some_iff.1 h
        have hm := List.mem_of_getLast? hx
        unfold Srt at hs
        rw [List.pairwise_append] at hs
        rw [hs.2.2 x hm e (by simp)] at hlt
        cases hlt
theorem entF_laid (a b c : UInt8) {l : List Ent} (hf : fitE l = true) (hg : ∀ e ∈ l, GoodE e) (hs : Srt l) : entF (laidB a b c l) l.length = some l := by
  have hr := (fitE_len hf).2
  have hx : ([a, b, c] ++ l.flatMap entB).length = 3 + roomE l := by rw [List.length_append, ents_len]; rfl
  have hp : laidB a b c l = [a, b, c] ++ l.flatMap entB ++ zeros (256 - (3 + roomE l)) := by unfold laidB pad; rw [hx]
  have h1 := entG_laid l [] [a, b, c] (zeros (256 - (3 + roomE l))) (laidB a b c l) hp (by show 3 + roomE l ≤ 256; omega) hg (by simpa using hs)
  unfold entF
  rw [show (3 : Nat) = [a, b, c].length from rfl, h1]
  simp only [List.nil_append]
  rw [if_pos]
  rw [hp, show [a, b, c].length + roomE l = ([a, b, c] ++ l.flatMap entB).length by rw [hx]; rfl, List.drop_left]
  simp [zeros]
end Go.Proofs.Ytiieglfpmmhfiaa
