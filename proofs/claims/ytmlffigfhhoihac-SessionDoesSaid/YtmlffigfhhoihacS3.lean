/- Replies as plain data, and in memory; slices.Clone; own. -/
import Derived.Test.YtmlffigfhhoihacS2
import Derived.Deep.RegionWith
import Derived.Deep.DeepMust
import Derived.WalkSpells
import Derived.Laws.Rows
import Derived.Lib.SliceRun
namespace Go.Proofs.Ytmlffigfhhoihac
open Go.RowKit Go.Uc

/-- Strings, wherever they lie. -/
def AtS (w : World) (A : Option Addr) (xs : List ByteArray) : Prop := ∀ i (h : i < xs.length), ∃ ad, A = some ad ∧ w.cell? (ad.add i) = some (.string xs[i])
section ats
variable {w w' : World} {A : Option Addr} {xs : List ByteArray}
theorem AtS.nil (w : World) (A : Option Addr) : AtS w A [] := fun i h => absurd h (by simp)
theorem AtS.keep {S : Nat → Prop} (h : AtS w A xs) (hk : Keeps S w w') (hb : ∀ ad, A = some ad → 0 < xs.length → ¬ S ad.block) : AtS w' A xs := fun i hi => by
  obtain ⟨ad, e, hc⟩ := h i hi
  exact ⟨ad, e, hk.cell hc (by rw [Addr.add_block]; exact hb ad e (by omega))⟩
theorem AtS.non (h : AtS w A xs) (hk : Keeps Non w w') : AtS w' A xs := h.keep hk fun _ _ _ e => e
theorem AtS.lt (h : AtS w A xs) (hp : 0 < xs.length) : ∃ ad, A = some ad ∧ ad.block < w.heap.size := by
  obtain ⟨ad, e, hc⟩ := h 0 hp
  have := World.block_lt_of_cell? w _ hc
  rw [Addr.add_block] at this
  exact ⟨ad, e, this⟩
theorem AtS.ats (h : AtS w A xs) : Ats w A (xs.map Value.string) := fun hp => by
  simp at hp
  have hp' : 0 < xs.length := by cases xs with
    | nil => exact absurd hp (by simp)
    | cons _ _ => simp
  obtain ⟨ad, e, _⟩ := h 0 hp'
  refine ⟨ad, e, fun j v hj => ?_⟩
  rw [List.getElem?_map] at hj
  rcases Nat.lt_or_ge j xs.length with hl | hl
  · obtain ⟨ad', e', hc⟩ := h j hl
    rw [e] at e'
    injection e' with e'
    subst e'
    rw [List.getElem?_eq_getElem hl] at hj
    simp at hj
    rw [← hj]; exact hc
  · rw [List.getElem?_eq_none hl] at hj; simp at hj
theorem AtS.at_ (h : AtS w A xs) {k : Nat} (hk : k < xs.length) : ∃ b off, A = some ⟨b, off, none⟩ ∧ w.cell? ⟨b, off + k, none⟩ = some (.string xs[k]) := by
  obtain ⟨ad, e, hc⟩ := h 0 (by omega)
  obtain ⟨ad', e', hc'⟩ := h k hk
  rw [e] at e'
  injection e' with e'
  subst e'
  obtain ⟨b, off, sp⟩ := ad
  have hs := World.cell?_spot hc
  simp [Addr.add] at hs
  subst hs
  refine ⟨b, off, e, ?_⟩
  rw [← hc']
  unfold Addr.add
  split <;> simp_all
end ats
theorem At.keep2 {S : Nat → Prop} {w w' : World} {A : Option Addr} {xs : List UInt8} (h : At w A xs) (hk : Keeps S w w') (hb : ∀ ad, A = some ad → 0 < xs.length → ¬ S ad.block) : At w' A xs := fun i hi => by
  obtain ⟨ad, e, hc⟩ := h i hi
  exact ⟨ad, e, hk.cell hc (by rw [Addr.add_block]; exact hb ad e (by omega))⟩

/-- A row of strings of the call's own. -/
def OwnS (w : World) (B : Nat) (v : Value) (xs : List ByteArray) : Prop := w.ownsRow B 9 1 v xs.length (xs.map Value.string)
theorem OwnS.nil (w : World) (B : Nat) : OwnS w B (.slice none 0 0) [] := World.ownsRow_nil _ _ _ _
theorem OwnS.keep {S : Nat → Prop} {w w' : World} {B : Nat} {v : Value} {xs : List ByteArray} (h : OwnS w B v xs) (hk : Keeps S w w') (hb : ∀ g, v.ownBlock = some g → ¬ S g) : OwnS w' B v xs := row_keep h hk hb
theorem OwnS.non {w w' : World} {B : Nat} {v : Value} {xs : List ByteArray} (h : OwnS w B v xs) (hk : Keeps Non w w') : OwnS w' B v xs := h.keep hk fun _ _ e => e
theorem row_mono {w : World} {B B' size n : Nat} {e : TypeId} {v : Value} {xs : List Value} (h : w.ownsRow B e size v n xs) (hB : B' ≤ B) : w.ownsRow B' e size v n xs := by
  rcases h.2 with h1 | ⟨g, cap, cur, rfl, h2, r⟩
  · exact ⟨h.1, .inl h1⟩
  · exact ⟨h.1, .inr ⟨g, cap, cur, rfl, Nat.le_trans hB h2, r⟩⟩
theorem OwnS.open {w : World} {B : Nat} {v : Value} {xs : List ByteArray} (h : OwnS w B v xs) : ∃ A c, v = .slice A xs.length c ∧ xs.length ≤ c ∧ AtS w A xs ∧ (∀ ad, A = some ad → B ≤ ad.block ∧ ad.block < w.heap.size ∧ v.ownBlock = some ad.block) := by
  rcases h.2 with ⟨h1, h2⟩ | ⟨g, cap, cur, rfl, h2, h3, h4, h5, h6, h7⟩
  · obtain rfl := List.eq_nil_of_length_eq_zero h2
    exact ⟨none, 0, h1, Nat.le_refl _, AtS.nil _ _, fun _ h => by cases h⟩
  · have h3' : Blk w g 9 cur := h3
    refine ⟨_, cap, rfl, h4, fun i hi => ⟨_, rfl, ?_⟩, fun ad had => ?_⟩
    · rw [show (⟨g, 0, none⟩ : Addr).add i = ⟨g, i, none⟩ from by unfold Addr.add; split <;> simp_all, h3'.cell]
      have e1 : (cur.toList.take (xs.length * 1))[i]? = some (.string xs[i]) := by rw [h7]; simp [hi]
      rw [List.getElem?_take, if_pos (by omega)] at e1
      simpa using e1
    · injection had with had
      subst had
      exact ⟨h2, h3'.lt, rfl⟩
theorem info9 : (Try.prog.info? 9).map (fun i => (i.zero, i.size, i.bytes)) = some (some (.string ByteArray.empty), 1, 16) := by kernel_rfl
theorem info5 : (Try.prog.info? 5).map (fun i => (i.zero, i.size, i.bytes)) = some (some (.int .u8 0), 1, 1) := by kernel_rfl

/-- slices.Clone on strings. -/
theorem clone_s (A : Option Addr) (c : Nat) (xs : List ByteArray) (w : World) (hA : AtS w A xs) (hn : xs.length * 16 ≤ 140737488355328) :
    Calls Try.prog 36 #[.slice A xs.length c] w fun e w' => ∃ v, e = .returned v ∧ OwnS w' w.heap.size v xs ∧ Keeps Non w w' := by
  have he := fun (w : World) (a : Option Addr) (n c : Nat) => Lib.run_eql_slice_nil (P := Try.prog) w 28 9 a n c 0 0 Try.underlying28
  cases A with
  | none =>
    obtain rfl : xs = [] := by
      cases xs with
      | nil => rfl
      | cons b bs => obtain ⟨ad, e, _⟩ := hA 0 (by simp); cases e
    go_enter Try.func36, Try.ntmps36
    go_wp2
    go_ret
    exact ⟨_, rfl, OwnS.nil _ _, Keeps.refl _ _⟩
  | some ad =>
    have hO : (w.alloc (.cells #[] 9)).ownsRow w.heap.size 9 1 (.slice (some ⟨w.heap.size, 0, none⟩) 0 0) 0 [] := ⟨rfl, .inr ⟨w.heap.size, 0, #[], rfl, Nat.le_refl _, Blk.new w 9 #[], Nat.le_refl _, by unfold maxLen; omega, rfl, rfl⟩⟩
    have hA2 : AtS (w.alloc (.cells #[] 9)) (some ad) xs := hA.non ((Keeps.refl Non w).alloc _)
    go_enter Try.func36, Try.ntmps36
    go_wp2_with (at_builtin; go_must (refine wpList_append_vals rfl (.tmp 5) (.tmp 6) 28 rfl w.heap.size 9 _ 16 Try.underlying28 info9 rfl _ 0 [] rfl hO (some ad) xs.length c (xs.map Value.string) rfl (by simp) hA2.ats (by intro u hu; simp at hu; obtain ⟨a, _, rfl⟩ := hu; rfl) (by unfold maxLen; omega) (by omega) (by simp) ?_); intro v w2 hO2 hK2 hat)
    go_ret
    refine ⟨_, rfl, by simpa [OwnS] using hO2, ((Keeps.refl Non w).alloc _).then hK2 fun i hi e => by have := (World.ownsRow.lt hO i e).1; omega⟩

/-- slices.Clone on bytes. -/
theorem clone_b (A : Option Addr) (c : Nat) (bs : List UInt8) (w : World) (hA : At w A bs) (hn : bs.length ≤ 140737488355328) :
    Calls Try.prog 37 #[.slice A bs.length c] w fun e w' => ∃ v, e = .returned v ∧ OwnB w' w.heap.size 5 v bs ∧ Keeps Non w w' := by
  have he := fun (w : World) (a : Option Addr) (n c : Nat) => Lib.run_eql_slice_nil (P := Try.prog) w 29 5 a n c 0 0 Try.underlying29
  cases A with
  | none =>
    obtain rfl : bs = [] := by
      cases bs with
      | nil => rfl
      | cons b bs => obtain ⟨ad, e, _⟩ := hA 0 (by simp); cases e
    go_enter Try.func37, Try.ntmps37
    go_wp2
    go_ret
    exact ⟨_, rfl, OwnB.nil _ _ _, Keeps.refl _ _⟩
  | some ad =>
    have hO : OwnB (w.alloc (.cells #[] 5)) w.heap.size 5 (.slice (some ⟨w.heap.size, 0, none⟩) 0 0) [] := OwnB.blk (bs := []) (xs := []) (Blk.new w 5 #[]) (Nat.le_refl _) (by simp)
    have hA2 : At (w.alloc (.cells #[] 5)) (some ad) bs := hA.non ((Keeps.refl Non w).alloc _)
    go_enter Try.func37, Try.ntmps37
    go_wp2_with (at_builtin; refine wpList_append_bytes rfl (.tmp 5) (.tmp 6) 29 rfl w.heap.size 5 Try.underlying29 info5 _ [] rfl hO (some ad) bs.length c bs rfl rfl hA2 (by simp; omega) (by simp) ?_; intro v w2 hO2 hK2 hat)
    go_ret
    exact ⟨_, rfl, by simpa using hO2, ((Keeps.refl Non w).alloc _).then hK2 fun i hi e => by have := hO.new i e; omega⟩

/-- A reply, as plain data. -/
structure Rp where
  ses : Int
  id : Int
  err : Int
  num : Int
  text : ByteArray
  list : List ByteArray
  data : List UInt8
/-- No reply. -/
def Rp.none : Rp := ⟨0, 0, 0, 0, ByteArray.empty, [], []⟩
/-- Its seven cells. -/
def Rp.vals (r : Rp) (l d : Value) : List Value := [.int .i64 r.ses, .int .i64 r.id, .int .i64 r.err, .int .i64 r.num, .string r.text, l, d]
/-- It is not too long to be copied. -/
def RpB (r : Rp) : Prop := r.list.length * 16 ≤ 140737488355328 ∧ r.data.length ≤ 140737488355328
/-- Seven cells that read as a reply. -/
def RdR (w : World) (l d : Value) (r : Rp) : Prop := ∃ Al cl Ad cd, l = .slice Al r.list.length cl ∧ d = .slice Ad r.data.length cd ∧ AtS w Al r.list ∧ At w Ad r.data ∧ r.list.length ≤ cl ∧ r.data.length ≤ cd
/-- A reply in memory of the call's own. -/
def RpO (w : World) (B : Nat) (l d : Value) (r : Rp) : Prop := OwnS w B l r.list ∧ OwnB w B 5 d r.data
theorem RpO.rd {w : World} {B : Nat} {l d : Value} {r : Rp} (h : RpO w B l d r) : RdR w l d r := by
  obtain ⟨Al, cl, e1, h1, h2, _⟩ := h.1.open
  obtain ⟨Ad, cd, e2, h3, h4, _⟩ := h.2.open
  exact ⟨Al, cl, Ad, cd, e1, e2, h2, h4, h1, h3⟩
theorem RpO.non {w w' : World} {B : Nat} {l d : Value} {r : Rp} (h : RpO w B l d r) (hk : Keeps Non w w') : RpO w' B l d r := ⟨h.1.non hk, h.2.non hk⟩
theorem RpO.mono {w : World} {B B' : Nat} {l d : Value} {r : Rp} (h : RpO w B l d r) (hB : B' ≤ B) : RpO w B' l d r := ⟨row_mono h.1 hB, h.2.mono hB⟩
theorem RdR.non {w w' : World} {l d : Value} {r : Rp} (h : RdR w l d r) (hk : Keeps Non w w') : RdR w' l d r := by
  obtain ⟨Al, cl, Ad, cd, e1, e2, h1, h2, h3⟩ := h
  exact ⟨Al, cl, Ad, cd, e1, e2, h1.non hk, h2.non hk, h3⟩

theorem Blk.apart {w : World} {B size g n : Nat} {e t : TypeId} {u : Value} {vs : List Value} {cs : Array Value} (h : Blk w g t cs) (r : w.ownsRow B e size u n vs) (hne : t ≠ e) : ∀ k, u.ownBlock = some k → k ≠ g := by
  intro k hk hkg
  subst hkg
  rcases r.2 with ⟨rfl, _⟩ | ⟨g1, c1, cu1, rfl, _, hh1, _⟩
  · cases hk
  · simp [Value.ownBlock] at hk
    subst hk
    unfold Blk at h
    rw [h] at hh1
    injection hh1 with hh1
    injection hh1 with _ hh1
    exact hne hh1
/-- Seven cells stored into a row. -/
def set7 (cur : Array Value) (o : Nat) (a0 a1 a2 a3 a4 a5 a6 : Value) : Array Value := (((((((cur.setIfInBounds o a0).setIfInBounds (o + 1) a1).setIfInBounds (o + 2) a2).setIfInBounds (o + 3) a3).setIfInBounds (o + 4) a4).setIfInBounds (o + 5) a5).setIfInBounds (o + 6) a6)
theorem set7_size (cur : Array Value) (o : Nat) (a0 a1 a2 a3 a4 a5 a6 : Value) : (set7 cur o a0 a1 a2 a3 a4 a5 a6).size = cur.size := by simp [set7]
theorem set7_far (cur : Array Value) (o i : Nat) (a0 a1 a2 a3 a4 a5 a6 : Value) (h : i < o ∨ o + 7 ≤ i) : (set7 cur o a0 a1 a2 a3 a4 a5 a6)[i]? = cur[i]? := by
  unfold set7
  simp only [Array.getElem?_setIfInBounds]
  rw [if_neg (by omega), if_neg (by omega), if_neg (by omega), if_neg (by omega), if_neg (by omega), if_neg (by omega), if_neg (by omega)]
theorem set7_at {cur : Array Value} {o : Nat} (h : o + 6 < cur.size) (a0 a1 a2 a3 a4 a5 a6 : Value) : (set7 cur o a0 a1 a2 a3 a4 a5 a6)[o]? = some a0 ∧ (set7 cur o a0 a1 a2 a3 a4 a5 a6)[o + 1]? = some a1 ∧ (set7 cur o a0 a1 a2 a3 a4 a5 a6)[o + 2]? = some a2 ∧
    (set7 cur o a0 a1 a2 a3 a4 a5 a6)[o + 3]? = some a3 ∧ (set7 cur o a0 a1 a2 a3 a4 a5 a6)[o + 4]? = some a4 ∧ (set7 cur o a0 a1 a2 a3 a4 a5 a6)[o + 5]? = some a5 ∧ (set7 cur o a0 a1 a2 a3 a4 a5 a6)[o + 6]? = some a6 := by
  unfold set7
  refine ⟨?_, ?_, ?_, ?_, ?_, ?_, ?_⟩ <;> simp [Array.getElem?_setIfInBounds] <;> omega
theorem store_seven {w : World} {g t : Nat} {cur : Array Value} (h : Blk w g t cur) (o : Nat) (ho : o + 7 ≤ cur.size) (a0 a1 a2 a3 a4 a5 a6 : Value) :
    (∃ v, w.cell? ⟨g, o, none⟩ = some v) ∧ w.frozen? ⟨g, o, none⟩ = false ∧
    (∃ v, (w.setCell ⟨g, o, none⟩ a0).cell? ⟨g, o + 1, none⟩ = some v) ∧ (w.setCell ⟨g, o, none⟩ a0).frozen? ⟨g, o + 1, none⟩ = false ∧
    (∃ v, ((w.setCell ⟨g, o, none⟩ a0).setCell ⟨g, o + 1, none⟩ a1).cell? ⟨g, o + 2, none⟩ = some v) ∧ ((w.setCell ⟨g, o, none⟩ a0).setCell ⟨g, o + 1, none⟩ a1).frozen? ⟨g, o + 2, none⟩ = false ∧
    (∃ v, (((w.setCell ⟨g, o, none⟩ a0).setCell ⟨g, o + 1, none⟩ a1).setCell ⟨g, o + 2, none⟩ a2).cell? ⟨g, o + 3, none⟩ = some v) ∧ (((w.setCell ⟨g, o, none⟩ a0).setCell ⟨g, o + 1, none⟩ a1).setCell ⟨g, o + 2, none⟩ a2).frozen? ⟨g, o + 3, none⟩ = false ∧
    (∃ v, ((((w.setCell ⟨g, o, none⟩ a0).setCell ⟨g, o + 1, none⟩ a1).setCell ⟨g, o + 2, none⟩ a2).setCell ⟨g, o + 3, none⟩ a3).cell? ⟨g, o + 4, none⟩ = some v) ∧ ((((w.setCell ⟨g, o, none⟩ a0).setCell ⟨g, o + 1, none⟩ a1).setCell ⟨g, o + 2, none⟩ a2).setCell ⟨g, o + 3, none⟩ a3).frozen? ⟨g, o + 4, none⟩ = false ∧
    (∃ v, (((((w.setCell ⟨g, o, none⟩ a0).setCell ⟨g, o + 1, none⟩ a1).setCell ⟨g, o + 2, none⟩ a2).setCell ⟨g, o + 3, none⟩ a3).setCell ⟨g, o + 4, none⟩ a4).cell? ⟨g, o + 5, none⟩ = some v) ∧ (((((w.setCell ⟨g, o, none⟩ a0).setCell ⟨g, o + 1, none⟩ a1).setCell ⟨g, o + 2, none⟩ a2).setCell ⟨g, o + 3, none⟩ a3).setCell ⟨g, o + 4, none⟩ a4).frozen? ⟨g, o + 5, none⟩ = false ∧
    (∃ v, ((((((w.setCell ⟨g, o, none⟩ a0).setCell ⟨g, o + 1, none⟩ a1).setCell ⟨g, o + 2, none⟩ a2).setCell ⟨g, o + 3, none⟩ a3).setCell ⟨g, o + 4, none⟩ a4).setCell ⟨g, o + 5, none⟩ a5).cell? ⟨g, o + 6, none⟩ = some v) ∧ ((((((w.setCell ⟨g, o, none⟩ a0).setCell ⟨g, o + 1, none⟩ a1).setCell ⟨g, o + 2, none⟩ a2).setCell ⟨g, o + 3, none⟩ a3).setCell ⟨g, o + 4, none⟩ a4).setCell ⟨g, o + 5, none⟩ a5).frozen? ⟨g, o + 6, none⟩ = false ∧
    Blk (((((((w.setCell ⟨g, o, none⟩ a0).setCell ⟨g, o + 1, none⟩ a1).setCell ⟨g, o + 2, none⟩ a2).setCell ⟨g, o + 3, none⟩ a3).setCell ⟨g, o + 4, none⟩ a4).setCell ⟨g, o + 5, none⟩ a5).setCell ⟨g, o + 6, none⟩ a6) g t (set7 cur o a0 a1 a2 a3 a4 a5 a6) ∧ Keeps (Only g) w (((((((w.setCell ⟨g, o, none⟩ a0).setCell ⟨g, o + 1, none⟩ a1).setCell ⟨g, o + 2, none⟩ a2).setCell ⟨g, o + 3, none⟩ a3).setCell ⟨g, o + 4, none⟩ a4).setCell ⟨g, o + 5, none⟩ a5).setCell ⟨g, o + 6, none⟩ a6) := by
  have ex : ∀ {w' : World} {cs : Array Value} {i : Nat}, Blk w' g t cs → i < cs.size → ∃ v, w'.cell? ⟨g, i, none⟩ = some v := fun {w'} {cs} {i} hb hi => ⟨_, by rw [hb.cell, Array.getElem?_eq_getElem hi]⟩
  have h1 := h.set (o) a0
  have h2 := h1.set (o + 1) a1
  have h3 := h2.set (o + 2) a2
  have h4 := h3.set (o + 3) a3
  have h5 := h4.set (o + 4) a4
  have h6 := h5.set (o + 5) a5
  have h7 := h6.set (o + 6) a6
  refine ⟨ex h (by first | omega | (simp; omega)), h.frozen _, ex h1 (by first | omega | (simp; omega)), h1.frozen _, ex h2 (by first | omega | (simp; omega)), h2.frozen _, ex h3 (by first | omega | (simp; omega)), h3.frozen _, ex h4 (by first | omega | (simp; omega)), h4.frozen _, ex h5 (by first | omega | (simp; omega)), h5.frozen _, ex h6 (by first | omega | (simp; omega)), h6.frozen _, h7, ?_⟩
  exact ((((((((Keeps.refl (Only g) w).set (p := ⟨g, o, none⟩) rfl _).set (p := ⟨g, o + 1, none⟩) rfl _).set (p := ⟨g, o + 2, none⟩) rfl _).set (p := ⟨g, o + 3, none⟩) rfl _).set (p := ⟨g, o + 4, none⟩) rfl _).set (p := ⟨g, o + 5, none⟩) rfl _).set (p := ⟨g, o + 6, none⟩) rfl _)

set_option maxRecDepth 100000 in
set_option maxHeartbeats 2000000 in
theorem own_any (r : Rp) (l d : Value) (w : World) (hR : RdR w l d r) (hb : RpB r) :
    Calls Try.prog 21 #[.agg #[.int .i64 r.ses, .int .i64 r.id, .int .i64 r.err, .int .i64 r.num, .string r.text, l, d]] w fun e w' => ∃ l' d', e = .returned (.agg #[.int .i64 r.ses, .int .i64 r.id, .int .i64 r.err, .int .i64 r.num, .string r.text, l', d']) ∧ RpO w' w.heap.size l' d' r ∧ Keeps Non w w' := by
  obtain ⟨Al, cl, Ad, cd, rfl, rfl, h1, h2, -, -⟩ := hR
  obtain ⟨w1, hw1⟩ : ∃ w1, w1 = (w.alloc (.cells #[.int .i64 r.ses, .int .i64 r.id, .int .i64 r.err, .int .i64 r.num, .string r.text, (.slice Al r.list.length cl), (.slice Ad r.data.length cd)] 31)).alloc (.cells zeroRep.toArray 31) := ⟨_, rfl⟩
  obtain ⟨q, hq⟩ : ∃ q, q = w.heap.size := ⟨_, rfl⟩
  have hk1 : Keeps Non w w1 := by rw [hw1]; exact ((Keeps.refl _ _).alloc _).alloc _
  have hB1 : Blk w1 q 31 #[.int .i64 r.ses, .int .i64 r.id, .int .i64 r.err, .int .i64 r.num, .string r.text, (.slice Al r.list.length cl), (.slice Ad r.data.length cd)] := by rw [hw1, hq]; exact (Blk.new _ _ _).alloc _
  have hC1 : Blk w1 (q + 1) 31 zeroRep.toArray := by rw [hw1, hq]; have := Blk.new (w.alloc (.cells #[.int .i64 r.ses, .int .i64 r.id, .int .i64 r.err, .int .i64 r.num, .string r.text, (.slice Al r.list.length cl), (.slice Ad r.data.length cd)] 31)) 31 zeroRep.toArray; simpa using this
  have HCS := fun W (hk : Keeps Non w1 W) => clone_s Al cl r.list W ((h1.non hk1).non hk) hb.1
  have HCB := fun W (hk : Keeps Non w1 W) => clone_b Ad cd r.data W ((h2.non hk1).non hk) hb.2
  have H1 := Lib.hid HCS
  have H2 := Lib.hid HCB
  have k5 : w1.cell? ⟨q, 5, none⟩ = some (.slice Al r.list.length cl) := hB1.cell 5
  have k6 : w1.cell? ⟨q, 6, none⟩ = some (.slice Ad r.data.length cd) := hB1.cell 6
  have k5d : w1.drew.cell? ⟨q, 5, none⟩ = some (.slice Al r.list.length cl) := k5
  have k6d : w1.drew.cell? ⟨q, 6, none⟩ = some (.slice Ad r.data.length cd) := k6
  have f5 := hB1.frozen 5
  have f6 := hB1.frozen 6
  clear h1 h2 HCS HCB
  go_enter Try.func21, Try.ntmps21
  go_wp2_with fail
  rw [show (#[.int .i64 0, .int .i64 0, .int .i64 0, .int .i64 0, .string { data := #[] }, .slice none 0 0, .slice none 0 0] : Array Value) = zeroRep.toArray from rfl, ← hw1, ← hq]
  have hqw : w.heap.size ≤ q := by omega
  clear hw1 hq
  have hB1d := hB1.drew
  have HB := Lib.hid hB1d
  have HC := Lib.hid hC1.drew
  clear hB1 hB1d hC1 f5 f6
  go_region_with (first
    | (go_at_call 36; go_must (refine (H1.out _ ((Keeps.refl _ _).drew)).mono ?_); rintro e w2 ⟨l', rfl, hl2, hK2⟩; have k6e := hK2.cell k6d id; obtain ⟨A2, c2, rfl, -, -, -⟩ := hl2.open)
    | (go_at_call 37; go_must (refine (H2.out _ (((Keeps.refl _ _).drew).trans hK2)).mono ?_); rintro e w3 ⟨d', rfl, hd3, hK3⟩; obtain ⟨A3, c3, rfl, -, -, -⟩ := hd3.open; have hB3 := (HB.out.non hK2).non hK3; have s5 : w3.cell? ⟨q, 5, none⟩ = some (.slice Al r.list.length cl) := hB3.cell 5; have f5 := hB3.frozen 5; have hB4 := hB3.set 5 (.slice A2 r.list.length c2); have s6 : (w3.setCell ⟨q, 5, none⟩ (.slice A2 r.list.length c2)).cell? ⟨q, 6, none⟩ = some (.slice Ad r.data.length cd) := hB4.cell 6; have f6 := hB4.frozen 6))
  all_goals
    obtain ⟨w5, hw5⟩ : ∃ w5, w5 = (w3.setCell ⟨q, 5, none⟩ (.slice A2 r.list.length c2)).setCell ⟨q, 6, none⟩ (.slice A3 r.data.length c3) := ⟨_, rfl⟩
    have hB5 : Blk w5 q 31 #[.int .i64 r.ses, .int .i64 r.id, .int .i64 r.err, .int .i64 r.num, .string r.text, (.slice A2 r.list.length c2), (.slice A3 r.data.length c3)] := by rw [hw5]; exact hB4.set 6 (.slice A3 r.data.length c3)
    have hK5 : Keeps (Only q) w3 w5 := by rw [hw5]; exact ((Keeps.refl (Only q) w3).set (p := ⟨q, 5, none⟩) rfl _).set (p := ⟨q, 6, none⟩) rfl _
    have hC5 : Blk w5 (q + 1) 31 zeroRep.toArray := ((HC.out.non hK2).non hK3).one hK5 (by omega)
    have hL3 := hl2.non hK3
    have hL5 : OwnS w5 w.heap.size (.slice A2 r.list.length c2) r.list := row_mono (hL3.keep hK5 (Blk.apart hB3 hL3 (by decide))) (by have := hk1.size; simpa using this)
    have hD5 : OwnB w5 w.heap.size 5 (.slice A3 r.data.length c3) r.data := (hd3.keep hK5 (Blk.apart hB3 hd3 (by decide))).mono (by have := hk1.size; have := hK2.size; simp at this; omega)
    have hkw5 : Keeps Non w w5 := ((hk1.drew.trans hK2).trans hK3).then hK5 fun i hi e => by unfold Only at e; omega
    rw [← hw5]
    clear hw5 hB4 hB3 s5 s6 f5 f6 hK5 hL3 hl2 hd3 hK2 hK3 k6e k5 k6 k5d k6d HB HC hk1 H1 H2 hb
    have l0 : w5.cell? ⟨q, 0, none⟩ = some (.int .i64 r.ses) := hB5.cell 0
    have l1 : w5.cell? ⟨q, 1, none⟩ = some (.int .i64 r.id) := hB5.cell 1
    have l2 : w5.cell? ⟨q, 2, none⟩ = some (.int .i64 r.err) := hB5.cell 2
    have l3 : w5.cell? ⟨q, 3, none⟩ = some (.int .i64 r.num) := hB5.cell 3
    have l4 : w5.cell? ⟨q, 4, none⟩ = some (.string r.text) := hB5.cell 4
    have l5 : w5.cell? ⟨q, 5, none⟩ = some (.slice A2 r.list.length c2) := hB5.cell 5
    have l6 : w5.cell? ⟨q, 6, none⟩ = some (.slice A3 r.data.length c3) := hB5.cell 6
    obtain ⟨⟨v0, s0⟩, f0, ⟨v1, s1⟩, f1, ⟨v2, s2⟩, f2, ⟨v3, s3⟩, f3, ⟨v4, s4⟩, f4, ⟨v5, s5⟩, f5, ⟨v6, s6⟩, f6, hB7, hK7⟩ := store_seven hC5 0 (by decide) (.int .i64 r.ses) (.int .i64 r.id) (.int .i64 r.err) (.int .i64 r.num) (.string r.text) (.slice A2 r.list.length c2) (.slice A3 r.data.length c3)
    simp only [Nat.zero_add] at s0 s1 s2 s3 s4 s5 s6 f0 f1 f2 f3 f4 f5 f6 hB7 hK7
    have hB8 : Blk _ (q + 1) 31 #[.int .i64 r.ses, .int .i64 r.id, .int .i64 r.err, .int .i64 r.num, .string r.text, (.slice A2 r.list.length c2), (.slice A3 r.data.length c3)] := hB7
    have FB := Lib.hid hB8
    have FIN := Lib.hid (And.intro (hL5.keep hK7 (Blk.apart hC5 hL5 (by decide))) (And.intro (hD5.keep hK7 (Blk.apart hC5 hD5 (by decide))) (hkw5.then hK7 fun i hi e => by unfold Only at e; omega)))
    clear hB8
    have r0 := hB7.cell 0
    have r1 := hB7.cell 1
    have r2 := hB7.cell 2
    have r3 := hB7.cell 3
    have r4 := hB7.cell 4
    have r5 := hB7.cell 5
    have r6 := hB7.cell 6
    clear hB7 hK7 hL5 hD5 hkw5 hC5 hB5
    go_wp2_with fail
    refine bodyPost_ret (results_cell_row (ty := 31) rfl _ _ (q + 1) 31 _ (0, 0) _ rfl FB.out Try.underlying30 rfl (by kernel_rfl)) rfl ?_
    exact ⟨_, _, rfl, ⟨FIN.out.1, FIN.out.2.1⟩, FIN.out.2.2⟩
end Go.Proofs.Ytmlffigfhhoihac
