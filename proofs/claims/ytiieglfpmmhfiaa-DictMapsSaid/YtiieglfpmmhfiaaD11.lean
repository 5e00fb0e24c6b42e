/- Entries sorted by name. -/
import Derived.Test.YtiieglfpmmhfiaaM3
import Derived.Test.YtiieglfpmmhfiaaShelfs
import Derived.Shelf.SlSortCmp.NoneTotal
namespace Go.Proofs.Ytiieglfpmmhfiaa
set_option maxRecDepth 100000
open Go.RowKit Go.Uc Go.Sort

instance : Inhabited Ent := ⟨⟨[], 0⟩⟩
def cmpE (x y : Ent) : Int := Lib.compareBytes (str x.name).data.toList (str y.name).data.toList
theorem ltOf_cmpE (x y : Ent) : ltOf cmpE x y = lt x.name y.name := by
  unfold ltOf cmpE
  have e : ∀ l, (str l).data.toList = l := fun l => by rw [← Lib.toList_data]; exact str_toList l
  rw [e, e]
  by_cases h : lt x.name y.name = true
  · rw [h]; simp [(cmp_neg x.name y.name).2 h]
  · have h2 : ¬ Lib.compareBytes x.name y.name < 0 := fun hh => h ((cmp_neg _ _).1 hh)
    rw [show lt x.name y.name = false by simpa using h]; simp; omega
theorem cmpE_swo : SWO (ltOf cmpE) where
  irrefl x := by rw [ltOf_cmpE]; exact lt_irrefl _
  trans x y z h1 h2 := by rw [ltOf_cmpE] at *; exact lt_trans h1 h2
  ntrans x y z h1 h2 := by
    rw [ltOf_cmpE] at *
    cases h3 : lt x.name z.name
    · rfl
    · cases h4 : lt y.name x.name
      · have e := lt_tri _ _ h1 h4
        rw [e, h2] at h3; cases h3
      · have := lt_trans h4 h3
        rw [h2] at this; cases this

set_option maxHeartbeats 1000000 in
theorem closure36 (x y : Ent) (W : World) : Calls Try.prog 36 #[.agg (encE x).toArray, .agg (encE y).toArray] W fun e w' => e = .returned (.int .i64 (cmpE x y)) ∧ ∃ q os', w' = grow (W.drewN q) os' := by
  have hcon := fun W' => Try.strings_Compare (str x.name) (str y.name) W'
  show Calls Try.prog 36 #[.agg #[.string (str x.name), .int .i64 x.val], .agg #[.string (str y.name), .int .i64 y.val]] W _
  unfold cmpE
  generalize Lib.compareBytes (str x.name).data.toList (str y.name).data.toList = r at hcon ⊢
  generalize str x.name = a at hcon ⊢
  generalize str y.name = b at hcon ⊢
  go_enter Try.func36, Try.ntmps36
  go_wp2_with (go_at_call 37; refine (hcon _).mono ?_; rintro e w' ⟨rfl, rfl⟩)
  go_ret
  exact ⟨rfl, 0, _, by rw [alloc_eq_grow, alloc_eq_grow, grow_grow]; rfl⟩
theorem cmpLays36 (blk off size : Nat) (w : World) : CmpLays Try.prog 36 #[] encE 2 cmpE blk off size w := fun _ _ _ _ x y => closure36 x y _

theorem flatK_get (l : List Ent) (t : Nat) (ht : t < l.length * 2) : (flatK encE 2 l.toArray)[t]! = ((l.flatMap encE)[t]?).getD default := by
  rw [get_flatK _ _ _ _ (by simpa using ht)]
  have hq : t / 2 < l.length := by omega
  have hr : t % 2 < 2 := by omega
  have h1 := flat_get encE_len l (t / 2) (t % 2) hq hr
  rw [show t / 2 * 2 + t % 2 = t by omega] at h1
  rw [h1]
  have e1 : (l.toArray)[t / 2]! = l[t / 2] := by simp [hq]
  rw [e1]
  simp [List.getElem!_eq_getElem?_getD]
theorem grow_keeps (w : World) (os : Array Obj) : Keeps Non w (grow w os) :=
  ⟨rfl, rfl, rfl, by simp [grow], fun k hk _ => by simp [grow, Array.getElem?_append_left hk]⟩
theorem ahead_keeps (w : World) (n : Nat) : Keeps Non w (Go.Sort.ahead w n) := ⟨rfl, rfl, rfl, Nat.le_refl _, fun _ _ _ => rfl⟩

theorem sort_any {w : World} {s : Sl} {l : List Ent} (h : RowE w s.v l) (hn : l.length ≤ 1000000000000) :
    Calls Try.prog 35 #[s.v, .func (.func 36) #[] #[]] w fun e w' => e = .returned (.tuple #[]) ∧ ∃ R, R.Perm l ∧ (R.Pairwise fun a b => lt b.name a.name = false) ∧ RowE w' s.v R ∧ Keeps (· ∈ own s.v) w w' := by
  rcases h.form with ⟨e1, rfl⟩ | ⟨g, cap, cur, e1, hB, h4, h5, h6, h7⟩
  · rw [e1]
    have hc := AnyF.slices_SortFunc_none Try.sortEnt none 0 (.func (.func 36) #[] #[]) w
    change Calls Try.prog 35 _ _ _ at hc
    refine hc.mono ?_
    rintro e w' ⟨rfl, rfl⟩
    exact ⟨rfl, [], List.Perm.refl _, List.Pairwise.nil, by rw [← e1]; exact h, Keeps.refl _ _⟩
  · rw [e1]
    have eg : ∀ args w, (callFunc 36 args).run Try.prog w = .ok (.enter 36 args) w := enters_of Try.func36 (by kernel_rfl) rfl
    have hH : HoldsK encE 2 w g 0 l.toArray := by
      intro j hj
      have hj' : j < l.length * 2 := by simpa using hj
      rw [Nat.zero_add]
      refine ⟨?_, hB.frozen j⟩
      rw [hB.cell, flatK_get l j hj', ← h7, List.getElem?_take, if_pos hj']
      have : j < cur.size := by omega
      simp [this]
    have hc := AnyQ.slices_SortFunc Try.sortEnt 2 Try.isAgg56 Try.sizeOf56 encE encE_len encE_one cmpE cmpE_swo 36 #[] g 0 cap l.toArray w eg (cmpLays36 g 0 _ w) hH hB.lt (by simp; omega)
    change Calls Try.prog 35 _ _ _ at hc
    rw [List.size_toArray] at hc
    refine hc.mono ?_
    rintro e w' ⟨rfl, d', n, os, hp, hs, rfl⟩
    obtain ⟨p1, -, p3⟩ := hp
    have hsz : d'.size = l.length := by simpa using p1
    have hR : d'.toList.Perm l := by
      have := p3
      rw [show d'.extract 0 l.length = d' by rw [← hsz]; simp, show l.toArray.extract 0 l.length = l.toArray by simp] at this
      exact this
    refine ⟨rfl, d'.toList, hR, ?_, ?_, ?_⟩
    · rw [List.pairwise_iff_getElem]
      intro i j hi hj hij
      have := hs i j (Nat.zero_le _) hij (by rw [← hsz]; simpa using hj)
      rw [ltOf_cmpE] at this
      simp at hi hj
      simpa [hi, hj] using this
    · have hfl : (flatK encE 2 d').size = l.length * 2 := by simp [hsz]
      have hcell : Blk (sortWorldK encE 2 w g 0 n d' os) g 56 (putCells id 0 (flatK encE 2 d') cur) := by
        refine Blk.non ?_ (grow_keeps _ os)
        show (mapBlock (Go.Sort.ahead w n) g _).heap[g]? = _
        have hb' : w.heap[g]? = some (.cells cur 56 (0, 0)) := hB
        unfold mapBlock
        simp [Array.getElem?_modify, hb', onCells]
      have hl2 : d'.toList.length = l.length := by simpa using hsz
      have := RowP.mk (xs := d'.toList) encE_len hcell (by rw [hl2]; exact h4) h5 (by simp [putCells]; exact h6) ?_
      · rw [hl2] at this; exact this
      · apply List.ext_getElem?
        intro p
        rw [List.getElem?_take, hl2]
        by_cases hp : p < l.length * 2
        · rw [if_pos hp]
          have hpc : p < cur.size := by omega
          have h8 := flatK_get d'.toList p (by rw [hl2]; exact hp)
          have h9 : p < (d'.toList.flatMap encE).length := by rw [flat_len encE_len, hl2]; exact hp
          rw [show d'.toList.toArray = d' by simp] at h8
          simp [putCells, hpc, hfl, hp]
          rw [getElem!_pos _ p (by rw [hfl]; exact hp)] at h8
          rw [h8, List.getElem?_eq_getElem h9]; rfl
        · rw [if_neg hp, List.getElem?_eq_none (by rw [flat_len encE_len, hl2]; omega)]
    · have h1 : Keeps (Only g) (Go.Sort.ahead w n) (putRowK encE 2 (Go.Sort.ahead w n) g 0 d') := ⟨rfl, rfl, rfl, by simp [putRowK], fun k hk hkg => by
        show (mapBlock (Go.Sort.ahead w n) g _).heap[k]? = _
        unfold mapBlock
        simp only [Array.getElem?_modify]
        rw [if_neg (fun e => hkg e.symm)]⟩
      have h2 : Keeps (Only g) w (sortWorldK encE 2 w g 0 n d' os) := ((ahead_keeps w n).of_non.trans h1).non (grow_keeps _ os)
      exact h2.mono fun q e => by unfold Only at e; subst e; show q ∈ [q]; simp
end Go.Proofs.Ytiieglfpmmhfiaa
