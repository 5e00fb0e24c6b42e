/- slices.Clone, slices.Insert. -/
import Derived.Test.YtiieglfpmmhfiaaM1
import Derived.Test.YtiieglfpmmhfiaaCp
namespace Go.Proofs.Ytiieglfpmmhfiaa
set_option maxRecDepth 100000
open Go.RowKit Go.Uc

theorem info56 : (Try.prog.info? 56).map (fun i => (i.zero, i.size, i.bytes)) = some (some (.agg #[.string ByteArray.empty, .int .i64 0]), 2, 24) := by kernel_rfl
theorem info3 : (Try.prog.info? 3).map (fun i => (i.zero, i.size, i.bytes)) = some (some (.int .i64 0), 1, 8) := by kernel_rfl
theorem info66 : (Try.prog.info? 66).map (fun i => (i.zero, i.size, i.bytes)) = some (some (.agg #[.int .i64 0, .slice none 0 0]), 2, 32) := by kernel_rfl
theorem info86 : (Try.prog.info? 86).map (fun i => (i.zero, i.size, i.bytes)) = some (some (.agg #[.int .i64 0, .slice none 0 0]), 2, 32) := by kernel_rfl

/-- What a function hands back as its own. -/
def New (w : World) (s : Sl) : Prop := ∀ k ∈ own s.v, w.heap.size ≤ k
theorem own_new {w w1 : World} {v v' : Value} (h1 : ∀ k ∈ own v, w.heap.size ≤ k) (hz : w.heap.size ≤ w1.heap.size) (h : v'.ownBlock = v.ownBlock ∨ v'.ownBlock = some w1.heap.size) : ∀ k ∈ own v', w.heap.size ≤ k := by
  intro k hk
  rw [mem_own] at hk
  rcases h with h | h
  · rw [h] at hk; exact h1 k (mem_own.2 hk)
  · rw [h] at hk; injection hk with hk; omega
theorem keeps_own {w w1 w2 : World} {v : Value} (h0 : Keeps Non w w1) (h : Keeps (· ∈ own v) w1 w2) (h1 : ∀ k ∈ own v, w.heap.size ≤ k) : Keeps Non w w2 := h0.then h fun i hi e => by have := h1 i e; omega

theorem cloneE_any (v : Value) (l : List Ent) (hn : l.length ≤ 1000000000000) (w : World) (h : RowE w v l) :
    Calls Try.prog 31 #[v] w fun e w' => ∃ s : Sl, e = .returned s.v ∧ RowE w' s.v l ∧ New w s ∧ Keeps Non w w' := by
  have he := fun (w : World) (a : Option Addr) (n c : Nat) => Lib.run_eql_slice_nil (P := Try.prog) w 32 56 a n c 0 0 Try.underlying32
  rcases h.form with ⟨rfl, rfl⟩ | ⟨g, cap, cur, rfl, hB, hc, hm, -⟩
  · go_enter Try.func31, Try.ntmps31
    go_wp2
    go_ret
    exact ⟨⟨none, 0, 0⟩, rfl, RowP.nil _ _ _ _, fun k hk => by simp [Sl.v, own_nil] at hk, Keeps.refl _ _⟩
  · obtain ⟨A, c, e1, -, hA⟩ := h.ats encE_len
    injection e1 with e1 _ e2
    subst e1 e2
    have hO : RowE (w.alloc (.cells #[] 56)) (.slice (some ⟨w.heap.size, 0, none⟩) 0 0) [] := RowP.lit encE_len w 56 [] #[] rfl (by decide)
    have hA2 := hA.non ((Keeps.refl Non w).alloc (.cells #[] 56))
    have hne : ∀ k ∈ own (.slice (some ⟨w.heap.size, 0, none⟩) 0 0), w.heap.size ≤ k := fun k hk => by rw [own_slice] at hk; simp at hk; omega
    go_enter Try.func31, Try.ntmps31
    go_wp2_with (at_builtin; go_must (refine wpList_append_row rfl (.tmp 5) (.tmp 6) 32 rfl 56 2 encE _ 24 Try.underlying32 info56 rfl (by decide) encE_len encE_one _ [] rfl hO (some ⟨g, 0, none⟩) l.length cap l rfl rfl hA2 (by unfold maxLen; simp; omega) (by simp; omega) ?_); intro v2 w2 hO2 hK2 hat)
    go_ret
    obtain ⟨s, rfl, -⟩ := RowP.sl hO2
    exact ⟨s, rfl, by simpa using hO2, own_new hne (by simp) hat, keeps_own ((Keeps.refl Non w).alloc _) hK2 hne⟩
theorem cloneN_any (v : Value) (l : List Nat) (hn : l.length ≤ 1000000000000) (w : World) (h : RowN w v l) :
    Calls Try.prog 54 #[v] w fun e w' => ∃ s : Sl, e = .returned s.v ∧ RowN w' s.v l ∧ New w s ∧ Keeps Non w w' := by
  have he := fun (w : World) (a : Option Addr) (n c : Nat) => Lib.run_eql_slice_nil (P := Try.prog) w 23 3 a n c 0 0 Try.underlying23
  rcases h.form with ⟨rfl, rfl⟩ | ⟨g, cap, cur, rfl, hB, hc, hm, -⟩
  · go_enter Try.func54, Try.ntmps54
    go_wp2
    go_ret
    exact ⟨⟨none, 0, 0⟩, rfl, RowP.nil _ _ _ _, fun k hk => by simp [Sl.v, own_nil] at hk, Keeps.refl _ _⟩
  · obtain ⟨A, c, e1, -, hA⟩ := h.ats encN_len
    injection e1 with e1 _ e2
    subst e1 e2
    have hO : RowN (w.alloc (.cells #[] 3)) (.slice (some ⟨w.heap.size, 0, none⟩) 0 0) [] := RowP.lit encN_len w 3 [] #[] rfl (by decide)
    have hA2 := hA.non ((Keeps.refl Non w).alloc (.cells #[] 3))
    have hne : ∀ k ∈ own (.slice (some ⟨w.heap.size, 0, none⟩) 0 0), w.heap.size ≤ k := fun k hk => by rw [own_slice] at hk; simp at hk; omega
    go_enter Try.func54, Try.ntmps54
    go_wp2_with (at_builtin; go_must (refine wpList_append_row rfl (.tmp 5) (.tmp 6) 23 rfl 3 1 encN _ 8 Try.underlying23 info3 rfl (by decide) encN_len encN_one _ [] rfl hO (some ⟨g, 0, none⟩) l.length cap l rfl rfl hA2 (by unfold maxLen; simp; omega) (by simp; omega) ?_); intro v2 w2 hO2 hK2 hat)
    go_ret
    obtain ⟨s, rfl, -⟩ := RowP.sl hO2
    exact ⟨s, rfl, by simpa using hO2, own_new hne (by simp) hat, keeps_own ((Keeps.refl Non w).alloc _) hK2 hne⟩

/-- What Insert hands back. -/
def InsP (w : World) (sv : Value) (l : List Ent) (i : Nat) (x : Ent) (e : Ending) (w' : World) : Prop :=
  ∃ s : Sl, e = .returned s.v ∧ RowE w' s.v (l.take i ++ x :: l.drop i) ∧ (∀ k ∈ own s.v, k ∈ own sv ∨ w.heap.size ≤ k) ∧ Keeps (· ∈ own sv) w w'
theorem ats_one {w : World} {v : Nat} {x : Ent} (h : RowE w (.slice (some ⟨v, 0, none⟩) 1 1) [x]) : Ats w (some ⟨v, 0, none⟩) ([x].flatMap encE) := by
  obtain ⟨A, c, e, -, h⟩ := h.ats encE_len
  injection e with e
  subst e
  exact h
theorem insert_end (v : Value) (l : List Ent) (hn : l.length ≤ 1000000000000) (x : Ent) (vb : Nat) (w : World) (h : RowE w v l) (hx : RowE w (.slice (some ⟨vb, 0, none⟩) 1 1) [x]) :
    Calls Try.prog 30 #[v, .int .i64 (l.length : Int), .slice (some ⟨vb, 0, none⟩) 1 1] w (InsP w v l l.length x) := by
  obtain ⟨A, c, rfl, hc, hm⟩ := h.val
  unfold maxLen at hm
  have hA := ats_one hx
  clear hx
  obtain ⟨Q, hQ⟩ : ∃ Q : Ending → World → Prop, Q = InsP w (.slice A l.length c) l l.length x := ⟨_, rfl⟩
  rw [← hQ]
  have HQ := Lib.hid hQ
  clear hQ
  go_enter Try.func30, Try.ntmps30
  go_wp2_with (at_builtin; go_must (refine wpList_append_row rfl (.tmp 23) (.tmp 24) 32 rfl 56 2 encE _ 24 Try.underlying32 info56 rfl (by decide) encE_len encE_one _ l rfl h (some ⟨vb, 0, none⟩) 1 1 [x] rfl rfl hA (by unfold maxLen; simp; omega) (by simp; omega) ?_); intro v2 w2 hO2 hK2 hat; clear h)
  all_goals
    obtain ⟨s, rfl, -⟩ := RowP.sl hO2
    rw [HQ.out]
    refine ⟨s, rfl, ?_, ?_, hK2⟩
    · rw [List.take_of_length_le (Nat.le_refl _), List.drop_of_length_le (Nat.le_refl _)]; exact hO2
    · intro k hk
      rw [mem_own] at hk
      rcases hat with h | h
      · rw [h] at hk; exact .inl (mem_own.2 hk)
      · rw [h] at hk; injection hk with hk; exact .inr (by omega)
end Go.Proofs.Ytiieglfpmmhfiaa
