/- List. -/
import Derived.Test.YtiieglfpmmhfiaaD11
import Derived.Test.YtiieglfpmmhfiaaP4
namespace Go.Proofs.Ytiieglfpmmhfiaa
set_option maxRecDepth 100000
open Go.RowKit Go.Uc

def allE (ls : List Leaf) : List Ent := ls.flatMap (·.l)
theorem allE_take (ls : List Leaf) (k : Nat) (hk : k < ls.length) : allE (ls.take (k + 1)) = allE (ls.take k) ++ ls[k].l := by
  unfold allE
  rw [List.take_succ_eq_append_getElem hk, List.flatMap_append]
  simp
theorem allE_len (ls : List Leaf) (h : ∀ x ∈ ls, x.l.length ≤ 50) : (allE ls).length ≤ ls.length * 50 := by
  unfold allE
  induction ls with
  | nil => simp
  | cons x ls ih =>
    rw [List.flatMap_cons, List.length_append]
    have := h x (by simp)
    have := ih fun y hy => h y (by simp [hy])
    simp only [List.length_cons]; omega
/-- Names once each, over all leaves. -/
theorem allE_nodup {d : Dic} (h : Inv0 d) : ((allE d.leaves).map (·.name)).Nodup := by
  have key : ∀ k, k ≤ d.leaves.length → ((allE (d.leaves.take k)).map (·.name)).Nodup ∧ ∀ e ∈ allE (d.leaves.take k), kOf d e.name < k := by
    intro k
    induction k with
    | zero => intro _; simp [allE]
    | succ k ih =>
      intro hk
      obtain ⟨h1, h2⟩ := ih (by omega)
      have hkl : k < d.leaves.length := by omega
      have hs := h.ok.srt _ (List.getElem_mem hkl)
      have hat : ∀ e ∈ d.leaves[k].l, kOf d e.name = k := fun e he => h.at_ k hkl e (by rw [leafAt_get hkl]; exact he)
      rw [allE_take _ _ hkl, List.map_append]
      refine ⟨List.nodup_append.2 ⟨h1, ?_, ?_⟩, ?_⟩
      · rw [List.Nodup, List.pairwise_map]
        exact hs.imp fun hab => lt_ne hab
      · intro a ha b hb e
        obtain ⟨x, hx, rfl⟩ := List.mem_map.1 ha
        obtain ⟨y, hy, rfl⟩ := List.mem_map.1 hb
        have := h2 x hx
        rw [e, hat y hy] at this
        omega
      · intro e he
        rcases List.mem_append.1 he with he | he
        · have := h2 e he; omega
        · rw [hat e he]; omega
  have := (key d.leaves.length (Nat.le_refl _)).1
  rwa [List.take_of_length_le (Nat.le_refl _)] at this
/-- All, by names. -/
structure IsList (d : Dic) (R : List Ent) : Prop where
  perm : R.Perm (allE d.leaves)
  srt : Srt R
theorem isList_of {d : Dic} (h : Inv0 d) {R : List Ent} (hp : R.Perm (allE d.leaves)) (hs : R.Pairwise fun a b => lt b.name a.name = false) : IsList d R := by
  refine ⟨hp, ?_⟩
  have hn : (R.map (·.name)).Nodup := (hp.map _).nodup_iff.2 (allE_nodup h)
  rw [List.Nodup, List.pairwise_map] at hn
  unfold Srt
  refine List.Pairwise.imp ?_ (hs.and hn)
  rintro a b ⟨h1, h2⟩
  cases h3 : lt a.name b.name
  · exact absurd (lt_tri _ _ h3 h1) h2
  · rfl
theorem srt_unique : ∀ {a b : List Ent}, Srt a → Srt b → (∀ e, e ∈ a ↔ e ∈ b) → a = b := by
  intro a
  induction a with
  | nil => intro b _ _ h; cases b with | nil => rfl | cons x b => exact absurd ((h x).2 (by simp)) (by simp)
  | cons x a ih =>
    intro b ha hb h
    cases b with
    | nil => exact absurd ((h x).1 (by simp)) (by simp)
    | cons y b =>
      unfold Srt at ha hb
      rw [List.pairwise_cons] at ha hb
      have hxy : x = y := by
        rcases List.mem_cons.1 ((h x).1 (by simp)) with e | hx
        · exact e
        · rcases List.mem_cons.1 ((h y).2 (by simp)) with e | hy
          · exact e.symm
          · have h1 := hb.1 x hx
            have h2 := ha.1 y hy
            rw [lt_asymm h1] at h2; cases h2
      subst hxy
      congr 1
      refine ih ha.2 hb.2 fun e => ⟨fun he => ?_, fun he => ?_⟩
      · rcases List.mem_cons.1 ((h e).1 (by simp [he])) with e1 | h1
        · subst e1; exact absurd (ha.1 _ he) (by rw [lt_irrefl]; simp)
        · exact h1
      · rcases List.mem_cons.1 ((h e).2 (by simp [he])) with e1 | h1
        · subst e1; exact absurd (hb.1 _ he) (by rw [lt_irrefl]; simp)
        · exact h1

set_option maxHeartbeats 4000000 in
theorem list_any {w : World} {g : Nat} {d : Dic} {t l : Sl} {ps : List (Nat × Sl)} (h : DictM 69 66 w g d t l ps) (hi : Inv0 d) :
    Calls Try.prog 12 #[.pointer (some ⟨g, 0, none⟩)] w fun e w' => ∃ (s : Sl) (R : List Ent), e = .returned s.v ∧ RowE w' s.v R ∧ IsList d R ∧ (∀ q ∈ own s.v, w.heap.size ≤ q) ∧ Keeps Non w w' := by
  obtain ⟨lA, lc, hle, hlc, -⟩ := h.lvs.val
  obtain rfl : l = ⟨lA, ps.length, lc⟩ := by cases l; injection hle with h1 h2 h3; subst h1 h2 h3; rfl
  clear hle
  have ho := hi.ok
  have hpl : ps.length ≤ 32 := by rw [h.len]; exact ho.many
  have h50 : ∀ x ∈ d.leaves, x.l.length ≤ 50 := fun x hx => (fitE_len (ho.fit x hx)).1
  have HIL := Lib.hid (fun R => isList_of hi (R := R))
  have c3 : w.cell? ⟨g, 3, none⟩ = some (.slice lA ps.length lc) := h.blk.cell 3
  have hlen := h.len
  have HLEN := Lib.hid hlen
  clear hlen
  go_enter Try.func12, Try.ntmps12
  go_upto_region 3 with fail
  go_loopw [3, 11] (fun s i wr => ∃ k a, k ≤ ps.length ∧ i = .int .i64 (k : Int) ∧ s = Sl.v a ∧ RowE wr a.v (allE (d.leaves.take k)) ∧ (∀ q ∈ own a.v, w.heap.size ≤ q) ∧ Keeps Non w wr) (fun _ i _ => ps.length - (intOf i).toNat)
  case atStart => exact ⟨0, ⟨none, 0, 0⟩, Nat.zero_le _, rfl, rfl, RowP.nil _ _ _ _, fun q hq => absurd (show q ∈ ([] : List Nat) from hq) (by simp), Keeps.refl _ _⟩
  case round =>
    obtain ⟨k, a, hk, rfl, rfl, hR, hN, hK⟩ := hrel
    obtain ⟨wx, rfl⟩ : ∃ W : World, W = wr := ⟨_, rfl⟩
    have hAl : (allE (d.leaves.take k)).length ≤ 1600 := by
      have := allE_len (d.leaves.take k) fun x hx => h50 x (List.mem_of_mem_take hx)
      have h2 : (d.leaves.take k).length ≤ 32 := Nat.le_trans (List.length_take_le ..) (by have := HLEN.out; omega)
      omega
    by_cases hlt : k < ps.length
    · have hkd : k < d.leaves.length := by rw [← HLEN.out]; exact hlt
      have hx := h.non hK
      obtain ⟨gl, cap, ev, -, x0, x1, -, -⟩ := rowP_at hx.lvs hlt
      injection ev with e1 e2 e3
      clear e2
      subst e1 e3
      have hE := hx.ent k hlt hkd
      have hE50 := h50 _ (List.getElem_mem hkd)
      obtain ⟨eA, ec, hev, -, hAts⟩ := hE.ats encE_len
      rw [hev] at x1
      have HTK := Lib.hid (allE_take d.leaves k hkd)
      generalize ps[k].1 = dk at x0
      clear hev hE
      go_upto_region 5 with fail
      obtain ⟨w2, hw2⟩ : ∃ W : World, W = wx.alloc (.cells #[.int .i64 (dk : Int), .slice eA d.leaves[k].l.length ec] 66) := ⟨_, rfl⟩
      obtain ⟨xb, hxb⟩ : ∃ b, b = wx.heap.size := ⟨_, rfl⟩
      have hX := Blk.new wx 66 #[.int .i64 (dk : Int), .slice eA d.leaves[k].l.length ec]
      have hk2 := (Keeps.refl Non wx).alloc (.cells #[.int .i64 (dk : Int), .slice eA d.leaves[k].l.length ec] 66)
      rw [← hw2] at hX hk2 ⊢
      rw [← hxb] at hX ⊢
      clear hw2 hxb x0 x1
      have y1 : w2.cell? ⟨xb, 1, none⟩ = some (.slice eA d.leaves[k].l.length ec) := hX.cell 1
      have hR2 := hR.non hk2
      have hA2 := hAts.non hk2
      have HB : Hid ((allE (d.leaves.take k)).length + d.leaves[k].l.length ≤ maxLen ∧ ((allE (d.leaves.take k)).length + d.leaves[k].l.length) * 24 ≤ 140737488355328) := Lib.hid (by unfold maxLen; omega)
      obtain ⟨aA, an, ac⟩ := a
      obtain rfl : an = (allE (d.leaves.take k)).length := by obtain ⟨_, _, e, -⟩ := hR.val; injection e
      go_wp2_with (refine wpList_append_row (o := ⟨some 18, _, _, _, _, _⟩) rfl (.tmp 15) (.tmp 17) 32 rfl 56 2 encE _ 24 Try.underlying32 info56 rfl (by decide) encE_len encE_one (.slice aA (allE (d.leaves.take k)).length ac) (allE (d.leaves.take k)) rfl hR2 eA d.leaves[k].l.length ec d.leaves[k].l rfl rfl hA2 HB.out.1 HB.out.2 ?_; intro u8 w8 hO8 hK8 hat; obtain ⟨s8, rfl, -⟩ := RowP.sl hO8)
      go_roundw
      case rel => exact ⟨k + 1, s8, by omega, by go_num, rfl, by rw [HTK.out]; exact hO8, own_new hN (hK.non hk2).size hat, keeps_own (hK.non hk2) hK8 hN⟩
      case measure => simp [intOf]; omega
    · obtain rfl : k = ps.length := by omega
      have HS := Lib.hid (sort_any hR (by omega))
      have HTA : Hid (d.leaves.take ps.length = d.leaves) := Lib.hid (List.take_of_length_le (by rw [HLEN.out]; exact Nat.le_refl _))
      obtain ⟨aA, an, ac⟩ := a
      go_wp2_with ((go_at_call 35; refine HS.out.mono ?_; rintro e w2 ⟨rfl, R, hp, hso, hR2, hK2⟩))
      go_ret
      exact ⟨⟨aA, an, ac⟩, R, rfl, hR2, HIL.out R (by rw [HTA.out] at hp; exact hp) hso, hN, keeps_own hK hK2 hN⟩
end Go.Proofs.Ytiieglfpmmhfiaa
