/- Get; Pages of a small dictionary. -/
import Derived.Test.YtiieglfpmmhfiaaD14
namespace Go.Proofs.Ytiieglfpmmhfiaa
set_option maxRecDepth 100000
open Go.RowKit Go.Uc

theorem info5' : (Try.prog.info? 5).map (fun i => (i.zero, i.size, i.bytes)) = some (some (.int .u8 0), 1, 1) := by kernel_rfl
def encU (c : UInt8) : List Value := [bv c]
theorem encU_len (c : UInt8) : (encU c).length = 1 := rfl
theorem encU_one (c : UInt8) : ∀ u ∈ encU c, u.oneCell' = true := by intro u hu; simp [encU] at hu; subst hu; rfl
theorem flat_encU (bs : List UInt8) : bs.flatMap encU = bs.map bv := by
  induction bs with
  | nil => rfl
  | cons x bs ih => rw [List.flatMap_cons, ih]; rfl
/-- A row of bytes. -/
abbrev RowU (w : World) (v : Value) (bs : List UInt8) : Prop := RowP w 5 1 encU v bs
theorem RowU.at_ {w : World} {A : Option Addr} {n c : Nat} {bs : List UInt8} (h : RowU w (.slice A n c) bs) : n = bs.length ∧ At w A bs := by
  obtain ⟨A', c', e, -, -⟩ := h.val
  injection e with e1 e2 e3
  refine ⟨e2, fun i hi => ?_⟩
  obtain ⟨g, cap, e', -, -, hc, -⟩ := RowP.at_ encU_len h hi
  injection e' with e4 _ _
  refine ⟨_, e4, ?_⟩
  have := hc 0 (by decide)
  rw [show (⟨g, 0, none⟩ : Addr).add i = ⟨g, i, none⟩ from by unfold Addr.add; split <;> simp_all]
  simpa [encU] using this
set_option maxHeartbeats 1000000 in
theorem cloneU_any (A : Option Addr) (c : Nat) (bs : List UInt8) (w : World) (hA : At w A bs) (hn : bs.length ≤ 1000000000000) (hne : 0 < bs.length) :
    Calls Try.prog 50 #[.slice A bs.length c] w fun e w' => ∃ s : Sl, e = .returned s.v ∧ RowU w' s.v bs ∧ New w s ∧ Keeps Non w w' := by
  have he := fun (w : World) (a : Option Addr) (n c : Nat) => Lib.run_eql_slice_nil (P := Try.prog) w 53 5 a n c 0 0 Try.underlying53
  obtain ⟨ad, rfl, -⟩ := hA 0 hne
  have hO : RowU (w.alloc (.cells #[] 5)) (.slice (some ⟨w.heap.size, 0, none⟩) 0 0) [] := RowP.lit encU_len w 5 [] #[] rfl (by decide)
  have hA2 : Ats (w.alloc (.cells #[] 5)) (some ad) (bs.flatMap encU) := by rw [flat_encU]; exact (hA.ats).non ((Keeps.refl Non w).alloc _)
  have hnw : ∀ k ∈ own (.slice (some ⟨w.heap.size, 0, none⟩) 0 0), w.heap.size ≤ k := fun k hk => by rw [own_slice] at hk; simp at hk; omega
  go_enter Try.func50, Try.ntmps50
  go_wp2_with (at_builtin; go_must (refine wpList_append_row rfl (.tmp 5) (.tmp 6) 53 rfl 5 1 encU _ 1 Try.underlying53 info5' rfl (by decide) encU_len encU_one _ [] rfl hO (some ad) bs.length c bs rfl rfl hA2 (by unfold maxLen; simp; omega) (by simp; omega) ?_); intro v2 w2 hO2 hK2 hat)
  go_ret
  obtain ⟨s, rfl, -⟩ := RowP.sl hO2
  exact ⟨s, rfl, by simpa using hO2, own_new hnw (by simp) hat, keeps_own ((Keeps.refl Non w).alloc _) hK2 hnw⟩

set_option maxHeartbeats 2000000 in
theorem get_any {w : World} {g : Nat} {d : Dic} {t l : Sl} {ps : List (Nat × Sl)} (h : DictM 69 66 w g d t l ps) (ho : Ok d) (n : List UInt8) (hn : n.length ≤ 9223372036854775807) :
    Calls Try.prog 25 #[.pointer (some ⟨g, 0, none⟩), .string (str n)] w fun e w' => e = .returned (.tuple #[.int .i64 (getR (val d n)).1, .bool (getR (val d n)).2]) ∧ Keeps Non w w' := by
  have hkd := kOf_lt ho n
  have hkp : kOf d n < ps.length := by rw [h.len]; exact hkd
  have HO := Lib.hid (of_any h ho n hn)
  obtain ⟨k, hk⟩ : ∃ k, k = kOf d n := ⟨_, rfl⟩
  rw [← hk] at hkd hkp HO
  have HK := Lib.hid hk
  clear hk
  obtain ⟨lA, lc, hle, -, -⟩ := h.lvs.val
  obtain rfl : l = ⟨lA, ps.length, lc⟩ := by cases l; injection hle with h1 h2 h3; subst h1 h2 h3; rfl
  clear hle
  obtain ⟨bl, cl, e2, -⟩ := rowP_at h.lvs hkp
  injection e2 with e2 e2b e2c
  clear e2b
  subst e2 e2c
  obtain ⟨L, hL⟩ : ∃ L, L = (leafAt d k).l := ⟨_, rfl⟩
  have hLs : Srt L := by rw [hL]; exact ho.srt _ (leaf_mem hkd)
  have hLn : L.length ≤ 50 := by rw [hL]; exact (fitE_len (ho.fit _ (leaf_mem hkd))).1
  have hE : RowE w ps[k].2.v L := by rw [hL, leafAt_get hkd]; exact h.ent k hkp hkd
  have hV : val d n = getE L n := by unfold val; rw [hL, ← HK.out]
  have HL := Lib.hid hL
  clear hL
  have HV := Lib.hid hV
  clear hV
  have HG := Lib.hid (getE_lb hLs n)
  have HF := Lib.hid (fun W (hW : Keeps Non w W) => find_any ps[k].2.v L n (by omega) hLs W (hE.non hW))
  obtain ⟨eA, ec, hev, hec, -⟩ := hE.val
  rw [hev] at HF
  have HEV := Lib.hid hev
  clear hev
  have HHL := Lib.hid (has_lb hLs n)
  obtain ⟨hb, hhb⟩ : ∃ b, b = has L n := ⟨_, rfl⟩
  have HHB := Lib.hid hhb
  rw [← hhb] at HF
  clear hhb
  go_enter Try.func25, Try.ntmps25
  go_upto_region 2 with ((go_at_call 27; refine HO.out.mono ?_; rintro e _ ⟨⟨b2, hb2, rfl⟩, q2, rfl⟩))
  obtain ⟨w2, hw2⟩ : ∃ W : World, W = w.drewN q2 := ⟨_, rfl⟩
  have hK2 : Keeps Non w w2 := by rw [hw2]; exact (Keeps.refl _ _).drewN q2
  rw [← hw2]
  obtain rfl : b2 = bl := by injection hb2 with e; injection e with e; exact e.symm
  clear hw2 hb2 HO
  have x1 : w2.cell? ⟨b2, k * 2 + 1, none⟩ = some (.slice eA L.length ec) := by
    obtain ⟨b3, _, e3, -, -, x1, -⟩ := rowP_at (h.non hK2).lvs hkp
    injection e3 with e3
    injection e3 with e3
    injection e3 with e3
    rw [e3, x1, HEV.out]
  have HF2 := Lib.hid (HF.out w2 hK2)
  clear HF
  go_upto_if 22 with ((go_at_call 28; refine HF2.out.mono ?_; rintro e w3 ⟨rfl, hK3⟩))
  clear HF2
  have hK23 := hK2.non hK3
  cases hb
  case true =>
    obtain ⟨hlt, hat⟩ := HHL.out.1 HHB.out.symm
    have HR : Hid (getR (val d n) = (L[lb L n].val, true)) := Lib.hid (by rw [HV.out, HG.out, dif_pos hlt, if_pos hat]; rfl)
    have hE3 := hE.non hK23
    rw [HEV.out] at hE3
    obtain ⟨eb, ecap, ee, -, z0, z1, -, -⟩ := rowE_at hE3 hlt
    injection ee with e1 e2 e3
    clear e2
    subst e1 e3
    have y1 : w3.cell? ⟨b2, k * 2 + 1, none⟩ = some (.slice (some ⟨eb, 0, none⟩) L.length ec) := hK3.cell x1 id
    have hlti : (lb L n : Int) < (L.length : Int) := by omega
    clear hat
    generalize L[lb L n].val = vv at z1 HR
    go_wp2_with fail
    go_ret2
    exact ⟨by rw [HR.out]; rfl, hK23⟩
  case false =>
    have HR : Hid (getR (val d n) = (0, false)) := Lib.hid (by
      have h1 := HHB.out
      rw [has_getE] at h1
      rw [HV.out]
      cases hh : getE L n with
      | none => rfl
      | some x => rw [hh] at h1; cases h1)
    go_wp2_with fail
    go_ret2
    exact ⟨by rw [HR.out]; rfl, hK23⟩
end Go.Proofs.Ytiieglfpmmhfiaa
