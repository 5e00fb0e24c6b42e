/- Two lists of replies are the same. -/
import Derived.Test.YtmlffigfhhoihacS23
import Derived.Test.YtmlffigfhhoihacS19
namespace Go.Proofs.Ytmlffigfhhoihac
open Go.RowKit Go.Uc

set_option maxRecDepth 100000 in
set_option maxHeartbeats 4000000 in
theorem all_same (A1 A2 : Option Addr) (c1 c2 : Nat) (rs : List Rp) (w : World) (h1 : RepsE w (RdE w) A1 rs) (h2 : RepsE w (RdE w) A2 rs) (hc1 : rs.length ≤ c1) (hc2 : rs.length ≤ c2) (hn : rs.length ≤ 140737488355328) :
    Calls Try.prog 31 #[.slice A1 rs.length c1, .slice A2 rs.length c2] w fun e w' => e = .returned (.bool true) ∧ Keeps Non w w' := by
  have H1 := Lib.hid h1
  have H2 := Lib.hid h2
  clear h1 h2
  go_enter Try.func31, Try.ntmps31
  go_upto_region 4 with fail
  go_loopw [5, 6] (fun i _ wr => ∃ k : Nat, k ≤ rs.length ∧ i = .int .i64 k ∧ Keeps Non w wr) (fun i _ _ => rs.length - (intOf i).toNat)
  case atStart => exact ⟨0, Nat.zero_le _, rfl, Keeps.refl _ _⟩
  case round =>
    obtain ⟨k, hk, rfl, hK⟩ := hrel
    by_cases hlt : k < rs.length
    · obtain ⟨b, off, l, d, rfl, s1, hr1⟩ := H1.out.sev hlt
      obtain ⟨b', off', l', d', rfl, s2, hr2⟩ := H2.out.sev hlt
      obtain ⟨p, hp⟩ : ∃ p, p = rs[k] := ⟨_, rfl⟩
      rw [← hp] at s1 s2 hr1 hr2
      clear hp
      obtain ⟨Al, cl, Ad, cd, rfl, rfl, -⟩ := id hr1.1
      obtain ⟨Bl, dl, Bd, dd, rfl, rfl, -⟩ := id hr2.1
      obtain ⟨x0, x1, x2, x3, x4, x5, x6⟩ := s1.non hK
      obtain ⟨y0, y1, y2, y3, y4, y5, y6⟩ := s2.non hK
      have hkd : Keeps Non w wr.drew := hK.drew
      have HS := Lib.hid (same_any p _ _ _ _ wr.drew (hr1.1.non hkd) (hr2.1.non hkd) hr1.2)
      clear s1 s2 hr1 hr2
      go_upto_region 6 with fail
      go_still_tail 8, (by kernel_rfl)
      go_wp2_with fail
      refine HS.out.mono ?_
      rintro e w2 ⟨rfl, hK2⟩
      have hk2 := hkd.trans hK2
      clear hK2 HS x0 x1 x2 x3 x4 x5 x6 y0 y1 y2 y3 y4 y5 y6
      go_wp2_with fail
      go_roundw
      case rel => exact ⟨k + 1, by omega, by go_num, hk2⟩
      case measure => simp [intOf]; omega
    · go_wp2_with fail
      go_ret
      exact ⟨rfl, hK⟩
end Go.Proofs.Ytmlffigfhhoihac
