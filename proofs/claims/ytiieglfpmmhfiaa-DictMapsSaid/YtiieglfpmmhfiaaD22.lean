/- Len. -/
import Derived.Test.YtiieglfpmmhfiaaD21
namespace Go.Proofs.Ytiieglfpmmhfiaa
set_option maxRecDepth 100000
open Go.RowKit Go.Uc
theorem len_any {w : World} {g : Nat} {d : Dic} {t l : Sl} {ps : List (Nat × Sl)} (h : DictM 69 66 w g d t l ps) (hi : Inv0 d) :
    Calls Try.prog 42 #[.pointer (some ⟨g, 0, none⟩)] w fun e w' => e = .returned (.int .i64 ((allE d.leaves).length : Int)) ∧ Keeps Non w w' := by
  have HL := Lib.hid (list_any h hi)
  have hlen : (allE d.leaves).length ≤ 1600 := by
    have h1 := allE_len d.leaves fun x hx => (fitE_len (hi.ok.fit x hx)).1
    have h2 := hi.ok.many
    omega
  clear h hi
  go_enter Try.func42, Try.ntmps42
  go_wp2_with ((go_at_call 12; refine HL.out.mono ?_; rintro e w2 ⟨⟨A, n, c⟩, R, rfl, hR, hLs, -, hK⟩; go_must (have hn : n = (allE d.leaves).length := by obtain ⟨_, _, e, -⟩ := hR.val; injection e with e1 e2 e3; exact (show n = R.length from e2).trans hLs.perm.length_eq)))
  go_ret
  exact ⟨by rw [← hn]; rfl, hK⟩
end Go.Proofs.Ytiieglfpmmhfiaa
