/- Parse. -/
import Derived.Test.YtbkhfemoogcpkaaDoorW3
namespace Go.Proofs.YtbkhfemoogcpkaaDoor
set_option maxRecDepth 100000
open Go.RowKit Go.Uc

/-- The laid error. -/
def ErrW (w : World) : Prop := ∃ te pe, w.cell? ⟨2, 0, none⟩ = some (.iface te pe)
theorem ErrW.non {w w' : World} (h : ErrW w) (hk : Keeps Non w w') : ErrW w' := by
  obtain ⟨te, pe, h⟩ := h
  exact ⟨te, pe, hk.cell h id⟩
theorem pub_some (t : ByteArray) (bs : List UInt8) (hbs : t = str bs) (h0 : 0 < bs.length) (hl : bs.length ≤ 16) (n : Nat) (hn : hexN bs = some n) (w : World) :
    Calls Tryd.prog 13 #[.string t, .int .i64 16, .int .i64 64] w fun e w' => e = .returned (.tuple #[.int .u64 (n : Int), .nilIface]) ∧ Keeps Non w w' := by
  have H := Lib.hid (parseHex_any t bs hbs h0 hl w)
  rw [hn] at H
  clear hn hbs h0 hl
  go_enter Tryd.func13, Tryd.ntmps13
  go_wp2_with fail
  refine H.out.mono ?_
  rintro e w' ⟨he, hK⟩
  replace he : e = .returned (.tuple #[.int .u64 (n : Int), .nilIface]) := he
  subst he
  go_wp2_with fail
  go_ret2
  exact ⟨rfl, hK⟩
def SomeErr (w : World) (e : Ending) (w' : World) : Prop := ∃ v p, e = .returned (.tuple #[.int .u64 v, .iface 88 p]) ∧ Keeps Non w w'
theorem pub_none (t : ByteArray) (bs : List UInt8) (hbs : t = str bs) (h0 : 0 < bs.length) (hl : bs.length ≤ 16) (hn : hexN bs = none) (w : World) (hE : ErrW w) :
    Calls Tryd.prog 13 #[.string t, .int .i64 16, .int .i64 64] w (SomeErr w) := by
  have H := Lib.hid (parseHex_any t bs hbs h0 hl w)
  rw [hn] at H
  have hts : t.size ≤ 281474976710656 := by rw [hbs, str_size]; omega
  clear hn hbs h0 hl
  go_enter Tryd.func13, Tryd.ntmps13
  go_wp2_with fail
  refine H.out.mono ?_
  rintro e w' ⟨he, hK⟩
  replace he : e = .returned (.tuple #[.int .u64 0, .iface 85 (.int .i64 2)]) := he
  subst he
  obtain ⟨te, pe, hev⟩ := hE.non hK
  go_wp2_with fail
  refine (Tryd.strconv_toError_syntax _ t 16 64 _ w' hts hev (.inr ⟨te, pe, rfl⟩)).mono ?_
  rintro e w2 ⟨N, rfl, hN, hB, hb⟩
  clear hev hB
  go_wp2_with fail
  go_ret2
  exact ⟨_, _, rfl, hK.non (Below.keeps hb)⟩
end Go.Proofs.YtbkhfemoogcpkaaDoor
