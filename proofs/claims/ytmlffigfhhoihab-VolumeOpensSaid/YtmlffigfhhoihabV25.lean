/- Spoil of any cells; the walk of VolumeOpens. -/
import Derived.Test.YtmlffigfhhoihabV24
import Derived.Test.YtmlffigfhhoihabV19
namespace Go.Proofs.Ytmlffigfhhoihab
open Go.RowKit Go.Uc

theorem RowC.loose_any {w : World} {B : Nat} {v : Value} {cs : List Cel} (h : RowC w B (OwnB w B 5) v cs) : (v = .slice none 0 0 ∧ cs.length = 0) ∨ ∃ g cap cur, v = .slice (some ⟨g, 0, none⟩) cs.length cap ∧ RowL w B w.heap.size g cs.length cap cur := by
  by_cases h0 : 0 < cs.length
  · exact .inr (h.loose h0)
  · obtain ⟨vss, h1, h2, h3⟩ := h
    rcases h1.2 with ⟨rfl, h4⟩ | ⟨g, cap, cur, rfl, h4, h5, h6, h7, h8, h9⟩
    · exact .inl ⟨rfl, h4⟩
    · have h5' : Blk w g 60 cur := h5
      exact .inr ⟨g, cap, cur, rfl, h4, h5'.lt, h5, h6, h7, h8, fun i hi => absurd hi (by omega)⟩

set_option maxRecDepth 100000 in
set_option maxHeartbeats 2000000 in
theorem spoil_nil (w : World) : Calls Try.prog 19 #[.slice none 0 0] w fun e w' => e = .returned (.tuple #[]) ∧ Keeps Non w w' := by
  go_enter Try.func19, Try.ntmps19
  go_wp2
  go_loopw [2, 3] (fun i _ wr => i = .int .i64 0 ∧ wr = w) (fun _ _ _ => 0)
  case atStart => exact ⟨rfl, rfl⟩
  case round =>
    obtain ⟨rfl, rfl⟩ := hrel
    go_wp2_with (at_builtin; go_must (refine wpList_append_cell rfl (.tmp 32) (.tmp 34) rfl wr.heap.size (.slice none 0 0) 0 [] rfl (World.ownsRow_nil _ _ _ _) (some ⟨wr.heap.size, 0, none⟩) 1 [.int .i64 (-2), .int .i64 0, .int .i64 0, .slice none 0 0] rfl rfl (Ats.four _ _ _ _ _ _) (by intro u hu; simp at hu; rcases hu with rfl | rfl | rfl <;> rfl) (by omega) (by simp) ?_); intro v6 w6 hR6 hK6 hat6; obtain ⟨g6, cap6, cur6, rfl, l1, l2, l3, l4, l5, l6⟩ := row_form hR6 (by omega); obtain ⟨v8, s8⟩ : ∃ v8, w6.cell? ⟨g6, 1, none⟩ = some v8 := ⟨_, by rw [l2.cell, Array.getElem?_eq_getElem (by omega)]⟩; have f8 := l2.frozen 1; clear l2 l3 l4 l5 l6 hR6)
    go_end0
    have hk6 : Keeps Non wr w6 := ((Keeps.refl Non wr).alloc _).then hK6 fun i _ e => by simp [Owned, Value.ownBlock] at e
    exact ⟨rfl, hk6.setNew (p := ⟨g6, 1, none⟩) l1 _⟩

theorem spoil_all (B : Nat) (v : Value) (cs : List Cel) (w w' : World) (hR : RowC w B (OwnB w B 5) v cs) (hk : Keeps Non w w') (hB : B ≤ w.heap.size) (hn : (cs.length + 1) * 48 ≤ 140737488355328) :
    Calls Try.prog 19 #[v] w' fun e w'' => e = .returned (.tuple #[]) ∧ Keeps (Between B w.heap.size) w' w'' := by
  rcases hR.loose_any with ⟨rfl, -⟩ | ⟨g, cap, cur, rfl, hL⟩
  · exact (spoil_nil w').mono fun e w'' h => ⟨h.1, h.2.of_non⟩
  · exact spoil_any g cs.length cap B w.heap.size cur w' (hL.keep hk (fun _ _ _ e => e)) (by have := hk.size; omega) hn

set_option maxRecDepth 100000 in
set_option maxHeartbeats 4000000 in
theorem volumeOpens_any (A : Option Addr) (c : Nat) (cs : List Cel) (A2 : Option Addr) (c2 : Nat) (os : List Opr) (w : World) (hA : Cels w A cs) (hc : cs.length ≤ c) (hn : (cs.length + 1) * 48 ≤ 140737488355328)
    (h64 : ∀ i (h : i < cs.length), cs[i].data.length ≤ 140737488351232) (hO : OprsLow w w.heap.size A2 os) (hm : os.length ≤ 140737488351232) :
    Calls Try.prog 6 #[.slice A cs.length c, .slice A2 os.length c2] w fun e w' => e = .returned (.bool true) ∧ Keeps Non w w' := by
  have HA := Lib.hid hA
  have HO := Lib.hid hO
  have H64 := Lib.hid h64
  clear hA hO h64
  by_cases hx : ∃ X, AlikeV X cs
  · have HX := Lib.hid hx
    clear hx
    go_enter Try.func6, Try.ntmps6
    go_wp2_with fail
    refine (awake_any _).mono ?_
    rintro e w1 ⟨rfl, hK1⟩
    have HC := Lib.hid (copied_any A c cs w1 (HA.out.non hK1) hn H64.out)
    go_wp2_with fail
    refine HC.out.mono ?_
    rintro e w2 ⟨v, rfl, hR2, hK2⟩
    obtain ⟨A', c', rfl, hC2, hc2, -⟩ := hR2.open
    have HOp := Lib.hid (open_any c' A' cs w2 hC2 hc2 (by omega))
    have hk2 := hK1.trans hK2
    have hz1 := hK1.size
    have hz2 := hK2.size
    clear HC
    go_wp2_with fail
    refine HOp.out.mono ?_
    rintro e w3 ⟨hK3, ⟨X, gx, gbx, rfl, hX, hv3, hb1, hb2⟩ | ⟨hno, -⟩⟩
    case inr => exact absurd HX.out.choose_spec (hno _)
    have hk3 := hk2.trans hK3
    have HSa := Lib.hid (same_any A' A c' c cs w3 (hC2.non hK3) (HA.out.non hk3) (by omega))
    have hz3 := hK3.size
    clear HOp
    go_wp2_with fail
    refine HSa.out.mono ?_
    rintro e w4 ⟨rfl, hK4⟩
    have hk4 := hk3.trans hK4
    have hv4 := hv3.non hK4
    have hz4 := hK4.size
    have HSp := Lib.hid (spoil_all w1.heap.size _ cs w2 w4 hR2 (hK3.trans hK4) hz2 hn)
    clear HSa hC2 hR2
    go_wp2_with fail
    refine HSp.out.mono ?_
    rintro e w5 ⟨rfl, hK5⟩
    have hk5 : Keeps Non w w5 := hk4.then hK5 fun i hi e => by unfold Between at e; omega
    have hv5 := hv4.keep hK5 (fun e => by unfold Between at e; omega) (fun e => by unfold Between at e; omega)
    have hz5 := hK5.size
    have HRf := Lib.hid (refOpen_any c A cs w5 (HA.out.non hk5) hc (by omega))
    clear HSp
    go_wp2_with fail
    refine HRf.out.mono ?_
    rintro e w6 ⟨hK6, ⟨Y, gy, gby, rfl, hY, hv6, hb3, hb4⟩ | ⟨hno, -⟩⟩
    case inr => exact absurd hX (hno _)
    obtain rfl := hY.unique hX
    have hx6 := hv5.non hK6
    have hk6 := hk5.trans hK6
    have hz6 := hK6.size
    have hl1 := hv5.2.1.lt
    have hka : Keeps Non w6 (w6.alloc (.cells #[.pointer (some ⟨gx, 0, none⟩), .pointer (some ⟨gy, 0, none⟩)] 47)) := (Keeps.refl _ _).alloc _
    have hkw := hk6.trans hka
    have hPr : PairB (w6.alloc (.cells #[.pointer (some ⟨gx, 0, none⟩), .pointer (some ⟨gy, 0, none⟩)] 47)) w.heap.size w6.heap.size gx gbx gy gby Y := ⟨Blk.new _ _ _, hx6.non hka, hv6.non hka, by omega, by omega⟩
    have hO2 : OprsLow (w6.alloc (.cells #[.pointer (some ⟨gx, 0, none⟩), .pointer (some ⟨gy, 0, none⟩)] 47)) w.heap.size A2 os := fun i hi => by
      obtain ⟨b, off, Ai, ci, h1, h2, h3, h4, h5, h6, h7, h8, h9⟩ := HO.out i hi
      exact ⟨b, off, Ai, ci, h1, h2, h3, hkw.cell h4 id, hkw.cell h5 id, hkw.cell h6 id, hkw.cell h7 id, h8.non hkw, h9⟩
    have HPl := Lib.hid (plays_any w.heap.size w6.heap.size gx gbx gy gby c2 Y A2 os _ hPr hY.1 hO2 hm)
    clear hPr hO2 hv3 hv4 hv5 hx6 hv6 HRf
    go_wp2_with fail
    refine HPl.out.mono ?_
    rintro e w7 ⟨rfl, hK7⟩
    go_wp2_with fail
    go_ret
    exact ⟨rfl, hkw.then hK7 fun i hi e => by unfold Above at e; omega⟩
  · have HX : Hid (∀ X, ¬ AlikeV X cs) := fun X h => hx ⟨X, h⟩
    clear hx
    go_enter Try.func6, Try.ntmps6
    go_wp2_with fail
    refine (awake_any _).mono ?_
    rintro e w1 ⟨rfl, hK1⟩
    have HC := Lib.hid (copied_any A c cs w1 (HA.out.non hK1) hn H64.out)
    go_wp2_with fail
    refine HC.out.mono ?_
    rintro e w2 ⟨v, rfl, hR2, hK2⟩
    obtain ⟨A', c', rfl, hC2, hc2, -⟩ := hR2.open
    have HOp := Lib.hid (open_any c' A' cs w2 hC2 hc2 (by omega))
    have hk2 := hK1.trans hK2
    have hz1 := hK1.size
    have hz2 := hK2.size
    clear HC
    go_wp2_with fail
    refine HOp.out.mono ?_
    rintro e w3 ⟨hK3, ⟨X, gx, gbx, rfl, hX, -⟩ | ⟨-, rfl⟩⟩
    case inl => exact absurd hX (HX.out _)
    have hk3 := hk2.trans hK3
    have HSa := Lib.hid (same_any A' A c' c cs w3 (hC2.non hK3) (HA.out.non hk3) (by omega))
    have hz3 := hK3.size
    clear HOp
    go_wp2_with fail
    refine HSa.out.mono ?_
    rintro e w4 ⟨rfl, hK4⟩
    have hk4 := hk3.trans hK4
    have hz4 := hK4.size
    have HSp := Lib.hid (spoil_all w1.heap.size _ cs w2 w4 hR2 (hK3.trans hK4) hz2 hn)
    clear HSa hC2 hR2
    go_wp2_with fail
    refine HSp.out.mono ?_
    rintro e w5 ⟨rfl, hK5⟩
    have hk5 : Keeps Non w w5 := hk4.then hK5 fun i hi e => by unfold Between at e; omega
    have HRf := Lib.hid (refOpen_any c A cs w5 (HA.out.non hk5) hc (by omega))
    clear HSp
    go_wp2_with fail
    refine HRf.out.mono ?_
    rintro e w6 ⟨hK6, ⟨Y, gy, gby, rfl, hY, -⟩ | ⟨-, rfl⟩⟩
    case inl => exact absurd hY (HX.out _)
    have hk6 := hk5.trans hK6
    clear HRf
    go_wp2_with fail
    go_ret
    exact ⟨rfl, hk6⟩
end Go.Proofs.Ytmlffigfhhoihab
