/- lent; All. -/
import Derived.Test.YtmlffigfhhoihacS15
namespace Go.Proofs.Ytmlffigfhhoihac
open Go.RowKit Go.Uc

set_option maxRecDepth 100000 in
set_option maxHeartbeats 2000000 in
theorem lent_any (r : Rp) (l d : Value) (w : World) (hR : RdR w l d r) (hb : RpB r) :
    Calls Try.prog 26 #[.agg #[.int .i64 r.ses, .int .i64 r.id, .int .i64 r.err, .int .i64 r.num, .string r.text, l, d]] w fun e w' => ∃ l' d', e = .returned (.agg #[.int .i64 r.ses, .int .i64 r.id, .int .i64 r.err, .int .i64 r.num, .string r.text, l', d']) ∧ RpO w' w.heap.size l' d' r ∧ Keeps Non w w' := by
  obtain ⟨Al, cl, Ad, cd, rfl, rfl, h1, h2, -, -⟩ := hR
  obtain ⟨w1, hw1⟩ : ∃ w1, w1 = (w.alloc (.cells #[.int .i64 r.ses, .int .i64 r.id, .int .i64 r.err, .int .i64 r.num, .string r.text, (.slice Al r.list.length cl), (.slice Ad r.data.length cd)] 31)).alloc (.cells zeroRep.toArray 31) := ⟨_, rfl⟩
  obtain ⟨q, hq⟩ : ∃ q, q = w.heap.size := ⟨_, rfl⟩
  have hk1 : Keeps Non w w1 := by rw [hw1]; exact ((Keeps.refl _ _).alloc _).alloc _
  have hB1 : Blk w1 q 31 #[.int .i64 r.ses, .int .i64 r.id, .int .i64 r.err, .int .i64 r.num, .string r.text, (.slice Al r.list.length cl), (.slice Ad r.data.length cd)] := by rw [hw1, hq]; exact (Blk.new _ _ _).alloc _
  have hC1 : Blk w1 (q + 1) 31 zeroRep.toArray := by rw [hw1, hq]; have := Blk.new (w.alloc (.cells #[.int .i64 r.ses, .int .i64 r.id, .int .i64 r.err, .int .i64 r.num, .string r.text, (.slice Al r.list.length cl), (.slice Ad r.data.length cd)] 31)) 31 zeroRep.toArray; simpa using this
  have H1 := Lib.hid (h1.non hk1)
  have H2 := Lib.hid h2
  have hz1 := hk1.size
  have b1 := hb.1
  have b2 := hb.2
  clear h1 h2 hb
  go_enter Try.func26, Try.ntmps26
  go_upto_region 3 with fail
  rw [show (#[.int .i64 0, .int .i64 0, .int .i64 0, .int .i64 0, .string { data := #[] }, .slice none 0 0, .slice none 0 0] : Array Value) = zeroRep.toArray from rfl, ← hw1, ← hq]
  have hqw : w.heap.size ≤ q := by omega
  clear hw1 hq
  have k5 : w1.cell? ⟨q, 5, none⟩ = some (.slice Al r.list.length cl) := hB1.cell 5
  have f5 := hB1.frozen 5
  go_upto_region 4 with (at_builtin; go_must (refine wpList_append_vals rfl (.tmp 5) (.tmp 7) 28 rfl w.heap.size 9 _ 16 Try.underlying28 info9 rfl (.slice none 0 0) 0 [] rfl (World.ownsRow_nil _ _ _ _) Al r.list.length cl (r.list.map Value.string) rfl (by simp) H1.out.ats (by intro u hu; simp at hu; obtain ⟨a, _, rfl⟩ := hu; rfl) (by unfold maxLen; omega) (by omega) hz1 ?_); intro v2 w2 hO2 hK2 hat; clear hat; go_must (have hO2' : OwnS w2 w.heap.size v2 r.list := (by simpa [OwnS] using hO2); have hK2' : Keeps Non w1 w2 := hK2.mono (fun k e => by cases e); obtain ⟨A2, c2, rfl, -, -, -⟩ := hO2'.open; have hB2 := hB1.non hK2'; have g5 : w2.cell? ⟨q, 5, none⟩ = some (.slice Al r.list.length cl) := hB2.cell 5; have f5' := hB2.frozen 5); clear k5 f5 hO2 hK2)
  obtain ⟨w3, hw3⟩ : ∃ w3, w3 = w2.setCell ⟨q, 5, none⟩ (.slice A2 r.list.length c2) := ⟨_, rfl⟩
  have hB3 : Blk w3 q 31 #[.int .i64 r.ses, .int .i64 r.id, .int .i64 r.err, .int .i64 r.num, .string r.text, (.slice A2 r.list.length c2), (.slice Ad r.data.length cd)] := by rw [hw3]; exact hB2.set 5 (.slice A2 r.list.length c2)
  have hk3 : Keeps (Only q) w2 w3 := by rw [hw3]; exact (Keeps.refl (Only q) w2).set (p := ⟨q, 5, none⟩) rfl _
  have hO3 : OwnS w3 w.heap.size (.slice A2 r.list.length c2) r.list := hO2'.keep hk3 (Blk.apart hB2 hO2' (by decide))
  have hC3 : Blk w3 (q + 1) 31 zeroRep.toArray := (hC1.non hK2').one hk3 (by omega)
  have hkw3 : Keeps Non w w3 := (hk1.trans hK2').then hk3 fun i hi e => by unfold Only at e; omega
  have hA3 := Lib.hid (H2.out.non hkw3)
  have hz3 := hkw3.size
  have k6 : w3.cell? ⟨q, 6, none⟩ = some (.slice Ad r.data.length cd) := hB3.cell 6
  have f6 := hB3.frozen 6
  rw [← hw3]
  clear hw3 hB2 hO2' hk3 hC1 hB1 hK2' g5 f5' H1
  go_upto_region 5 with (at_builtin; go_must (refine wpList_append_bytes rfl (.tmp 10) (.tmp 12) 29 rfl w.heap.size 5 Try.underlying29 info5 (.slice none 0 0) [] rfl (OwnB.nil _ _ _) Ad r.data.length cd r.data rfl rfl hA3.out (by simp; omega) hz3 ?_); intro v4 w4 hO4 hK4 hat; clear hat; go_must (have hO4' : OwnB w4 w.heap.size 5 v4 r.data := (by simpa using hO4); have hK4' : Keeps Non w3 w4 := hK4.mono (fun k e => by cases e); obtain ⟨A4, c4, rfl, -, -, -⟩ := hO4'.open; have hB4 := hB3.non hK4'; have g6 : w4.cell? ⟨q, 6, none⟩ = some (.slice Ad r.data.length cd) := hB4.cell 6; have f6' := hB4.frozen 6); clear k6 f6 hO4 hK4)
  obtain ⟨w5, hw5⟩ : ∃ w5, w5 = w4.setCell ⟨q, 6, none⟩ (.slice A4 r.data.length c4) := ⟨_, rfl⟩
  have hB5 : Blk w5 q 31 #[.int .i64 r.ses, .int .i64 r.id, .int .i64 r.err, .int .i64 r.num, .string r.text, (.slice A2 r.list.length c2), (.slice A4 r.data.length c4)] := by rw [hw5]; exact hB4.set 6 (.slice A4 r.data.length c4)
  have hk5 : Keeps (Only q) w4 w5 := by rw [hw5]; exact (Keeps.refl (Only q) w4).set (p := ⟨q, 6, none⟩) rfl _
  have hL4 := hO3.non hK4'
  have hL5 : OwnS w5 w.heap.size (.slice A2 r.list.length c2) r.list := hL4.keep hk5 (Blk.apart hB4 hL4 (by decide))
  have hD5 : OwnB w5 w.heap.size 5 (.slice A4 r.data.length c4) r.data := hO4'.keep hk5 (Blk.apart hB4 hO4' (by decide))
  have hC5 : Blk w5 (q + 1) 31 zeroRep.toArray := (hC3.non hK4').one hk5 (by omega)
  have hkw5 : Keeps Non w w5 := (hkw3.trans hK4').then hk5 fun i hi e => by unfold Only at e; omega
  rw [← hw5]
  clear hw5 hB4 hO4' hk5 hC3 hB3 hK4' g6 f6' hO3 hkw3 hL4 hA3
  have l0 : w5.cell? ⟨q, 0, none⟩ = some (.int .i64 r.ses) := hB5.cell 0
  have l1 : w5.cell? ⟨q, 1, none⟩ = some (.int .i64 r.id) := hB5.cell 1
  have l2 : w5.cell? ⟨q, 2, none⟩ = some (.int .i64 r.err) := hB5.cell 2
  have l3 : w5.cell? ⟨q, 3, none⟩ = some (.int .i64 r.num) := hB5.cell 3
  have l4 : w5.cell? ⟨q, 4, none⟩ = some (.string r.text) := hB5.cell 4
  have l5 : w5.cell? ⟨q, 5, none⟩ = some (.slice A2 r.list.length c2) := hB5.cell 5
  have l6 : w5.cell? ⟨q, 6, none⟩ = some (.slice A4 r.data.length c4) := hB5.cell 6
  obtain ⟨⟨va0, sa0⟩, fa0, ⟨va1, sa1⟩, fa1, ⟨va2, sa2⟩, fa2, ⟨va3, sa3⟩, fa3, ⟨va4, sa4⟩, fa4, ⟨va5, sa5⟩, fa5, ⟨va6, sa6⟩, fa6, hBa, hKa⟩ := store_seven hC5 (0) (by decide) (.int .i64 r.ses) (.int .i64 r.id) (.int .i64 r.err) (.int .i64 r.num) (.string r.text) (.slice A2 r.list.length c2) (.slice A4 r.data.length c4); simp only [Nat.zero_add] at sa0 fa0 sa1 fa1 sa2 fa2 sa3 fa3 sa4 fa4 sa5 fa5 sa6 fa6 hBa hKa
  have hB8 : Blk _ (q + 1) 31 #[.int .i64 r.ses, .int .i64 r.id, .int .i64 r.err, .int .i64 r.num, .string r.text, (.slice A2 r.list.length c2), (.slice A4 r.data.length c4)] := hBa
  have FB := Lib.hid hB8
  have FIN := Lib.hid (And.intro (hL5.keep hKa (Blk.apart hC5 hL5 (by decide))) (And.intro (hD5.keep hKa (Blk.apart hC5 hD5 (by decide))) (hkw5.then hKa fun i hi e => by unfold Only at e; omega)))
  clear hBa hKa hL5 hD5 hkw5 hC5 hB5 hB8
  go_wp2_with fail
  refine bodyPost_ret (results_cell_row (ty := 31) rfl _ _ (q + 1) 31 _ (0, 0) _ rfl FB.out Try.underlying30 rfl (by kernel_rfl)) rfl ?_
  exact ⟨_, _, rfl, ⟨FIN.out.1, FIN.out.2.1⟩, FIN.out.2.2⟩
end Go.Proofs.Ytmlffigfhhoihac
