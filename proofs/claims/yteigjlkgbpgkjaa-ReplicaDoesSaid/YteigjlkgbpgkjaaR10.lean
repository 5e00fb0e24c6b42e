/- Next. -/
import Derived.Test.YteigjlkgbpgkjaaR9
namespace Go.Proofs.Yteigjlkgbpgkjaa
open Go.RowKit Go.Uc

def nextV (j : Job) (x : St) : Rq := if x.how = 0 then { askV j x with ses := j.ses, id := x.id } else Rq.none
def nextW (x : St) : Int := if x.how = 0 then whoK x.at_ else 0
theorem ask_data (j : Job) (x : St) (h : x.at_ ≠ 4) : (askV j x).data = [] := by
  unfold askV
  split
  · rfl
  · rfl
theorem ask_data4 (j : Job) (x : St) (h : x.at_ = 4) : (askV j x).data = x.piece := by
  unfold askV
  rw [if_neg (by omega), if_pos h]

section
variable {g : Nat} {on : Option Nat} {j : Job} {x : St} {pv : Value}
theorem ask_any (w : World) (h : RepS w g on j x pv) (hk : x.at_ < 6) (hO : OwnB w 0 5 pv x.piece) (hn : x.piece.length ≤ 140737488355328) :
    Calls Try.prog (askK x.at_) #[.pointer (some ⟨g, 0, none⟩)] w fun en w' => ∃ dv, en = .returned (.agg (rqC (askV j x) dv)) ∧ OwnB w' w.heap.size 5 dv (askV j x).data ∧ Keeps Non w w' := by
  by_cases h3 : x.at_ = 3
  · rw [show askK x.at_ = 28 by rw [h3]; rfl]
    refine (asks_any w h h3).mono ?_
    rintro en w' ⟨rfl, hk⟩
    exact ⟨_, rfl, by rw [ask_data j x (by omega)]; exact OwnB.nil _ _ _, hk⟩
  · by_cases h4 : x.at_ = 4
    · rw [show askK x.at_ = 30 by rw [h4]; rfl]
      refine (feeds_any w h h4 hO hn).mono ?_
      rintro en w' ⟨dv, rfl, ho, hk⟩
      exact ⟨_, rfl, by rw [ask_data4 j x h4]; exact ho, hk⟩
    · rw [show askK x.at_ = 24 by unfold askK; rw [if_neg h3, if_neg h4]]
      refine (bare_any w h hk h3 h4).mono ?_
      rintro en w' ⟨rfl, hk⟩
      exact ⟨_, rfl, by rw [ask_data j x h4]; exact OwnB.nil _ _ _, hk⟩
set_option maxRecDepth 100000 in
theorem results_next {fn : Func} {p u v : Tmp} (h : fn.results = #[.cell p 41, .tmp u, .tmp v]) (tmps : Array Value) (w : World) (g : Nat) (cs : Array Value)
    (hp : tmps.getD p undef = .pointer (some ⟨g, 0, none⟩)) (hg : Blk w g 41 cs) (hz : cs.size = 10) :
    (results fn tmps).run Try.prog w = .ok (.tuple #[.agg cs, tmps.getD u undef, tmps.getD v undef]) w := by
  have hp' : tmps[p]?.getD undef = .pointer (some ⟨g, 0, none⟩) := by simpa using hp
  have hi : (Try.prog.info? 41).map (·.size) = some cs.size := by rw [hz]; kernel_rfl
  simp [results, h, hp', asAddr, run_loadVar_row w g 41 41 cs (0, 0) _ hg Try.underlying41 rfl hi]

set_option maxRecDepth 100000 in
set_option maxHeartbeats 8000000 in
theorem next_off (w : World) (h : RepS w g on j x pv) (h0 : x.how ≠ 0) :
    Calls Try.prog 11 #[.pointer (some ⟨g, 0, none⟩)] w fun en w' => en = .returned (.tuple #[.agg (rqC Rq.none (.slice none 0 0)), .int .i64 0, .bool false]) ∧ Keeps Non w w' := by
  obtain ⟨dd, steps, hB, -⟩ := h.blk
  obtain ⟨p, hp⟩ : ∃ p, p = w.heap.size := ⟨_, rfl⟩
  obtain ⟨w1, hw1⟩ : ∃ W, W = w.alloc (.cells #[.int .i64 0, .int .i64 0, .int .i64 0, .string { data := #[] }, .string { data := #[] }, .string { data := #[] }, .string { data := #[] }, .int .i64 0, .int .i64 0, .slice none 0 0] 41) := ⟨_, rfl⟩
  have hP1 : Blk w1 p 41 #[.int .i64 0, .int .i64 0, .int .i64 0, .string { data := #[] }, .string { data := #[] }, .string { data := #[] }, .string { data := #[] }, .int .i64 0, .int .i64 0, .slice none 0 0] := by rw [hw1, hp]; exact Blk.new _ _ _
  have hk1 : Keeps Non w w1 := by rw [hw1]; exact (Keeps.refl _ _).alloc _
  have c17 : w1.cell? ⟨g, 17, none⟩ = some (.int .i64 x.how) := (hB.non hk1).cell 17
  have hb : (x.how != 0) = true := by rw [bne_iff_ne]; exact h0
  have hpw : w.heap.size ≤ p := by omega
  obtain ⟨za0, Ta0⟩ : ∃ v, w1.cell? ⟨p, 0, none⟩ = some v := ⟨_, hP1.cell 0⟩; have Fa0 := hP1.frozen 0; obtain ⟨za1, Ta1⟩ : ∃ v, w1.cell? ⟨p, 1, none⟩ = some v := ⟨_, hP1.cell 1⟩; have Fa1 := hP1.frozen 1; obtain ⟨za2, Ta2⟩ : ∃ v, w1.cell? ⟨p, 2, none⟩ = some v := ⟨_, hP1.cell 2⟩; have Fa2 := hP1.frozen 2; obtain ⟨za3, Ta3⟩ : ∃ v, w1.cell? ⟨p, 3, none⟩ = some v := ⟨_, hP1.cell 3⟩; have Fa3 := hP1.frozen 3; obtain ⟨za4, Ta4⟩ : ∃ v, w1.cell? ⟨p, 4, none⟩ = some v := ⟨_, hP1.cell 4⟩; have Fa4 := hP1.frozen 4; obtain ⟨za5, Ta5⟩ : ∃ v, w1.cell? ⟨p, 5, none⟩ = some v := ⟨_, hP1.cell 5⟩; have Fa5 := hP1.frozen 5; obtain ⟨za6, Ta6⟩ : ∃ v, w1.cell? ⟨p, 6, none⟩ = some v := ⟨_, hP1.cell 6⟩; have Fa6 := hP1.frozen 6; obtain ⟨za7, Ta7⟩ : ∃ v, w1.cell? ⟨p, 7, none⟩ = some v := ⟨_, hP1.cell 7⟩; have Fa7 := hP1.frozen 7; obtain ⟨za8, Ta8⟩ : ∃ v, w1.cell? ⟨p, 8, none⟩ = some v := ⟨_, hP1.cell 8⟩; have Fa8 := hP1.frozen 8; obtain ⟨za9, Ta9⟩ : ∃ v, w1.cell? ⟨p, 9, none⟩ = some v := ⟨_, hP1.cell 9⟩; have Fa9 := hP1.frozen 9; obtain ⟨hTa, hKTa⟩ := store_ten hP1 (.int .i64 0) (.int .i64 0) (.int .i64 0) (.string { data := #[] }) (.string { data := #[] }) (.string { data := #[] }) (.string { data := #[] }) (.int .i64 0) (.int .i64 0) (.slice none 0 0)
  have FB := Lib.hid hTa
  have FK := Lib.hid (hk1.then hKTa fun i hi e => by unfold Only at e; omega)
  clear h hB hP1 hk1 hTa hKTa h0
  go_enter Try.func11, Try.ntmps11
  go_upto_region 1 with fail
  rw [← hw1, ← hp]
  clear hw1 hp
  go_wp2_with fail
  refine bodyPost_ret (results_next rfl _ _ p _ rfl FB.out rfl) rfl ?_
  exact ⟨rfl, FK.out⟩
set_option maxRecDepth 100000 in
set_option maxHeartbeats 8000000 in
theorem next_on (w : World) (h : RepS w g on j x pv) (hk : x.at_ < 6) (h0 : x.how = 0) (hO : OwnB w 0 5 pv x.piece) (hn : x.piece.length ≤ 140737488355328) :
    Calls Try.prog 11 #[.pointer (some ⟨g, 0, none⟩)] w fun en w' => ∃ gs dv, en = .returned (.tuple #[.agg (rqC (nextV j x) dv), .int .i64 (whoK x.at_), .bool true]) ∧ OwnB w' w.heap.size 5 dv (askV j x).data ∧ RepS w' g (some gs) j x pv ∧ Keeps (Only g) w w' := by
  obtain ⟨dd, steps, hB, -⟩ := h.blk
  obtain ⟨p, hp⟩ : ∃ p, p = w.heap.size := ⟨_, rfl⟩
  obtain ⟨w1, hw1⟩ : ∃ W, W = w.alloc (.cells #[.int .i64 0, .int .i64 0, .int .i64 0, .string { data := #[] }, .string { data := #[] }, .string { data := #[] }, .string { data := #[] }, .int .i64 0, .int .i64 0, .slice none 0 0] 41) := ⟨_, rfl⟩
  have hP1 : Blk w1 p 41 #[.int .i64 0, .int .i64 0, .int .i64 0, .string { data := #[] }, .string { data := #[] }, .string { data := #[] }, .string { data := #[] }, .int .i64 0, .int .i64 0, .slice none 0 0] := by rw [hw1, hp]; exact Blk.new _ _ _
  have hk1 : Keeps Non w w1 := by rw [hw1]; exact (Keeps.refl _ _).alloc _
  have hB1 := hB.non hk1
  have HB1 := Lib.hid hB1
  have c17 : w1.cell? ⟨g, 17, none⟩ = some (.int .i64 x.how) := hB1.cell 17
  have hb : (x.how != 0) = false := by rw [h0]; rfl
  have hpw : w.heap.size ≤ p := by omega
  have hpg : p ≠ g := hP1.ne hB1 (by decide)
  have hnw := now_any g on j x pv w1 (h.non hk1) hk
  unfold fnV at hnw
  obtain ⟨vw, hvw⟩ : ∃ v, v = whoK x.at_ := ⟨_, rfl⟩
  obtain ⟨va, hva⟩ : ∃ v, v = askK x.at_ := ⟨_, rfl⟩
  obtain ⟨vh, hvh⟩ : ∃ v, v = hearK x.at_ := ⟨_, rfl⟩
  rw [← hvw, ← hva, ← hvh] at hnw
  have HASK := Lib.hid (fun W on' (h : RepS W g on' j x pv) (hO : OwnB W 0 5 pv x.piece) => (hva ▸ ask_any W h hk hO hn : Calls Try.prog va _ W _))
  have HNW := Lib.hid hnw
  have HV3 : Hid (va = 28 ∨ va = 30 ∨ va = 24) := by
    show _ ∨ _
    rw [hva]
    unfold askK
    split
    · exact .inl rfl
    · split
      · exact .inr (.inl rfl)
      · exact .inr (.inr rfl)
  have HVW := Lib.hid hvw
  clear hnw hvw hva hvh
  have HNV : Hid (nextV j x = { askV j x with ses := j.ses, id := x.id }) := by show _ = _; unfold nextV; rw [if_pos h0]
  have HKK := Lib.hid hk
  have HO := Lib.hid (hO.non hk1)
  have hz1 := hk1.size
  clear h hB hB1 h0 hO hk
  go_enter Try.func11, Try.ntmps11
  go_upto_region 1 with fail
  rw [← hw1, ← hp]
  clear hw1 hp
  go_upto_region 4 with (go_at_call 14; go_must (refine HNW.out.mono ?_); rintro en w2 ⟨gs, rfl, h2, hK2⟩)
  obtain ⟨s5, hs5⟩ : ∃ s, s = w2.heap.size := ⟨_, rfl⟩
  obtain ⟨w3, hw3⟩ : ∃ W, W = w2.alloc (.cells #[.int .i64 vw, .func (.func va) #[] #[], .func (.func vh) #[] #[]] 69) := ⟨_, rfl⟩
  have hS3 : Blk w3 s5 69 #[.int .i64 vw, .func (.func va) #[] #[], .func (.func vh) #[] #[]] := by rw [hw3, hs5]; exact Blk.new _ _ _
  have hk23 : Keeps Non w2 w3 := by rw [hw3]; exact (Keeps.refl _ _).alloc _
  rw [← hw3, ← hs5]
  clear hw3 hs5
  have hP3 := (hP1.one hK2 hpg).non hk23
  have h3 := h2.non hk23
  have s1 : w3.cell? ⟨s5, 1, none⟩ = some (.func (.func va) #[] #[]) := hS3.cell 1
  have hO3 : OwnB w3 0 5 pv x.piece := (HO.out.keep hK2 (Blk.apart HB1.out HO.out (by decide))).non hk23
  have HA3 := Lib.hid (HASK.out w3 _ h3 hO3)
  obtain ⟨R, hR⟩ : ∃ R, R = askV j x := ⟨_, rfl⟩
  rw [← hR] at HA3 HNV
  have HR := Lib.hid hR
  clear hR
  go_cut [6] from 15 to 18 (fun s6 wc => ∃ q6 dv, s6 = .pointer (some ⟨q6, 0, none⟩) ∧ w3.heap.size ≤ q6 ∧ Blk wc q6 41 (rqC R dv) ∧ OwnB wc w3.heap.size 5 dv R.data ∧ Keeps Non w3 wc)
  case first =>
    rcases HV3.out with rfl | rfl | rfl
    all_goals
      go_wp2_with fail
      refine HA3.out.mono ?_
      rintro en w4 ⟨dv, rfl, hOd, hK4⟩
      obtain ⟨Av, cv, rfl, -, -, -⟩ := id hOd.open
      have FR : Hid (∃ q6 dv, (Value.pointer (some ⟨w4.heap.size, 0, none⟩)) = .pointer (some ⟨q6, 0, none⟩) ∧ w3.heap.size ≤ q6 ∧ Blk (w4.alloc (.cells (rqC R (.slice Av R.data.length cv)) 41)) q6 41 (rqC R dv) ∧ OwnB (w4.alloc (.cells (rqC R (.slice Av R.data.length cv)) 41)) w3.heap.size 5 dv R.data ∧ Keeps Non w3 (w4.alloc (.cells (rqC R (.slice Av R.data.length cv)) 41))) := ⟨_, _, rfl, hK4.size, Blk.new _ _ _, hOd.non ((Keeps.refl _ _).alloc _), hK4.alloc _⟩
      unfold rqC at FR ⊢
      clear hOd hK4
      go_wp2_with fail
      go_meet
      case rel => exact FR.out
  case rest =>
    obtain ⟨q6, dv, rfl, hq6, hQ6, hOd, hK6⟩ := hcut
    obtain ⟨Av, cv, rfl, -, -, -⟩ := id hOd.open
    have hc3 := h3.non hK6
    obtain ⟨d', s', hBc, -⟩ := hc3.blk
    have hq6g : q6 ≠ g := hQ6.ne hBc (by decide)
    have hq6s : q6 ≠ s5 := hQ6.ne (hS3.non hK6) (by decide)
    have hSc := hS3.non hK6
    have hPc := hP3.non hK6
    have hpq6 : p ≠ q6 := by have := hP3.lt; omega
    have a0 : wc.cell? ⟨q6, 0, none⟩ = some (.int .i64 R.ses) := hQ6.cell 0
    have fa0 := hQ6.frozen 0
    have a1 : wc.cell? ⟨q6, 1, none⟩ = some (.int .i64 R.id) := hQ6.cell 1
    have fa1 := hQ6.frozen 1
    have hQa := hQ6.set 0 (.int .i64 j.ses)
    have hQb := hQa.set 1 (.int .i64 x.id)
    have hkA : Keeps (Only q6) wc (wc.setCell ⟨q6, 0, none⟩ (.int .i64 j.ses)) := (Keeps.refl (Only q6) wc).set (p := ⟨q6, 0, none⟩) rfl _
    have hkB : Keeps (Only q6) wc ((wc.setCell ⟨q6, 0, none⟩ (.int .i64 j.ses)).setCell ⟨q6, 1, none⟩ (.int .i64 x.id)) := hkA.set (p := ⟨q6, 1, none⟩) rfl _
    have hBa := hBc.one hkA hq6g.symm
    have hBb := hBc.one hkB hq6g.symm
    have FS1 : Hid (wc.drew.cell? ⟨g, 5, none⟩ = some (.int .i64 j.ses) ∧ wc.drew.cell? ⟨g, 13, none⟩ = some (.int .i64 x.id)) := ⟨hBc.drew.cell 5, hBc.drew.cell 13⟩
    have FS2 : Hid ((wc.setCell ⟨q6, 0, none⟩ (.int .i64 j.ses)).drew.cell? ⟨g, 5, none⟩ = some (.int .i64 j.ses) ∧ (wc.setCell ⟨q6, 0, none⟩ (.int .i64 j.ses)).drew.cell? ⟨g, 13, none⟩ = some (.int .i64 x.id)) := ⟨hBa.drew.cell 5, hBa.drew.cell 13⟩
    have FS3 : Hid (((wc.setCell ⟨q6, 0, none⟩ (.int .i64 j.ses)).setCell ⟨q6, 1, none⟩ (.int .i64 x.id)).drew.cell? ⟨g, 5, none⟩ = some (.int .i64 j.ses) ∧ ((wc.setCell ⟨q6, 0, none⟩ (.int .i64 j.ses)).setCell ⟨q6, 1, none⟩ (.int .i64 x.id)).drew.cell? ⟨g, 13, none⟩ = some (.int .i64 x.id)) := ⟨hBb.drew.cell 5, hBb.drew.cell 13⟩
    go_upto_region 5 with fail
    go_region_held3 (fun w' : World => w'.cell? ⟨g, 5, none⟩ = some (.int .i64 j.ses) ∧ w'.cell? ⟨g, 13, none⟩ = some (.int .i64 x.id)) (with_reducible (first | exact FS1.out | exact FS2.out | exact FS3.out)) (fail)
    obtain ⟨w7, hw7⟩ : ∃ W, W = ((wc.setCell ⟨q6, 0, none⟩ (.int .i64 j.ses)).setCell ⟨q6, 1, none⟩ (.int .i64 x.id)).drew := ⟨_, rfl⟩
    have hk7 : Keeps (Only q6) wc w7 := by rw [hw7]; exact hkB.drew
    have hQ7 : Blk w7 q6 41 #[.int .i64 j.ses, .int .i64 x.id, .int .i64 R.verb, .string R.name, .string R.item, .string R.other, .string R.path, .int .i64 R.at_, .int .i64 R.many, .slice Av R.data.length cv] := by rw [hw7]; exact hQb.drew
    have hP7 := hPc.one hk7 hpq6
    have hS7 := hSc.one hk7 hq6s.symm
    have h7 : RepS w7 g (some gs) j x pv := hc3.keep hk7 (fun e => hq6g e.symm) fun gs' e e' => by
      unfold Only at e'
      injection e with e
      subst e
      rcases hc3 with ⟨e, -⟩ | ⟨gs2, e, -, hb⟩
      · cases e
      · injection e with e
        subst e
        exact hb.ne hQ6 (by decide) e'
    have hO7 := hOd.keep hk7 (Blk.apart hQ6 hOd (by decide))
    have hz13 : w.heap.size ≤ w3.heap.size := (((hk1.of_non.trans hK2 : Keeps (Only g) w w2)).non hk23).size
    have hkw7 : Keeps (Only g) w w7 := (((hk1.of_non.trans hK2).non hk23).non hK6).then hk7 fun i hi e => by unfold Only at e; have := (hk1.of_non.trans hK2 : Keeps (Only g) w w2).size; have := hk23.size; omega
    rw [← hw7]
    go_upto_region 6 with fail
    clear hw7 FS1 FS2 FS3 a0 fa0 a1 fa1 hQa hQb hkA hkB hBa hBb hBc hSc hPc hQ6 hOd hK6 hc3 hk7 hP3 hS3 h3 h2 hO3 HA3 hk23 hK2
    obtain ⟨za0, Ta0⟩ : ∃ v, w7.cell? ⟨p, 0, none⟩ = some v := ⟨_, hP7.cell 0⟩; have Fa0 := hP7.frozen 0; obtain ⟨za1, Ta1⟩ : ∃ v, w7.cell? ⟨p, 1, none⟩ = some v := ⟨_, hP7.cell 1⟩; have Fa1 := hP7.frozen 1; obtain ⟨za2, Ta2⟩ : ∃ v, w7.cell? ⟨p, 2, none⟩ = some v := ⟨_, hP7.cell 2⟩; have Fa2 := hP7.frozen 2; obtain ⟨za3, Ta3⟩ : ∃ v, w7.cell? ⟨p, 3, none⟩ = some v := ⟨_, hP7.cell 3⟩; have Fa3 := hP7.frozen 3; obtain ⟨za4, Ta4⟩ : ∃ v, w7.cell? ⟨p, 4, none⟩ = some v := ⟨_, hP7.cell 4⟩; have Fa4 := hP7.frozen 4; obtain ⟨za5, Ta5⟩ : ∃ v, w7.cell? ⟨p, 5, none⟩ = some v := ⟨_, hP7.cell 5⟩; have Fa5 := hP7.frozen 5; obtain ⟨za6, Ta6⟩ : ∃ v, w7.cell? ⟨p, 6, none⟩ = some v := ⟨_, hP7.cell 6⟩; have Fa6 := hP7.frozen 6; obtain ⟨za7, Ta7⟩ : ∃ v, w7.cell? ⟨p, 7, none⟩ = some v := ⟨_, hP7.cell 7⟩; have Fa7 := hP7.frozen 7; obtain ⟨za8, Ta8⟩ : ∃ v, w7.cell? ⟨p, 8, none⟩ = some v := ⟨_, hP7.cell 8⟩; have Fa8 := hP7.frozen 8; obtain ⟨za9, Ta9⟩ : ∃ v, w7.cell? ⟨p, 9, none⟩ = some v := ⟨_, hP7.cell 9⟩; have Fa9 := hP7.frozen 9; obtain ⟨hTa, hKTa⟩ := store_ten hP7 (.int .i64 j.ses) (.int .i64 x.id) (.int .i64 R.verb) (.string R.name) (.string R.item) (.string R.other) (.string R.path) (.int .i64 R.at_) (.int .i64 R.many) (.slice Av R.data.length cv)
    have hQ8 := hQ7.one hKTa (fun e => hpq6 e.symm)
    have hS8 := hS7.one hKTa (fun e => hP7.ne hS7 (by decide) e.symm)
    have GS1 : Hid (w7.drew.cell? ⟨s5, 0, none⟩ = some (.int .i64 vw) ∧ w7.drew.cell? ⟨q6, 0, none⟩ = some (.int .i64 j.ses) ∧ w7.drew.cell? ⟨q6, 1, none⟩ = some (.int .i64 x.id) ∧ w7.drew.cell? ⟨q6, 2, none⟩ = some (.int .i64 R.verb) ∧ w7.drew.cell? ⟨q6, 3, none⟩ = some (.string R.name) ∧ w7.drew.cell? ⟨q6, 4, none⟩ = some (.string R.item) ∧ w7.drew.cell? ⟨q6, 5, none⟩ = some (.string R.other) ∧ w7.drew.cell? ⟨q6, 6, none⟩ = some (.string R.path) ∧ w7.drew.cell? ⟨q6, 7, none⟩ = some (.int .i64 R.at_) ∧ w7.drew.cell? ⟨q6, 8, none⟩ = some (.int .i64 R.many) ∧ w7.drew.cell? ⟨q6, 9, none⟩ = some (.slice Av R.data.length cv)) := ⟨hS7.drew.cell 0, hQ7.drew.cell 0, hQ7.drew.cell 1, hQ7.drew.cell 2, hQ7.drew.cell 3, hQ7.drew.cell 4, hQ7.drew.cell 5, hQ7.drew.cell 6, hQ7.drew.cell 7, hQ7.drew.cell 8, hQ7.drew.cell 9⟩
    have GS2 : Hid (((((((((((w7.setCell ⟨p, 0, none⟩ (.int .i64 j.ses)).setCell ⟨p, 1, none⟩ (.int .i64 x.id)).setCell ⟨p, 2, none⟩ (.int .i64 R.verb)).setCell ⟨p, 3, none⟩ (.string R.name)).setCell ⟨p, 4, none⟩ (.string R.item)).setCell ⟨p, 5, none⟩ (.string R.other)).setCell ⟨p, 6, none⟩ (.string R.path)).setCell ⟨p, 7, none⟩ (.int .i64 R.at_)).setCell ⟨p, 8, none⟩ (.int .i64 R.many)).setCell ⟨p, 9, none⟩ (.slice Av R.data.length cv)).drew.cell? ⟨s5, 0, none⟩ = some (.int .i64 vw) ∧ ((((((((((w7.setCell ⟨p, 0, none⟩ (.int .i64 j.ses)).setCell ⟨p, 1, none⟩ (.int .i64 x.id)).setCell ⟨p, 2, none⟩ (.int .i64 R.verb)).setCell ⟨p, 3, none⟩ (.string R.name)).setCell ⟨p, 4, none⟩ (.string R.item)).setCell ⟨p, 5, none⟩ (.string R.other)).setCell ⟨p, 6, none⟩ (.string R.path)).setCell ⟨p, 7, none⟩ (.int .i64 R.at_)).setCell ⟨p, 8, none⟩ (.int .i64 R.many)).setCell ⟨p, 9, none⟩ (.slice Av R.data.length cv)).drew.cell? ⟨q6, 0, none⟩ = some (.int .i64 j.ses) ∧ ((((((((((w7.setCell ⟨p, 0, none⟩ (.int .i64 j.ses)).setCell ⟨p, 1, none⟩ (.int .i64 x.id)).setCell ⟨p, 2, none⟩ (.int .i64 R.verb)).setCell ⟨p, 3, none⟩ (.string R.name)).setCell ⟨p, 4, none⟩ (.string R.item)).setCell ⟨p, 5, none⟩ (.string R.other)).setCell ⟨p, 6, none⟩ (.string R.path)).setCell ⟨p, 7, none⟩ (.int .i64 R.at_)).setCell ⟨p, 8, none⟩ (.int .i64 R.many)).setCell ⟨p, 9, none⟩ (.slice Av R.data.length cv)).drew.cell? ⟨q6, 1, none⟩ = some (.int .i64 x.id) ∧ ((((((((((w7.setCell ⟨p, 0, none⟩ (.int .i64 j.ses)).setCell ⟨p, 1, none⟩ (.int .i64 x.id)).setCell ⟨p, 2, none⟩ (.int .i64 R.verb)).setCell ⟨p, 3, none⟩ (.string R.name)).setCell ⟨p, 4, none⟩ (.string R.item)).setCell ⟨p, 5, none⟩ (.string R.other)).setCell ⟨p, 6, none⟩ (.string R.path)).setCell ⟨p, 7, none⟩ (.int .i64 R.at_)).setCell ⟨p, 8, none⟩ (.int .i64 R.many)).setCell ⟨p, 9, none⟩ (.slice Av R.data.length cv)).drew.cell? ⟨q6, 2, none⟩ = some (.int .i64 R.verb) ∧ ((((((((((w7.setCell ⟨p, 0, none⟩ (.int .i64 j.ses)).setCell ⟨p, 1, none⟩ (.int .i64 x.id)).setCell ⟨p, 2, none⟩ (.int .i64 R.verb)).setCell ⟨p, 3, none⟩ (.string R.name)).setCell ⟨p, 4, none⟩ (.string R.item)).setCell ⟨p, 5, none⟩ (.string R.other)).setCell ⟨p, 6, none⟩ (.string R.path)).setCell ⟨p, 7, none⟩ (.int .i64 R.at_)).setCell ⟨p, 8, none⟩ (.int .i64 R.many)).setCell ⟨p, 9, none⟩ (.slice Av R.data.length cv)).drew.cell? ⟨q6, 3, none⟩ = some (.string R.name) ∧ ((((((((((w7.setCell ⟨p, 0, none⟩ (.int .i64 j.ses)).setCell ⟨p, 1, none⟩ (.int .i64 x.id)).setCell ⟨p, 2, none⟩ (.int .i64 R.verb)).setCell ⟨p, 3, none⟩ (.string R.name)).setCell ⟨p, 4, none⟩ (.string R.item)).setCell ⟨p, 5, none⟩ (.string R.other)).setCell ⟨p, 6, none⟩ (.string R.path)).setCell ⟨p, 7, none⟩ (.int .i64 R.at_)).setCell ⟨p, 8, none⟩ (.int .i64 R.many)).setCell ⟨p, 9, none⟩ (.slice Av R.data.length cv)).drew.cell? ⟨q6, 4, none⟩ = some (.string R.item) ∧ ((((((((((w7.setCell ⟨p, 0, none⟩ (.int .i64 j.ses)).setCell ⟨p, 1, none⟩ (.int .i64 x.id)).setCell ⟨p, 2, none⟩ (.int .i64 R.verb)).setCell ⟨p, 3, none⟩ (.string R.name)).setCell ⟨p, 4, none⟩ (.string R.item)).setCell ⟨p, 5, none⟩ (.string R.other)).setCell ⟨p, 6, none⟩ (.string R.path)).setCell ⟨p, 7, none⟩ (.int .i64 R.at_)).setCell ⟨p, 8, none⟩ (.int .i64 R.many)).setCell ⟨p, 9, none⟩ (.slice Av R.data.length cv)).drew.cell? ⟨q6, 5, none⟩ = some (.string R.other) ∧ ((((((((((w7.setCell ⟨p, 0, none⟩ (.int .i64 j.ses)).setCell ⟨p, 1, none⟩ (.int .i64 x.id)).setCell ⟨p, 2, none⟩ (.int .i64 R.verb)).setCell ⟨p, 3, none⟩ (.string R.name)).setCell ⟨p, 4, none⟩ (.string R.item)).setCell ⟨p, 5, none⟩ (.string R.other)).setCell ⟨p, 6, none⟩ (.string R.path)).setCell ⟨p, 7, none⟩ (.int .i64 R.at_)).setCell ⟨p, 8, none⟩ (.int .i64 R.many)).setCell ⟨p, 9, none⟩ (.slice Av R.data.length cv)).drew.cell? ⟨q6, 6, none⟩ = some (.string R.path) ∧ ((((((((((w7.setCell ⟨p, 0, none⟩ (.int .i64 j.ses)).setCell ⟨p, 1, none⟩ (.int .i64 x.id)).setCell ⟨p, 2, none⟩ (.int .i64 R.verb)).setCell ⟨p, 3, none⟩ (.string R.name)).setCell ⟨p, 4, none⟩ (.string R.item)).setCell ⟨p, 5, none⟩ (.string R.other)).setCell ⟨p, 6, none⟩ (.string R.path)).setCell ⟨p, 7, none⟩ (.int .i64 R.at_)).setCell ⟨p, 8, none⟩ (.int .i64 R.many)).setCell ⟨p, 9, none⟩ (.slice Av R.data.length cv)).drew.cell? ⟨q6, 7, none⟩ = some (.int .i64 R.at_) ∧ ((((((((((w7.setCell ⟨p, 0, none⟩ (.int .i64 j.ses)).setCell ⟨p, 1, none⟩ (.int .i64 x.id)).setCell ⟨p, 2, none⟩ (.int .i64 R.verb)).setCell ⟨p, 3, none⟩ (.string R.name)).setCell ⟨p, 4, none⟩ (.string R.item)).setCell ⟨p, 5, none⟩ (.string R.other)).setCell ⟨p, 6, none⟩ (.string R.path)).setCell ⟨p, 7, none⟩ (.int .i64 R.at_)).setCell ⟨p, 8, none⟩ (.int .i64 R.many)).setCell ⟨p, 9, none⟩ (.slice Av R.data.length cv)).drew.cell? ⟨q6, 8, none⟩ = some (.int .i64 R.many) ∧ ((((((((((w7.setCell ⟨p, 0, none⟩ (.int .i64 j.ses)).setCell ⟨p, 1, none⟩ (.int .i64 x.id)).setCell ⟨p, 2, none⟩ (.int .i64 R.verb)).setCell ⟨p, 3, none⟩ (.string R.name)).setCell ⟨p, 4, none⟩ (.string R.item)).setCell ⟨p, 5, none⟩ (.string R.other)).setCell ⟨p, 6, none⟩ (.string R.path)).setCell ⟨p, 7, none⟩ (.int .i64 R.at_)).setCell ⟨p, 8, none⟩ (.int .i64 R.many)).setCell ⟨p, 9, none⟩ (.slice Av R.data.length cv)).drew.cell? ⟨q6, 9, none⟩ = some (.slice Av R.data.length cv)) := ⟨hS8.drew.cell 0, hQ8.drew.cell 0, hQ8.drew.cell 1, hQ8.drew.cell 2, hQ8.drew.cell 3, hQ8.drew.cell 4, hQ8.drew.cell 5, hQ8.drew.cell 6, hQ8.drew.cell 7, hQ8.drew.cell 8, hQ8.drew.cell 9⟩
    have FB := Lib.hid hTa.drew
    have FK := Lib.hid ((hkw7.then hKTa fun i hi e => by unfold Only at e; omega).drew)
    have FR := Lib.hid ((h7.keep hKTa (fun e => hpg e.symm) fun gs' e e' => (by
      unfold Only at e'
      injection e with e
      subst e
      rcases h7 with ⟨e, -⟩ | ⟨gs2, e, -, hb⟩
      · cases e
      · injection e with e
        subst e
        exact hb.ne hP7 (by decide) e')).non ((Keeps.refl Non _).drew))
    have FO := Lib.hid (((hO7.keep hKTa (Blk.apart hP7 hO7 (by decide))).mono hz13).non ((Keeps.refl Non _).drew))
    clear hTa hKTa hQ7 hP7 hS7 h7 hO7 hkw7 hQ8 hS8
    go_region_held3 (fun w' : World => w'.cell? ⟨s5, 0, none⟩ = some (.int .i64 vw) ∧ w'.cell? ⟨q6, 0, none⟩ = some (.int .i64 j.ses) ∧ w'.cell? ⟨q6, 1, none⟩ = some (.int .i64 x.id) ∧ w'.cell? ⟨q6, 2, none⟩ = some (.int .i64 R.verb) ∧ w'.cell? ⟨q6, 3, none⟩ = some (.string R.name) ∧ w'.cell? ⟨q6, 4, none⟩ = some (.string R.item) ∧ w'.cell? ⟨q6, 5, none⟩ = some (.string R.other) ∧ w'.cell? ⟨q6, 6, none⟩ = some (.string R.path) ∧ w'.cell? ⟨q6, 7, none⟩ = some (.int .i64 R.at_) ∧ w'.cell? ⟨q6, 8, none⟩ = some (.int .i64 R.many) ∧ w'.cell? ⟨q6, 9, none⟩ = some (.slice Av R.data.length cv)) (with_reducible (first | exact GS1.out | exact GS2.out)) (fail)
    clear Ta0 Fa0 Ta1 Fa1 Ta2 Fa2 Ta3 Fa3 Ta4 Fa4 Ta5 Fa5 Ta6 Fa6 Ta7 Fa7 Ta8 Fa8 Ta9 Fa9
    clear GS1 GS2
    go_wp2_with fail
    refine bodyPost_ret (results_next rfl _ _ p _ rfl FB.out rfl) rfl ?_
    rw [HNV.out, ← HVW.out, ← HR.out]
    exact ⟨gs, _, rfl, FO.out, FR.out, FK.out⟩
end
end Go.Proofs.Yteigjlkgbpgkjaa
