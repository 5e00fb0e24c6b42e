/- now. -/
import Derived.Test.YteigjlkgbpgkjaaR2
namespace Go.Proofs.Yteigjlkgbpgkjaa
open Go.RowKit Go.Uc

theorem do_any (q g : Nat) (on : Option Nat) (j : Job) (x : St) (pv : Value) (w : World) (hq : Blk w q 26 #[.pointer (some ⟨g, 0, none⟩)]) (h : RepS w g on j x pv) :
    Calls Try.prog 18 #[.pointer (some ⟨g, 8, none⟩), .func (.func 19) #[] #[.pointer (some ⟨q, 0, none⟩)]] w fun e w' => e = .returned (.tuple #[]) ∧ ∃ gs, Blk w' g 62 (repC 1 0 (.slice (some ⟨gs, 0, none⟩) 6 6) j x pv) ∧ Blk w' gs 69 stepC ∧ Keeps (Only g) w w' := by
  rcases h with ⟨-, h⟩ | ⟨gs, -, h1, h2⟩
  · refine (do_first q g j x pv w hq h).mono ?_
    rintro e w' ⟨rfl, h1, h2, h3⟩
    exact ⟨rfl, _, h1, h2, h3⟩
  · refine (do_done g j x pv _ _ w h1).mono ?_
    rintro e w' ⟨rfl, rfl⟩
    exact ⟨rfl, gs, h1, h2, Keeps.refl _ _⟩

set_option maxRecDepth 100000 in
set_option maxHeartbeats 1600000 in
theorem now_any (g : Nat) (on : Option Nat) (j : Job) (x : St) (pv : Value) (w : World) (h : RepS w g on j x pv) (hk : x.at_ < 6) :
    Calls Try.prog 14 #[.pointer (some ⟨g, 0, none⟩)] w fun e w' => ∃ gs, e = .returned (.agg #[.int .i64 (whoK x.at_), fnV (askK x.at_), fnV (hearK x.at_)]) ∧ RepS w' g (some gs) j x pv ∧ Keeps (Only g) w w' := by
  have hmf : ∀ (fn : Fn) (first cap : Array Value) (w : World), (Instr.makeFunc fn first cap).run Try.prog w = .ok (.func fn first cap) w := fun _ _ _ _ => rfl
  obtain ⟨w1, hw1⟩ : ∃ w1, w1 = (w.alloc (.cells #[.pointer (some ⟨g, 0, none⟩)] 26)).alloc (.cells #[.int .i64 0, Value.nilFunc, Value.nilFunc] 69) := ⟨_, rfl⟩
  obtain ⟨q, hq⟩ : ∃ q, q = w.heap.size := ⟨_, rfl⟩
  have hk1 : Keeps Non w w1 := by rw [hw1]; exact ((Keeps.refl _ _).alloc _).alloc _
  have hQ1 : Blk w1 q 26 #[.pointer (some ⟨g, 0, none⟩)] := by rw [hw1, hq]; exact (Blk.new _ _ _).alloc _
  have hT1 : Blk w1 (q + 1) 69 #[.int .i64 0, Value.nilFunc, Value.nilFunc] := by
    rw [hw1, hq]
    have := Blk.new (w.alloc (.cells #[.pointer (some ⟨g, 0, none⟩)] 26)) 69 #[.int .i64 0, Value.nilFunc, Value.nilFunc]
    simpa using this
  have h1 : RepS w1 g on j x pv := by
    rcases h with ⟨a, b⟩ | ⟨gs, a, b, c⟩
    · exact .inl ⟨a, b.non hk1⟩
    · exact .inr ⟨gs, a, b.non hk1, c.non hk1⟩
  have hqg : q ≠ g := by
    rcases h1 with ⟨-, b⟩ | ⟨gs, -, b, -⟩
    · exact hQ1.ne b (by decide)
    · exact hQ1.ne b (by decide)
  have htg : q + 1 ≠ g := by
    rcases h1 with ⟨-, b⟩ | ⟨gs, -, b, -⟩
    · exact hT1.ne b (by decide)
    · exact hT1.ne b (by decide)
  have hwq : w.heap.size ≤ q := by omega
  have HD := Lib.hid (do_any q g on j x pv w1 hQ1 h1)
  obtain ⟨kk, hkk⟩ : ∃ kk, kk = x.at_ := ⟨_, rfl⟩
  obtain ⟨e0, e1, e2⟩ := step_at hk
  rw [← hkk] at hk e0 e1 e2
  have HK := Lib.hid hkk
  have q0 : w1.cell? ⟨q, 0, none⟩ = some (.pointer (some ⟨g, 0, none⟩)) := hQ1.cell 0
  clear hkk
  obtain ⟨vw, hvw⟩ : ∃ v, v = whoK kk := ⟨_, rfl⟩
  obtain ⟨va, hva⟩ : ∃ v, v = askK kk := ⟨_, rfl⟩
  obtain ⟨vh, hvh⟩ : ∃ v, v = hearK kk := ⟨_, rfl⟩
  rw [← hvw] at e0
  rw [← hva] at e1
  rw [← hvh] at e2
  have HV := Lib.hid (And.intro hvw (And.intro hva hvh))
  clear hvw hva hvh h
  go_enter Try.func14, Try.ntmps14
  go_upto_region 1 with fail
  rw [← hw1, ← hq]
  clear hw1 hq
  go_upto_region 2 with (go_at_call 18; go_must (refine HD.out.mono ?_); rintro e w2 ⟨rfl, gs, hB2, hS2, hK2⟩)
  have hQ2 := hQ1.one hK2 hqg
  have hT2 := hT1.one hK2 htg
  have hi0 : (0 : Int) ≤ (kk : Int) := by omega
  have hi6 : (kk : Int) < 6 := by omega
  have htgs : q + 1 ≠ gs := by
    intro e
    rw [← e] at hS2
    unfold Blk at hS2 hT2
    rw [hT2] at hS2
    injection hS2 with hS2
    injection hS2 with hS2
    have := congrArg Array.size hS2
    exact absurd this (by decide)
  have hSd := hS2.drew
  have hBd := hB2.drew
  have hQd := hQ2.drew
  have hTd := hT2.drew
  have c0 : w2.drew.cell? ⟨gs, kk * 3, none⟩ = some (.int .i64 vw) := by rw [hSd.cell]; exact e0
  have c1 : w2.drew.cell? ⟨gs, kk * 3 + 1, none⟩ = some (.func (.func va) #[] #[]) := by rw [hSd.cell]; exact e1
  have c2 : w2.drew.cell? ⟨gs, kk * 3 + 2, none⟩ = some (.func (.func vh) #[] #[]) := by rw [hSd.cell]; exact e2
  have c12 : w2.drew.cell? ⟨g, 12, none⟩ = some (.int .i64 kk) := by rw [HK.out]; exact hBd.cell 12
  have t0 : w2.cell? ⟨q + 1, 0, none⟩ = some (.int .i64 0) := hT2.cell 0
  have t1 : w2.cell? ⟨q + 1, 1, none⟩ = some Value.nilFunc := hT2.cell 1
  have t2 : w2.cell? ⟨q + 1, 2, none⟩ = some Value.nilFunc := hT2.cell 2
  have f0 := hT2.frozen 0
  have f1 := hT2.frozen 1
  have f2 := hT2.frozen 2
  have hTa := hT2.set 0 (.int .i64 vw)
  have hTb := hTa.set 1 (.func (.func va) #[] #[])
  have hTc := hTb.set 2 (.func (.func vh) #[] #[])
  have HT := Lib.hid hTc.drew
  have hkt : Keeps (Only (q + 1)) w2 (((w2.setCell ⟨q + 1, 0, none⟩ (.int .i64 vw)).setCell ⟨q + 1, 1, none⟩ (.func (.func va) #[] #[])).setCell ⟨q + 1, 2, none⟩ (.func (.func vh) #[] #[])).drew := ((((Keeps.refl (Only (q + 1)) w2).set (p := ⟨q + 1, 0, none⟩) rfl _).set (p := ⟨q + 1, 1, none⟩) rfl _).set (p := ⟨q + 1, 2, none⟩) rfl _).drew
  have hB3 := hB2.one hkt htg.symm
  have hS3 := hS2.one hkt (fun e => htgs e.symm)
  have hQ3 := hQ2.one hkt (by omega)
  have FIN := Lib.hid (And.intro hB3 (And.intro hS3 ((hk1.of_non.trans hK2).then hkt fun i hi e => by unfold Only at e; omega)))
  have c30 : (((w2.setCell ⟨q + 1, 0, none⟩ (.int .i64 vw)).setCell ⟨q + 1, 1, none⟩ (.func (.func va) #[] #[])).setCell ⟨q + 1, 2, none⟩ (.func (.func vh) #[] #[])).drew.cell? ⟨gs, kk * 3, none⟩ = some (.int .i64 vw) := by rw [hS3.cell]; exact e0
  have c31 : (((w2.setCell ⟨q + 1, 0, none⟩ (.int .i64 vw)).setCell ⟨q + 1, 1, none⟩ (.func (.func va) #[] #[])).setCell ⟨q + 1, 2, none⟩ (.func (.func vh) #[] #[])).drew.cell? ⟨gs, kk * 3 + 1, none⟩ = some (.func (.func va) #[] #[]) := by rw [hS3.cell]; exact e1
  have c32 : (((w2.setCell ⟨q + 1, 0, none⟩ (.int .i64 vw)).setCell ⟨q + 1, 1, none⟩ (.func (.func va) #[] #[])).setCell ⟨q + 1, 2, none⟩ (.func (.func vh) #[] #[])).drew.cell? ⟨gs, kk * 3 + 2, none⟩ = some (.func (.func vh) #[] #[]) := by rw [hS3.cell]; exact e2
  have c312 : (((w2.setCell ⟨q + 1, 0, none⟩ (.int .i64 vw)).setCell ⟨q + 1, 1, none⟩ (.func (.func va) #[] #[])).setCell ⟨q + 1, 2, none⟩ (.func (.func vh) #[] #[])).drew.cell? ⟨g, 12, none⟩ = some (.int .i64 kk) := by rw [HK.out]; exact hB3.cell 12
  have FS1 : Hid (w2.drew.cell? ⟨q, 0, none⟩ = some (.pointer (some ⟨g, 0, none⟩)) ∧ w2.drew.cell? ⟨g, 11, none⟩ = some (.slice (some ⟨gs, 0, none⟩) 6 6) ∧ w2.drew.cell? ⟨g, 12, none⟩ = some (.int .i64 kk) ∧ w2.drew.cell? ⟨gs, kk * 3, none⟩ = some (.int .i64 vw) ∧ w2.drew.cell? ⟨gs, kk * 3 + 1, none⟩ = some (.func (.func va) #[] #[]) ∧ w2.drew.cell? ⟨gs, kk * 3 + 2, none⟩ = some (.func (.func vh) #[] #[])) := ⟨hQd.cell 0, hBd.cell 11, c12, c0, c1, c2⟩
  have FS2 : Hid ((((w2.setCell ⟨q + 1, 0, none⟩ (.int .i64 vw)).setCell ⟨q + 1, 1, none⟩ (.func (.func va) #[] #[])).setCell ⟨q + 1, 2, none⟩ (.func (.func vh) #[] #[])).drew.cell? ⟨q, 0, none⟩ = some (.pointer (some ⟨g, 0, none⟩)) ∧ (((w2.setCell ⟨q + 1, 0, none⟩ (.int .i64 vw)).setCell ⟨q + 1, 1, none⟩ (.func (.func va) #[] #[])).setCell ⟨q + 1, 2, none⟩ (.func (.func vh) #[] #[])).drew.cell? ⟨g, 11, none⟩ = some (.slice (some ⟨gs, 0, none⟩) 6 6) ∧ (((w2.setCell ⟨q + 1, 0, none⟩ (.int .i64 vw)).setCell ⟨q + 1, 1, none⟩ (.func (.func va) #[] #[])).setCell ⟨q + 1, 2, none⟩ (.func (.func vh) #[] #[])).drew.cell? ⟨g, 12, none⟩ = some (.int .i64 kk) ∧ (((w2.setCell ⟨q + 1, 0, none⟩ (.int .i64 vw)).setCell ⟨q + 1, 1, none⟩ (.func (.func va) #[] #[])).setCell ⟨q + 1, 2, none⟩ (.func (.func vh) #[] #[])).drew.cell? ⟨gs, kk * 3, none⟩ = some (.int .i64 vw) ∧ (((w2.setCell ⟨q + 1, 0, none⟩ (.int .i64 vw)).setCell ⟨q + 1, 1, none⟩ (.func (.func va) #[] #[])).setCell ⟨q + 1, 2, none⟩ (.func (.func vh) #[] #[])).drew.cell? ⟨gs, kk * 3 + 1, none⟩ = some (.func (.func va) #[] #[]) ∧ (((w2.setCell ⟨q + 1, 0, none⟩ (.int .i64 vw)).setCell ⟨q + 1, 1, none⟩ (.func (.func va) #[] #[])).setCell ⟨q + 1, 2, none⟩ (.func (.func vh) #[] #[])).drew.cell? ⟨gs, kk * 3 + 2, none⟩ = some (.func (.func vh) #[] #[])) := ⟨hQ3.cell 0, hB3.cell 11, c312, c30, c31, c32⟩
  clear hB2 hS2 hQ2 hT2 hSd hBd hQd hTd hTa hTb hTc hkt hB3 hS3 hQ3 c0 c1 c2 c12 c30 c31 c32 c312 e0 e1 e2 hQ1 hT1 h1 q0 hK2 hk1
  go_region_held3 (fun w' : World => w'.cell? ⟨q, 0, none⟩ = some (.pointer (some ⟨g, 0, none⟩)) ∧ w'.cell? ⟨g, 11, none⟩ = some (.slice (some ⟨gs, 0, none⟩) 6 6) ∧ w'.cell? ⟨g, 12, none⟩ = some (.int .i64 kk) ∧ w'.cell? ⟨gs, kk * 3, none⟩ = some (.int .i64 vw) ∧ w'.cell? ⟨gs, kk * 3 + 1, none⟩ = some (.func (.func va) #[] #[]) ∧ w'.cell? ⟨gs, kk * 3 + 2, none⟩ = some (.func (.func vh) #[] #[]))
    (with_reducible (first | exact FS1.out | exact FS2.out)) (fail)
  all_goals
    go_wp2_with fail
    refine bodyPost_ret (results_cell_row (ty := 69) rfl _ _ (q + 1) 69 _ (0, 0) _ rfl HT.out Try.underlying69 rfl (by kernel_rfl)) rfl ?_
    rw [← HK.out, ← HV.out.1, ← HV.out.2.1, ← HV.out.2.2]
    exact ⟨gs, rfl, .inr ⟨gs, rfl, FIN.out.1, FIN.out.2.1⟩, FIN.out.2.2⟩
end Go.Proofs.Yteigjlkgbpgkjaa
