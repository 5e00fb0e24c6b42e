/- does: Put, Get and Drop upon a pair; many pairs. A dictionary answers every script of calls as the document says: the walk. How scripts among the arguments are read, with their bulk. -/
import Derived.Test.YtiieglfpmmhfiaaG14
import Derived.Test.YtiieglfpmmhfiaaG15
import Derived.Test.YtiieglfpmmhfiaaG5
import Derived.Test.YtiieglfpmmhfiaaG16
namespace Go.Proofs.Ytiieglfpmmhfiaa
set_option maxRecDepth 100000
open Go.RowKit Go.Uc

/-- What a call leaves of a pair. -/
def PairR (w : World) (p : Pr) (w' : World) : Prop :=
  ∃ (p' : Pr) (d' : Dic), p'.b = p.b ∧ PairM w' p' d' ∧ Keeps (· ∈ p.foot) w w' ∧ ∀ q ∈ p'.foot, q ∈ p.foot ∨ w.heap.size ≤ q
theorem Pr.mem_foot {p : Pr} {q : Nat} : q ∈ p.foot ↔ q = p.b ∨ q ∈ p.fx ∨ q ∈ p.fy := by
  unfold Pr.foot
  rw [List.mem_cons, List.mem_append]
theorem PairR.same {w w' : World} {p : Pr} {d : Dic} (h : PairM w p d) (hk : Keeps Non w w') : PairR w p w' :=
  ⟨p, d, rfl, h.non hk, hk.of_non, fun q hq => .inl hq⟩
/-- Both turned, the one behind the other. -/
theorem PairM.done {w w1 w2 w3 : World} {p : Pr} {d d' : Dic} (h : PairM w p d) (hK1 : Keeps Non w w1) (hX : DoneD 69 66 w1 p.gx p.tx p.lx p.px d' w2) (w2' : World) (hK2 : Keeps Non w2 w2') (hY : DoneD 84 86 w2' p.gy p.ty p.ly p.py d' w3) (hi : Inv d') : PairR w p w3 := by
  obtain ⟨tx, lx, px, x1, x2, x3⟩ := hX
  obtain ⟨ty, ly, py, y1, y2, y3⟩ := hY
  have h1 := h.non hK1
  have hz1 := hK1.size
  have hz2 := x2.size
  have hz2' := hK2.size
  have fx : ∀ q ∈ p.fx, q ∈ p.foot := fun q hq => Pr.mem_foot.2 (.inr (.inl hq))
  have fy : ∀ q ∈ p.fy, q ∈ p.foot := fun q hq => Pr.mem_foot.2 (.inr (.inr hq))
  have fb : p.b ∈ p.foot := Pr.mem_foot.2 (.inl rfl)
  have lo := h.low
  have hlow2 : ∀ q ∈ foot p.gx tx lx px, q < w2.heap.size := x1.low
  have hxy : ∀ q ∈ foot p.gx tx lx px, q ∉ p.fy := fun q hq hq' => by
    rcases x3 q hq with e | e
    · exact h.xy q e hq'
    · have := lo q (fy q hq'); omega
  refine ⟨⟨p.b, p.gx, tx, lx, px, p.gy, ty, ly, py⟩, d', rfl, ⟨?_, ?_, y1, hi, ?_, ?_, ?_⟩, ?_, fun q hq => ?_⟩
  · exact ((h1.blk.keep x2 h.nx).non hK2).keep y2 h.ny
  · exact (x1.non hK2).keep y2 fun q hq hq' => hxy q hq hq'
  · intro hq
    rcases x3 p.b hq with e | e
    · exact h.nx e
    · have := lo p.b fb; omega
  · intro hq
    rcases y3 p.b hq with e | e
    · exact h.ny e
    · have := lo p.b fb; omega
  · intro q hq hq'
    rcases y3 q hq' with e | e
    · exact hxy q hq e
    · have := hlow2 q hq; omega
  · exact ((hK1.of_non.trans (x2.mono fx)).non hK2).trans (y2.mono fy)
  · rcases Pr.mem_foot.1 hq with e | e | e
    · exact .inl (e ▸ fb)
    · rcases x3 q e with e' | e'
      · exact .inl (fx q e')
      · exact .inr (by omega)
    · rcases y3 q e with e' | e'
      · exact .inl (fy q e')
      · exact .inr (by omega)
theorem done_y {w w1 w2 : World} {p : Pr} {d d' : Dic} (h : PairM w p d) (hK1 : Keeps Non w w1) (hX : DoneD 69 66 w1 p.gx p.tx p.lx p.px d' w2) : DictM 84 86 w2 p.gy d p.ty p.ly p.py ∧ Blk w2 p.b 40 #[.pointer (some ⟨p.gx, 0, none⟩), .pointer (some ⟨p.gy, 0, none⟩)] := by
  obtain ⟨tx, lx, px, x1, x2, x3⟩ := hX
  have h1 := h.non hK1
  exact ⟨h1.y.keep x2 fun q hq hq' => h.xy q hq' hq, h1.blk.keep x2 h.nx⟩
/-- The box of the call stays. -/
theorem done_box {w w1 w2 : World} {p : Pr} {d d' : Dic} (h : PairM w p d) {ob : Nat} {cs : Array Value} (hB : Blk w1 ob 44 cs) (ho : w.heap.size ≤ ob) (hX : DoneD 69 66 w1 p.gx p.tx p.lx p.px d' w2) : Blk w2 ob 44 cs := by
  obtain ⟨tx, lx, px, x1, x2, x3⟩ := hX
  refine hB.keep x2 fun hq => ?_
  have := h.low ob (Pr.mem_foot.2 (.inr (.inl hq)))
  omega
set_option maxHeartbeats 8000000 in
theorem does_put {w : World} {p : Pr} {d : Dic} (h : PairM w p d) (ok ow ov : Int) (on : List UInt8) (rA : Option Addr) (rn rc : Nat) (hp : pickN ok 7 = 0) (f1 : -9223372036854775808 ≤ ok) (f2 : ok ≤ 9223372036854775807) (fn : on.length ≤ 9223372036854775807) :
    Calls Try.prog 15 #[.pointer (some ⟨p.b, 0, none⟩), .agg #[.int .i64 ok, .int .i64 ow, .string (str on), .int .i64 ov, .slice rA rn rc]] w fun e w' => e = .returned (.bool true) ∧ PairR w p w' := by
  obtain ⟨hP1, hk1⟩ := pair_box h #[.int .i64 ok, .int .i64 ow, .string (str on), .int .i64 ov, .slice rA rn rc]
  have hO := Blk.new w 44 #[.int .i64 ok, .int .i64 ow, .string (str on), .int .i64 ov, .slice rA rn rc]
  have HPk := Lib.hid (fun W => pick7_any ok 0 hp f1 f2 W)
  go_enter Try.func15, Try.ntmps15
  go_upto_region 1 with fail
  obtain ⟨w1, hw1⟩ : ∃ W : World, W = w.alloc (.cells #[.int .i64 ok, .int .i64 ow, .string (str on), .int .i64 ov, .slice rA rn rc] 44) := ⟨_, rfl⟩
  rw [← hw1] at hP1 hk1 hO ⊢
  clear hw1
  obtain ⟨ob, hob⟩ : ∃ b, b = w.heap.size := ⟨_, rfl⟩
  have hobw : w.heap.size ≤ ob := by omega
  rw [← hob] at hO ⊢
  clear hob
  have o0 : w1.cell? ⟨ob, 0, none⟩ = some (.int .i64 ok) := hO.cell 0
  go_upto_region 2 with ((go_at_call 10; go_must (refine (HPk.out _).mono ?_); rintro e w5 ⟨rfl, hw5⟩; subst w5))
  have hkd : Keeps Non w1 w1.drew := (Keeps.refl _ _).drew
  have b0 : w1.drew.cell? ⟨p.b, 0, none⟩ = some (.pointer (some ⟨p.gx, 0, none⟩)) := hP1.blk.cell 0
  have o2 : w1.drew.cell? ⟨ob, 2, none⟩ = some (.string (str on)) := hO.cell 2
  have o3 : w1.drew.cell? ⟨ob, 3, none⟩ = some (.int .i64 ov) := hO.cell 3
  have HPx := Lib.hid (put_any (hP1.x.non hkd) h.inv on fn ov)
  have HInv := Lib.hid (putD_spec h.inv on ov).1
  go_upto_region 3 with fail
  go_region_law (first
    | (go_simp; go_at_call 9; refine HPx.out.mono ?_; rintro e w2 ⟨rfl, hX2⟩; go_must (have HX2 := Lib.hid hX2)))
  all_goals
    have hYy := (done_y h (hk1.non hkd) HX2.out).1
    have hYb := (done_y h (hk1.non hkd) HX2.out).2
    have hO2 := done_box h (hO.non hkd) hobw HX2.out
    clear hX2 o0 o2 o3 b0
    have hkd2 : Keeps Non w2 w2.drew := (Keeps.refl _ _).drew
    have b1 : w2.drew.cell? ⟨p.b, 1, none⟩ = some (.pointer (some ⟨p.gy, 0, none⟩)) := hYb.cell 1
    have o2 : w2.drew.cell? ⟨ob, 2, none⟩ = some (.string (str on)) := hO2.cell 2
    have o3 : w2.drew.cell? ⟨ob, 3, none⟩ = some (.int .i64 ov) := hO2.cell 3
    have HPy := Lib.hid (put39_any (hYy.non hkd2) h.inv on fn ov)
    generalize putD d on ov = R at HX2 HPy HInv
    go_upto_region 4 with fail
    go_region_law (first
      | (go_simp; go_at_call 39; refine HPy.out.mono ?_; rintro e w3 ⟨rfl, hY3⟩; go_must (have HY3 := Lib.hid hY3)))
    all_goals
      have HF := Lib.hid (h.done (hk1.non hkd) HX2.out w2.drew hkd2 HY3.out HInv.out)
      clear hY3 hYy hYb hO2 b1 o2 o3
      go_wp2_with fail
      go_ret
      exact ⟨rfl, HF.out⟩
set_option maxHeartbeats 8000000 in
theorem does_drop {w : World} {p : Pr} {d : Dic} (h : PairM w p d) (ok ow ov : Int) (on : List UInt8) (rA : Option Addr) (rn rc : Nat) (hp : pickN ok 7 = 2) (f1 : -9223372036854775808 ≤ ok) (f2 : ok ≤ 9223372036854775807) (fn : on.length ≤ 9223372036854775807) :
    Calls Try.prog 15 #[.pointer (some ⟨p.b, 0, none⟩), .agg #[.int .i64 ok, .int .i64 ow, .string (str on), .int .i64 ov, .slice rA rn rc]] w fun e w' => e = .returned (.bool true) ∧ PairR w p w' := by
  obtain ⟨hP1, hk1⟩ := pair_box h #[.int .i64 ok, .int .i64 ow, .string (str on), .int .i64 ov, .slice rA rn rc]
  have hO := Blk.new w 44 #[.int .i64 ok, .int .i64 ow, .string (str on), .int .i64 ov, .slice rA rn rc]
  have HPk := Lib.hid (fun W => pick7_any ok 2 hp f1 f2 W)
  go_enter Try.func15, Try.ntmps15
  go_upto_region 1 with fail
  obtain ⟨w1, hw1⟩ : ∃ W : World, W = w.alloc (.cells #[.int .i64 ok, .int .i64 ow, .string (str on), .int .i64 ov, .slice rA rn rc] 44) := ⟨_, rfl⟩
  rw [← hw1] at hP1 hk1 hO ⊢
  clear hw1
  obtain ⟨ob, hob⟩ : ∃ b, b = w.heap.size := ⟨_, rfl⟩
  have hobw : w.heap.size ≤ ob := by omega
  rw [← hob] at hO ⊢
  clear hob
  have o0 : w1.cell? ⟨ob, 0, none⟩ = some (.int .i64 ok) := hO.cell 0
  go_upto_region 2 with ((go_at_call 10; go_must (refine (HPk.out _).mono ?_); rintro e w5 ⟨rfl, hw5⟩; subst w5))
  have hkd : Keeps Non w1 w1.drew := (Keeps.refl _ _).drew
  have b0 : w1.drew.cell? ⟨p.b, 0, none⟩ = some (.pointer (some ⟨p.gx, 0, none⟩)) := hP1.blk.cell 0
  have o2 : w1.drew.cell? ⟨ob, 2, none⟩ = some (.string (str on)) := hO.cell 2
  have HPx := Lib.hid (drop_any (hP1.x.non hkd) h.inv.ok on fn)
  have HInv := Lib.hid (drop_inv h.inv on)
  go_upto_region 7 with fail
  go_region_law (first
    | (go_simp; go_at_call 20; refine HPx.out.mono ?_; rintro e w2 ⟨rfl, hX2⟩; go_must (have HX2 := Lib.hid hX2)))
  all_goals
    have hYy := (done_y h (hk1.non hkd) HX2.out).1
    have hYb := (done_y h (hk1.non hkd) HX2.out).2
    have hO2 := done_box h (hO.non hkd) hobw HX2.out
    clear hX2 o0 o2 b0
    have hkd2 : Keeps Non w2 w2.drew := (Keeps.refl _ _).drew
    have b1 : w2.drew.cell? ⟨p.b, 1, none⟩ = some (.pointer (some ⟨p.gy, 0, none⟩)) := hYb.cell 1
    have o2 : w2.drew.cell? ⟨ob, 2, none⟩ = some (.string (str on)) := hO2.cell 2
    have HPy := Lib.hid (drop40_any (hYy.non hkd2) h.inv.ok on fn)
    generalize dropD d on = R at HX2 HPy HInv
    go_upto_region 8 with fail
    go_region_law (first
      | (go_simp; go_at_call 40; refine HPy.out.mono ?_; rintro e w3 ⟨rfl, hY3⟩; go_must (have HY3 := Lib.hid hY3)))
    all_goals
      have HF := Lib.hid (h.done (hk1.non hkd) HX2.out w2.drew hkd2 HY3.out HInv.out)
      clear hY3 hYy hYb hO2 b1 o2
      go_wp2_with fail
      go_ret
      exact ⟨rfl, HF.out⟩
set_option maxHeartbeats 8000000 in
theorem does_get {w : World} {p : Pr} {d : Dic} (h : PairM w p d) (ok ow ov : Int) (on : List UInt8) (rA : Option Addr) (rn rc : Nat) (hp : pickN ok 7 = 1) (f1 : -9223372036854775808 ≤ ok) (f2 : ok ≤ 9223372036854775807) (fn : on.length ≤ 9223372036854775807) :
    Calls Try.prog 15 #[.pointer (some ⟨p.b, 0, none⟩), .agg #[.int .i64 ok, .int .i64 ow, .string (str on), .int .i64 ov, .slice rA rn rc]] w fun e w' => e = .returned (.bool true) ∧ PairR w p w' := by
  obtain ⟨hP1, hk1⟩ := pair_box h #[.int .i64 ok, .int .i64 ow, .string (str on), .int .i64 ov, .slice rA rn rc]
  have hO := Blk.new w 44 #[.int .i64 ok, .int .i64 ow, .string (str on), .int .i64 ov, .slice rA rn rc]
  have HPk := Lib.hid (fun W => pick7_any ok 1 hp f1 f2 W)
  go_enter Try.func15, Try.ntmps15
  go_upto_region 1 with fail
  obtain ⟨w1, hw1⟩ : ∃ W : World, W = w.alloc (.cells #[.int .i64 ok, .int .i64 ow, .string (str on), .int .i64 ov, .slice rA rn rc] 44) := ⟨_, rfl⟩
  rw [← hw1] at hP1 hk1 hO ⊢
  clear hw1
  obtain ⟨ob, hob⟩ : ∃ b, b = w.heap.size := ⟨_, rfl⟩
  rw [← hob] at hO ⊢
  clear hob
  have o0 : w1.cell? ⟨ob, 0, none⟩ = some (.int .i64 ok) := hO.cell 0
  go_upto_region 2 with ((go_at_call 10; go_must (refine (HPk.out _).mono ?_); rintro e w5 ⟨rfl, hw5⟩; subst w5))
  have hkd : Keeps Non w1 w1.drew := (Keeps.refl _ _).drew
  have b0 : w1.drew.cell? ⟨p.b, 0, none⟩ = some (.pointer (some ⟨p.gx, 0, none⟩)) := hP1.blk.cell 0
  have o2 : w1.drew.cell? ⟨ob, 2, none⟩ = some (.string (str on)) := hO.cell 2
  have HPx := Lib.hid (get_any (hP1.x.non hkd) h.inv.ok on fn)
  go_upto_region 27 with fail
  go_region_law (first
    | (go_simp; go_at_call 25; refine HPx.out.mono ?_; rintro e w2 ⟨rfl, hK2⟩; go_must (have HK2 := Lib.hid hK2)))
  all_goals
    have hP2 := (hP1.non hkd).non hK2
    have hO2 := (hO.non hkd).non hK2
    clear o0 o2 b0
    have hkd2 : Keeps Non w2 w2.drew := (Keeps.refl _ _).drew
    have b1 : w2.drew.cell? ⟨p.b, 1, none⟩ = some (.pointer (some ⟨p.gy, 0, none⟩)) := hP2.blk.cell 1
    have o2 : w2.drew.cell? ⟨ob, 2, none⟩ = some (.string (str on)) := hO2.cell 2
    have HPy := Lib.hid (get44_any (hP2.y.non hkd2) h.inv.ok on fn)
    generalize getR (val d on) = R at HPy ⊢
    go_upto_region 28 with fail
    go_region_law (first
      | (go_simp; go_at_call 44; refine HPy.out.mono ?_; rintro e w3 ⟨rfl, hK3⟩; go_must (have HK3 := Lib.hid hK3)))
    all_goals
      have HF := Lib.hid (PairR.same h ((((hk1.non hkd).non HK2.out).non hkd2).non HK3.out))
      clear b1 o2
      obtain ⟨R1, R2⟩ := R
      go_wp2_with fail
      go_ret
      exact ⟨by simp, HF.out⟩
/-- Any call of the five. -/
theorem does_any {w : World} {p : Pr} {d : Dic} (h : PairM w p d) (ok ow ov : Int) (on : List UInt8) (rA : Option Addr) (rn rc : Nat) (hp : pickN ok 7 < 5) (f1 : -9223372036854775808 ≤ ok) (f2 : ok ≤ 9223372036854775807) (fn : on.length ≤ 9223372036854775807) :
    Calls Try.prog 15 #[.pointer (some ⟨p.b, 0, none⟩), .agg #[.int .i64 ok, .int .i64 ow, .string (str on), .int .i64 ov, .slice rA rn rc]] w fun e w' => e = .returned (.bool true) ∧ PairR w p w' := by
  match hq : pickN ok 7, hp with
  | 0, _ => exact does_put h ok ow ov on rA rn rc hq f1 f2 fn
  | 1, _ => exact does_get h ok ow ov on rA rn rc hq f1 f2 fn
  | 2, _ => exact does_drop h ok ow ov on rA rn rc hq f1 f2 fn
  | 3, _ => exact (does_list h ok ow ov on rA rn rc hq f1 f2).mono fun e w' ⟨a, b⟩ => ⟨a, PairR.same h b⟩
  | 4, _ => exact (does_pages h ok ow ov on rA rn rc hq f1 f2).mono fun e w' ⟨a, b⟩ => ⟨a, PairR.same h b⟩
end Go.Proofs.Ytiieglfpmmhfiaa
namespace Go.Proofs.Ytiieglfpmmhfiaa
set_option maxRecDepth 100000
open Go.RowKit Go.Uc

def encB (p : Pr) : List Value := [.pointer (some ⟨p.b, 0, none⟩)]
theorem encB_len (p : Pr) : (encB p).length = 1 := rfl
theorem encB_one (p : Pr) : ∀ u ∈ encB p, u.oneCell' = true := by intro u hu; simp [encB] at hu; subst hu; rfl
theorem info36 : (Try.prog.info? 36).map (fun i => (i.zero, i.size, i.bytes)) = some (some (.pointer none), 1, 8) := by kernel_rfl
/-- Many pairs that know nothing of one another. -/
structure PairsM (W w : World) (vA : Option Addr) (vc : Nat) (prs : List Pr) : Prop where
  row : RowP w 36 1 encB (.slice vA prs.length vc) prs
  pos : 0 < prs.length
  each : ∀ i (h : i < prs.length), ∃ d, PairM w prs[i] d
  far : ∀ i j (hi : i < prs.length) (hj : j < prs.length), i ≠ j → ∀ q ∈ prs[i].foot, q ∉ prs[j].foot
  rowx : ∀ i (hi : i < prs.length), ∀ q ∈ prs[i].foot, q ∉ own (.slice vA prs.length vc)
  new : ∀ i (hi : i < prs.length), ∀ q ∈ prs[i].foot, W.heap.size ≤ q
  newr : ∀ q ∈ own (.slice vA prs.length vc), W.heap.size ≤ q
  keep : Keeps Non W w
section
variable {W w w' : World} {vA : Option Addr} {vc : Nat} {prs : List Pr}
theorem PairsM.non (h : PairsM W w vA vc prs) (hk : Keeps Non w w') : PairsM W w' vA vc prs :=
  ⟨h.row.non hk, h.pos, fun i hi => by obtain ⟨d, hd⟩ := h.each i hi; exact ⟨d, hd.non hk⟩, h.far, h.rowx, h.new, h.newr, h.keep.non hk⟩
theorem PairsM.low (h : PairsM W w vA vc prs) : ∀ i (hi : i < prs.length), ∀ q ∈ prs[i].foot, q < w.heap.size := fun i hi q hq => by
  obtain ⟨d, hd⟩ := h.each i hi
  exact hd.low q hq
/-- What the row tells at a place. -/
theorem PairsM.at_ (h : PairsM W w vA vc prs) {i : Nat} (hi : i < prs.length) : ∃ g, vA = some ⟨g, 0, none⟩ ∧ w.cell? ⟨g, i, none⟩ = some (.pointer (some ⟨prs[i].b, 0, none⟩)) := by
  obtain ⟨g, cap, e, -, -, h2, -, -⟩ := h.row.at_ encB_len hi
  injection e with e1 e2 e3
  refine ⟨g, e1, ?_⟩
  have := h2 0 (by decide)
  rw [Nat.add_zero, Nat.mul_one] at this
  rw [this]
  rfl
/-- A call upon one of them. -/
theorem PairsM.done (h : PairsM W w vA vc prs) {i : Nat} (hi : i < prs.length) (hR : PairR w prs[i] w') : ∃ prs' : List Pr, ∃ hl : prs'.length = prs.length, PairsM W w' vA vc prs' ∧ (prs'[i]'(by omega)).b = prs[i].b := by
  obtain ⟨p', d', hb, hP, hK, hF⟩ := hR
  have hl : (prs.set i p').length = prs.length := List.length_set
  have hlow := h.low
  have hz := h.keep.size
  refine ⟨prs.set i p', hl, ⟨?_, by rw [hl]; exact h.pos, fun j hj => ?_, fun j k hj hk hjk q hq hq' => ?_, fun j hj q hq => ?_, fun j hj q hq => ?_, ?_, ?_⟩, by rw [List.getElem_set_self]; exact hb⟩
  · have hr := h.row.keep hK fun q hq hq' => h.rowx i hi q hq' hq
    have e : (prs.set i p').flatMap encB = prs.flatMap encB := by
      rw [List.flatMap_def, List.flatMap_def, List.map_set]
      have : encB p' = (prs.map encB)[i]'(by simpa using hi) := by simp [encB, hb]
      rw [this, List.set_getElem_self]
    unfold RowP at hr ⊢
    rw [hl, e]
    exact hr
  · rw [hl] at hj
    rw [List.getElem_set]
    by_cases e : i = j
    · rw [if_pos e]; exact ⟨d', hP⟩
    · rw [if_neg e]
      obtain ⟨d, hd⟩ := h.each j hj
      exact ⟨d, hd.keep hK fun q hq hq' => h.far i j hi hj e q hq' hq⟩
  · rw [hl] at hj hk
    rw [List.getElem_set] at hq hq'
    by_cases e : i = j
    · rw [if_pos e] at hq
      have hik : ¬ i = k := fun e' => hjk (by omega)
      rw [if_neg hik] at hq'
      rcases hF q hq with a | a
      · exact h.far i k hi hk hik q a hq'
      · have := hlow k hk q hq'; omega
    · rw [if_neg e] at hq
      by_cases e' : i = k
      · rw [if_pos e'] at hq'
        rcases hF q hq' with a | a
        · exact h.far i j hi hj e q a hq
        · have := hlow j hj q hq; omega
      · rw [if_neg e'] at hq'
        exact h.far j k hj hk hjk q hq hq'
  · rw [hl] at hj ⊢
    rw [List.getElem_set] at hq
    by_cases e : i = j
    · rw [if_pos e] at hq
      rcases hF q hq with a | a
      · exact h.rowx i hi q a
      · intro hq2; have := h.row.lt q hq2; omega
    · rw [if_neg e] at hq; exact h.rowx j hj q hq
  · rw [hl] at hj
    rw [List.getElem_set] at hq
    by_cases e : i = j
    · rw [if_pos e] at hq
      rcases hF q hq with a | a
      · exact h.new i hi q a
      · omega
    · rw [if_neg e] at hq; exact h.new j hj q hq
  · rw [hl]; exact h.newr
  · exact h.keep.then hK fun q hq e => by have := h.new i hi q e; omega
/-- One pair more. -/
theorem PairsM.snoc {w2 wA w8 : World} {A8 : Option Addr} {c8 : Nat} {p : Pr} {d : Dic} (h : PairsM W w vA vc prs) (hk : Keeps Non w w2) (hp : PairM w2 p d) (hn : ∀ q ∈ p.foot, w.heap.size ≤ q) (hA : Keeps Non w2 wA)
    (hO : RowP w8 36 1 encB (.slice A8 (prs ++ [p]).length c8) (prs ++ [p])) (hK : Keeps (· ∈ own (.slice vA prs.length vc)) wA w8) (hat : (Value.slice A8 (prs ++ [p]).length c8).ownBlock = (Value.slice vA prs.length vc).ownBlock ∨ (Value.slice A8 (prs ++ [p]).length c8).ownBlock = some wA.heap.size) : PairsM W w8 A8 c8 (prs ++ [p]) := by
  have hl : (prs ++ [p]).length = prs.length + 1 := by simp
  have hlow := h.low
  have hz := h.keep.size
  have hz2 := hk.size
  have hzA := hA.size
  have hplow := hp.low
  have hrl := h.row.lt
  have key : ∀ j (hj : j < (prs ++ [p]).length), (∃ hj' : j < prs.length, (prs ++ [p])[j] = prs[j]) ∨ (j = prs.length ∧ (prs ++ [p])[j] = p) := fun j hj => by
    rcases Nat.lt_or_ge j prs.length with h' | h'
    · exact .inl ⟨h', List.getElem_append_left h'⟩
    · have : j = prs.length := by omega
      subst this
      exact .inr ⟨rfl, by simp⟩
  have hlowA : ∀ j (hj : j < (prs ++ [p]).length), ∀ q ∈ (prs ++ [p])[j].foot, q < wA.heap.size := fun j hj q hq => by
    rcases key j hj with ⟨hj', e⟩ | ⟨-, e⟩
    · rw [e] at hq; have := hlow j hj' q hq; omega
    · rw [e] at hq; have := hplow q hq; omega
  have hxo : ∀ j (hj : j < (prs ++ [p]).length), ∀ q ∈ (prs ++ [p])[j].foot, q ∉ own (.slice vA prs.length vc) := fun j hj q hq hq' => by
    rcases key j hj with ⟨hj', e⟩ | ⟨-, e⟩
    · rw [e] at hq; exact h.rowx j hj' q hq hq'
    · rw [e] at hq; have := hn q hq; have := hrl q hq'; omega
  refine ⟨hO, by rw [hl]; omega, fun j hj => ?_, fun j k hj hk' hjk q hq hq' => ?_, fun j hj q hq hq' => ?_, fun j hj q hq => ?_, fun q hq => ?_, ?_⟩
  · rcases key j hj with ⟨hj', e⟩ | ⟨-, e⟩
    · obtain ⟨d0, hd⟩ := h.each j hj'
      rw [e]
      exact ⟨d0, ((hd.non hk).non hA).keep hK fun q hq hq' => hxo j hj q (by rw [e]; exact hq) hq'⟩
    · rw [e]
      exact ⟨d, (hp.non hA).keep hK fun q hq hq' => hxo j hj q (by rw [e]; exact hq) hq'⟩
  · rcases key j hj with ⟨hj', e⟩ | ⟨hj', e⟩
    · rw [e] at hq
      rcases key k hk' with ⟨hk2, e2⟩ | ⟨hk2, e2⟩
      · rw [e2] at hq'; exact h.far j k hj' hk2 hjk q hq hq'
      · rw [e2] at hq'; have := hlow j hj' q hq; have := hn q hq'; omega
    · rw [e] at hq
      rcases key k hk' with ⟨hk2, e2⟩ | ⟨hk2, e2⟩
      · rw [e2] at hq'; have := hlow k hk2 q hq'; have := hn q hq; omega
      · omega
  · rw [mem_own] at hq'
    rcases hat with e | e
    · rw [e] at hq'; exact hxo j hj q hq (mem_own.2 hq')
    · rw [e] at hq'; injection hq' with hq'; have := hlowA j hj q hq; omega
  · rcases key j hj with ⟨hj', e⟩ | ⟨-, e⟩
    · rw [e] at hq; exact h.new j hj' q hq
    · rw [e] at hq; have := hn q hq; omega
  · rw [mem_own] at hq
    rcases hat with e | e
    · rw [e] at hq; exact h.newr q (mem_own.2 hq)
    · rw [e] at hq; injection hq with hq; omega
  · exact ((h.keep.non hk).non hA).then hK fun q hq e => by have := h.newr q e; omega
end
/-- The first pair. -/
theorem pairs_one {W w3 w5 : World} {gx : Nat} {tx lx : Sl} {px : List (Nat × Sl)} {gy : Nat} {ty ly : Sl} {py : List (Nat × Sl)} {w2 : World} {d : Dic} (hi : Inv d) (hK : Keeps Non W w2) (hX : DictM 69 66 w2 gx d tx lx px) (hN : ∀ q ∈ foot gx tx lx px, W.heap.size ≤ q) (hY : Grown 84 86 w2 w3 gy d ty ly py)
    (hw5 : w5 = (w3.alloc (.cells #[.pointer (some ⟨gx, 0, none⟩), .pointer (some ⟨gy, 0, none⟩)] 40)).alloc (.cells #[.pointer (some ⟨w3.heap.size, 0, none⟩)] 36)) :
    PairsM W w5 (some ⟨w3.heap.size + 1, 0, none⟩) 1 [⟨w3.heap.size, gx, tx, lx, px, gy, ty, ly, py⟩] := by
  have hka := (Keeps.refl Non w3).alloc (.cells #[.pointer (some ⟨gx, 0, none⟩), .pointer (some ⟨gy, 0, none⟩)] 40)
  have hB := Blk.new w3 40 #[.pointer (some ⟨gx, 0, none⟩), .pointer (some ⟨gy, 0, none⟩)]
  obtain ⟨w4, hw4⟩ : ∃ V : World, V = w3.alloc (.cells #[.pointer (some ⟨gx, 0, none⟩), .pointer (some ⟨gy, 0, none⟩)] 40) := ⟨_, rfl⟩
  rw [← hw4] at hka hB hw5
  have hz4 : w4.heap.size = w3.heap.size + 1 := by rw [hw4]; simp
  have hkb := (Keeps.refl Non w4).alloc (.cells #[.pointer (some ⟨w3.heap.size, 0, none⟩)] 36)
  have hrow : RowP w5 36 1 encB (.slice (some ⟨w4.heap.size, 0, none⟩) 1 1) [(⟨w3.heap.size, gx, tx, lx, px, gy, ty, ly, py⟩ : Pr)] := by rw [hw5]; exact RowP.lit encB_len w4 36 [(⟨w3.heap.size, gx, tx, lx, px, gy, ty, ly, py⟩ : Pr)] _ rfl (by show 1 ≤ maxLen; decide)
  rw [← hw5] at hkb
  rw [hz4] at hrow
  have s2 := hK.size
  have s3 := hY.k.size
  have lowx := hX.low
  have lowy := hY.m.low
  have ny := hY.n
  have hfoot : ∀ q ∈ (⟨w3.heap.size, gx, tx, lx, px, gy, ty, ly, py⟩ : Pr).foot, q ≤ w3.heap.size ∧ W.heap.size ≤ q := fun q hq => by
    rcases Pr.mem_foot.1 hq with e | e | e
    · have e' : q = w3.heap.size := e; omega
    · have := lowx q e; have := hN q e; omega
    · have := lowy q e; have := ny q e; omega
  have hP : PairM w5 ⟨w3.heap.size, gx, tx, lx, px, gy, ty, ly, py⟩ d := ⟨hB.non hkb, ((hX.non hY.k).non hka).non hkb, (hY.m.non hka).non hkb, hi, fun hq => by have : w3.heap.size < w2.heap.size := lowx _ hq; omega, fun hq => by have : w3.heap.size < w3.heap.size := lowy _ hq; omega, fun q hq hq' => by have := lowx q hq; have := ny q hq'; omega⟩
  refine ⟨hrow, by simp, fun i hi => ?_, fun i j hi hj hij => ?_, fun i hi q hq hq' => ?_, fun i hi q hq => ?_, fun q hq => ?_, ((hK.non hY.k).non hka).non hkb⟩
  · simp at hi; subst hi; exact ⟨d, hP⟩
  · simp at hi hj; omega
  · simp at hi; subst hi
    have h1 : q ∈ [w3.heap.size + 1] := hq'
    rw [List.mem_singleton] at h1
    have := (hfoot q hq).1; omega
  · simp at hi; subst hi
    exact (hfoot q hq).2
  · have h1 : q ∈ [w3.heap.size + 1] := hq
    rw [List.mem_singleton] at h1
    omega
/-- The pages that the calls of a script bring. -/
def Raws (W : World) (ops : List Og) : Prop := ∀ i (h : i < ops.length), ∃ rs : List (List UInt8), ops[i].raw.n = rs.length ∧ PgQ W ops[i].raw.A rs ∧ rs.length ≤ 1048576 ∧ ∀ p ∈ rs, p.length ≤ 1048576
theorem pickN_seven (c : Int) : pickN c 7 < 7 := pickN_lt c (by decide)
theorem pages_least {d : Dic} (h : Inv d) : (pagesD d).length ≤ 1048576 ∧ ∀ p ∈ pagesD d, p.length ≤ 1048576 := by
  obtain ⟨-, h2, h3⟩ := opens_form (⟨h, rfl⟩ : Opens (pagesD d) d)
  exact ⟨by omega, fun p hp => by have := h3 p hp; omega⟩
set_option maxHeartbeats 8000000 in
theorem dictDoes_any (A : Option Addr) (c : Nat) (ops : List Og) (W : World) (hS : Script W A ops) (hQ : Raws W ops) (hn : ops.length ≤ 1048576) :
    Calls Try.prog 4 #[.slice A ops.length c] W fun e W' => e = .returned (.bool true) ∧ Keeps Non W W' := by
  go_enter Try.func4, Try.ntmps4
  go_upto_region 2 with ((go_at_call 7; go_must (refine (awake_any W).mono ?_); rintro e w1 ⟨rfl, hKa⟩))
  go_upto_region 3 with ((go_at_call 8; go_must (refine (new_any w1).mono ?_); rintro e w2 ⟨gx, tx, lx, px, rfl, hX, hNX, hKb⟩))
  go_upto_region 6 with ((go_at_call 13; go_must (refine (new13_any w2).mono ?_); rintro e w3 ⟨gy, ty, ly, py, rfl, hY⟩))
  have hP0 := pairs_one (W := W) empty_inv (hKa.non hKb) hX (fun q hq => by have := hNX q hq; have := hKa.size; omega) hY rfl
  obtain ⟨w5, hw5⟩ : ∃ V : World, V = (w3.alloc (.cells #[.pointer (some ⟨gx, 0, none⟩), .pointer (some ⟨gy, 0, none⟩)] 40)).alloc (.cells #[.pointer (some ⟨w3.heap.size, 0, none⟩)] 36) := ⟨_, rfl⟩
  have hsz : (w3.alloc (.cells #[.pointer (some ⟨gx, 0, none⟩), .pointer (some ⟨gy, 0, none⟩)] 40)).heap.size = w3.heap.size + 1 := by simp
  rw [← hw5] at hP0 ⊢
  first | rw [hsz] | skip
  clear hw5 hsz hX hNX hKa hKb hY
  generalize w3.heap.size = pb at hP0 ⊢
  go_upto_region 7 with fail
  go_loopw [5, 6] (fun v i wr => ∃ (k : Nat) (vA : Option Addr) (vc : Nat) (prs : List Pr), k ≤ ops.length ∧ i = .int .i64 (k : Int) ∧ v = .slice vA prs.length vc ∧ PairsM W wr vA vc prs ∧ prs.length ≤ k + 1) (fun _ i _ => ops.length - (intOf i).toNat)
  case atStart => exact ⟨0, _, _, _, Nat.zero_le _, rfl, rfl, hP0, Nat.le_refl _⟩
  case round =>
    obtain ⟨k, vA, vc, prs, hk, rfl, rfl, hP, hpk⟩ := hrel
    obtain ⟨wx, rfl⟩ : ∃ V : World, V = wr := ⟨_, rfl⟩
    clear hP0
    by_cases hlt : k < ops.length
    · obtain ⟨b, off, rfl, hc, hf⟩ := (hS.non hP.keep) k hlt
      obtain ⟨rs, hrn, hrq, hrl, hrb⟩ := hQ k hlt
      generalize ops[k] = o at hc hf hrn hrq
      obtain ⟨ok_, ow, on_, ov, ⟨orA, orn, orc⟩⟩ := o
      obtain ⟨f1, f2, f3, f4, f5, f6, f7⟩ := hf
      simp only at f1 f2 f3 f4 f5 f6 f7 hrn hrq
      subst hrn
      have x0 : wx.cell? ⟨b, off + k * 5, none⟩ = some (.int .i64 ok_) := hc 0 (by decide)
      have x1 : wx.cell? ⟨b, off + k * 5 + 1, none⟩ = some (.int .i64 ow) := hc 1 (by decide)
      have x2 : wx.cell? ⟨b, off + k * 5 + 2, none⟩ = some (.string (str on_)) := hc 2 (by decide)
      have x3 : wx.cell? ⟨b, off + k * 5 + 3, none⟩ = some (.int .i64 ov) := hc 3 (by decide)
      have x4 : wx.cell? ⟨b, off + k * 5 + 4, none⟩ = some (.slice orA rs.length orc) := hc 4 (by decide)
      clear hc
      have hki : (k : Int) < (ops.length : Int) := by omega
      go_upto_region 10 with fail
      have hO := Blk.new wx 44 #[.int .i64 ok_, .int .i64 ow, .string (str on_), .int .i64 ov, .slice orA rs.length orc]
      have hKo := (Keeps.refl Non wx).alloc (.cells #[.int .i64 ok_, .int .i64 ow, .string (str on_), .int .i64 ov, .slice orA rs.length orc] 44)
      obtain ⟨w4, hw4⟩ : ∃ V : World, V = wx.alloc (.cells #[.int .i64 ok_, .int .i64 ow, .string (str on_), .int .i64 ov, .slice orA rs.length orc] 44) := ⟨_, rfl⟩
      rw [← hw4] at hO hKo ⊢
      clear hw4 x0 x1 x2 x3 x4
      have hP4 := hP.non hKo
      have hof : ∀ i (hi : i < prs.length), wx.heap.size ∉ prs[i].foot := fun i hi hq => by have := hP.low i hi _ hq; omega
      obtain ⟨ob, hob⟩ : ∃ z, z = wx.heap.size := ⟨_, rfl⟩
      rw [← hob] at hof hO ⊢
      clear hob hP hKo
      have hpos := hP4.pos
      have HPw := Lib.hid (fun V => pick_any ow prs.length hpos (by omega) f3 f4 V)
      have hjl := pickN_lt ow hpos
      generalize pickN ow prs.length = j at HPw hjl
      obtain ⟨vg, rfl, v0⟩ := hP4.at_ hjl
      have hji : (j : Int) < (prs.length : Int) := by omega
      have o0 : w4.cell? ⟨ob, 0, none⟩ = some (.int .i64 ok_) := hO.cell 0
      have o1 : w4.cell? ⟨ob, 1, none⟩ = some (.int .i64 ow) := hO.cell 1
      have o2 : w4.cell? ⟨ob, 2, none⟩ = some (.string (str on_)) := hO.cell 2
      have o3 : w4.cell? ⟨ob, 3, none⟩ = some (.int .i64 ov) := hO.cell 3
      have o4 : w4.cell? ⟨ob, 4, none⟩ = some (.slice orA rs.length orc) := hO.cell 4
      obtain ⟨d, hPj⟩ := hP4.each j hjl
      obtain ⟨pj, hpj⟩ : ∃ p, p = prs[j] := ⟨_, rfl⟩
      rw [← hpj] at v0 hPj
      have hofj : ob ∉ pj.foot := by rw [hpj]; exact hof j hjl
      have HPJ := Lib.hid hpj
      clear hpj hof
      go_upto_region 12 with ((go_at_call 10; go_must (refine (HPw.out _).mono ?_); rintro e w6 ⟨rfl, hw6⟩; subst w6))
      obtain ⟨m, hm⟩ : ∃ m, m = pickN ok_ 7 := ⟨_, rfl⟩
      have hm7 : m < 7 := by rw [hm]; exact pickN_seven ok_
      have HPm := Lib.hid (fun V => pick7_any ok_ m hm.symm f1 f2 V)
      clear HPw
      have hmc : m = 6 ∨ m = 4 ∨ m = 5 ∨ m ≤ 3 := by omega
      rcases hmc with hm6 | hm4 | hm5 | hm3
      case' inl =>
        subst hm6
        clear hm
        go_upto_region 17 with ((go_at_call 10; go_must (refine (HPm.out _).mono ?_); rintro e w6 ⟨rfl, hw6⟩; subst w6))
        go_wp2_with fail
        refine (new13_any w4).mono ?_
        rintro e w6 ⟨gy, ty, ly, py, rfl, hY⟩
        have HPg := Lib.hid (pages14_any hY.m (empty_inv).toInv0)
        have HSm := Lib.hid (pages_least empty_inv)
        go_wp2_with fail
        refine HPg.out.mono ?_
        rintro e wq ⟨⟨rA, rn, rc⟩, ss, he, hPG⟩
        change e = .returned (.slice rA rn rc) at he
        subst he
        obtain ⟨hrn, -⟩ := PgM.read hPG.m
        subst hrn
        obtain ⟨prs2, hl2, hPq⟩ : ∃ z : List Pr, ∃ _ : z.length = prs.length, PairsM W wq (some ⟨vg, 0, none⟩) vc z := ⟨prs, rfl, (hP4.non hY.k).non hPG.k⟩
        have hq := hPG.m.readQ
        have hql := HSm.out.1
        have hqb := HSm.out.2
        clear HPg HSm hPG hY hrq hrl hrb
        generalize pagesD emptyD = qs at hq hql hqb ⊢
        go_upto_region 24 with fail
      case' inr.inl =>
        subst hm4
        have HDo := Lib.hid (does_any hPj ok_ ow ov on_ orA rs.length orc (by rw [← hm]; decide) f1 f2 (by omega))
        clear hm
        go_upto_region 19 with ((go_at_call 10; go_must (refine (HPm.out _).mono ?_); rintro e w6 ⟨rfl, hw6⟩; subst w6))
        go_wp2_with fail
        refine HDo.out.mono ?_
        rintro e w6 ⟨rfl, hR⟩
        obtain ⟨prs2, hl2, hP6, hb6⟩ := hP4.done hjl (by rw [← HPJ.out]; exact hR)
        obtain ⟨d2, hPj2⟩ := hP6.each j (by omega)
        rw [← HPJ.out] at hb6
        have hcy : w6.cell? ⟨pj.b, 1, none⟩ = some (.pointer (some ⟨prs2[j].gy, 0, none⟩)) := by rw [← hb6]; exact hPj2.blk.cell 1
        have HPg := Lib.hid (pages14_any hPj2.y hPj2.inv.toInv0)
        have HSm := Lib.hid (pages_least hPj2.inv)
        generalize prs2[j].gy = gy at hcy HPg
        clear HDo hR
        go_wp2_with fail
        refine HPg.out.mono ?_
        rintro e wq ⟨⟨rA, rn, rc⟩, ss, he, hPG⟩
        change e = .returned (.slice rA rn rc) at he
        subst he
        obtain ⟨hrn, -⟩ := PgM.read hPG.m
        subst hrn
        have hPq := hP6.non hPG.k
        have hq := hPG.m.readQ
        have hql := HSm.out.1
        have hqb := HSm.out.2
        clear HPg HSm hPG hrq hrl hrb hPj2
        generalize pagesD d2 = qs at hq hql hqb ⊢
        go_upto_region 24 with fail
      case' inr.inr.inl =>
        subst hm5
        clear hm
        obtain ⟨prs2, hl2, hPq⟩ : ∃ z : List Pr, ∃ _ : z.length = prs.length, PairsM W w4 (some ⟨vg, 0, none⟩) vc z := ⟨prs, rfl, hP4⟩
        obtain ⟨rc, rfl⟩ : ∃ x, x = orc := ⟨_, rfl⟩
        have hq := hrq.non hP4.keep
        have hql := hrl
        have hqb := hrb
        go_upto_region 24 with ((go_at_call 10; go_must (refine (HPm.out _).mono ?_); rintro e w6 ⟨rfl, hw6⟩; subst w6))
      case inr.inr.inr =>
        have HDo := Lib.hid (does_any hPj ok_ ow ov on_ orA rs.length orc (by rw [← hm]; omega) f1 f2 (by omega))
        have hm6 : ((m : Int) == 6) = false := beq_eq_false_iff_ne.2 (by omega)
        have hm4 : ((m : Int) == 4) = false := beq_eq_false_iff_ne.2 (by omega)
        have hm5 : ((m : Int) == 5) = false := beq_eq_false_iff_ne.2 (by omega)
        clear hm
        go_upto_region 13 with ((go_at_call 10; go_must (refine (HPm.out _).mono ?_); rintro e w6 ⟨rfl, hw6⟩; subst w6))
        go_wp2_with fail
        refine HDo.out.mono ?_
        rintro e w6 ⟨rfl, hR⟩
        obtain ⟨prs2, hl2, hP6, hb6⟩ := hP4.done hjl (by rw [← HPJ.out]; exact hR)
        have hO6 : Blk w6 ob 44 #[.int .i64 ok_, .int .i64 ow, .string (str on_), .int .i64 ov, .slice orA rs.length orc] := by
          obtain ⟨p', d', -, -, hK, -⟩ := hR
          exact hO.keep hK hofj
        have o2' : w6.cell? ⟨ob, 2, none⟩ = some (.string (str on_)) := hO6.cell 2
        have H16 := Lib.hid (fun V => hashI_any on_ (by omega) V)
        have H17 := Lib.hid (fun V => refhashI_any on_ (by omega) V)
        generalize hash on_ = hv at H16 H17
        clear HDo hR o0 o1 o2 o3 o4 v0 hPj
        go_upto_region 14 with fail
        go_quiet (first | (go_at_call 16; exact Calls.quiet_of_same (H16.out _)) | (go_at_call 17; exact Calls.quiet_of_same (H17.out _)))
        go_wp2_with fail
        go_roundw
        case rel => exact ⟨k + 1, _, vc, prs2, by omega, by go_num, by rw [hl2], hP6.non ((Keeps.refl _ _).drewN _), by omega⟩
        case measure => simp [intOf]; omega
      all_goals
        have HOp := Lib.hid (opened18_any (c := rc) hq hql hqb)
        go_wp2_with fail
        refine HOp.out.mono ?_
        rintro e w7 ⟨⟨p, dn, -, rfl, hPn, hNn⟩ | ⟨-, rfl⟩, hK7⟩
        · have HB1 : Hid (prs2.length + 1 ≤ maxLen ∧ (prs2.length + 1) * 8 ≤ 140737488355328) := Lib.hid (by unfold maxLen; omega)
          have hrow : RowP (w7.alloc (.cells #[.pointer (some ⟨p.b, 0, none⟩)] 36)) 36 1 encB (.slice (some ⟨vg, 0, none⟩) prs.length vc) prs2 := by rw [← hl2]; exact (hPq.row.non hK7).non ((Keeps.refl Non w7).alloc (.cells #[.pointer (some ⟨p.b, 0, none⟩)] 36))
          go_wp2_with (at_builtin; go_must (refine wpList_append_row (o := ⟨some 97, _, _, _, _, _⟩) rfl (.tmp 94) (.tmp 96) 41 rfl 36 1 encB _ 8 Try.underlying41 info36 rfl (by decide) encB_len encB_one (.slice (some ⟨vg, 0, none⟩) prs.length vc) prs2 rfl hrow (some ⟨w7.heap.size, 0, none⟩) 1 1 [p] rfl rfl (Ats.lit w7 #[.pointer (some ⟨p.b, 0, none⟩)] 36 _ rfl) HB1.out.1 HB1.out.2 ?_); intro u8 w8 hO8 hK8 hat; obtain ⟨⟨A8, n8, c8⟩, rfl, h8⟩ := RowP.sl hO8; have hn8 : n8 = (prs2 ++ [p]).length := h8; clear h8; subst hn8)
          rw [← hl2] at hK8 hat
          have hPS := hPq.snoc hK7 hPn hNn ((Keeps.refl Non w7).alloc (.cells #[.pointer (some ⟨p.b, 0, none⟩)] 36)) hO8 hK8 hat
          go_roundw
          case rel => exact ⟨k + 1, A8, c8, prs2 ++ [p], by omega, by go_num, by simp [hl2], hPS, by rw [List.length_append]; simp; omega⟩
          case measure => simp [intOf]; omega
        · go_wp2_with fail
          go_roundw
          case rel => exact ⟨k + 1, _, vc, prs2, by omega, by go_num, by rw [hl2], hPq.non hK7, by omega⟩
          case measure => simp [intOf]; omega
    · obtain rfl : k = ops.length := by omega
      have hnl : ¬ ops.length < ops.length := by omega
      go_upto_region 30 with fail
      go_loopw [14] (fun i wr => ∃ k : Nat, k ≤ prs.length ∧ i = .int .i64 (k : Int) ∧ PairsM W wr vA vc prs) (fun i _ => prs.length - (intOf i).toNat)
      case atStart => exact ⟨0, Nat.zero_le _, rfl, hP⟩
      case round =>
        obtain ⟨k, hk2, rfl, hPk⟩ := hrel
        obtain ⟨wy, rfl⟩ : ∃ V : World, V = wr := ⟨_, rfl⟩
        clear hP
        by_cases hkl : k < prs.length
        · obtain ⟨vg, rfl, v0⟩ := hPk.at_ hkl
          obtain ⟨d, hPj⟩ := hPk.each k hkl
          generalize prs[k] = pj at v0 hPj
          have hki : (k : Int) < (prs.length : Int) := by omega
          have HD2 := Lib.hid (does_pages hPj 4 0 0 [] none 0 0 (by decide) (by decide) (by decide))
          go_wp2_with fail
          refine HD2.out.mono ?_
          rintro e w6 ⟨rfl, hK6⟩
          have HD1 := Lib.hid (does_list (hPj.non hK6) 3 0 0 [] none 0 0 (by decide) (by decide) (by decide))
          have v6 := hK6.cell v0 id
          go_wp2_with fail
          refine HD1.out.mono ?_
          rintro e w7 ⟨rfl, hK7⟩
          go_wp2_with fail
          go_roundw
          case rel => exact ⟨k + 1, by omega, by go_num, (hPk.non hK6).non hK7⟩
          case measure => simp [intOf]; omega
        · obtain rfl : k = prs.length := by omega
          go_wp2_with fail
          go_ret
          exact ⟨rfl, hPk.keep⟩
end Go.Proofs.Ytiieglfpmmhfiaa
namespace Go.Proofs.Ytiieglfpmmhfiaa
open Go.ChangeShapes Go.WideShapes Go.ChangeAt Go.RowKit Go.Uc

section
variable {H : Type} {enc : TypeId × Value → H} {w : World} {base : Nat} {held : Bool} {cs : List Value} {b : Nat}
set_option maxRecDepth 100000 in
theorem opb_open (h : Rdb enc Try.prog w base held 44 cs b) : ∃ (o : Og) (rs : List (List UInt8)), cs = (ogCells o).toList ∧ o.fit ∧ o.raw.n = rs.length ∧ PgQ w o.raw.A rs ∧ rs.length ≤ b ∧ ∀ p ∈ rs, p.length ≤ b := by
  obtain ⟨hl, hf⟩ := h.struct Try.underlying44
  rw [cells44] at hl
  match cs, hl with
  | [c0, c1, c2, c3, c4], _ =>
    have g0 : Rdb enc Try.prog w base held 3 [c0] b := by
      have h' : Rdb enc Try.prog w base held 3 (([c0, c1, c2, c3, c4].drop 0).take (Try.prog.cellsOf 3)) b := hf 0 _ rfl
      rw [cells3] at h'
      exact h'
    have g1 : Rdb enc Try.prog w base held 3 [c1] b := by
      have h' : Rdb enc Try.prog w base held 3 (([c0, c1, c2, c3, c4].drop 1).take (Try.prog.cellsOf 3)) b := hf 1 _ rfl
      rw [cells3] at h'
      exact h'
    have g2 : Rdb enc Try.prog w base held 9 [c2] b := by
      have h' : Rdb enc Try.prog w base held 9 (([c0, c1, c2, c3, c4].drop 2).take (Try.prog.cellsOf 9)) b := hf 2 _ rfl
      rw [cells9] at h'
      exact h'
    have g3 : Rdb enc Try.prog w base held 3 [c3] b := by
      have h' : Rdb enc Try.prog w base held 3 (([c0, c1, c2, c3, c4].drop 3).take (Try.prog.cellsOf 3)) b := hf 3 _ rfl
      rw [cells3] at h'
      exact h'
    have g4 : Rdb enc Try.prog w base held 42 [c4] b := by
      have h' : Rdb enc Try.prog w base held 42 (([c0, c1, c2, c3, c4].drop 4).take (Try.prog.cellsOf 42)) b := hf 4 _ rfl
      rw [cells42] at h'
      exact h'
    obtain ⟨n0, e0, b0⟩ := Rd.i64 g0.rd Try.underlying3
    obtain ⟨n1, e1, b1⟩ := Rd.i64 g1.rd Try.underlying3
    obtain ⟨L, e2, h2⟩ := rd_text' g2.rd Try.underlying9
    obtain ⟨n3, e3, b3⟩ := Rd.i64 g3.rd Try.underlying3
    obtain ⟨A, c, rs, e4, hR, hlm, hpm⟩ := pagesb_open g4
    simp at e0 e1 e2 e3 e4
    subst e0 e1 e2 e3 e4
    exact ⟨⟨n0, n1, L, n3, ⟨A, rs.length, c⟩⟩, rs, rfl, ⟨b0.1, b0.2, b1.1, b1.2, h2, b3.1, b3.2⟩, rfl, hR, hlm, hpm⟩
theorem scriptb_open (h : Rdb enc Try.prog w base held 35 cs b) (hb : b ≤ 1048576) : ∃ A c ops, cs = [.slice A ops.length c] ∧ Script w A ops ∧ Raws w ops ∧ ops.length ≤ b := by
  obtain ⟨A, n, c, β, rfl, hl, -, hs, hn, hx⟩ := h.slice Try.underlying35 cells44 (by omega) h.pos
  obtain ⟨ops, hops, ho⟩ := gather (n := n) (Q := fun i (o : Og) => (∃ b off, A = some ⟨b, off, none⟩ ∧ (∀ j, j < 5 → w.cell? ⟨b, off + i * 5 + j, none⟩ = (ogCells o)[j]?) ∧ o.fit) ∧ ∃ rs : List (List UInt8), o.raw.n = rs.length ∧ PgQ w o.raw.A rs ∧ rs.length ≤ 1048576 ∧ ∀ p ∈ rs, p.length ≤ 1048576) (fun i hi => by
    obtain ⟨bk, off, cs', rfl, hcl, hc, hr⟩ := hx i hi
    obtain ⟨o, rs, rfl, hf, h1, h2, h3, h4⟩ := opb_open hr
    have := sum_mem β n i hi
    exact ⟨o, ⟨bk, off, rfl, fun j hj => by rw [hc j hj]; simp, hf⟩, rs, h1, h2, by omega, fun p hp => by have := h4 p hp; omega⟩)
  subst hops
  exact ⟨A, c, ops, rfl, fun i hi => (ho i hi).1, fun i hi => (ho i hi).2, by omega⟩
end
end Go.Proofs.Ytiieglfpmmhfiaa
