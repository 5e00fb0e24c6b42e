/- What is got is what was put last: the walk. -/
import Derived.Test.YtiieglfpmmhfiaaG13
import Derived.Test.YtiieglfpmmhfiaaG8
import Derived.Test.YtiieglfpmmhfiaaG5
import Derived.StillTailTactics
namespace Go.Proofs.Ytiieglfpmmhfiaa
set_option maxRecDepth 100000
open Go.RowKit Go.Uc

/-- A call of a script. -/
structure Og where
  kind : Int
  which : Int
  name : List UInt8
  val : Int
  raw : Sl
def ogCells (o : Og) : Array Value := #[.int .i64 o.kind, .int .i64 o.which, .string (str o.name), .int .i64 o.val, .slice o.raw.A o.raw.n o.raw.c]
def Og.fit (o : Og) : Prop := -9223372036854775808 ≤ o.kind ∧ o.kind ≤ 9223372036854775807 ∧ -9223372036854775808 ≤ o.which ∧ o.which ≤ 9223372036854775807 ∧ o.name.length ≤ 140737488355328 ∧ -9223372036854775808 ≤ o.val ∧ o.val ≤ 9223372036854775807
/-- A script, wherever it lies. -/
def Script (w : World) (A : Option Addr) (ops : List Og) : Prop := ∀ i (h : i < ops.length), ∃ b off, A = some ⟨b, off, none⟩ ∧ (∀ j, j < 5 → w.cell? ⟨b, off + i * 5 + j, none⟩ = (ogCells ops[i])[j]?) ∧ ops[i].fit
theorem Script.non {w w' : World} {A : Option Addr} {ops : List Og} (h : Script w A ops) (hk : Keeps Non w w') : Script w' A ops := fun i hi => by
  obtain ⟨b, off, e, hc, hf⟩ := h i hi
  refine ⟨b, off, e, fun j hj => ?_, hf⟩
  have := hc j hj
  have hs : (ogCells ops[i])[j]? = some ((ogCells ops[i])[j]'(by show j < 5; exact hj)) := Array.getElem?_eq_getElem _
  rw [hs] at this ⊢
  exact hk.cell this id
theorem pickN_two (c : Int) : pickN c 2 = 0 ∨ pickN c 2 = 1 := by
  unfold pickN
  have h1 := Int.emod_lt_of_pos (if c < 0 then -(c + 1) else c) (show (0 : Int) < ((2 : Nat) : Int) by decide)
  have h2 := Int.emod_nonneg (if c < 0 then -(c + 1) else c) (show ((2 : Nat) : Int) ≠ 0 by decide)
  omega
/-- What a script's rounds keep. -/
structure Rel (W w : World) (g : Nat) (vA : Option Addr) (vc : Nat) (d : Dic) (t l : Sl) (ps : List (Nat × Sl)) (L : List Ent) : Prop where
  inv : Inv d
  gr : Grown 69 66 W w g d t l ps
  row : RowE w (.slice vA L.length vc) L
  new : ∀ q ∈ own (.slice vA L.length vc), W.heap.size ≤ q
  far : ∀ q ∈ own (.slice vA L.length vc), q ∉ foot g t l ps
  same : Same d L
theorem any_succ {l : List Ent} {k : Nat} (hk : k < l.length) (n : List UInt8) : ((l.take (k + 1)).any fun e => e.name == n) = (((l.take k).any fun e => e.name == n) || l[k].name == n) := by
  rw [List.take_succ_eq_append_getElem hk, List.any_append]; simp
theorem but_take {l : List Ent} {k : Nat} (hk : k < l.length) (n : List UInt8) : but (l.take (k + 1)) n = but (l.take k) n ++ if l[k].name = n then [] else [l[k]] := by
  rw [List.take_succ_eq_append_getElem hk]
  unfold but
  rw [List.filter_append]
  congr 1
  by_cases h : l[k].name = n
  · rw [if_pos h]; simp [h]
  · rw [if_neg h]; simp [h]
set_option maxHeartbeats 8000000 in
theorem maps_any (A : Option Addr) (c : Nat) (ops : List Og) (m : Og) (W : World) (hS : Script W A ops) (hn : ops.length ≤ 70368744177664) (hm : m.fit) :
    Calls Try.prog 6 #[.slice A ops.length c, .agg (ogCells m)] W fun e W' => e = .returned (.bool true) ∧ Keeps Non W W' := by
  obtain ⟨mk, mw, mn, mv, ⟨mrA, mrn, mrc⟩⟩ := m
  obtain ⟨-, -, -, -, hm1, hm2, hm3⟩ := hm
  simp only at hm1 hm2 hm3
  unfold ogCells
  have hMB := Blk.new W 44 #[.int .i64 mk, .int .i64 mw, .string (str mn), .int .i64 mv, .slice mrA mrn mrc]
  have hMK := (Keeps.refl Non W).alloc (.cells #[.int .i64 mk, .int .i64 mw, .string (str mn), .int .i64 mv, .slice mrA mrn mrc] 44)
  go_enter Try.func6, Try.ntmps6
  go_upto_region 1 with fail
  obtain ⟨W1, hW1⟩ : ∃ V : World, V = W.alloc (.cells #[.int .i64 mk, .int .i64 mw, .string (str mn), .int .i64 mv, .slice mrA mrn mrc] 44) := ⟨_, rfl⟩
  rw [← hW1] at hMB hMK ⊢
  have hS1 := hS.non hMK
  clear hW1
  generalize W.heap.size = mb at *
  go_upto_region 2 with ((go_at_call 7; go_must (refine (awake_any W1).mono ?_); rintro e w2 ⟨rfl, hKa⟩))
  go_upto_region 3 with ((go_at_call 8; go_must (refine (new_any w2).mono ?_); rintro e w3 ⟨g, t, l, ps, rfl, hD, hN, hKb⟩))
  have hz1 := hKa.size
  have hR0 : Rel W1 w3 g none 0 emptyD t l ps [] := ⟨empty_inv, ⟨hD, hKa.non hKb, fun q hq => by have := hN q hq; omega⟩, RowP.nil _ _ _ _, fun q hq => (List.not_mem_nil hq).elim, fun q hq => (List.not_mem_nil hq).elim, Same.empty⟩
  clear hKa hKb hD hN hz1
  go_upto_region 7 with fail
  go_loopw [7, 8] (fun v i wr => ∃ (k : Nat) (vA : Option Addr) (vc : Nat) (d : Dic) (t l : Sl) (ps : List (Nat × Sl)) (L : List Ent), k ≤ ops.length ∧ i = .int .i64 (k : Int) ∧ v = .slice vA L.length vc ∧ Rel W1 wr g vA vc d t l ps L) (fun _ i _ => ops.length - (intOf i).toNat)
  case atStart => exact ⟨0, none, 0, emptyD, t, l, ps, [], Nat.zero_le _, rfl, rfl, hR0⟩
  case round =>
    obtain ⟨k, vA, vc, d, t, l, ps, L, hk, rfl, rfl, hR⟩ := hrel
    obtain ⟨wx, rfl⟩ : ∃ V : World, V = wr := ⟨_, rfl⟩
    clear hR0
    by_cases hlt : k < ops.length
    · obtain ⟨b, off, rfl, hc, hf⟩ := (hS1.non hR.gr.k) k hlt
      generalize ops[k] = o at hc hf
      obtain ⟨ok_, ow, on_, ov, ⟨orA, orn, orc⟩⟩ := o
      obtain ⟨f1, f2, -, -, f5, f6, f7⟩ := hf
      simp only at f1 f2 f5 f6 f7
      have x0 : wx.cell? ⟨b, off + k * 5, none⟩ = some (.int .i64 ok_) := hc 0 (by decide)
      have x1 : wx.cell? ⟨b, off + k * 5 + 1, none⟩ = some (.int .i64 ow) := hc 1 (by decide)
      have x2 : wx.cell? ⟨b, off + k * 5 + 2, none⟩ = some (.string (str on_)) := hc 2 (by decide)
      have x3 : wx.cell? ⟨b, off + k * 5 + 3, none⟩ = some (.int .i64 ov) := hc 3 (by decide)
      have x4 : wx.cell? ⟨b, off + k * 5 + 4, none⟩ = some (.slice orA orn orc) := hc 4 (by decide)
      clear hc
      have hki : (k : Int) < (ops.length : Int) := by omega
      go_upto_region 10 with fail
      have hO := Blk.new wx 44 #[.int .i64 ok_, .int .i64 ow, .string (str on_), .int .i64 ov, .slice orA orn orc]
      have hKo := (Keeps.refl Non wx).alloc (.cells #[.int .i64 ok_, .int .i64 ow, .string (str on_), .int .i64 ov, .slice orA orn orc] 44)
      obtain ⟨w4, hw4⟩ : ∃ V : World, V = wx.alloc (.cells #[.int .i64 ok_, .int .i64 ow, .string (str on_), .int .i64 ov, .slice orA orn orc] 44) := ⟨_, rfl⟩
      rw [← hw4] at hO hKo ⊢
      have hzo : w4.heap.size = wx.heap.size + 1 := by rw [hw4]; simp
      clear hw4 x0 x1 x2 x3 x4
      have hG4 := hR.gr.non hKo
      have hRow4 := hR.row.non hKo
      have hLl := hR.same.len hR.inv.toInv0
      have hobf : ∀ q ∈ foot g t l ps, q ≠ wx.heap.size := fun q hq => by have := hR.gr.m.low q hq; omega
      have hob1 : W1.heap.size ≤ wx.heap.size := hR.gr.k.size
      generalize wx.heap.size = ob at *
      go_upto_region 13 with fail
      go_loopw [10, 11, 12] (fun v bb i wr => ∃ (j : Nat) (bA : Option Addr) (bc : Nat), j ≤ L.length ∧ i = .int .i64 (j : Int) ∧ v = .slice bA (but (L.take j) on_).length bc ∧ bb = .bool ((L.take j).any fun e => e.name == on_) ∧ RowE wr (.slice bA (but (L.take j) on_).length bc) (but (L.take j) on_) ∧ (∀ q ∈ own (.slice bA (but (L.take j) on_).length bc), w4.heap.size ≤ q) ∧ Keeps Non w4 wr) (fun _ _ i _ => L.length - (intOf i).toNat)
      case atStart => exact ⟨0, none, 0, Nat.zero_le _, rfl, rfl, rfl, RowP.nil _ _ _ _, fun q hq => (List.not_mem_nil hq).elim, Keeps.refl _ _⟩
      case round =>
        obtain ⟨j, bA, bc, hj, rfl, rfl, rfl, hB, hBn, hK⟩ := hrel
        obtain ⟨wy, rfl⟩ : ∃ V : World, V = wr := ⟨_, rfl⟩
        by_cases hjl : j < L.length
        · obtain ⟨eb, cap, e1, -, x0, x1, -, -⟩ := rowE_at (hRow4.non hK) hjl
          injection e1 with e1 e2 e3
          clear e2
          subst e1 e3
          have hbt := but_take hjl on_
          have has := any_succ hjl on_
          have hbl := but_le (L.take j) on_
          have htl : (L.take j).length ≤ 1600 := by rw [List.length_take]; omega
          generalize L[j] = x at x0 x1 hbt has
          have y2 : wy.cell? ⟨ob, 2, none⟩ = some (.string (str on_)) := (hO.non hK).cell 2
          generalize but (L.take j) on_ = B at hB hBn hbt hbl
          generalize ((L.take j).any fun e => e.name == on_) = bb at has
          by_cases hxn : x.name = on_
          · rw [if_pos hxn, List.append_nil] at hbt
            rw [show (x.name == on_) = true by simp [hxn], Bool.or_true] at has
            have heq : ((str x.name).toList == (str on_).toList) = true := by rw [hxn]; simp
            have HBT := Lib.hid hbt
            have HAS := Lib.hid has
            clear hbt has hxn
            go_upto_region 15 with fail
            go_quiet (fail)
            go_wp2_with fail
            go_roundw
            case rel => exact ⟨j + 1, bA, bc, by omega, by go_num, by rw [HBT.out], by rw [HAS.out], by rw [HBT.out]; exact hB.non ((Keeps.refl _ _).drewN _), by rw [HBT.out]; exact hBn, hK.drewN _⟩
            case measure => simp [intOf]; omega
          · rw [if_neg hxn] at hbt
            have hne : ¬ (str x.name).toList = (str on_).toList := by rw [str_toList, str_toList]; exact hxn
            have heq : ((str x.name).toList == (str on_).toList) = false := by simp [hne]
            rw [show (x.name == on_) = false by simp [hxn], Bool.or_false] at has
            have HBT := Lib.hid hbt
            have HAS := Lib.hid has
            clear hbt has hxn hne
            go_upto_region 15 with fail
            go_quiet (fail)
            go_upto_region 17 with fail
            obtain ⟨w5, hw5⟩ : ∃ W : World, W = wy.drewN nq := ⟨_, rfl⟩
            rw [← hw5]
            have hK5 : Keeps Non wy w5 := by rw [hw5]; exact (Keeps.refl _ _).drewN _
            clear hw5
            have z0 := hK5.cell x0 id
            have z1 := hK5.cell x1 id
            have hka := (Keeps.refl Non w5).alloc (.cells #[.string (str x.name), .int .i64 x.val] 56)
            have hB5 := (hB.non hK5).non hka
            have hK05 := (hK.non hK5).non hka
            have hzz := hK05.size
            have HLa : Hid (B.length + 1 ≤ maxLen ∧ (B.length + 1) * 24 ≤ 140737488355328) := Lib.hid (by unfold maxLen; omega)
            clear hB hK hK5 hka x0 x1 y2
            go_wp2_with (at_builtin; go_must (refine wpList_append_row (o := ⟨some 58, _, _, _, _, _⟩) rfl (.tmp 52) (.tmp 57) 32 rfl 56 2 encE _ 24 Try.underlying32 info56 rfl (by decide) encE_len encE_one (.slice bA B.length bc) B rfl hB5 (some ⟨w5.heap.size, 0, none⟩) 1 1 [x] rfl rfl (Ats.lit w5 #[.string (str x.name), .int .i64 x.val] 56 _ rfl) HLa.out.1 HLa.out.2 ?_); intro u8 w8 hO8 hK8 hat; obtain ⟨⟨A8, n8, c8⟩, rfl, h8⟩ := RowP.sl hO8; have hn8 : n8 = (B ++ [x]).length := h8; clear h8; subst hn8)
            go_roundw
            case rel =>
              refine ⟨j + 1, A8, c8, by omega, by go_num, by rw [HBT.out]; show Value.slice A8 _ c8 = Value.slice A8 _ c8; simp, by rw [HAS.out], by rw [HBT.out]; exact hO8, ?_, hK05.then hK8 fun i hi e => by have := hBn i e; omega⟩
              intro q hq
              rw [HBT.out, mem_own] at hq
              rcases hat with h | h
              · have h' : (Value.slice A8 (B ++ [x]).length c8).ownBlock = (Value.slice bA B.length bc).ownBlock := h
                exact hBn q (mem_own.2 (by rw [← h']; exact hq))
              · have h' : (Value.slice A8 (B ++ [x]).length c8).ownBlock = some _ := h
                rw [h'] at hq; injection hq with hq; simp at hq hzz; omega
            case measure => simp [intOf]; omega
        · obtain rfl : j = L.length := by omega
          rw [List.take_of_length_le (Nat.le_refl _)] at hB hBn ⊢
          have hwas := hR.same.was on_
          have hbl := but_le L on_
          obtain ⟨bb, hbb⟩ : ∃ bb, bb = L.any fun e => e.name == on_ := ⟨_, rfl⟩
          rw [← hbb] at hwas ⊢
          clear hbb
          obtain ⟨B, hBe⟩ : ∃ B, B = but L on_ := ⟨_, rfl⟩
          rw [← hBe] at hB hBn hbl ⊢
          have HBE := Lib.hid hBe
          have HWAS := Lib.hid hwas
          clear hBe hwas
          have hGy := hG4.non hK
          have hRowy := hRow4.non hK
          have hOy := hO.non hK
          have hz4 := hK.size
          have hBf : ∀ q ∈ own (.slice bA B.length bc), q ∉ foot g t l ps := fun q hq hq' => by
            have h1 := hBn q hq
            have h2 := hG4.m.low q hq'
            omega
          have hBW : ∀ q ∈ own (.slice bA B.length bc), W1.heap.size ≤ q := fun q hq => by have := hBn q hq; have := hG4.k.size; omega
          have hobf2 : ob ∉ foot g t l ps := fun h => hobf _ h rfl
          have y0 : wy.cell? ⟨ob, 0, none⟩ = some (.int .i64 ok_) := hOy.cell 0
          have y2 : wy.cell? ⟨ob, 2, none⟩ = some (.string (str on_)) := hOy.cell 2
          have y3 : wy.cell? ⟨ob, 3, none⟩ = some (.int .i64 ov) := hOy.cell 3
          have hss : (str on_).size = on_.length := str_size on_
          have HPk := Lib.hid (pick_any ok_ 2 (by decide) (by decide) f1 f2 wy)
          clear hO hG4 hRow4
          rcases pickN_two ok_ with hp | hp
          · rw [hp] at HPk
            clear hp
            have HPt := Lib.hid (put_any hGy.m hR.inv on_ (by omega) ov)
            have HSp := Lib.hid (putD_spec hR.inv on_ ov)
            obtain ⟨r, hr⟩ : ∃ r, r = (putD d on_ ov).1 := ⟨_, rfl⟩
            obtain ⟨d', hd'⟩ : ∃ r, r = (putD d on_ ov).2 := ⟨_, rfl⟩
            rw [← hr, ← hd'] at HPt HSp
            clear hr hd'
            go_upto_region 20 with (first
              | (go_at_call 10; go_must (refine HPk.out.mono ?_); rintro e w5 ⟨rfl, hw5⟩; subst w5)
              | (go_at_call 9; go_must (refine HPt.out.mono ?_); rintro e w6 ⟨rfl, t2, l2, ps2, hM6, hK6, hF6⟩))
            have hG6 := hGy.done hM6 hK6 hF6
            have hB6 := hB.keep hK6 fun q hq hq' => hBf q hq hq'
            have hO6 := hOy.keep hK6 hobf2
            have hz6 := hK6.size
            have hlowB := hB.lt
            have hlowL := hRowy.lt
            have hlowO := hOy.lt
            have hBf6 : ∀ q ∈ own (.slice bA B.length bc), q ∉ foot g t2 l2 ps2 := fun q hq hq' => by
              rcases hF6 q hq' with h | h
              · exact hBf q hq h
              · have := hlowB q hq; omega
            have hL6 : RowE w6 (.slice vA L.length vc) L := hRowy.keep hK6 fun q hq hq' => hR.far q hq hq'
            have hLf6 : ∀ q ∈ own (.slice vA L.length vc), q ∉ foot g t2 l2 ps2 := fun q hq hq' => by
              rcases hF6 q hq' with h | h
              · exact hR.far q hq h
              · have := hlowL q hq; omega
            have z2 : w6.cell? ⟨ob, 2, none⟩ = some (.string (str on_)) := hO6.cell 2
            have z3 : w6.cell? ⟨ob, 3, none⟩ = some (.int .i64 ov) := hO6.cell 3
            clear y0 y2 y3 hM6 hK6 hF6 hlowB hlowO
            obtain ⟨hi', hcs⟩ := HSp.out
            by_cases hr0 : r = 0
            · have HVS : Hid (∀ m, val d' m = if on_ = m then some ov else val d m) := Lib.hid (by
                rcases hcs with ⟨-, -, h⟩ | ⟨h, -⟩
                · exact h
                · exact absurd hr0 h)
              subst hr0
              clear hcs
              have hka := (Keeps.refl Non w6).alloc (.cells #[.string (str on_), .int .i64 ov] 56)
              have hB7 := hB6.non hka
              have HLa : Hid (B.length + 1 ≤ maxLen ∧ (B.length + 1) * 24 ≤ 140737488355328) := Lib.hid (by unfold maxLen; omega)
              go_upto_region 22 with (at_builtin; go_must (refine wpList_append_row (o := ⟨some 78, _, _, _, _, _⟩) rfl (.tmp 71) (.tmp 77) 32 rfl 56 2 encE _ 24 Try.underlying32 info56 rfl (by decide) encE_len encE_one (.slice bA B.length bc) B rfl hB7 (some ⟨w6.heap.size, 0, none⟩) 1 1 [(⟨on_, ov⟩ : Ent)] rfl rfl (Ats.lit w6 #[.string (str on_), .int .i64 ov] 56 _ rfl) HLa.out.1 HLa.out.2 ?_); intro u8 w8 hO8 hK8 hat; obtain ⟨⟨A8, n8, c8⟩, rfl, h8⟩ := RowP.sl hO8; have hn8 : n8 = (B ++ [(⟨on_, ov⟩ : Ent)]).length := h8; clear h8; subst hn8)
              have hG8 : Grown 69 66 W1 w8 g d' t2 l2 ps2 := ⟨(hG6.m.non hka).keep hK8 fun q hq hq' => hBf6 q hq' hq, (hG6.k.non hka).then hK8 fun i hi e => by have := hBW i e; omega, hG6.n⟩
              have hown8 : ∀ q ∈ own (.slice A8 (B ++ [(⟨on_, ov⟩ : Ent)]).length c8), q ∈ own (.slice bA B.length bc) ∨ q = w6.heap.size + 1 := fun q hq => by
                rw [mem_own] at hq
                rcases hat with h | h
                · have h' : (Value.slice A8 (B ++ [(⟨on_, ov⟩ : Ent)]).length c8).ownBlock = (Value.slice bA B.length bc).ownBlock := h
                  exact .inl (mem_own.2 (by rw [← h']; exact hq))
                · have h' : (Value.slice A8 (B ++ [(⟨on_, ov⟩ : Ent)]).length c8).ownBlock = some _ := h
                  rw [h'] at hq; injection hq with hq; simp at hq; exact .inr hq.symm
              have hlow6 := hG6.m.low
              have hk6 := hG6.k.size
              have hREL : Hid (Rel W1 w8 g A8 c8 d' t2 l2 ps2 (B ++ [⟨on_, ov⟩])) := Lib.hid ⟨hi', hG8, hO8, fun q hq => by
                rcases hown8 q hq with h | h
                · exact hBW q h
                · omega, fun q hq hq' => by
                rcases hown8 q hq with h | h
                · exact hBf6 q h hq'
                · have := hlow6 q hq'; omega, by rw [HBE.out]; exact hR.same.put on_ ov HVS.out⟩
              cases bb
              all_goals
                go_wp2_with fail
                go_roundw
                case rel => exact ⟨k + 1, A8, c8, d', t2, l2, ps2, B ++ [⟨on_, ov⟩], by omega, by go_num, by simp, hREL.out⟩
                case measure => simp [intOf]; omega
            · have hrb : (r == 0) = false := by simp [hr0]
              have hrb2 : (r != 0) = true := by simp [hr0]
              have hd0 : d' = d := by
                rcases hcs with ⟨h, -⟩ | ⟨-, h, -⟩
                · exact absurd h hr0
                · exact h
              have h1 : bb = true → r = 1 := fun hb => by
                rcases hcs with ⟨h, -⟩ | ⟨-, -, h⟩
                · exact absurd h hr0
                · rw [HWAS.out] at hb
                  obtain ⟨x, hx⟩ := Option.isSome_iff_exists.1 hb
                  exact h hb (val_name hR.inv.toInv0 hx)
              have hREL : Hid (Rel W1 w6 g vA vc d' t2 l2 ps2 L) := Lib.hid ⟨hi', hG6, hL6, hR.new, hLf6, by rw [hd0]; exact hR.same⟩
              clear hcs hd0 hr0
              cases bb
              case false =>
                clear h1
                go_wp2_with fail
                go_roundw
                case rel => exact ⟨k + 1, vA, vc, d', t2, l2, ps2, L, by omega, by go_num, by rfl, hREL.out⟩
                case measure => simp [intOf]; omega
              case true =>
                obtain rfl := h1 rfl
                clear h1
                go_wp2_with fail
                go_roundw
                case rel => exact ⟨k + 1, vA, vc, d', t2, l2, ps2, L, by omega, by go_num, by rfl, hREL.out⟩
                case measure => simp [intOf]; omega
          · rw [hp] at HPk
            clear hp
            have HPt := Lib.hid (drop_any hGy.m hR.inv.ok on_ (by omega))
            have hi' := drop_inv hR.inv on_
            have HVS := Lib.hid (fun m => val_drop hR.inv on_ m)
            have hcode := drop_code (d := d) on_
            rw [← HWAS.out] at hcode
            rw [hcode] at HPt
            clear hcode
            obtain ⟨d', hd'⟩ : ∃ r, r = (dropD d on_).2 := ⟨_, rfl⟩
            rw [← hd'] at HPt HVS hi'
            clear hd'
            cases bb
            case' false => obtain ⟨r, hr⟩ : ∃ r : Int, r = 171 := ⟨_, rfl⟩
            case' true => obtain ⟨r, hr⟩ : ∃ r : Int, r = 0 := ⟨_, rfl⟩
            all_goals
              simp only [if_true, Bool.false_eq_true, if_false] at HPt
              go_upto_region 25 with (first
                | (go_at_call 10; go_must (refine HPk.out.mono ?_); rintro e w5 ⟨rfl, hw5⟩; subst w5)
                | (go_at_call 20; go_must (refine HPt.out.mono ?_); rintro e w6 ⟨rfl, t2, l2, ps2, hM6, hK6, hF6⟩))
              have hG6 := hGy.done hM6 hK6 hF6
              have hB6 := hB.keep hK6 fun q hq hq' => hBf q hq hq'
              have hlowB := hB.lt
              have hREL : Hid (Rel W1 w6 g bA bc d' t2 l2 ps2 B) := Lib.hid ⟨hi', hG6, hB6, hBW, fun q hq hq' => by
                rcases hF6 q hq' with h | h
                · exact hBf q hq h
                · have := hlowB q hq; omega, by rw [HBE.out]; exact hR.same.drop on_ HVS.out⟩
              clear hr y0 y2 y3 hM6 hK6 hF6 hlowB hB6 hG6
              go_wp2_with fail
              go_roundw
              case rel => exact ⟨k + 1, bA, bc, d', t2, l2, ps2, B, by omega, by go_num, by rfl, hREL.out⟩
              case measure => simp [intOf]; omega
    · obtain rfl : k = ops.length := by omega
      have hpl : (pagesD d).length ≤ 33 := (opens_form (rs := pagesD d) ⟨hR.inv, rfl⟩).2.1
      have hLl := hR.same.len hR.inv.toInv0
      have hLm : ∀ e ∈ L, e.name.length ≤ 24 := fun e he => by
        have := val_name hR.inv.toInv0 ((hR.same.mem e).1 he)
        unfold nameB at this
        simp at this
        exact this.2
      have HPg := Lib.hid (pages_any hR.gr.m hR.inv.toInv0)
      go_upto_region 28 with fail
      go_wp2_with ((go_at_call 22; go_must (refine HPg.out.mono ?_); rintro e w5 ⟨⟨oA, on_, oc⟩, ss, he, hP5, hPn, hK5⟩; change e = .returned (.slice oA on_ oc) at he; subst he))
      obtain ⟨hon, hPR⟩ := hP5.read
      subst hon
      have HOp := Lib.hid (open_any (c := oc) hPR (by omega))
      refine HOp.out.mono ?_
      rintro e w6 (⟨d2, g2, t2, l2, qs, hOp, rfl, hG2⟩ | ⟨hno, -⟩)
      · obtain rfl : d = d2 := opens_unique ⟨hR.inv, rfl⟩ hOp
        have hG6 := (hR.gr.non hK5).non hG2.k
        have hL6 := (hR.row.non hK5).non hG2.k
        have hM6 : Blk w6 mb 44 _ := (hMB.non hR.gr.k).non (hK5.non hG2.k)
        have hlow : ∀ q ∈ foot g t l ps, q < w5.heap.size := (hR.gr.m.non hK5).low
        have hlowL : ∀ q ∈ own (.slice vA L.length vc), q < w5.heap.size := (hR.row.non hK5).lt
        have hmW : mb < W1.heap.size := hMB.lt
        have hW5 : W1.heap.size ≤ w5.heap.size := by have := hR.gr.k.size; have := hK5.size; omega
        have y2 : w6.cell? ⟨mb, 2, none⟩ = some (.string (str mn)) := hM6.cell 2
        have y3 : w6.cell? ⟨mb, 3, none⟩ = some (.int .i64 mv) := hM6.cell 3
        have hss : (str mn).size = mn.length := str_size mn
        have HSp := Lib.hid (putD_spec hR.inv mn mv)
        have HPx := Lib.hid (put_any hG2.m hR.inv mn (by omega) mv)
        have HDP : Hid (∀ w, DictM 69 66 w g d t l ps → Calls Try.prog 9 #[.pointer (some ⟨g, 0, none⟩), .string (str mn), .int .i64 mv] w fun e w' => e = .returned (.int .i64 (putD d mn mv).1) ∧ DoneD 69 66 w g t l ps (putD d mn mv).2 w') := Lib.hid (fun w h => put_any h hR.inv mn (by omega) mv)
        obtain ⟨r, hr⟩ : ∃ r, r = (putD d mn mv).1 := ⟨_, rfl⟩
        obtain ⟨d', hd'⟩ : ∃ r, r = (putD d mn mv).2 := ⟨_, rfl⟩
        rw [← hr, ← hd'] at HPx HSp HDP
        clear hr hd'
        go_upto_region 32 with ((go_at_call 9; go_must (refine HPx.out.mono ?_); rintro e w7 ⟨rfl, t3, l3, qs3, hM7, hK7, hF7⟩))
        have hx7 : ∀ q ∈ foot g2 t2 l2 qs, w5.heap.size ≤ q := hG2.n
        have hG7 := hG2.done hM7 hK7 hF7
        have hD7 := hG6.m.keep hK7 fun q hq hq' => by have := hlow q hq; have := hx7 q hq'; omega
        have hL7 := hL6.keep hK7 fun q hq hq' => by have := hlowL q hq; have := hx7 q hq'; omega
        have hB7 := hM6.keep hK7 fun hq' => by have := hx7 mb hq'; omega
        have z2 : w7.cell? ⟨mb, 2, none⟩ = some (.string (str mn)) := hB7.cell 2
        have z3 : w7.cell? ⟨mb, 3, none⟩ = some (.int .i64 mv) := hB7.cell 3
        have HPy := Lib.hid (HDP.out w7 hD7)
        clear y2 y3 hM7 hK7 hF7 HPx
        go_upto_region 33 with ((go_at_call 9; go_must (refine HPy.out.mono ?_); rintro e w8 ⟨rfl, t4, l4, ps4, hM8, hK8, hF8⟩))
        have hX8 := hG7.m.keep hK8 fun q hq hq' => by have := hG7.n q hq; have := hlow q hq'; omega
        have hL8 := hL7.keep hK8 fun q hq hq' => hR.far q hq hq'
        have hB8 := hB7.keep hK8 fun hq' => by have := hR.gr.n mb hq'; omega
        have hK18 : Keeps Non W1 w8 := (((hR.gr.k.non hK5).non hG7.k)).then hK8 fun i hi e => by have := hR.gr.n i e; omega
        obtain ⟨hi', hcs⟩ := HSp.out
        have HPx2 := Lib.hid (pages_any hX8 hi'.toInv0)
        clear z2 z3 hK8 hF8 hPR hP5
        go_wp2_with fail
        refine HPx2.out.mono ?_
        rintro e w9 ⟨⟨pA, pn, pc⟩, ss9, he, hP9, -, hK9⟩
        change e = .returned (.slice pA pn pc) at he
        subst he
        have HPy2 := Lib.hid (pages_any (hM8.non hK9) hi'.toInv0)
        go_wp2_with fail
        refine HPy2.out.mono ?_
        rintro e w10 ⟨⟨qA, qn, qc⟩, ss10, he, hP10, -, hK10⟩
        change e = .returned (.slice qA qn qc) at he
        subst he
        obtain ⟨hpn, hPR9⟩ := (hP9.non hK10).read
        obtain ⟨hqn, hPR10⟩ := hP10.read
        subst hpn hqn
        have hpl' : (pagesD d').length ≤ 33 := (opens_form (rs := pagesD d') ⟨hi', rfl⟩).2.1
        have HSa := Lib.hid (Same_any (ca := pc) (cb := qc) hPR9 hPR10 (by omega))
        rw [show decide (pagesD d' = pagesD d') = true from decide_eq_true rfl] at HSa
        clear hP9 hP10 hPR9 hPR10
        go_upto_region 34 with ((go_at_call 23; go_must (refine HSa.out.mono ?_); rintro e w11 ⟨rfl, q11, hq11⟩; have HQ11 := Lib.hid hq11; clear hq11))
        have hK11 : Keeps Non w8 w11 := (hK9.non hK10).non (by rw [HQ11.out]; exact (Keeps.refl _ _).drewN q11)
        have hD11 := hM8.non hK11
        have hL11 := hL8.non hK11
        have hB11 := hB8.non hK11
        have hKW : Keeps Non W w11 := (hMK.non hK18).non hK11
        have z2 : w11.cell? ⟨mb, 2, none⟩ = some (.string (str mn)) := hB11.cell 2
        have hrr : (r != r) = false := by simp
        by_cases hr0 : r = 0
        · have HH : Hid (Held d' L mn) := Lib.hid (by
            rcases hcs with ⟨-, h1, h2⟩ | ⟨h, -⟩
            · exact hR.same.held_put hi'.toInv0 mn mv h1 h2
            · exact absurd hr0 h)
          have HHo := Lib.hid (holds_any hD11 hi' hL11 hLl hLm mn (by omega) HH.out)
          subst hr0
          clear hcs
          go_wp2_with ((go_at_call 24; go_must (refine HHo.out.mono ?_); rintro e w12 ⟨rfl, hK12⟩))
          go_ret
          exact ⟨rfl, hKW.non hK12⟩
        · have hrb : (r == 0) = false := by simp [hr0]
          have hd0 : d' = d := by
            rcases hcs with ⟨h, -⟩ | ⟨-, h, -⟩
            · exact absurd h hr0
            · exact h
          have HH : Hid (Held d' L []) := Lib.hid (by rw [hd0]; exact hR.same.held hR.inv.toInv0)
          have HHo : Hid (Calls Try.prog 24 #[.pointer (some ⟨g, 0, none⟩), .slice vA L.length vc, .string { data := #[] }] w11 fun e w' => e = .returned (.bool true) ∧ Keeps Non w11 w') := Lib.hid (holds_any hD11 hi' hL11 hLl hLm [] (by simp) HH.out)
          clear hcs hd0 hr0
          go_wp2_with ((go_at_call 24; go_must (refine HHo.out.mono ?_); rintro e w12 ⟨rfl, hK12⟩))
          go_ret
          exact ⟨rfl, hKW.non hK12⟩
      · exact absurd ⟨d, hR.inv, rfl⟩ hno
end Go.Proofs.Ytiieglfpmmhfiaa
