/- Bytes of the log, read and written. Rings and the log, sector by sector: plain law. What is written to the log: plain law. The log written. -/
import Derived.Test.YtolknnmaadkgiaaGreatDoorG25
set_option linter.unusedVariables false
set_option linter.unusedSimpArgs false
namespace Go.Proofs.YtolknnmaadkgiaaGreatDoor
set_option maxRecDepth 100000
open Go.RowKit Go.Uc Go.Shelf
section make
variable {P : Program} {ops : Array Oper} {rest : List Oper} {o : Oper} {a : Act} {w : World} {Q : Exit → Act → World → Prop}
theorem wpList_make_room (hg : o.guard = none) (l c : Operand) (t : TypeId) (hop : o.op = Op.makeSlice t l c)
   (e : TypeId) (h1 : P.underlying t = Option.some (.slice e)) (hi : (P.info? e).map (fun i => (i.zero, i.size, i.bytes)) = Option.some (Option.some (.int .u8 0), 1, 1))
   (kl kc : IntKind) (C : Int) (n : Nat) (hl : a.eval l = .int kl 0) (hc : a.eval c = .int kc C) (hC : C = (n : Int)) (b2 : n ≤ 140737488355328)
   (hK : ∀ w', OwnB w' w.heap.size e (.slice (some ⟨w.heap.size, 0, none⟩) 0 n) [] → Keeps Non w w' → wpList P ops Q rest (a.put o.dst (.slice (Option.some ⟨w.heap.size, 0, none⟩) 0 n)) w') :
   wpList P ops Q (o :: rest) a w := by
 obtain ⟨i, hi0, hz0, hz1, hz2⟩ := info_parts hi
 refine wpList_plain hg fun K hK' => ?_
 subst hC
 have hrun := run_make (P := P) w t e i (.int .u8 0) h1 hi0 hz0 kl kc 0 n (by omega) (by omega) (by rw [hz2]; omega) (by omega)
 have e1 : madeCells (Value.int .u8 0).cells ((n : Int).toNat * i.size) = pc (zeros n) := by
   rw [hz1]
   apply Array.ext
   · simp [size_madeCells, pc_size, zeros_length]
   · intro j h1 h2
     simp [madeCells, Value.cells, pc, zeros, bv, Nat.mod_one]
 rw [e1] at hrun
 unfold Oper.wp
 simp [execOp, hop, hl, hc, hrun, Result.andThen]
 refine hK' _ _ (hK _ ⟨rfl, .inr ⟨w.heap.size, n, _, rfl, Nat.le_refl _, Blk.new _ _ _, Nat.zero_le _, by unfold maxLen; omega, by simp [pc_size, zeros_length], rfl⟩⟩ ((Keeps.refl _ _).alloc _))
end make
theorem own_down {w : World} {B B' : Nat} {e : TypeId} {v : Value} {bs : List UInt8} (h : OwnB w B e v bs) (hb : B' ≤ B) : OwnB w B' e v bs := by
 unfold OwnB World.ownsRow at h ⊢
 refine ⟨h.1, ?_⟩
 rcases h.2 with e | ⟨g, cap, cur, h1, h2, h3⟩
 · exact .inl e
 · exact .inr ⟨g, cap, cur, h1, Nat.le_trans hb h2, h3⟩
theorem cat_split (f : Nat → List UInt8) : ∀ (j k a : Nat), cat f a (j + k) = cat f a j ++ cat f (a + j) k
 | 0, k, a => by rw [Nat.zero_add, Nat.add_zero]; rfl
 | j + 1, k, a => by
   rw [show j + 1 + k = (j + k) + 1 by omega, cat, cat, cat_split f j k (a + 1), List.append_assoc, show a + 1 + j = a + (j + 1) by omega]
theorem cat_size (f : Nat → List UInt8) {c N : Nat} (hf : ∀ q, q < N → (f q).length = c) : ∀ (k a : Nat), a + k ≤ N → (cat f a k).length = c * k
 | 0, a, _ => by rw [Nat.mul_zero]; rfl
 | k + 1, a, h => by rw [cat, List.length_append, cat_size f hf k (a + 1) (by omega), hf a (by omega), Nat.mul_succ, Nat.add_comm]
theorem cat_item (f : Nat → List UInt8) {c N : Nat} (hf : ∀ q, q < N → (f q).length = c) {q r t : Nat} (hq : q < N) (ht : r + t ≤ c) : ((cat f 0 N).drop (c * q + r)).take t = ((f q).drop r).take t := by
 have e : N = q + (1 + (N - q - 1)) := by omega
 have h1 : (cat f 0 q).length = c * q := cat_size f hf q 0 (by omega)
 rw [e, cat_split, cat_split, Nat.zero_add]
 rw [List.drop_append, h1, List.drop_of_length_le (by omega), List.nil_append, show c * q + r - c * q = r by omega]
 rw [show cat f q 1 = f q by rw [cat]; show f q ++ [] = _; rw [List.append_nil]]
 rw [List.drop_append_of_le_length (by rw [hf q hq]; omega), List.take_append_of_le_length (by rw [List.length_drop, hf q hq]; omega)]
def logD (T : St) (F : Nat → Lr) (ps : List (Nat × Nat)) : List UInt8 := cat (fun a => (lsec T F a ps).2) 0 256
theorem lsec_len (T : St) (F : Nat → Lr) (a : Nat) : ∀ (ps : List (Nat × Nat)), (∀ x ∈ ps, (T.f (F x.1).ix (18 + a)).length = 128) → (lsec T F a ps).2.length = 88 := by
 intro ps h
 unfold lsec
 suffices hs : ∀ (ps : List (Nat × Nat)) (acc : Nat × List UInt8), acc.2.length = 88 → (∀ x ∈ ps, (T.f (F x.1).ix (18 + a)).length = 128) → (ps.foldl (fun acc x => lstep acc (T.f (F x.1).ix (18 + a))) acc).2.length = 88 from hs ps _ (zeros_length 88) h
 intro ps
 induction ps with
 | nil => exact fun acc h _ => h
 | cons x r ih =>
   intro acc ha hx
   rw [List.foldl_cons]
   refine ih _ ?_ fun y hy => hx y (List.mem_cons_of_mem _ hy)
   unfold lstep
   split
   · have := hx x (List.mem_cons_self ..)
     simp only [List.length_take, List.length_drop]
     omega
   · exact ha
section
variable {w0 w w' : World} {p m n k pool sz lg : Nat} {tp : Tp} {B : TB} {dv : Sl} {K : Nat → Kb} {T : St} {L Dk : List (Option Nat)} {lk : List Lk} {X : Nat → Lb} {F : Nat → Lr}
set_option maxHeartbeats 1000000 in
theorem inLog_any (at_ many : Int) (h1 : -9223372036854775808 ≤ at_) (h2 : at_ ≤ 9223372036854775807) (w : World) : Calls Tryz.prog 33 #[.int .i64 at_, .int .i64 many] w fun e w' => e = .returned (.bool (decide (0 ≤ at_ ∧ 0 ≤ many ∧ at_ ≤ 22528 ∧ many ≤ 22528 - at_))) ∧ w' = w := by
 by_cases c1 : 0 ≤ at_
 · by_cases c2 : 0 ≤ many
   · by_cases c3 : at_ ≤ 22528
     · by_cases c4 : many ≤ 22528 - at_
       · go_enter Tryz.func33, Tryz.ntmps33
         go_wp2_with fail
         go_ret
         exact ⟨ret_bool (bool_iff (by first | (simp; done) | (simp; omega))), rfl⟩
       · go_enter Tryz.func33, Tryz.ntmps33
         go_wp2_with fail
         go_ret
         exact ⟨ret_bool (bool_iff (by first | (simp; done) | (simp; omega))), rfl⟩
     · have d : decide (at_ ≤ 22528) = false := by simpa using c3
       go_enter Tryz.func33, Tryz.ntmps33
       go_wp2_with fail
       go_ret
       exact ⟨ret_bool (bool_iff (by first | (simp; done) | (simp; omega))), rfl⟩
   · have d : decide (0 ≤ many) = false := by simpa using c2
     go_enter Tryz.func33, Tryz.ntmps33
     go_wp2_with fail
     go_ret
     exact ⟨ret_bool (bool_iff (by first | (simp; done) | (simp; omega))), rfl⟩
 · have d : decide (0 ≤ at_) = false := by simpa using c1
   go_enter Tryz.func33, Tryz.ntmps33
   go_wp2_with fail
   go_ret
   exact ⟨ret_bool (bool_iff (by first | (simp; done) | (simp; omega))), rfl⟩
theorem lsec_ok (hG : Gs w0 w p dv m n K T) (hL : Lvs w0 w m K X F L) (hn : 324 ≤ n) {a : Nat} (ha : a < 256) : (lsec T F a (pres L L.length)).2.length = 88 :=
 lsec_len T F a _ fun x hx => by
   obtain ⟨j, hj⟩ := List.getElem?_of_mem hx
   obtain ⟨-, e⟩ := pres_at hj
   exact hG.flen (hL.lf _ _ e).2.1 (by omega)
theorem logD_len (hG : Gs w0 w p dv m n K T) (hL : Lvs w0 w m K X F L) (hn : 324 ≤ n) : (logD T F (pres L L.length)).length = 22528 := by
 unfold logD
 rw [cat_size (c := 88) (N := 256) _ (fun q hq => lsec_ok hG hL hn hq) 256 0 (by omega)]
set_option maxHeartbeats 8000000 in
theorem logRead_tk (h : Tk w k pool tp B L Dk lk sz lg) (hG : Gs w0 w p dv m n K T) (hL : Lvs w0 w m K X F L) (h0 : 0 < L.length) (hn : 324 ≤ n) (ho : T.P.off = false) (at_ many : Nat) (ha : at_ + many ≤ 22528) :
   Calls Tryz.prog 10 #[.pointer (some ⟨k, 0, none⟩), .int .i64 (at_ : Int), .int .i64 (many : Int)] w fun e w' => ∃ v, e = .returned (.tuple #[v, .int .i64 0]) ∧ OwnB w' w.heap.size 5 v (((logD T F (pres L L.length)).drop at_).take many) ∧ Keeps Non w w' := by
 have HI : Hid (Calls Tryz.prog 33 #[.int .i64 (at_ : Int), .int .i64 (many : Int)] w fun e w' => e = .returned (.bool true) ∧ w' = w) := Lib.hid (by
   have := inLog_any (at_ : Int) (many : Int) (by omega) (by omega) w
   rw [decide_eq_true (by omega)] at this
   exact this)
 have HDn := Lib.hid (down_tk h hG hL h0 hn ho)
 have HLs : Hid (∀ V (q : Nat), Keeps Non w V → q < 256 → Calls Tryz.prog 34 #[.pointer (some ⟨k, 0, none⟩), .int .i64 (q : Int)] V fun e w' => ∃ b, e = .returned (.slice (some ⟨b, 0, none⟩) 88 88) ∧ Blk w' b 5 (pc (lsec T F q (pres L L.length)).2) ∧ V.heap.size ≤ b ∧ Keeps Non V w') := Lib.hid (fun V q hV hq => logSector_tk (h.non hV) (hG.non hV) (hL.non hV) h0 hn ho q hq)
 have HDl := Lib.hid (logD_len hG hL hn)
 have HIt : Hid (∀ q r t, q < 256 → r + t ≤ 88 → ((logD T F (pres L L.length)).drop (88 * q + r)).take t = ((lsec T F q (pres L L.length)).2.drop r).take t) := Lib.hid (fun q r t hq ht => cat_item (fun a => (lsec T F a (pres L L.length)).2) (fun q hq => lsec_ok hG hL hn hq) hq ht)
 have HSl := Lib.hid (fun q (hq : q < 256) => lsec_ok hG hL hn hq)
 obtain ⟨D, hD⟩ : ∃ D, D = logD T F (pres L L.length) := ⟨_, rfl⟩
 obtain ⟨sec, hsec⟩ : ∃ sec, sec = fun q => (lsec T F q (pres L L.length)).2 := ⟨_, rfl⟩
 rw [← hD] at HDl HIt ⊢
 replace HLs : Hid (∀ V (q : Nat), Keeps Non w V → q < 256 → Calls Tryz.prog 34 #[.pointer (some ⟨k, 0, none⟩), .int .i64 (q : Int)] V fun e w' => ∃ b, e = .returned (.slice (some ⟨b, 0, none⟩) 88 88) ∧ Blk w' b 5 (pc (sec q)) ∧ V.heap.size ≤ b ∧ Keeps Non V w') := by rw [hsec]; exact HLs
 replace HIt : Hid (∀ q r t, q < 256 → r + t ≤ 88 → (D.drop (88 * q + r)).take t = ((sec q).drop r).take t) := by rw [hsec]; exact HIt
 replace HSl : Hid (∀ q, q < 256 → (sec q).length = 88) := by rw [hsec]; exact HSl
 clear h hG hL hD hsec
 go_enter Tryz.func10, Tryz.ntmps10
 go_upto_region 5 with (first
   | (go_at_call 33; go_must (refine HI.out.mono ?_); rintro e w3 ⟨rfl, hw3⟩; subst w3)
   | (go_at_call 37; go_must (refine HDn.out.mono ?_); rintro e w4 ⟨rfl, hK4⟩))
 go_upto_region 6 with (at_make; go_must (refine wpList_make_room rfl _ _ 22 rfl 5 Tryz.underlying22 info5 .i64 .i64 _ many rfl rfl rfl (by omega) ?_); intro w5 hO5 hK5)
 have hk5 := hK4.non hK5
 have hsz := hK4.size
 have HO0 : Hid (OwnB w5 w.heap.size 5 (.slice (some ⟨w4.heap.size, 0, none⟩) 0 many) []) := Lib.hid (own_down hO5 hsz)
 clear hO5 hK4 hK5
 go_loopw [1, 8] (fun t1 v wr => ∃ l : Nat, l ≤ many ∧ t1 = .int .i64 ((at_ + l : Nat) : Int) ∧ OwnB wr w.heap.size 5 v ((D.drop at_).take l) ∧ Keeps Non w wr) (fun t1 _ _ => at_ + many - (intOf t1).toNat)
 case atStart => exact ⟨0, Nat.zero_le _, rfl, HO0.out, hk5⟩
 case round =>
   obtain ⟨l, hl, rfl, hO, hK⟩ := hrel
   obtain ⟨wx, rfl⟩ : ∃ V : World, V = wr := ⟨_, rfl⟩
   obtain ⟨A, c, rfl, hcap, hAt, hnw⟩ := hO.open
   have hll : ((D.drop at_).take l).length = l := by rw [List.length_take, List.length_drop, HDl.out]; omega
   rw [hll] at hO ⊢
   have HO := Lib.hid (And.intro hO hK)
   clear hO hK hAt hnw hcap hll
   by_cases hlt : l < many
   · have hji : (l : Int) < (many : Int) := by omega
     have dlt : decide (l < many) = true := decide_eq_true hlt
     obtain ⟨x, hx⟩ : ∃ x, x = at_ + l := ⟨_, rfl⟩
     rw [← hx]
     obtain ⟨q, hq⟩ : ∃ q, q = x / 88 := ⟨_, rfl⟩
     obtain ⟨r, hr⟩ : ∃ r, r = x % 88 := ⟨_, rfl⟩
     have hq1 : Int.tdiv (x : Int) 88 = (q : Int) := by rw [hq]; rfl
     have hr1 : Int.tmod (x : Int) 88 = (r : Int) := by rw [hr]; rfl
     have hq2 : (x : Int) / 88 = (q : Int) := by omega
     have hr2 : (x : Int) % 88 = (r : Int) := by omega
     have hq5 : q < 256 := by omega
     have hr5 : r < 88 := by omega
     have hr6 : (r : Int) ≤ 88 := by omega
     have HX := Lib.hid (show x = at_ + l ∧ x = 88 * q + r from ⟨hx, by omega⟩)
     have HLx := Lib.hid (HLs.out wx q HO.out.2 hq5)
     clear hx hq hr
     go_upto_region 7 with fail
     go_upto_region 8 with (go_at_call 34; go_must (refine HLx.out.mono ?_); rintro e w6 ⟨b, rfl, hb6, hbl6, hK6⟩)
     obtain ⟨s, hs⟩ : ∃ s, s = 88 - r := ⟨_, rfl⟩
     rw [← hs]
     obtain ⟨u, hu⟩ : ∃ u, u = many - l := ⟨_, rfl⟩
     have hsub : (many : Int) - (l : Int) = (u : Int) := by omega
     have hsubw : IntKind.i64.wrap ((many : Int) - (l : Int)) = (u : Int) := by rw [IntKind.wrap_i64]; omega
     obtain ⟨t, ht⟩ : ∃ t, t = min s u := ⟨_, rfl⟩
     have hts : t ≤ s := by omega
     have hA6 : At w6 (some ⟨b, r, none⟩) (((sec q).drop r).take t) := by
       have := At.dropx (At.blk hb6) rfl r t
       rw [Nat.zero_add] at this
       exact this
     have hnl : (((sec q).drop r).take t).length = t := by rw [List.length_take, List.length_drop, HSl.out q hq5]; omega
     have HO6 := Lib.hid (show OwnB w6 w.heap.size 5 (.slice A l c) ((D.drop at_).take l) ∧ Keeps Non w w6 from ⟨HO.out.1.keep hK6 (fun g _ e => e), HO.out.2.non hK6⟩)
     have HAP : Hid ((D.drop at_).take l ++ ((sec q).drop r).take t = (D.drop at_).take (l + t)) := Lib.hid (by
       rw [List.take_add, List.drop_drop, ← HIt.out q r t hq5 (by omega), ← HX.out.2, HX.out.1])
     have HN := Lib.hid (show _ ∧ _ ∧ _ ∧ _ ∧ _ from ⟨hA6, hnl, hs, hu, ht⟩)
     have hsi : (s : Int) ≤ 88 := by omega
     have hui : (u : Int) ≤ 22528 := by omega
     have ht0 : 0 < t := by omega
     clear hA6 hnl hb6 hbl6 hK6 HLx hq1 hr1 hq2 hr2
     have hbnd : Hid (l + t ≤ many ∧ w.heap.size ≤ w6.heap.size ∧ ((D.drop at_).take l).length = l) := Lib.hid ⟨by omega, HO6.out.2.size, by rw [List.length_take, List.length_drop, HDl.out]; omega⟩
     by_cases hsu : s ≤ u
     · obtain rfl : t = s := by omega
       have dsu : (t : Int) ≤ (u : Int) := by omega
       clear ht hu hs
       go_upto_region 9 with fail
       go_upto_region 10 with (at_builtin; go_must (refine wpList_append_bytes rfl (.tmp 38) (.tmp 39) 22 rfl w.heap.size 5 Tryz.underlying22 info5 (.slice A l c) ((D.drop at_).take l) rfl HO6.out.1 (some ⟨b, r, none⟩) t _ (((sec q).drop r).take t) rfl HN.out.2.1.symm HN.out.1 (by rw [HN.out.2.1, hbnd.out.2.2]; omega) hbnd.out.2.1 ?_); intro v7 w7 hO7 hK7 hat; rw [HAP.out] at hO7)
       have hk7 := HO6.out.2.then hK7 fun i hi e => absurd (HO6.out.1.new i e) (by omega)
       have HF := Lib.hid (show _ ∧ _ from ⟨hO7, hk7⟩)
       have HX7 := Lib.hid (show x + t = at_ + (l + t) by rw [HX.out.1]; omega)
       have hxw : IntKind.i64.wrap ((x : Int) + (t : Int)) = ((x + t : Nat) : Int) := by rw [IntKind.wrap_i64]; have := HX.out.1; omega
       have hxi : (x : Int) + (t : Int) ≤ 22528 := by have := HX.out.1; have := hbnd.out.1; omega
       have HM := Lib.hid (show l + t ≤ many ∧ x < at_ + many from ⟨hbnd.out.1, by have := HX.out.1; omega⟩)
       clear hO7 hk7 hK7 HO6 HO HAP
       go_wp2_with fail
       go_roundw
       case rel => exact ⟨l + t, HM.out.1, by rw [← HX7.out]; go_num, HF.out.1, HF.out.2⟩
       case measure => have := HM.out; simp [intOf]; omega
     · obtain rfl : t = u := by omega
       have dsu : ¬ (s : Int) ≤ (t : Int) := by omega
       clear ht hu hs
       go_upto_region 9 with fail
       go_upto_region 10 with (at_builtin; go_must (refine wpList_append_bytes rfl (.tmp 38) (.tmp 39) 22 rfl w.heap.size 5 Tryz.underlying22 info5 (.slice A l c) ((D.drop at_).take l) rfl HO6.out.1 (some ⟨b, r, none⟩) t _ (((sec q).drop r).take t) rfl HN.out.2.1.symm HN.out.1 (by rw [HN.out.2.1, hbnd.out.2.2]; omega) hbnd.out.2.1 ?_); intro v7 w7 hO7 hK7 hat; rw [HAP.out] at hO7)
       have hk7 := HO6.out.2.then hK7 fun i hi e => absurd (HO6.out.1.new i e) (by omega)
       have HF := Lib.hid (show _ ∧ _ from ⟨hO7, hk7⟩)
       have HX7 := Lib.hid (show x + t = at_ + (l + t) by rw [HX.out.1]; omega)
       have hxw : IntKind.i64.wrap ((x : Int) + (t : Int)) = ((x + t : Nat) : Int) := by rw [IntKind.wrap_i64]; have := HX.out.1; omega
       have hxi : (x : Int) + (t : Int) ≤ 22528 := by have := HX.out.1; have := hbnd.out.1; omega
       have HM := Lib.hid (show l + t ≤ many ∧ x < at_ + many from ⟨hbnd.out.1, by have := HX.out.1; omega⟩)
       clear hO7 hk7 hK7 HO6 HO HAP
       go_wp2_with fail
       go_roundw
       case rel => exact ⟨l + t, HM.out.1, by rw [← HX7.out]; go_num, HF.out.1, HF.out.2⟩
       case measure => have := HM.out; simp [intOf]; omega
   · obtain rfl : l = many := by omega
     have dlt : decide (l < l) = false := decide_eq_false (by omega)
     go_wp2_with fail
     go_ret2
     exact ⟨_, rfl, HO.out.1, HO.out.2⟩
end
end Go.Proofs.YtolknnmaadkgiaaGreatDoor
namespace Go.Proofs.YtolknnmaadkgiaaGreatDoor
set_option maxRecDepth 100000
open Go.RowKit Go.Uc
def Rng (n pool : Nat) (f : Nat → List UInt8) (dec : Nat → Nat → Option UB) : Prop := ∀ j i, j < 4 → i < 8 → Slot pool (f (plc n j + 1 + i)) (dec j i)
theorem slot_zero (pool : Nat) : Slot pool (zeros 128) none := by
 show ¬ Opens _ _
 rintro ⟨h, -⟩
 exact absurd h (by decide)
theorem slot_uber {pool t note : Nat} {r : Pt} (h1 : 1 ≤ t) (h2 : t ≤ 281474976710656) (hn : note < 18446744073709551616) (hr : r.ok) (hb : r.bi ≤ t) : Slot pool (uberB pool t note r) (some ⟨pool, t, note, r⟩) := ⟨rfl, rfl, h1, h2, hn, hr, hb⟩
theorem plc_cases {n j : Nat} (hj : j < 4) : j = 0 ∧ plc n j = 0 ∨ j = 1 ∧ plc n j = 9 ∨ j = 2 ∧ plc n j = n - 18 ∨ j = 3 ∧ plc n j = n - 9 := by
 match j, hj with
 | 0, _ => exact .inl ⟨rfl, rfl⟩
 | 1, _ => exact .inr (.inl ⟨rfl, rfl⟩)
 | 2, _ => exact .inr (.inr (.inl ⟨rfl, rfl⟩))
 | 3, _ => exact .inr (.inr (.inr ⟨rfl, rfl⟩))
theorem mem_marks {n t p : Nat} : p ∈ marks n t ↔ ∃ j, j < 4 ∧ p = plc n j + 1 + t % 8 := by
 unfold marks
 simp only [List.mem_cons, List.not_mem_nil, or_false]
 constructor
 · rintro (h | h | h | h)
   · exact ⟨0, by decide, h⟩
   · exact ⟨1, by decide, h⟩
   · exact ⟨2, by decide, h⟩
   · exact ⟨3, by decide, h⟩
 · rintro ⟨j, hj, h⟩
   match j, hj with
   | 0, _ => exact .inl h
   | 1, _ => exact .inr (.inl h)
   | 2, _ => exact .inr (.inr (.inl h))
   | 3, _ => exact .inr (.inr (.inr h))
theorem marks_ring {n t j i : Nat} (hn : 324 ≤ n) (hj : j < 4) (hi : i < 8) : plc n j + 1 + i ∈ marks n t ↔ i = t % 8 := by
 rw [mem_marks]
 constructor
 · rintro ⟨j', hj', h⟩
   have := Nat.mod_lt t (show 0 < 8 by decide)
   rcases plc_cases (n := n) hj with ⟨rfl, e⟩ | ⟨rfl, e⟩ | ⟨rfl, e⟩ | ⟨rfl, e⟩ <;> rcases plc_cases (n := n) hj' with ⟨rfl, e'⟩ | ⟨rfl, e'⟩ | ⟨rfl, e'⟩ | ⟨rfl, e'⟩ <;> omega
 · rintro rfl
   exact ⟨j, hj, rfl⟩
theorem marks_label {n t j : Nat} (hn : 324 ≤ n) (hj : j < 4) : plc n j ∉ marks n t := fun h => by
 obtain ⟨j', hj', h⟩ := mem_marks.1 h
 have := Nat.mod_lt t (show 0 < 8 by decide)
 rcases plc_cases (n := n) hj with ⟨rfl, e⟩ | ⟨rfl, e⟩ | ⟨rfl, e⟩ | ⟨rfl, e⟩ <;> rcases plc_cases (n := n) hj' with ⟨rfl, e'⟩ | ⟨rfl, e'⟩ | ⟨rfl, e'⟩ | ⟨rfl, e'⟩ <;> omega
theorem marks_mid {n t p : Nat} (hn : 324 ≤ n) (h1 : 18 ≤ p) (h2 : p < n - 18) : p ∉ marks n t := fun h => by
 obtain ⟨j', hj', h⟩ := mem_marks.1 h
 have := Nat.mod_lt t (show 0 < 8 by decide)
 rcases plc_cases (n := n) hj' with ⟨rfl, e'⟩ | ⟨rfl, e'⟩ | ⟨rfl, e'⟩ | ⟨rfl, e'⟩ <;> omega
theorem ring_lt {n j i : Nat} (hn : 324 ≤ n) (hi : i < 8) : plc n j + 1 + i < n := by have := plc_lt n j hn; omega
theorem ring_mid {n p j i : Nat} (hn : 324 ≤ n) (hj : j < 4) (hi : i < 8) (h1 : 18 ≤ p) (h2 : p < n - 18) : plc n j + 1 + i ≠ p := fun h => by
 rcases plc_cases (n := n) hj with ⟨rfl, e'⟩ | ⟨rfl, e'⟩ | ⟨rfl, e'⟩ | ⟨rfl, e'⟩ <;> omega
theorem fmt_label {n j : Nat} {lb : List UInt8} (hj : j < 4) : fmt n lb (plc n j) = lb := by
 unfold fmt
 rcases plc_cases (n := n) hj with ⟨rfl, e⟩ | ⟨rfl, e⟩ | ⟨rfl, e⟩ | ⟨rfl, e⟩ <;> rw [if_pos (by omega)]
theorem fmt_ring {n j i : Nat} {lb : List UInt8} (hn : 324 ≤ n) (hj : j < 4) (hi : i < 8) : fmt n lb (plc n j + 1 + i) = zeros 128 := by
 unfold fmt
 rcases plc_cases (n := n) hj with ⟨rfl, e⟩ | ⟨rfl, e⟩ | ⟨rfl, e⟩ | ⟨rfl, e⟩ <;> rw [if_neg (by omega)]
theorem fmt_mid {n p : Nat} {lb : List UInt8} (hn : 324 ≤ n) (h1 : 18 ≤ p) (h2 : p < n - 18) : fmt n lb p = zeros 128 := by
 unfold fmt
 rw [if_neg (by omega)]
theorem Rng.fmt {n pool : Nat} {lb : List UInt8} (hn : 324 ≤ n) : Rng n pool (fmt n lb) fun _ _ => none := fun j i hj hi => by
 rw [fmt_ring hn hj hi]
 exact slot_zero _
theorem Rng.mark {n pool t note : Nat} {r : Pt} {f : Nat → List UInt8} {dec : Nat → Nat → Option UB} (h : Rng n pool f dec) (hn : 324 ≤ n) (h1 : 1 ≤ t) (h2 : t ≤ 281474976710656) (hno : note < 18446744073709551616) (hr : r.ok) (hb : r.bi ≤ t) : Rng n pool (updL f (marks n t) (uberB pool t note r)) fun j i => if i = t % 8 then some ⟨pool, t, note, r⟩ else dec j i := fun j i hj hi => by
 show Slot pool (updL f (marks n t) (uberB pool t note r) (plc n j + 1 + i)) (if i = t % 8 then some ⟨pool, t, note, r⟩ else dec j i)
 unfold updL
 by_cases e : i = t % 8
 · rw [if_pos ((marks_ring hn hj hi).2 e), if_pos e]
   exact slot_uber h1 h2 hno hr hb
 · rw [if_neg (fun h => e ((marks_ring hn hj hi).1 h)), if_neg e]
   exact h j i hj hi
theorem Rng.fits {n pool : Nat} {f f' : Nat → List UInt8} {dec : Nat → Nat → Option UB} (h : Rng n pool f dec) (hf : ∀ j i, j < 4 → i < 8 → f' (plc n j + 1 + i) = f (plc n j + 1 + i)) : Rng n pool f' dec := fun j i hj hi => by rw [hf j i hj hi]; exact h j i hj hi
theorem sumAt_head (s : S4) (hs : s.ok) (xs : List UInt8) : sumAt (s.bytes ++ xs) 0 = s := by
 obtain ⟨h1, h2, h3, h4⟩ := hs
 obtain ⟨a, b, c, d⟩ := s
 simp only at h1 h2 h3 h4
 have e1 : ((S4.bytes ⟨a, b, c, d⟩ ++ xs).drop 0).take 8 = le 8 a := mid_eq _ [] _ (le 8 b ++ le 8 c ++ le 8 d ++ xs) (by simp [S4.bytes]) _ _ rfl (le_length _ _)
 have e2 : ((S4.bytes ⟨a, b, c, d⟩ ++ xs).drop (0 + 8)).take 8 = le 8 b := mid_eq _ (le 8 a) _ (le 8 c ++ le 8 d ++ xs) (by simp [S4.bytes]) _ _ (by simp [le_length]) (le_length _ _)
 have e3 : ((S4.bytes ⟨a, b, c, d⟩ ++ xs).drop (0 + 16)).take 8 = le 8 c := mid_eq _ (le 8 a ++ le 8 b) _ (le 8 d ++ xs) (by simp [S4.bytes]) _ _ (by simp [le_length]) (le_length _ _)
 have e4 : ((S4.bytes ⟨a, b, c, d⟩ ++ xs).drop (0 + 24)).take 8 = le 8 d := mid_eq _ (le 8 a ++ le 8 b ++ le 8 c) _ xs (by simp [S4.bytes]) _ _ (by simp [le_length]) (le_length _ _)
 unfold sumAt n8
 rw [e1, e2, e3, e4, leVal_le, leVal_le, leVal_le, leVal_le, Nat.mod_eq_of_lt h1, Nat.mod_eq_of_lt h2, Nat.mod_eq_of_lt h3, Nat.mod_eq_of_lt h4]
theorem logB_drop (no : Nat) (bs : List UInt8) : (logB no bs).drop 32 = logIn no bs := by
 unfold logB
 rw [List.drop_append_of_le_length (by rw [S4.bytes_len]; exact Nat.le_refl _), List.drop_of_length_le (by rw [S4.bytes_len]; exact Nat.le_refl _)]
 rfl
theorem logB_no (no : Nat) (bs : List UInt8) (h : no < 18446744073709551616) : n8 (logB no bs) 32 = no := by
 unfold n8
 rw [logB_drop, logIn, List.take_append_of_le_length (by rw [le_length]; exact Nat.le_refl _), List.take_of_length_le (by rw [le_length]; exact Nat.le_refl _), leVal_le]
 exact Nat.mod_eq_of_lt h
theorem logB_ok (no : Nat) (bs : List UInt8) (h1 : 1 ≤ no) (h2 : no ≤ 281474976710656) : LogOk (logB no bs) := by
 refine ⟨?_, ?_, ?_⟩
 · rw [logB_drop]
   exact sumAt_head _ (fl_ok _) _
 · rw [logB_no no bs (by omega)]; exact h1
 · rw [logB_no no bs (by omega)]; exact h2
theorem logB_in (no : Nat) (bs : List UInt8) (hb : bs.length = 88) : ((logB no bs).drop 40).take 88 = bs := by
 rw [show 40 = 32 + 8 from rfl, ← List.drop_drop, logB_drop, logIn, List.drop_append_of_le_length (by rw [le_length]; exact Nat.le_refl _), List.drop_of_length_le (by rw [le_length]; exact Nat.le_refl _)]
 exact List.take_of_length_le (by simp [hb])
theorem single {α : Type} {M : List α} {a : α} (hn : M.Nodup) (h : ∀ u, u ∈ M ↔ u = a) : M = [a] := by
 match M, hn, h with
 | [], _, h => exact absurd ((h a).2 rfl) List.not_mem_nil
 | [x], _, h => rw [(h x).1 (List.mem_cons_self ..)]
 | x :: y :: r, hn, h =>
   have hx := (h x).1 (List.mem_cons_self ..)
   have hy := (h y).1 (List.mem_cons_of_mem _ (List.mem_cons_self ..))
   rw [hx, hy] at hn
   exact absurd (List.mem_cons_self ..) (List.nodup_cons.1 hn).1
end Go.Proofs.YtolknnmaadkgiaaGreatDoor
namespace Go.Proofs.YtolknnmaadkgiaaGreatDoor
set_option maxRecDepth 100000
open Go.RowKit Go.Uc
def St.ov (T : St) (I : List Nat) (v : Nat → Option (List UInt8)) (W : List Wt) : St := ⟨fun i q => if i ∈ I then (v q).getD (T.f i q) else T.f i q, T.g, ⟨T.P.waits ++ W, T.P.left, T.P.off⟩⟩
theorem St.ov_none (T : St) (I : List Nat) : T.ov I (fun _ => none) [] = T := by
 obtain ⟨f, g, a, b, c⟩ := T
 simp [St.ov]
theorem St.ov_step (T : St) (I : List Nat) (v : Nat → Option (List UInt8)) (W W' : List Wt) (q0 : Nat) (c : List UInt8) : (T.ov I v W).all I (fun f => upd f q0 c) W' = T.ov I (fun q => if q = q0 then some c else v q) (W ++ W') := by
 unfold St.ov St.all
 simp only [List.append_assoc, St.mk.injEq, and_true]
 funext i q
 by_cases hi : i ∈ I
 · simp only [if_pos hi, upd]
   by_cases hq : q = q0
   · simp [hq]
   · simp [hq, hi]
 · simp [hi]
theorem lstep_twice (acc : Nat × List UInt8) (c : List UInt8) : lstep (lstep acc c) c = lstep acc c := by
 unfold lstep
 by_cases h : LogOk c ∧ acc.1 < n8 c 32
 · rw [if_pos h]
   rw [if_neg (fun e => Nat.lt_irrefl _ e.2)]
 · rw [if_neg h, if_neg h]
theorem lsec_same {T : St} {F : Nat → Lr} {a : Nat} {ps : List (Nat × Nat)} {c : List UInt8} (h0 : ps ≠ []) (h : ∀ x ∈ ps, T.f (F x.1).ix (18 + a) = c) : lsec T F a ps = lstep (0, zeros 88) c := by
 unfold lsec
 suffices hs : ∀ (ps : List (Nat × Nat)) (acc : Nat × List UInt8), (∀ x ∈ ps, T.f (F x.1).ix (18 + a) = c) → ps.foldl (fun acc x => lstep acc (T.f (F x.1).ix (18 + a))) (lstep acc c) = lstep acc c by
   cases ps with
   | nil => exact absurd rfl h0
   | cons x r =>
     rw [List.foldl_cons, h x (List.mem_cons_self ..)]
     exact hs r _ fun y hy => h y (List.mem_cons_of_mem _ hy)
 intro ps
 induction ps with
 | nil => intro acc _; rfl
 | cons x r ih =>
   intro acc hx
   rw [List.foldl_cons, hx x (List.mem_cons_self ..), lstep_twice]
   exact ih acc fun y hy => hx y (List.mem_cons_of_mem _ hy)
theorem lstep_logB (no : Nat) (s : List UInt8) (h1 : 1 ≤ no) (h2 : no ≤ 281474976710656) (hs : s.length = 88) : lstep (0, zeros 88) (logB no s) = (no, s) := by
 unfold lstep
 rw [logB_no no s (by omega), logB_in no s hs, if_pos ⟨logB_ok no s h1 h2, by show 0 < no; omega⟩]
theorem lsec_congr {T T' : St} {F : Nat → Lr} {a : Nat} {ps : List (Nat × Nat)} (h : ∀ x ∈ ps, T'.f (F x.1).ix (18 + a) = T.f (F x.1).ix (18 + a)) : lsec T' F a ps = lsec T F a ps := by
 unfold lsec
 suffices hs : ∀ (ps : List (Nat × Nat)) (acc : Nat × List UInt8), (∀ x ∈ ps, T'.f (F x.1).ix (18 + a) = T.f (F x.1).ix (18 + a)) → ps.foldl (fun acc x => lstep acc (T'.f (F x.1).ix (18 + a))) acc = ps.foldl (fun acc x => lstep acc (T.f (F x.1).ix (18 + a))) acc from hs ps _ h
 intro ps
 induction ps with
 | nil => intro acc _; rfl
 | cons x r ih =>
   intro acc hx
   rw [List.foldl_cons, List.foldl_cons, hx x (List.mem_cons_self ..)]
   exact ih _ fun y hy => hx y (List.mem_cons_of_mem _ hy)
theorem cat_congr {f f' : Nat → List UInt8} : ∀ (k a : Nat), (∀ q, a ≤ q → q < a + k → f' q = f q) → cat f' a k = cat f a k
 | 0, a, _ => rfl
 | k + 1, a, h => by rw [cat, cat, h a (Nat.le_refl _) (by omega), cat_congr k (a + 1) fun q h1 h2 => h q (by omega) (by omega)]
theorem take_over {P Q : List UInt8} {p r : Nat} (h : P.length = p) : (P ++ Q).take (p + r) = P ++ Q.take r := by subst h; rw [List.take_length_add_append]
theorem drop_over {P Q : List UInt8} {p r : Nat} (h : P.length = p) : (P ++ Q).drop (p + r) = Q.drop r := by subst h; rw [List.drop_length_add_append]
theorem cat_write (f f' : Nat → List UInt8) {c N n r : Nat} {b : List UInt8} (hf : ∀ q, q < N → (f q).length = c) (hn : n < N) (hr : r + b.length ≤ c) (h : ∀ q, q < N → q ≠ n → f' q = f q) (h' : f' n = (f n).take r ++ (b ++ (f n).drop (r + b.length))) :
   cat f' 0 N = (cat f 0 N).take (c * n + r) ++ (b ++ (cat f 0 N).drop (c * n + r + b.length)) := by
 have e : N = n + (1 + (N - n - 1)) := by omega
 have hP : (cat f 0 n).length = c * n := cat_size f hf n 0 (by omega)
 have s1 : ∀ g : Nat → List UInt8, cat g n 1 = g n := fun g => by rw [cat]; show g n ++ [] = _; rw [List.append_nil]
 have hl := hf n hn
 rw [e, cat_split f', cat_split f, cat_split f', cat_split f, Nat.zero_add, s1, s1]
 rw [cat_congr (f := f) (f' := f') n 0 (fun q _ h2 => h q (by omega) (by omega)), cat_congr (f := f) (f' := f') (N - n - 1) (n + 1) (fun q h1 h2 => h q (by omega) (by omega)), h']
 rw [take_over hP, List.take_append_of_le_length (by omega), Nat.add_assoc (c * n) r, drop_over hP, List.drop_append_of_le_length (by omega)]
 simp only [List.append_assoc]
def mid (D b : List UInt8) (at_ l : Nat) : List UInt8 := D.take at_ ++ (b.take l ++ D.drop (at_ + l))
theorem mid_zero (D b : List UInt8) (at_ : Nat) : mid D b at_ 0 = D := by unfold mid; rw [List.take_zero, List.nil_append, Nat.add_zero, List.take_append_drop]
theorem mid_step (D b : List UInt8) (at_ l t : Nat) (hl : l + t ≤ b.length) (hD : at_ + b.length ≤ D.length) : (mid D b at_ l).take (at_ + l) ++ ((b.drop l).take t ++ (mid D b at_ l).drop (at_ + l + t)) = mid D b at_ (l + t) := by
 have h1 : (D.take at_).length = at_ := by rw [List.length_take]; omega
 have h2 : (b.take l).length = l := by rw [List.length_take]; omega
 unfold mid
 rw [take_over h1, List.take_append_of_le_length (by omega), show (b.take l).take l = b.take l by rw [List.take_take, Nat.min_self]]
 rw [Nat.add_assoc at_ l t, drop_over h1, drop_over h2, List.drop_drop, List.take_add]
 simp only [List.append_assoc]
 rw [show at_ + l + t = at_ + (l + t) by omega]
theorem logD_step (T : St) (F : Nat → Lr) (I : List Nat) (v : Nat → Option (List UInt8)) (W W' : List Wt) (ps : List (Nat × Nat)) (h0 : ps ≠ []) (hI : ∀ x ∈ ps, (F x.1).ix ∈ I) (hs : ∀ a, a < 256 → (lsec (T.ov I v W) F a ps).2.length = 88) (n no r : Nat) (b : List UInt8) (hn : n < 256) (h1 : 1 ≤ no) (h2 : no ≤ 281474976710656) (hr : r + b.length ≤ 88) (s : List UInt8) (hsd : s = (lsec (T.ov I v W) F n ps).2.take r ++ (b ++ (lsec (T.ov I v W) F n ps).2.drop (r + b.length))) :
   logD (T.ov I (fun q => if q = 18 + n then some (logB no s) else v q) W') F ps = (logD (T.ov I v W) F ps).take (88 * n + r) ++ (b ++ (logD (T.ov I v W) F ps).drop (88 * n + r + b.length)) := by
 have hsl : s.length = 88 := by
   have := hs n hn
   rw [hsd, List.length_append, List.length_append, List.length_take, List.length_drop]
   omega
 unfold logD
 refine cat_write (c := 88) (N := 256) (fun a => (lsec (T.ov I v W) F a ps).2) _ hs hn hr (fun q hq hqn => ?_) ?_
 · show (lsec (T.ov I _ W') F q ps).2 = (lsec (T.ov I v W) F q ps).2
   rw [lsec_congr fun x hx => ?_]
   show (if _ then ((if 18 + q = 18 + n then some (logB no s) else v (18 + q))).getD _ else _) = (if _ then (v (18 + q)).getD _ else _)
   rw [if_neg (show ¬ 18 + q = 18 + n by omega)]
 · show (lsec (T.ov I _ W') F n ps).2 = _
   rw [lsec_same h0 (c := logB no s) fun x hx => ?_, lstep_logB no s h1 h2 hsl, ← hsd]
   show (if _ then ((if 18 + n = 18 + n then some (logB no s) else v (18 + n))).getD _ else _) = _
   rw [if_pos (hI x hx), if_pos rfl]
   rfl
end Go.Proofs.YtolknnmaadkgiaaGreatDoor
namespace Go.Proofs.YtolknnmaadkgiaaGreatDoor
set_option maxRecDepth 100000
open Go.RowKit Go.Uc Go.Shelf
section
variable {w0 w w' : World} {p m n k pool sz lg : Nat} {tp : Tp} {B : TB} {dv : Sl} {K : Nat → Kb} {T : St} {L Dk : List (Option Nat)} {lk : List Lk} {X : Nat → Lb} {F : Nat → Lr}
theorem pres_all (hall : ∀ k, k < L.length → ∃ b, L[k]? = some (some b)) : ∀ j, j ≤ L.length → (pres L j).length = j ∧ ∀ i, i < j → ∃ b, (pres L j)[i]? = some (i, b) ∧ L[i]? = some (some b)
 | 0, _ => ⟨rfl, fun i hi => by omega⟩
 | j + 1, hj => by
   obtain ⟨h1, h2⟩ := pres_all hall j (by omega)
   obtain ⟨b, hb⟩ := hall j (by omega)
   rw [pres_some hb]
   refine ⟨by simp [h1], fun i hi => ?_⟩
   by_cases hij : i < j
   · obtain ⟨b', e1, e2⟩ := h2 i hij
     exact ⟨b', by rw [List.getElem?_append_left (by omega)]; exact e1, e2⟩
   · obtain rfl : i = j := by omega
     exact ⟨b, by rw [List.getElem?_append_right (by omega), h1]; simp, hb⟩
theorem Tk.setLog (h : Tk w k pool tp B L Dk lk sz lg) (lg' : Nat) : Tk (w.setCell ⟨k, 5, none⟩ (.int .u64 (lg' : Int))) k pool tp B L Dk lk sz lg' ∧ Keeps (Only k) w (w.setCell ⟨k, 5, none⟩ (.int .u64 (lg' : Int))) := by
 have hk : Keeps (Only k) w (w.setCell ⟨k, 5, none⟩ (.int .u64 (lg' : Int))) := (Keeps.refl (Only k) w).set (p := ⟨k, 5, none⟩) rfl _
 have sr : ∀ {α : Type} {e : TypeId} {kk : Nat} {enc : α → List Value} {v : Value} {xs : List α}, RowP w e kk enc v xs → e ≠ 99 → RowP (w.setCell ⟨k, 5, none⟩ (.int .u64 (lg' : Int))) e kk enc v xs := fun hr he => hr.keep hk fun q hq e => by unfold Only at e; subst e; exact own_type hr h.blk (Ne.symm he) hq
 refine ⟨⟨h.blk.set 5 _, sr h.md (by decide), h.mdn, sr h.tr (by decide), h.trn, sr h.lr (by decide), h.lrn, sr h.dr (by decide), h.drn, sr h.lf (by decide), h.lfn, sr h.dk (by decide), h.dkn, h.dkl, ?_, h.ne⟩, hk⟩
 exact ⟨h.mt.blk.one hk (h.mt.blk.ne h.blk (by decide)), sr h.mt.lr (by decide), h.mt.ln, sr h.mt.kr (by decide), h.mt.kn, h.mt.len, h.mt.few⟩
structure Lw (K : Nat → Kb) (I : List Nat) (v : Nat → Option (List UInt8)) (W : List Wt) : Prop where
 rg : ∀ q, v q ≠ none → 18 ≤ q ∧ q < 274
 wt : ∀ y ∈ W, ∃ i ∈ I, y.d = (K i).d ∧ v y.at_ = some y.b
theorem Lw.step {I : List Nat} {v : Nat → Option (List UInt8)} {W W' : List Wt} (h : Lw K I v W) (a : Nat) (ha : a < 256) (hv : v (18 + a) = none) (c : List UInt8) (hW : ∀ y ∈ W', ∃ i ∈ I, y.d = (K i).d ∧ y.at_ = 18 + a ∧ y.b = c) : Lw K I (fun q => if q = 18 + a then some c else v q) (W ++ W') := by
 refine ⟨fun q hq => ?_, fun y hy => ?_⟩
 · by_cases e : q = 18 + a
   · omega
   · exact h.rg q (by simpa [e] using hq)
 · rcases List.mem_append.1 hy with hy | hy
   · obtain ⟨i, hi, e1, e2⟩ := h.wt y hy
     refine ⟨i, hi, e1, ?_⟩
     show (if y.at_ = 18 + a then some c else v y.at_) = _
     rw [if_neg (fun e => by rw [e, hv] at e2; cases e2)]
     exact e2
   · obtain ⟨i, hi, e1, e2, e3⟩ := hW y hy
     refine ⟨i, hi, e1, ?_⟩
     show (if y.at_ = 18 + a then some c else v y.at_) = _
     rw [if_pos e2, e3]
end
end Go.Proofs.YtolknnmaadkgiaaGreatDoor
