/- An append within a row: what lies behind stays. A disk is flushed; a power is cut. A disk is flushed. Disks of one power in memory. A power, and a disk upon it, made. -/
import Derived.Test.YtolknnmaadkgiaaGreatDoorL29
import Derived.Laws.AppendOwn
import Derived.Lib.Builder
set_option linter.unusedVariables false
set_option linter.unusedSimpArgs false
namespace Go.Uc
open Go.RowKit
theorem flat_set {α : Type} {enc : α → List Value} {k : Nat} (henc : ∀ x, (enc x).length = k) : ∀ (L : List α) (m : Nat) (x : α), m < L.length → (L.set m x).flatMap enc = (L.flatMap enc).take (m * k) ++ (enc x ++ (L.flatMap enc).drop (m * k + k))
 | [], m, x, h => absurd h (by simp)
 | y :: L, 0, x, h => by
   rw [List.set_cons_zero, List.flatMap_cons, List.flatMap_cons, Nat.zero_mul, Nat.zero_add, List.take_zero, List.nil_append]
   congr 1
   rw [← henc y, List.drop_left]
 | y :: L, m + 1, x, h => by
   rw [List.set_cons_succ, List.flatMap_cons, List.flatMap_cons, flat_set henc L m x (by simpa using h)]
   have hy := henc y
   rw [show (m + 1) * k = (enc y).length + m * k by rw [hy, Nat.succ_mul, Nat.add_comm], List.take_length_add_append, List.append_assoc]
   congr 2
   rw [show (enc y).length + m * k + k = (enc y).length + (m * k + k) by omega, List.drop_length_add_append]
theorem wp_append_within {α : Type} {P : Program} {o : Oper} {a : Act} {w : World} {Q : Exit → Act → World → Prop} {K : Act → World → Prop} (s x : Operand) (t : TypeId)
   (ho : o.op = .call { callee := .builtin .append, args := #[s, x], argTypes := #[t, t] })
   (e : TypeId) (k : Nat) (enc : α → List Value) (z : Value) (bytes : Nat) (ht : P.underlying t = some (.slice e)) (hi : (P.info? e).map (fun i => (i.zero, i.size, i.bytes)) = some (some z, k, bytes))
   (hk : 0 < k) (henc : ∀ x, (enc x).length = k) (h1 : ∀ x, ∀ u ∈ enc x, u.oneCell' = true)
   (g cap : Nat) (L : List α) (m : Nat) (hm : m < L.length) (hs : a.eval s = .slice (some ⟨g, 0, none⟩) m cap) (hrow : RowP w e k enc (.slice (some ⟨g, 0, none⟩) L.length cap) L)
   (A : Option Addr) (c : Nat) (y : α) (hx : a.eval x = .slice A 1 c) (hr : Ats w A (enc y))
   (h : ∀ w', RowP w' e k enc (.slice (some ⟨g, 0, none⟩) L.length cap) (L.set m y) → Keeps (Only g) w w' → K (a.put o.dst (.slice (some ⟨g, 0, none⟩) (m + 1) cap)) w') : o.wp P a w K Q := by
 obtain ⟨i, hi0, hz0, hz1, hz2⟩ := info_p hi
 have hrun : ∃ w', (Builtin.append_ #[t, t] o.type #[.slice (some ⟨g, 0, none⟩) m cap, .slice A 1 c]).run P w = .ok (.slice (some ⟨g, 0, none⟩) (m + 1) cap) w' ∧
     RowP w' e k enc (.slice (some ⟨g, 0, none⟩) L.length cap) (L.set m y) ∧ Keeps (Only g) w w' := by
   obtain ⟨ad, rfl, hc⟩ := hr (by rw [henc]; exact hk)
   rcases hrow.form with ⟨e1, -⟩ | ⟨g', cap', cur, e1, hB, h4, h5, h6, h7⟩
   · cases e1
   injection e1 with e1 _ e2
   injection e1 with e1
   injection e1 with e1
   subst e1 e2
   have hle : m * k + k ≤ L.length * k := by
     have := Nat.mul_le_mul_right k (show m + 1 ≤ L.length by omega)
     rw [Nat.succ_mul] at this
     exact this
   have hle2 : L.length * k ≤ cap * k := Nat.mul_le_mul_right _ h4
   have hfit : m * i.size + (enc y).length ≤ cur.size := by rw [henc, hz1, h6]; omega
   have hr := run_append_room (P := P) w t o.type e i ht hi0 g m cap cur hB ad 1 c (enc y) (by rw [henc, hz1]; omega) hc (h1 y) (by omega) hfit
   refine ⟨_, hr, ?_, Keeps.row _ _ _⟩
   have hl : (L.set m y).length = L.length := List.length_set
   have := RowP.mk (xs := L.set m y) henc (hB.row (cur.toList.take (m * i.size) ++ enc y ++ cur.toList.drop (m * i.size + (enc y).length)).toArray) (by rw [hl]; exact h4) h5 ?_ ?_
   · rw [hl] at this; exact this
   · simp only [List.size_toArray, List.length_append, List.length_take, List.length_drop, Array.length_toList]
     omega
   · rw [hl, flat_set henc L m y hm, ← h7]
     simp only [List.toList_toArray]
     rw [henc, hz1]
     have hcl : cur.toList.length = cap * k := by rw [Array.length_toList, h6]
     apply List.ext_getElem?
     intro q
     simp only [List.getElem?_take, List.getElem?_append, List.getElem?_drop, List.length_take, List.length_append, henc, hcl, List.append_assoc]
     rw [Nat.min_eq_left (show m * k ≤ cap * k by omega), Nat.min_eq_left hle2, Nat.min_eq_left (show m * k ≤ L.length * k by omega)]
     by_cases q2 : q < m * k
     · have q1 : q < L.length * k := by omega
       simp only [if_pos q1, if_pos q2]
     · simp only [if_neg q2]
       by_cases q3 : q - m * k < k
       · have q1 : q < L.length * k := by omega
         simp only [if_pos q1, if_pos q3]
       · simp only [if_neg q3]
         have e1 : m * k + k + (q - m * k - k) = q := by omega
         simp only [e1]
 obtain ⟨w', hrun, h2, h3⟩ := hrun
 unfold Oper.wp execOp
 simp only [ho, resolve, invoke, builtin, Sem.run_bind, Sem.run_pure, Result.andThen_ok, List.map_toArray, List.map_cons, List.map_nil, hs, hx, hrun]
 exact h w' h2 h3
theorem wpList_append_within {α : Type} {P : Program} {ops : Array Oper} {rest : List Oper} {o : Oper} {a : Act} {w : World} {Q : Exit → Act → World → Prop} (hgd : o.guard = none) (s x : Operand) (t : TypeId)
   (ho : o.op = .call { callee := .builtin .append, args := #[s, x], argTypes := #[t, t] })
   (e : TypeId) (k : Nat) (enc : α → List Value) (z : Value) (bytes : Nat) (ht : P.underlying t = some (.slice e)) (hi : (P.info? e).map (fun i => (i.zero, i.size, i.bytes)) = some (some z, k, bytes))
   (hk : 0 < k) (henc : ∀ x, (enc x).length = k) (h1 : ∀ x, ∀ u ∈ enc x, u.oneCell' = true)
   (g cap : Nat) (L : List α) (m : Nat) (hm : m < L.length) (hs : a.eval s = .slice (some ⟨g, 0, none⟩) m cap) (hrow : RowP w e k enc (.slice (some ⟨g, 0, none⟩) L.length cap) L)
   (A : Option Addr) (c : Nat) (y : α) (hx : a.eval x = .slice A 1 c) (hr : Ats w A (enc y))
   (h : ∀ w', RowP w' e k enc (.slice (some ⟨g, 0, none⟩) L.length cap) (L.set m y) → Keeps (Only g) w w' → wpList P ops Q rest (a.put o.dst (.slice (some ⟨g, 0, none⟩) (m + 1) cap)) w') : wpList P ops Q (o :: rest) a w :=
 wpList_plain hgd fun K hK => wp_append_within s x t ho e k enc z bytes ht hi hk henc h1 g cap L m hm hs hrow A c y hx hr fun w' h2 h3 => hK _ _ (h w' h2 h3)
theorem RowP.front {α : Type} {w : World} {e : TypeId} {k : Nat} {enc : α → List Value} {g cap : Nat} {xs : List α} (henc : ∀ x, (enc x).length = k) (h : RowP w e k enc (.slice (some ⟨g, 0, none⟩) xs.length cap) xs) (n : Nat) (hn : n ≤ xs.length) :
   RowP w e k enc (.slice (some ⟨g, 0, none⟩) n cap) (xs.take n) := by
 rcases h.form with ⟨e1, -⟩ | ⟨g', cap', cur, e1, hB, h4, h5, h6, h7⟩
 · cases e1
 injection e1 with e1 _ e2
 injection e1 with e1
 injection e1 with e1
 subst e1 e2
 have hl : (xs.take n).length = n := by simp; omega
 have := RowP.mk (xs := xs.take n) henc hB (by rw [hl]; omega) h5 h6 ?_
 · rw [hl] at this; exact this
 · rw [hl]
   have h8 : n * k ≤ xs.length * k := Nat.mul_le_mul_right _ hn
   have h9 := congrArg (List.take (n * k)) h7
   rw [List.take_take, Nat.min_eq_left h8] at h9
   rw [h9]
   have h10 : xs.flatMap enc = (xs.take n).flatMap enc ++ (xs.drop n).flatMap enc := by rw [← List.flatMap_append, List.take_append_drop]
   rw [h10]
   exact List.take_left' (by rw [flat_len henc, hl])
end Go.Uc
namespace Go.Proofs.YtolknnmaadkgiaaGreatDoor
set_option maxRecDepth 100000
open Go.RowKit Go.Uc
theorem RowP.range {α : Type} {w : World} {e : TypeId} {k : Nat} {enc : α → List Value} {v : Value} {xs : List α} (henc : ∀ x, (enc x).length = k) (h : RowP w e k enc v xs) {i : Nat} (hi : i < xs.length) : ∃ g cap, v = .slice (some ⟨g, 0, none⟩) xs.length cap ∧ xs.length ≤ cap ∧ w.rangeAt g (i * k) (enc xs[i]) := by
 obtain ⟨g, cap, e1, h1, h2, h3, -, -⟩ := h.at_ henc hi
 refine ⟨g, cap, e1, h1, fun j v hj => ?_⟩
 have hlt : j < k := by
   have := (List.getElem?_eq_some_iff.1 hj).1
   rw [henc] at this
   exact this
 rw [h3 j hlt, hj]
def kept (d : Nat) (L : List Wt) : List Wt := L.filter fun x => decide (x.d ≠ d)
theorem kept_snoc_no (d : Nat) (L : List Wt) (x : Wt) (h : x.d = d) : kept d (L ++ [x]) = kept d L := by simp [kept, h]
theorem kept_snoc_yes (d : Nat) (L : List Wt) (x : Wt) (h : x.d ≠ d) : kept d (L ++ [x]) = kept d L ++ [x] := by simp [kept, h]
theorem kept_mem {d : Nat} {L : List Wt} {x : Wt} (h : x ∈ kept d L) : x ∈ L := (List.mem_filter.1 h).1
def Dsk.idle (s : Dsk) : Dsk := { s with waits := kept s.d s.waits }
theorem Dsk.idle_ok {s : Dsk} (h : s.ok) : s.idle.ok := ⟨h.n1, h.n2, h.pl, h.nw, h.l1, h.l2⟩
theorem info100 : ∃ j, Tryz.prog.info? 110 = some j ∧ j.size ≠ 0 := by
 have h : (Tryz.prog.info? 110).map (·.size) = some 4 := by kernel_rfl
 cases hj : Tryz.prog.info? 110 with
 | none => rw [hj] at h; cases h
 | some j => rw [hj] at h; injection h with h; exact ⟨j, rfl, by have h' : j.size = 4 := h; omega⟩
theorem neq35 (d : Nat) (w : World) : (binOp .neq 49 (.pointer (some ⟨d, 0, none⟩)) (.pointer (some ⟨d, 0, none⟩))).run Tryz.prog w = .ok (.bool false) w := by
 obtain ⟨j, hj, -⟩ := info100
 exact Lib.run_neq_ptr_same w ⟨d, 0, none⟩ Tryz.underlying49 hj
theorem neq35_other {d e : Nat} {w : World} {ca cb : Array Value} (hne : d ≠ e) (ha : Blk w d 110 ca) (hb : Blk w e 110 cb) : (binOp .neq 49 (.pointer (some ⟨d, 0, none⟩)) (.pointer (some ⟨e, 0, none⟩))).run Tryz.prog w = .ok (.bool true) w := by
 obtain ⟨j, hj, hs⟩ := info100
 have hn : (⟨d, 0, none⟩ : Addr) ≠ ⟨e, 0, none⟩ := fun h => hne (by injection h)
 have h : ∀ q : Nat, (Op.equalIn (q + 1) 49 (.pointer (some ⟨d, 0, none⟩)) (.pointer (some ⟨e, 0, none⟩))).run Tryz.prog w = .ok false w := fun q => by
   simp [Op.equalIn, run_underlying Tryz.underlying49, sizeOf, typeInfo, hj, hs, run_sameAddr_other w hn ha hb]
 simp only [binOp]
 simp [Op.equal, Op.maxDepth, h 9999]
theorem wpList_one97 {ops : Array Oper} {rest : List Oper} {o : Oper} {a : Act} {w : World} {Q : Exit → Act → World → Prop} (hgd : o.guard = none) (x : Operand) (ho : o.op = .buildSlice 102 1 #[(0, x)])
   (cs : Array Value) (hc : cs.size = 130) (hx : a.eval x = .agg cs) (h : wpList Tryz.prog ops Q rest (a.put o.dst (.slice (some ⟨w.heap.size, 0, none⟩) 1 1)) (w.alloc (.cells cs 107))) : wpList Tryz.prog ops Q (o :: rest) a w := by
 refine wpList_plain hgd fun K hK => ?_
 unfold Oper.wp execOp
 have e : (#[(0, x)] : Array (Nat × Operand)).map (fun (i, x) => (i, a.eval x)) = #[(0, .agg cs)] := by simp [hx]
 simp only [ho, e, Sem.run_bind, bs91 cs hc w, Result.andThen_ok, Sem.run_pure]
 exact hK _ _ h
set_option maxHeartbeats 4000000 in
theorem drop73_any {w0 w : World} {K : Kb} {s : Dsk} {wv : Sl} (h : Dm w0 w K s wv) (hW : s.waits.length ≤ 1099511627776) :
   Calls Tryz.prog 141 #[.pointer (some ⟨K.p, 0, none⟩), .pointer (some ⟨K.d, 0, none⟩)] w fun e w' => e = .returned (.tuple #[]) ∧ Dm w0 w' K s.idle ⟨wv.A, (kept s.d s.waits).length, wv.c⟩ ∧ Keeps (fun g => g = K.p ∨ g ∈ own wv.v) w w' := by
 obtain ⟨z, hp⟩ := h.pw
 have hwn := h.wn
 obtain ⟨wA, wn, wc⟩ := wv
 simp only at hwn
 subst hwn
 have p0 : w.cell? ⟨K.p, 0, none⟩ = some (.slice wA s.waits.length wc) := hp.cell 0
 have hle : s.waits.length ≤ wc := by
   obtain ⟨A, c, e, h1, -⟩ := h.wt.val
   injection e with e1 e2 e3
   have h1' : s.waits.length ≤ c := h1
   have e3' : wc = c := e3
   omega
 have hpn : K.p ∉ own (.slice wA s.waits.length wc) := own_type h.wt hp (by decide)
 have HP := Lib.hid (fun V (hV : Keeps (· ∈ own (.slice wA s.waits.length wc)) w V) => hp.keep hV hpn)
 have HO := Lib.hid (fun V (hV : Keeps (· ∈ own (.slice wA s.waits.length wc)) w V) x (hx : x ∈ s.waits) => (h.od x hx).imp fun _ i => i.keep hV (own_type h.wt i (by decide)))
 have HDk := Lib.hid (fun V (hV : Keeps (· ∈ own (.slice wA s.waits.length wc)) w V) => h.dk.keep hV (own_type h.wt h.dk (by decide)))
 have H := Lib.hid h
 have H0 := h.wt
 have HDd := Lib.hid h.hd
 clear h
 obtain ⟨L, hL⟩ : ∃ L, L = s.waits := ⟨_, rfl⟩
 rw [← hL] at p0 hle hW HP HO HDk H0 hpn
 have HL := Lib.hid hL
 clear hL hp hpn
 go_enter Tryz.func141, Tryz.ntmps141
 go_upto_region 2 with fail
 go_loopw [4, 17] (fun l i wr => ∃ (j m : Nat) (X : List Wt), j ≤ L.length ∧ i = .int .i64 (j : Int) ∧ l = .slice wA m wc ∧ X.length = L.length ∧ m ≤ j ∧ X.take m = kept K.d (L.take j) ∧ X.drop j = L.drop j ∧ RowP wr 107 130 encW (.slice wA L.length wc) X ∧ Keeps (· ∈ own (.slice wA L.length wc)) w wr) (fun _ i _ => L.length - (intOf i).toNat)
 case atStart => exact ⟨0, 0, L, Nat.zero_le _, rfl, rfl, rfl, Nat.le_refl _, by simp [kept], rfl, H0, Keeps.refl _ _⟩
 case round =>
   obtain ⟨j, m, X, hj, rfl, rfl, hXl, hmj, hXt, hXd, hX, hK⟩ := hrel
   obtain ⟨wx, rfl⟩ : ∃ V : World, V = wr := ⟨_, rfl⟩
   have HXT := Lib.hid hXt
   have HXD := Lib.hid hXd
   clear hXt hXd
   by_cases hlt : j < L.length
   · obtain ⟨g, cap, e1, h2, hra⟩ := RowP.range encW_len hX (show j < X.length by omega)
     rw [hXl] at e1 h2
     injection e1 with e1 _ e2
     subst e1 e2
     have hji : (j : Int) < (L.length : Int) := by omega
     obtain ⟨x, hx⟩ : ∃ x, x = L[j] := ⟨_, rfl⟩
     have hXj : X[j]'(by omega) = x := by
       have e := congrArg (fun l => l[0]?) HXD.out
       simp only [List.getElem?_drop, Nat.add_zero] at e
       rw [List.getElem?_eq_getElem (by omega), List.getElem?_eq_getElem hlt] at e
       injection e with e
       rw [e, hx]
     rw [hXj] at hra
     have HTk : Hid (L.take (j + 1) = L.take j ++ [x]) := Lib.hid (by rw [hx, List.take_append_getElem hlt])
     have HMx : Hid (x ∈ L) := Lib.hid (by rw [hx]; exact List.getElem_mem hlt)
     clear hx hXj
     have hB := Blk.new wx 107 Tryz.zeroCells107
     have hkb := (Keeps.refl Non wx).alloc (.cells Tryz.zeroCells107 107)
     have hin : (Tryz.prog.info? 107).map (·.size) = some (encW x).toArray.size := by rw [List.size_toArray, encW_len]; kernel_rfl
     have hzs : Tryz.zeroCells107.size = (encW x).toArray.size := by rw [zsize97, List.size_toArray, encW_len]
     have hone : (encW x).toArray.all (·.oneCell') = true := all_oneCell_toArray (encW_one x)
     go_upto_region 4 with (first
       | ((with_reducible show wpList _ _ _ ({ dst := some 20, op := _, type := _, pos := _, after := _, guard := _ } :: _) _ _); go_must (refine wpList_load_mid rfl 107 (.tmp 19) rfl g (j * 130) (by kernel_rfl) (encW x) _ hra Tryz.underlying107 rfl (by rw [encW_len]; kernel_rfl) ?_))
       | ((with_reducible show wpList _ _ _ ({ dst := none, op := Op.store 107 _ _, type := _, pos := _, after := _, guard := _ } :: _) _ _); go_must (refine wpList_store_blk rfl 107 (.tmp 6) (.tmp 20) rfl wx.heap.size (encW x).toArray (by kernel_rfl) (by kernel_rfl) 107 _ hB hin hzs hone ?_); intro w4 hB4 hK4))
     have hk4 : Keeps Non wx w4 := hkb.then hK4 fun i hi e => by unfold Only at e; omega
     obtain ⟨pw, hpw⟩ : ∃ z, z = wx.heap.size := ⟨_, rfl⟩
     rw [← hpw] at hB4 hK4 ⊢
     have HPW := Lib.hid hpw
     clear hpw hra hB hkb hin hzs hone
     have hKx4 := hK.trans (hk4.of_non (S := (· ∈ own (.slice (some ⟨g, 0, none⟩) L.length wc))))
     have hX4 := hX.non hk4
     have c0 : w4.cell? ⟨pw, 0, none⟩ = some (.pointer (some ⟨x.d, 0, none⟩)) := hB4.cell 0
     obtain ⟨ca, hca⟩ := HO.out w4 hKx4 x HMx.out
     have hdk4 := HDk.out w4 hKx4
     have HK4 := Lib.hid hKx4
     clear hKx4
     by_cases hd : x.d = K.d
     · have hnq : (binOp .neq 49 (.pointer (some ⟨x.d, 0, none⟩)) (.pointer (some ⟨K.d, 0, none⟩))).run Tryz.prog w4 = .ok (.bool false) w4 := by rw [hd]; exact neq35 K.d w4
       have HD := Lib.hid hd
       clear hd hca hdk4
       go_wp2_with fail
       go_roundw
       case rel =>
         refine ⟨j + 1, m, X, by omega, by go_num, rfl, hXl, by omega, ?_, ?_, hX4, HK4.out⟩
         · rw [HTk.out, kept_snoc_no _ _ _ HD.out]; exact HXT.out
         · have e := congrArg (List.drop 1) HXD.out
           rw [List.drop_drop, List.drop_drop] at e
           exact e
       case measure => simp [intOf]; omega
     · have hnq : (binOp .neq 49 (.pointer (some ⟨x.d, 0, none⟩)) (.pointer (some ⟨K.d, 0, none⟩))).run Tryz.prog w4 = .ok (.bool true) w4 := neq35_other hd hca hdk4
       have HD := Lib.hid hd
       clear hd hca hdk4
       have hmX : m < X.length := by omega
       have hka := (Keeps.refl Non w4).alloc (.cells (encW x).toArray 107)
       have hXa := hX4.non hka
       have hAt : Ats (w4.alloc (.cells (encW x).toArray 107)) (some ⟨w4.heap.size, 0, none⟩) (encW x) := by
         have : Ats (w4.alloc (.cells (encW x).toArray 107)) (some ⟨w4.heap.size, 0, none⟩) ([x].flatMap encW) := Ats.lit w4 _ 107 _ (by simp)
         simpa using this
       rw [← hXl] at hXa
       go_upto_region 6 with (first
         | ((with_reducible show wpList _ _ _ ({ dst := some 26, op := _, type := _, pos := _, after := _, guard := _ } :: _) _ _); go_must (refine wpList_load_row rfl 107 (.tmp 6) rfl pw rfl 107 (encW x).toArray (0, 0) _ hB4 Tryz.underlying107 rfl (by rw [List.size_toArray, encW_len]; kernel_rfl) ?_))
         | ((with_reducible show wpList _ _ _ ({ dst := some 27, op := _, type := _, pos := _, after := _, guard := _ } :: _) _ _); go_must (refine wpList_one97 rfl (.tmp 26) rfl (encW x).toArray (by rw [List.size_toArray, encW_len]) (by kernel_rfl) ?_))
         | ((with_reducible show wpList _ _ _ ({ dst := some 28, op := _, type := _, pos := _, after := _, guard := _ } :: _) _ _); go_must (refine wpList_append_within (o := ⟨some 28, _, _, _, _, _⟩) rfl (.tmp 25) (.tmp 27) 102 rfl 107 130 encW (.agg Tryz.zeroCells107) 144 Tryz.underlying102 info97 (by decide) encW_len encW_one g wc X m hmX (by kernel_rfl) hXa (some ⟨w4.heap.size, 0, none⟩) 1 x (by kernel_rfl) hAt ?_); intro w6 hX6 hK6))
       go_wp2_with fail
       go_roundw
       case rel =>
         have hl : (X.set m x).length = X.length := List.length_set
         refine ⟨j + 1, m + 1, X.set m x, by omega, by go_num, rfl, by omega, by omega, ?_, ?_, ?_, ?_⟩
         · rw [HTk.out, kept_snoc_yes _ _ _ HD.out, ← HXT.out]
           rw [List.take_add_one, List.getElem?_set_self hmX, List.take_set_of_le (Nat.le_refl m)]
           rfl
         · have e := congrArg (List.drop 1) HXD.out
           rw [List.drop_drop, List.drop_drop] at e
           rw [List.drop_set_of_lt (by omega)]
           exact e
         · rw [hXl] at hX6
           exact hX6
         · refine HK4.out.trans ((hka.of_non).trans (hK6.mono fun k e => ?_))
           unfold Only at e
           rw [e, own_slice, List.mem_singleton]
       case measure => simp [intOf]; omega
   · obtain rfl : j = L.length := by omega
     have hml : m ≤ X.length := by omega
     have hkl : (kept K.d L).length = m := by
       have e := HXT.out
       rw [List.take_length] at e
       rw [← e, List.length_take]
       omega
     have hKm : Hid (X.take m = kept K.d L) := Lib.hid (by have e := HXT.out; rw [List.take_length] at e; exact e)
     have HKL := Lib.hid hkl
     clear hkl
     have hpx := HP.out wx hK
     have f0 := hpx.frozen 0
     have p0x : wx.cell? ⟨K.p, 0, none⟩ = some (.slice wA L.length wc) := hpx.cell 0
     have HPX := Lib.hid hpx
     have HK := Lib.hid hK
     have HX9 := Lib.hid hX
     clear hpx hK hX
     go_wp2_with fail
     go_end0
     have hk9 : Keeps (Only K.p) wx (wx.setCell ⟨K.p, 0, none⟩ (.slice wA m wc)) := (Keeps.refl (Only K.p) _).set (p := ⟨K.p, 0, none⟩) rfl _
     have hkz : Keeps (fun g => g = K.p ∨ g ∈ own (.slice wA L.length wc)) w (wx.setCell ⟨K.p, 0, none⟩ (.slice wA m wc)) := (HK.out.mono fun k e => .inr e).trans (hk9.mono fun k e => .inl e)
     have hLs := HL.out
     subst hLs
     have hD := H.out
     have hpx := HPX.out
     have hww : RowP wx 107 130 encW (.slice wA s.waits.length wc) X := HX9.out
     have hown : ∀ n, own (.slice wA n wc) = own (.slice wA s.waits.length wc) := fun n => by cases wA <;> rfl
     have hks : kept s.d s.waits = kept K.d s.waits := by rw [HDd.out]
     refine ⟨rfl, ?_, hkz⟩
     have hkF : Keeps (Fr K ⟨wA, s.waits.length, wc⟩) w (wx.setCell ⟨K.p, 0, none⟩ (.slice wA m wc)) := hkz.mono fun k e => by
       rcases e with e | e
       · exact .inl e
       · exact .inr (.inr (.inr e))
     rw [hks, HKL.out]
     have hpl9 := (hD.pl.keep HK.out (own_type hD.wt hD.pl (by decide))).one hk9 (hD.pl.ne H.out.pw.choose_spec (by decide))
     have hnw9 := (hD.nw.keep HK.out (own_type hD.wt hD.nw (by decide))).one hk9 (hD.nw.ne H.out.pw.choose_spec (by decide))
     refine hD.next hkF ⟨z, hpx.set 0 _⟩ hpl9 hnw9 ?_ ?_ ?_ (Dsk.idle_ok hD.ok) rfl rfl (fun y hy => .inl (kept_mem hy))
     · show RowP _ 107 130 encW (.slice wA m wc) (kept s.d s.waits)
       rw [hks, ← hKm.out]
       have hX9 : RowP (wx.setCell ⟨K.p, 0, none⟩ (.slice wA m wc)) 107 130 encW (.slice wA s.waits.length wc) X := hww.keep hk9 fun q hq e => by unfold Only at e; exact own_type hww hpx (by decide) (e ▸ hq)
       rcases hX9.form with ⟨e, e2⟩ | ⟨g, cap, cur, e, h3, h4, h5, h6, h7⟩
       · injection e with e1 _ e3
         subst e1 e3
         have hx0 : X = [] := e2
         subst hx0
         have hm0 : m = 0 := by simp at hml; exact hml
         subst hm0
         exact RowP.nil _ _ _ _
       · injection e with e1 _ e3
         subst e1 e3
         rw [← hXl] at hX9
         exact hX9.front encW_len m hml
     · show m = (kept s.d s.waits).length
       rw [hks, HKL.out]
     · intro q hq
       left
       have hq' : q ∈ own (.slice wA m wc) := hq
       rw [hown] at hq'
       exact hq'
end Go.Proofs.YtolknnmaadkgiaaGreatDoor
namespace Go.Proofs.YtolknnmaadkgiaaGreatDoor
set_option maxRecDepth 100000
open Go.RowKit Go.Uc
def Dsk.flush (s : Dsk) : Dsk := { s with plat := s.now, waits := kept s.d s.waits }
theorem Dsk.flush_ok {s : Dsk} (h : s.ok) : s.flush.ok := ⟨h.n1, h.n2, h.nw, h.nw, h.l1, h.l2⟩
def Dsk.laid (s : Dsk) : Dsk := { s with plat := s.now }
theorem Dsk.laid_ok {s : Dsk} (h : s.ok) : s.laid.ok := ⟨h.n1, h.n2, h.nw, h.nw, h.l1, h.l2⟩
set_option maxHeartbeats 4000000 in
theorem flush33_any {w0 w : World} {K : Kb} {s : Dsk} {wv : Sl} (h : Dm w0 w K s wv) (ho : s.off = false) (hW : s.waits.length ≤ 1099511627776) :
   Calls Tryz.prog 90 #[.pointer (some ⟨K.d, 0, none⟩)] w fun e w' => e = .returned (.int .i64 0) ∧ Dm w0 w' K s.flush ⟨wv.A, (kept s.d s.waits).length, wv.c⟩ ∧ Keeps (Fr K wv) w w' := by
 have HD : Hid (Calls Tryz.prog 127 #[.pointer (some ⟨K.d, 0, none⟩)] w fun e w' => e = .returned (.int .i64 0) ∧ w' = w) := Lib.hid (by have := down70_any h; rw [ho] at this; exact this)
 have hkd : Keeps Non w w.drew := (Keeps.refl Non w).drew
 have hd := h.dk.non hkd
 have d0 : w.cell? ⟨K.d, 0, none⟩ = some (.pointer (some ⟨K.p, 0, none⟩)) := h.dk.cell 0
 have d1 : w.drew.cell? ⟨K.d, 1, none⟩ = some (.slice (some ⟨K.pl, 0, none⟩) (128 * s.n) (128 * s.n)) := hd.cell 1
 have d2 : w.drew.cell? ⟨K.d, 2, none⟩ = some (.slice (some ⟨K.nw, 0, none⟩) (128 * s.n) (128 * s.n)) := hd.cell 2
 have hpl := h.pl.non hkd
 have hA : At w.drew (some ⟨K.nw, 0, none⟩) s.now := At.blk (h.nw.non hkd)
 have hl1 := h.ok.pl
 have hl2 := h.ok.nw
 have hm : Hid (s.now.length = Nat.min (128 * s.n) (128 * s.n)) := Lib.hid (by rw [hl2]; exact (Nat.min_self _).symm)
 have hf : Hid (0 + s.now.length ≤ s.plat.length) := Lib.hid (by rw [hl1, hl2]; omega)
 have HE : Hid (s.plat.take 0 ++ (s.now ++ s.plat.drop (0 + s.now.length)) = s.now) := Lib.hid (by rw [List.drop_eq_nil_of_le (by rw [hl1, hl2]; omega)]; simp)
 have HL := Lib.hid (fun V (hV : Blk V K.pl 5 (pc s.now)) (hk : Keeps (Only K.pl) w V) => show Dm w0 V K s.laid wv from by
   obtain ⟨z, hp⟩ := h.pw
   exact h.next (hk.mono fun k e => .inr (.inl e)) ⟨z, hp.one hk (hp.ne h.pl (by decide))⟩ hV (h.nw.one hk (Ne.symm h.ne)) (h.wt.keep hk fun q hq e => by unfold Only at e; exact own_type h.wt h.pl (by decide) (e ▸ hq)) h.wn (fun q hq => .inl hq) (Dsk.laid_ok h.ok) rfl rfl (fun x hx => .inl hx))
 have hW' : s.laid.waits.length ≤ 1099511627776 := hW
 have hdn := h.dk
 have hdp : K.d ≠ K.pl := h.dk.ne h.pl (by decide)
 clear h hl1 hl2 hW
 go_enter Tryz.func90, Tryz.ntmps90
 go_upto_region 4 with (go_at_call 127; go_must (refine HD.out.mono ?_); rintro e w9 ⟨rfl, hw9⟩; subst w9)
 go_region_law ((with_reducible show (if Region.wanted ({ dst := some 17, op := _, type := _, pos := _, after := _, guard := _ } : Oper) _ = true then _ else _)); go_must (refine step_copy_bytes (o := ⟨some 17, _, _, _, _, _⟩) rfl (.tmp 12) (.tmp 16) 22 22 rfl 5 Tryz.underlying22 infoS5 (some ⟨K.pl, 0, none⟩) (some ⟨K.nw, 0, none⟩) (128 * s.n) (128 * s.n) (128 * s.n) (128 * s.n) (by kernel_rfl) (by kernel_rfl) K.pl 0 s.plat 5 hpl s.now hm.out rfl hA hf.out ?_); intro w11 hB11 hK11; rw [HE.out] at hB11)
 all_goals
   have hk1 : Keeps (Only K.pl) w w11 := ((Keeps.refl (Only K.pl) w).drew).trans hK11
   have hL1 := HL.out w11 hB11 hk1
   have HDr := Lib.hid (drop73_any hL1 hW')
   have e0 : w11.cell? ⟨K.d, 0, none⟩ = some (.pointer (some ⟨K.p, 0, none⟩)) := (hdn.one hk1 hdp).cell 0
   clear d0 d1 d2 hL1
   go_wp2_with (go_at_call 141; go_must (refine HDr.out.mono ?_); rintro e w12 ⟨rfl, hD12, hK12⟩)
   go_ret
   exact ⟨rfl, hD12, (hk1.mono fun k e => .inr (.inl e)).trans (hK12.mono fun k e => e.elim .inl fun e => .inr (.inr (.inr e)))⟩
end Go.Proofs.YtolknnmaadkgiaaGreatDoor
namespace Go.Proofs.YtolknnmaadkgiaaGreatDoor
set_option maxRecDepth 100000
open Go.RowKit Go.Uc
structure Pow where
 waits : List Wt
 left : Int
 off : Bool
def Dsk.pow (s : Dsk) : Pow := ⟨s.waits, s.left, s.off⟩
def Dsk.as (s t : Dsk) : Dsk := { s with waits := t.waits, left := t.left, off := t.off }
def encP (d : Nat) : List Value := [.pointer (some ⟨d, 0, none⟩)]
theorem encP_len (d : Nat) : (encP d).length = 1 := rfl
theorem encP_one (d : Nat) : ∀ u ∈ encP d, u.oneCell' = true := by intro u hu; simp [encP] at hu; subst hu; rfl
structure Gm (w0 w : World) (p : Nat) (dv wv : Sl) (P : Pow) (m : Nat) (K : Nat → Kb) (S : Nat → Dsk) : Prop where
 pb : ∃ z, Blk w p 104 #[wv.v, .int .i64 P.left, .bool P.off, .int .i64 z, dv.v]
 dm : ∀ i, i < m → Dm w0 w (K i) (S i) wv
 kp : ∀ i, i < m → (K i).p = p ∧ (K i).dv = dv
 po : ∀ i, i < m → (S i).pow = P
 ap : ∀ i j, i < m → j < m → i ≠ j → (K i).d ≠ (K j).d ∧ (K i).pl ≠ (K j).pl ∧ (K i).pl ≠ (K j).nw ∧ (K i).nw ≠ (K j).pl ∧ (K i).nw ≠ (K j).nw
 row : RowP w 49 1 encP dv.v ((List.range m).map fun i => (K i).d)
 dn : dv.n = m
 wt : RowP w 107 130 encW wv.v P.waits
 wn : wv.n = P.waits.length
 at_ : ∀ x ∈ P.waits, ∃ j, j < m ∧ x.d = (K j).d ∧ x.at_ < (S j).n
 new : w0.heap.size ≤ p ∧ (∀ q ∈ own dv.v, w0.heap.size ≤ q) ∧ ∀ q ∈ own wv.v, w0.heap.size ≤ q
 keep : Keeps Non w0 w
section
variable {w0 w w' : World} {p m : Nat} {dv wv : Sl} {P : Pow} {K : Nat → Kb} {S : Nat → Dsk}
theorem Gm.non (h : Gm w0 w p dv wv P m K S) (hk : Keeps Non w w') : Gm w0 w' p dv wv P m K S :=
 ⟨h.pb.imp fun _ i => i.non hk, fun i hi => (h.dm i hi).non hk, h.kp, h.po, h.ap, h.row.non hk, h.dn, h.wt.non hk, h.wn, h.at_, h.new, h.keep.non hk⟩
theorem Dm.freeRow' {α : Type} {K : Kb} {s : Dsk} {v : Sl} {e : TypeId} {k : Nat} {enc : α → List Value} {xs : List α} (h : Dm w0 w K s wv) (hr : RowP w e k enc v.v xs) (h1 : e ≠ 104) (h5 : e ≠ 5) (h97 : e ≠ 107) : ∀ q ∈ own v.v, ¬ Fr K wv q := by
 intro q hq
 rcases hr.form with ⟨e1, -⟩ | ⟨g, cap, cur, e1, hB, -⟩
 · rw [e1] at hq; exact (List.not_mem_nil hq).elim
 · rw [e1, own_slice, List.mem_singleton] at hq
   subst hq
   exact h.free hB h1 h5 h97
theorem Gm.far (h : Gm w0 w p dv wv P m K S) {i j : Nat} (hi : i < m) (hj : j < m) (hij : i ≠ j) : ¬ Fr (K i) wv (K j).pl ∧ ¬ Fr (K i) wv (K j).nw ∧ ¬ Fr (K i) wv (K j).d := by
 obtain ⟨a1, a2, a3, a4, a5⟩ := h.ap i j hi hj hij
 have hdi := h.dm i hi
 have hdj := h.dm j hj
 obtain ⟨z, hp⟩ := hdi.pw
 refine ⟨?_, ?_, hdi.free hdj.dk (by decide) (by decide) (by decide)⟩
 · rintro (e | e | e | e)
   · exact hdj.pl.ne hp (by decide) e
   · exact a2 e.symm
   · exact a4 e.symm
   · exact own_type hdi.wt hdj.pl (by decide) e
 · rintro (e | e | e | e)
   · exact hdj.nw.ne hp (by decide) e
   · exact a3 e.symm
   · exact a5 e.symm
   · exact own_type hdi.wt hdj.nw (by decide) e
theorem Gm.turn (h : Gm w0 w p dv wv P m K S) {i : Nat} (hi : i < m) {s' : Dsk} {wv' : Sl} (hd : Dm w0 w' (K i) s' wv') (hk : Keeps (Fr (K i) wv) w w')
   (hw : ∀ x ∈ s'.waits, x ∈ (S i).waits ∨ (x.d = (K i).d ∧ x.at_ < (S i).n)) (hn : s'.n = (S i).n) :
   Gm w0 w' p dv wv' s'.pow m K (fun j => if j = i then s' else (S j).as s') := by
 obtain ⟨hp, hdv⟩ := h.kp i hi
 have hdi := h.dm i hi
 obtain ⟨z, hz⟩ := hd.pw
 rw [hp, hdv] at hz
 refine ⟨⟨z, hz⟩, fun j hj => ?_, h.kp, fun j hj => ?_, h.ap, ?_, h.dn, hd.wt, hd.wn, fun x hx => ?_, ⟨h.new.1, h.new.2.1, hd.new.2.2.2.2⟩, hd.keep⟩
 · by_cases e : j = i
   · subst e
     simp only [if_true]
     exact hd
   · simp only [if_neg e]
     have hdj := h.dm j hj
     obtain ⟨f1, f2, f3⟩ := h.far hi hj (Ne.symm e)
     obtain ⟨hpj, hdvj⟩ := h.kp j hj
     obtain ⟨n1, n2, n3, n4, n5⟩ := hdj.new
     refine ⟨⟨hdj.ok.n1, hdj.ok.n2, hdj.ok.pl, hdj.ok.nw, hd.ok.l1, hd.ok.l2⟩, ⟨z, ?_⟩, hdj.dk.keep hk f3, hdj.pl.keep hk f1, hdj.nw.keep hk f2, hdj.hd, hd.od, hd.wt, hd.wn, hdj.ne, ⟨n1, n2, n3, n4, hd.new.2.2.2.2⟩, hd.keep⟩
     rw [hpj, hdvj]
     exact hz
 · by_cases e : j = i
   · subst e; simp only [if_true]
   · simp only [if_neg e]; rfl
 · exact h.row.keep hk (hdi.freeRow' h.row (by decide) (by decide) (by decide))
 · have hpo := h.po i hi
   rcases hw x hx with e | ⟨e1, e2⟩
   · have : x ∈ P.waits := by rw [← hpo]; exact e
     obtain ⟨j, hj, a, b⟩ := h.at_ x this
     refine ⟨j, hj, a, ?_⟩
     by_cases e : j = i
     · subst e; simp only [if_true]; omega
     · simp only [if_neg e]; exact b
   · refine ⟨i, hi, e1, ?_⟩
     simp only [if_true]
     omega
end
end Go.Proofs.YtolknnmaadkgiaaGreatDoor
namespace Go.Proofs.YtolknnmaadkgiaaGreatDoor
set_option maxRecDepth 100000
open Go.RowKit Go.Uc
set_option maxHeartbeats 1000000 in
theorem newPower22_any (w : World) : Calls Tryz.prog 13 #[] w fun e w' => ∃ p, e = .returned (.pointer (some ⟨p, 0, none⟩)) ∧ Blk w' p 104 #[.slice none 0 0, .int .i64 (-1), .bool false, .int .i64 0, .slice none 0 0] ∧ w.heap.size ≤ p ∧ Keeps Non w w' := by
 go_enter Tryz.func13, Tryz.ntmps13
 go_wp2_with fail
 go_ret
 exact ⟨_, rfl, Blk.new _ _ _, Nat.le_refl _, (Keeps.refl Non w).alloc _⟩
def Dsk.fresh (d n : Nat) (P : Pow) : Dsk := ⟨d, n, zeros (128 * n), zeros (128 * n), P.waits, P.left, P.off⟩
theorem info35 : (Tryz.prog.info? 49).map (fun i => (i.zero, i.size, i.bytes)) = some (some (.pointer none), 1, 8) := by kernel_rfl
theorem three_new (w : World) (Z C : Array Value) : Blk (((w.alloc (.cells Z 5)).alloc (.cells Z 5)).alloc (.cells C 110)).drew w.heap.size 5 Z ∧ Blk (((w.alloc (.cells Z 5)).alloc (.cells Z 5)).alloc (.cells C 110)).drew (w.heap.size + 1) 5 Z ∧ Blk (((w.alloc (.cells Z 5)).alloc (.cells Z 5)).alloc (.cells C 110)).drew (w.heap.size + 1 + 1) 110 C ∧ Keeps Non w (((w.alloc (.cells Z 5)).alloc (.cells Z 5)).alloc (.cells C 110)).drew := by
 obtain ⟨h1, h2, hk⟩ := two_new w Z Z 5 5
 obtain ⟨w1, hw1⟩ : ∃ V : World, V = (w.alloc (.cells Z 5)).alloc (.cells Z 5) := ⟨_, rfl⟩
 have z1 : w1.heap.size = w.heap.size + 1 + 1 := by rw [hw1]; simp
 rw [← hw1] at h1 h2 hk ⊢
 have h3 := Blk.new w1 110 C
 have k3 := ((Keeps.refl Non w1).alloc (.cells C 110)).drew
 rw [z1] at h3
 exact ⟨h1.non k3, h2.non k3, h3, hk.non k3⟩
end Go.Proofs.YtolknnmaadkgiaaGreatDoor
