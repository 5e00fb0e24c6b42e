/- A literal of one array. Open. -/
import Derived.Test.YtiieglfpmmhfiaaG7
import Derived.Test.YtiieglfpmmhfiaaD29
namespace Go.Uc
open Go.RowKit
theorem foldl_set (l : List Value) : ∀ (k : Nat) (cs : Array Value), ((l.zipIdx k).foldl (fun cs (p : Value × Nat) => cs.setIfInBounds p.2 p.1) cs).size = cs.size ∧ ∀ i, i < cs.size → ((l.zipIdx k).foldl (fun cs (p : Value × Nat) => cs.setIfInBounds p.2 p.1) cs)[i]? = if k ≤ i ∧ i < k + l.length then l[i - k]? else cs[i]? := by
  induction l with
  | nil =>
    intro k cs
    refine ⟨rfl, fun i hi => ?_⟩
    rw [if_neg (by rintro ⟨a, b⟩; simp at b; omega)]
    rfl
  | cons x l ih =>
    intro k cs
    rw [List.zipIdx_cons, List.foldl_cons]
    obtain ⟨h1, h2⟩ := ih (k + 1) (cs.setIfInBounds k x)
    refine ⟨by rw [h1]; simp, fun i hi => ?_⟩
    rw [h2 i (by simpa using hi)]
    by_cases hik : i = k
    · subst hik
      rw [if_neg (by omega), if_pos (by simp), Nat.sub_self]
      simp [hi]
    · by_cases h3 : k + 1 ≤ i ∧ i < k + 1 + l.length
      · rw [if_pos h3, if_pos (by simp; omega)]
        obtain ⟨j, rfl⟩ : ∃ j, i = k + 1 + j := ⟨i - (k + 1), by omega⟩
        rw [show k + 1 + j - (k + 1) = j by omega, show k + 1 + j - k = j + 1 by omega]
        rfl
      · rw [if_neg h3, if_neg (by simp; omega)]
        rw [Array.getElem?_setIfInBounds_ne (fun e => hik e.symm)]
theorem zipIdx_fold (vs cs : Array Value) (h : vs.size = cs.size) : vs.zipIdx.foldl (fun cs (c, j) => cs.setIfInBounds (0 + j) c) cs = vs := by
  have e : vs.zipIdx.foldl (fun cs (c, j) => cs.setIfInBounds (0 + j) c) cs = (vs.toList.zipIdx 0).foldl (fun cs (p : Value × Nat) => cs.setIfInBounds p.2 p.1) cs := by
    rw [← Array.foldl_toList, Array.toList_zipIdx]
    congr 1
    funext cs p
    obtain ⟨c, j⟩ := p
    show cs.setIfInBounds (0 + j) c = cs.setIfInBounds j c
    rw [Nat.zero_add]
  rw [e]
  obtain ⟨h1, h2⟩ := foldl_set vs.toList 0 cs
  apply Array.ext_getElem?
  intro i
  by_cases hi : i < cs.size
  · rw [h2 i hi, if_pos (by simp; omega)]
    simp
  · rw [Array.getElem?_eq_none (by rw [h1]; omega), Array.getElem?_eq_none (by omega)]
end Go.Uc
namespace Go.Proofs.Ytiieglfpmmhfiaa
set_option maxRecDepth 100000
open Go.RowKit Go.Uc
theorem size96 (w : World) : (sizeOf 96).run Try.prog w = .ok 256 w := by kernel_rfl
theorem bs94 (p : List UInt8) (hp : p.length = 256) (w : World) : (Instr.buildSlice 94 1 #[(0, .agg (pc p))]).run Try.prog w = .ok (.slice (some ⟨w.heap.size, 0, none⟩) 1 1) (w.alloc (.cells (pc p) 96)) := by
  have hz := zero96 w
  have hs := size96 w
  have hu := run_underlying (P := Try.prog) Try.underlying94 w
  have hf : Instr.fill (fun i => some (i * 256, 256)) ((Array.range (1 * 256)).map ((pc (zeros 256))[· % (pc (zeros 256)).size]!)) [(0, .agg (pc p))] = some (pc p) := by
    unfold Instr.fill
    show (if (pc p).size ≠ 256 || 0 * 256 + (pc p).size > _ then none else _) = _
    have h1 : (pc p).size = 256 := by rw [pc_size, hp]
    rw [if_neg (by simp [h1])]
    show Instr.fill _ ((pc p).zipIdx.foldl (fun cs (c, j) => cs.setIfInBounds (0 * 256 + j) c) _) [] = _
    unfold Instr.fill
    rw [Nat.zero_mul, zipIdx_fold _ _ (by simp [h1])]
  unfold Instr.buildSlice
  simp only [Sem.run_bind, hu, Result.andThen_ok, hs]
  simp [Sem.run_bind, hz, newRow]
  rw [Nat.one_mul] at hf
  have e : (Value.agg (pc (zeros 256))).cells = pc (zeros 256) := rfl
  rw [e, hf]
  simp
/-- '[]page{p}', as an operation. -/
theorem wpList_one_page {ops : Array Oper} {rest : List Oper} {o : Oper} {a : Act} {w : World} {Q : Exit → Act → World → Prop} (hgd : o.guard = none) (x : Operand) (ho : o.op = .buildSlice 94 1 #[(0, x)])
    (p : List UInt8) (hp : p.length = 256) (hx : a.eval x = .agg (pc p)) (h : wpList Try.prog ops Q rest (a.put o.dst (.slice (some ⟨w.heap.size, 0, none⟩) 1 1)) (w.alloc (.cells (pc p) 96))) : wpList Try.prog ops Q (o :: rest) a w :=
  wpList_plain hgd fun _ hK => by
    unfold Oper.wp execOp
    have e : (#[(0, x)] : Array (Nat × Operand)).map (fun (i, x) => (i, a.eval x)) = #[(0, .agg (pc p))] := by simp [hx]
    simp only [ho, e, Sem.run_bind, bs94 p hp w, Result.andThen_ok, Sem.run_pure]
    exact hK _ _ h
end Go.Proofs.Ytiieglfpmmhfiaa
namespace Go.Proofs.Ytiieglfpmmhfiaa
set_option maxRecDepth 100000
open Go.RowKit Go.Uc

theorem Grown.one {T L : TypeId} {w0 w : World} {s : Sl} {E : List Ent} (hk : Keeps Non w0 w) (hE : RowE w s.v E) (hs : ∀ q ∈ own s.v, w0.heap.size ≤ q) :
    Grown T L w0 (((w.alloc (.cells #[.int .i64 0] 3)).alloc (.cells #[.int .i64 0, s.v] L)).alloc (.cells #[.bool true, .int .i64 0, .slice (some ⟨w.heap.size, 0, none⟩) 1 1, .slice (some ⟨w.heap.size + 1, 0, none⟩) 1 1] T)) (w.heap.size + 2) (oneL E) ⟨some ⟨w.heap.size, 0, none⟩, 1, 1⟩ ⟨some ⟨w.heap.size + 1, 0, none⟩, 1, 1⟩ [(0, s)] := by
  have k1 := (Keeps.refl Non w).alloc (.cells #[.int .i64 0] 3)
  have b1 := Blk.new w 3 #[.int .i64 0]
  obtain ⟨w1, hw1⟩ : ∃ W : World, W = w.alloc (.cells #[.int .i64 0] 3) := ⟨_, rfl⟩
  rw [← hw1] at k1 b1 ⊢
  have k2 := (Keeps.refl Non w1).alloc (.cells #[.int .i64 0, s.v] L)
  have b2 := Blk.new w1 L #[.int .i64 0, s.v]
  obtain ⟨w2, hw2⟩ : ∃ W : World, W = w1.alloc (.cells #[.int .i64 0, s.v] L) := ⟨_, rfl⟩
  rw [← hw2] at k2 b2 ⊢
  have k3 := (Keeps.refl Non w2).alloc (.cells #[.bool true, .int .i64 0, .slice (some ⟨w.heap.size, 0, none⟩) 1 1, .slice (some ⟨w.heap.size + 1, 0, none⟩) 1 1] T)
  have b3 := Blk.new w2 T #[.bool true, .int .i64 0, .slice (some ⟨w.heap.size, 0, none⟩) 1 1, .slice (some ⟨w.heap.size + 1, 0, none⟩) 1 1]
  have z1 : w1.heap.size = w.heap.size + 1 := by rw [hw1]; simp
  have z2 : w2.heap.size = w.heap.size + 2 := by rw [hw2]; simp [z1]
  rw [z2] at b3
  rw [z1] at b2
  have hz := hk.size
  have hlt := hE.lt
  refine ⟨⟨b3, ?_, ?_, rfl, fun i hi hi' => ?_, fun i hi hi' => ?_, ?_⟩, ((hk.non k1).non k2).non k3, fun q hq => ?_⟩
  · have := RowP.mk (xs := [0]) encN_len (b1.non k2 |>.non k3) (cap := 1) (by simp) (by decide) rfl rfl
    exact this
  · have := RowP.mk (xs := [((0 : Nat), s)]) encP_len (b2.non k3) (cap := 1) (by simp) (by decide) rfl rfl
    exact this
  · simp at hi; subst hi; rfl
  · simp at hi; subst hi; exact ((hE.non k1).non k2).non k3
  · show ((w.heap.size + 2) :: w.heap.size :: (w.heap.size + 1) :: (own s.v ++ [])).Nodup
    rw [List.append_nil, List.nodup_cons, List.nodup_cons, List.nodup_cons]
    refine ⟨fun h => ?_, fun h => ?_, fun h => ?_, own_nodup _⟩
    · simp only [List.mem_cons] at h
      rcases h with h | h | h
      · omega
      · omega
      · have := hlt _ h; omega
    · simp only [List.mem_cons] at h
      rcases h with h | h
      · omega
      · have := hlt _ h; omega
    · have := hlt _ h; omega
  · have hq' : q ∈ ((w.heap.size + 2) :: w.heap.size :: (w.heap.size + 1) :: (own s.v ++ [])) := hq
    simp only [List.mem_cons, List.append_nil] at hq'
    rcases hq' with h | h | h | h
    · omega
    · omega
    · omega
    · exact hs q h
/-- What Open answers. -/
def OpenR (T L : TypeId) (w : World) (rs : List (List UInt8)) (e : Ending) (w' : World) : Prop :=
  (∃ (d : Dic) (g : Nat) (t l : Sl) (qs : List (Nat × Sl)), Opens rs d ∧ e = .returned (.tuple #[.pointer (some ⟨g, 0, none⟩), .int .i64 0]) ∧ Grown T L w w' g d t l qs) ∨ ((¬ ∃ d, Opens rs d) ∧ e = .returned (.tuple #[.pointer none, .int .i64 151]) ∧ Keeps Non w w')
theorem OpenR.no {T L : TypeId} {w w' : World} {rs : List (List UInt8)} (h : ∀ d, Opens rs d → False) (hk : Keeps Non w w') : OpenR T L w rs (.returned (.tuple #[.pointer none, .int .i64 151])) w' := .inr ⟨fun ⟨d, h1⟩ => h d h1, rfl, hk⟩
theorem info96p : (Try.prog.info? 96).map (fun i => (i.zero, i.size, i.bytes)) = some (some (.agg (pc (zeros 256))), 256, 256) := by kernel_rfl
set_option maxHeartbeats 8000000 in
theorem open_any {w : World} {A : Option Addr} {c : Nat} {rs : List (List UInt8)} (h : PgR w A rs) (hm : rs.length ≤ 9223372036854775807) :
    Calls Try.prog 21 #[.slice A rs.length c] w (OpenR 69 66 w rs) := by
  by_cases h1 : rs.length < 1
  · have hno : ∀ d, Opens rs d → False := fun d hd => by have := (opens_form hd).1; omega
    go_enter Try.func21, Try.ntmps21
    go_wp2_with fail
    go_ret2
    exact OpenR.no hno (Keeps.refl _ _)
  by_cases h33 : 33 < rs.length
  · have hno : ∀ d, Opens rs d → False := fun d hd => by have := (opens_form hd).2.1; omega
    go_enter Try.func21, Try.ntmps21
    go_wp2_with fail
    go_ret2
    exact OpenR.no hno (Keeps.refl _ _)
  go_enter Try.func21, Try.ntmps21
  go_upto_region 5 with fail
  go_loopw [4, 23] (fun v i wr => ∃ (k : Nat) (vA : Option Addr) (vc : Nat), k ≤ rs.length ∧ i = .int .i64 (k : Int) ∧ v = .slice vA k vc ∧ RowPg wr (.slice vA k vc) (rs.take k) ∧ Hid (∀ p ∈ rs.take k, p.length = 256) ∧ (∀ q ∈ own (.slice vA k vc), w.heap.size ≤ q) ∧ Keeps Non w wr) (fun _ i _ => rs.length - (intOf i).toNat)
  case atStart => exact ⟨0, none, 0, Nat.zero_le _, rfl, rfl, RowP.nil _ _ _ _, Lib.hid (by simp), fun q hq => (List.not_mem_nil hq).elim, Keeps.refl _ _⟩
  case round =>
    obtain ⟨k, vA, vc, hk, rfl, rfl, hV, H256, hN, hK⟩ := hrel
    obtain ⟨wx, rfl⟩ : ∃ W : World, W = wr := ⟨_, rfl⟩
    by_cases hlt : k < rs.length
    · obtain ⟨b, off, Ai, ci, rfl, x0, hAi⟩ := (h.non hK) k hlt
      have HTK : Hid (rs.take (k + 1) = rs.take k ++ [rs[k]]) := Lib.hid (List.take_succ_eq_append_getElem hlt)
      have hmem : rs[k] ∈ rs := List.getElem_mem hlt
      generalize rs[k] = p at x0 hAi HTK hmem
      by_cases hp : p.length = 256
      · have hpb : ((p.length : Int) != 256) = false := by simp; omega
        have HP := Lib.hid hp
        clear hp
        have hz := zero96
        have hsz : (pc (zeros 256)).size = 256 := by rw [pc_size, zeros_length]
        have hB0 := Blk.new wx 96 (pc (zeros 256))
        have hka := (Keeps.refl Non wx).alloc (.cells (pc (zeros 256)) 96)
        go_upto_region 10 with fail
        obtain ⟨w2, hw2⟩ : ∃ W : World, W = wx.alloc (.cells (pc (zeros 256)) 96) := ⟨_, rfl⟩
        rw [← hw2] at hB0 hka ⊢
        have hA2 := hAi.non hka
        have hV2 := hV.non hka
        have hK2 := hK.non hka
        have hpbl : ∀ q ∈ own (.slice vA k vc), q < wx.heap.size := hV.lt
        have hpw : w.heap.size ≤ wx.heap.size := hK.size
        clear hw2 hz hsz x0 hAi hV hK hka
        generalize wx.heap.size = pb at *
        go_upto_region 11 with (first
          | ((with_reducible show wpList _ _ _ ({ dst := some 32, op := _, type := _, pos := _, after := _, guard := _ } :: _) _ _); go_must (refine wpList_copy_bytes rfl (.tmp 30) (.tmp 31) 53 53 rfl 5 Try.underlying53 info5 (some ⟨pb, 0, none⟩) _ 256 256 _ _ rfl rfl pb 0 (zeros 256) 96 hB0 p (by rw [HP.out]; rfl) (fun _ => rfl) hA2 (by rw [HP.out, zeros_length]; omega) ?_); intro w3 hB3 hK3))
        rw [show (zeros 256).take 0 ++ (p ++ (zeros 256).drop (0 + p.length)) = p by rw [HP.out, zeros_drop]; simp [zeros]] at hB3
        have hV3 : RowPg w3 (.slice vA k vc) (rs.take k) := hV2.keep hK3 fun q hq e => by have := hpbl q hq; unfold Only at e; omega
        have hK03 : Keeps Non w w3 := hK2.then hK3 fun i hi e => by unfold Only at e; omega
        have htl : (rs.take k).length = k := by rw [List.length_take]; omega
        clear hB0 hA2 hV2 hK2
        have hka := (Keeps.refl Non w3).alloc (.cells (pc p) 96)
        have hV4 := hV3.non hka
        have hK04 := hK03.non hka
        have HLB : Hid ((rs.take k).length + 1 ≤ maxLen ∧ ((rs.take k).length + 1) * 256 ≤ 140737488355328) := Lib.hid (by rw [htl]; unfold maxLen; omega)
        have hAts : Ats (w3.alloc (.cells (pc p) 96)) (some ⟨w3.heap.size, 0, none⟩) ([p].flatMap encPg) := Ats.lit w3 (pc p) 96 _ (by simp [encPg_eq HP.out, pc])
        have h256' : Hid (∀ x ∈ rs.take (k + 1), x.length = 256) := Lib.hid (fun x hx => by
          rw [HTK.out] at hx
          rcases List.mem_append.1 hx with hx | hx
          · exact H256.out x hx
          · rw [List.mem_singleton] at hx; rw [hx]; exact HP.out)
        have HTL := Lib.hid htl
        have HNW : Hid (w.heap.size ≤ (w3.alloc (.cells (pc p) 96)).heap.size) := Lib.hid hK04.size
        clear hV3 hka htl
        go_wp2_with (first
          | ((with_reducible show wpList _ _ _ ({ dst := some 34, op := Op.load 96 _, type := _, pos := _, after := _, guard := _ } :: _) _ _); go_must (refine wpList_load_row rfl 96 (.tmp 7) rfl pb rfl 96 (pc p) (0, 0) (.array 256 5) hB3 Try.underlying96 rfl (by rw [pc_size, HP.out]; exact info96) ?_))
          | ((with_reducible show wpList _ _ _ ({ dst := some 35, op := Op.buildSlice 94 1 _, type := _, pos := _, after := _, guard := _ } :: _) _ _); go_must (refine wpList_one_page rfl (.tmp 34) rfl p HP.out rfl ?_))
          | (at_builtin; go_must (refine wpList_append_row (o := ⟨some 36, _, _, _, _, _⟩) rfl (.tmp 33) (.tmp 35) 94 rfl 96 256 encPg _ 256 Try.underlying94 info96p (by show (pc (zeros 256)).size = 256; rw [pc_size, zeros_length]) (by decide) encPg_len encPg_one (.slice vA k vc) (rs.take k) rfl hV4 (some ⟨w3.heap.size, 0, none⟩) 1 1 [p] rfl rfl hAts HLB.out.1 HLB.out.2 ?_); intro u8 w8 hO8 hK8 hat; obtain ⟨⟨A8, n8, c8⟩, rfl, h8⟩ := RowP.sl hO8; have hn8 : n8 = k + 1 := (by rw [show n8 = (rs.take k ++ [p]).length from h8, List.length_append, HTL.out]; rfl); clear h8; subst hn8))
        go_roundw
        case rel =>
          refine ⟨k + 1, A8, c8, by omega, by go_num, rfl, by rw [HTK.out]; exact hO8, h256', fun q hq => ?_, hK04.then hK8 fun i hi e => by have := hN i e; omega⟩
          rw [mem_own] at hq
          rcases hat with h | h
          · rw [h] at hq; exact hN q (mem_own.2 hq)
          · rw [h] at hq; injection hq with hq; have := HNW.out; omega
        case measure => simp [intOf]; omega
      · have hno : ∀ d, Opens rs d → False := fun d hd => hp ((opens_form hd).2.2 p hmem)
        have hpb : ((p.length : Int) != 256) = true := by simp; omega
        clear hp
        go_wp2_with fail
        go_ret2
        exact OpenR.no hno hK
    · obtain rfl : k = rs.length := by omega
      rw [List.take_of_length_le (Nat.le_refl _)] at hV H256
      by_cases hl1 : rs.length = 1
      · obtain ⟨p, hrs⟩ : ∃ p, rs = [p] := by
          match rs, hl1 with
          | [p], _ => exact ⟨p, rfl⟩
        have HP : Hid (p.length = 256) := Lib.hid (H256.out p (by rw [hrs]; simp))
        obtain ⟨bp, cp, e1, -, hcells, hbp⟩ := rowPg_at hV H256.out (i := 0) (by omega)
        injection e1 with e1 e1b e1c
        clear e1b
        subst e1 e1c
        have hld : ∀ j v, (p.map bv)[j]? = some v → wx.cell? ((⟨bp, 0, none⟩ : Addr).add j) = some v := fun j v hv => by
          have hp256 := HP.out
          have hj : j < 256 := by have := (List.getElem?_eq_some_iff.1 hv).1; simpa [hp256] using this
          rw [show (⟨bp, 0, none⟩ : Addr).add j = ⟨bp, j, none⟩ from by unfold Addr.add; split <;> simp_all]
          have := hcells j hj
          rw [Nat.zero_mul, Nat.zero_add] at this
          rw [this]
          rw [List.getElem?_map, List.getElem?_eq_getElem (by omega)] at hv
          injection hv with hv
          rw [← hv]
          have e : rs.getD 0 [] = p := by rw [hrs]; rfl
          rw [e, List.getD_eq_getElem?_getD, List.getElem?_eq_getElem (by omega)]
          rfl
        have HRS := Lib.hid hrs
        have hb1 : ((rs.length : Int) == 1) = true := by simp [hl1]
        have hpos : 0 < rs.length := by omega
        have hposi : (0 : Int) < (rs.length : Int) := by omega
        clear hrs hl1 hcells
        have hz := zero96
        have hsz : (pc (zeros 256)).size = 256 := by rw [pc_size, zeros_length]
        have hB0 := Blk.new wx 96 (pc (zeros 256))
        have hKa := (Keeps.refl Non wx).alloc (.cells (pc (zeros 256)) 96)
        go_upto_region 15 with (first
          | ((with_reducible show wpList _ _ _ ({ dst := some 43, op := Op.load 96 _, type := _, pos := _, after := _, guard := _ } :: _) _ _); go_must (refine wpList_load_at rfl 96 (.tmp 42) rfl ⟨bp, 0, none⟩ rfl (p.map bv) (.array 256 5) hld Try.underlying96 rfl (by rw [List.length_map, HP.out]; exact info96) ?_))
          | ((with_reducible show wpList _ _ _ ({ dst := none, op := Op.store 96 _ _, type := _, pos := _, after := _, guard := _ } :: _) _ _); go_must (refine wpList_store_blk rfl 96 (.tmp 8) (.tmp 43) rfl wx.heap.size (pc p) rfl rfl 96 (pc (zeros 256)) hB0 (by rw [pc_size, HP.out]; exact info96) (by rw [pc_size, pc_size, HP.out, zeros_length]) (pc_all _) ?_); intro w2 hB2 hK2a))
        have hK2 : Keeps Non w w2 := hK.non (hKa.then hK2a fun i hi e => by unfold Only at e; omega)
        clear hK2a hKa hB0 hz hsz hld hV hK
        generalize wx.heap.size = pb at *
        have x1 := byte_at hB2 (a := 1) (by rw [HP.out]; omega)
        have HNO : Hid (¬ ((∃ l, entF p (p.getD 1 0).toNat = some l) ∧ (p.getD 0 0).toNat = 109 ∧ (p.getD 2 0).toNat = 0) → ∀ d, Opens rs d → False) := Lib.hid (fun h d hd => h (by
          rw [HRS.out] at hd
          obtain ⟨l, -, a2, a3, a4⟩ := page_of_opens hd
          exact ⟨⟨l, a2⟩, by rw [a3]; rfl, by rw [a4]; rfl⟩))
        have HOK : Hid (∀ l, entF p (p.getD 1 0).toNat = some l → (p.getD 0 0).toNat = 109 → (p.getD 2 0).toNat = 0 → Opens rs (oneL l)) := Lib.hid (fun l h1 h2 h3 => by
          rw [HRS.out]
          exact opens_of_page HP.out h1 (UInt8.toNat_inj.1 h2) (UInt8.toNat_inj.1 h3))
        have hm255 : (p.getD 1 0).toNat < 256 := UInt8.toNat_lt _
        have HEN := Lib.hid (entries_any p HP.out (p.getD 1 0).toNat (by omega) w2)
        obtain ⟨eo, heo⟩ : ∃ eo, eo = entF p (p.getD 1 0).toNat := ⟨_, rfl⟩
        rw [← heo] at HEN HNO HOK
        obtain ⟨p0, hp0⟩ : ∃ x, x = (p.getD 0 0).toNat := ⟨_, rfl⟩
        obtain ⟨p1, hp1e⟩ : ∃ x, x = (p.getD 1 0).toNat := ⟨_, rfl⟩
        obtain ⟨p2, hp2e⟩ : ∃ x, x = (p.getD 2 0).toNat := ⟨_, rfl⟩
        rw [← hp0, ← hp2e] at HNO HOK
        rw [← hp1e] at x1 HEN hm255
        have hp08 : p0 < 256 := by rw [hp0]; exact UInt8.toNat_lt _
        have hp28 : p2 < 256 := by rw [hp2e]; exact UInt8.toNat_lt _
        have HE0 := Lib.hid hp0
        have HE2 := Lib.hid hp2e
        clear hp0 hp1e hp2e heo
        cases eo with
        | none =>
          have HNX := Lib.hid (HNO.out (by rintro ⟨⟨l, e⟩, -⟩; cases e))
          go_upto_region 16 with (first
            | ((with_reducible show wpList _ _ _ ({ dst := some 45, op := Op.load 96 _, type := _, pos := _, after := _, guard := _ } :: _) _ _); go_must (refine wpList_load_row rfl 96 (.tmp 8) rfl pb rfl 96 (pc p) (0, 0) (.array 256 5) hB2 Try.underlying96 rfl (by rw [pc_size, HP.out]; exact info96) ?_))
            | (go_at_call 47; go_must (refine HEN.out.mono ?_); rintro e w3 ⟨rfl, hK3⟩))
          have hK9 := hK2.non hK3
          have hB3 := hB2.non hK3
          have y0 : w3.cell? ⟨pb, 0, none⟩ = some (.int .u8 (p0 : Int)) := by have := byte_at hB3 (a := 0) (by rw [HP.out]; omega); rw [← HE0.out] at this; exact this
          have y2 : w3.cell? ⟨pb, 2, none⟩ = some (.int .u8 (p2 : Int)) := by have := byte_at hB3 (a := 2) (by rw [HP.out]; omega); rw [← HE2.out] at this; exact this
          go_wp2_with fail
          go_ret2
          exact OpenR.no HNX.out hK9
        | some L =>
          by_cases q0 : p0 = 109
          · have q0b : ((p0 : Int) != 109) = false := by simp; omega
            by_cases q2 : p2 = 0
            · have q2b : ((p2 : Int) != 0) = false := by simp; omega
              have HOX := Lib.hid (HOK.out L rfl q0 q2)
              clear q0 q2
              go_upto_region 16 with (first
                | ((with_reducible show wpList _ _ _ ({ dst := some 45, op := Op.load 96 _, type := _, pos := _, after := _, guard := _ } :: _) _ _); go_must (refine wpList_load_row rfl 96 (.tmp 8) rfl pb rfl 96 (pc p) (0, 0) (.array 256 5) hB2 Try.underlying96 rfl (by rw [pc_size, HP.out]; exact info96) ?_))
                | (go_at_call 47; go_must (refine HEN.out.mono ?_); rintro e w3 ⟨⟨eA, en, ec⟩, he, hRE, hNE, hK3⟩; change e = .returned (.tuple #[.slice eA en ec, .bool true]) at he; subst he))
              have hK9 := hK2.non hK3
              have hB3 := hB2.non hK3
              have y0 : w3.cell? ⟨pb, 0, none⟩ = some (.int .u8 (p0 : Int)) := by have := byte_at hB3 (a := 0) (by rw [HP.out]; omega); rw [← HE0.out] at this; exact this
              have y2 : w3.cell? ⟨pb, 2, none⟩ = some (.int .u8 (p2 : Int)) := by have := byte_at hB3 (a := 2) (by rw [HP.out]; omega); rw [← HE2.out] at this; exact this
              have HG1 := Grown.one (T := 69) (L := 66) (s := ⟨eA, en, ec⟩) hK9 hRE (fun q hq => by have h1 : w2.heap.size ≤ q := hNE q hq; have := hK2.size; omega)
              have HG1h := Lib.hid HG1
              clear HG1
              go_wp2_with fail
              go_ret2
              exact .inl ⟨oneL L, _, _, _, _, HOX.out, rfl, HG1h.out⟩
            · have q2b : ((p2 : Int) != 0) = true := by simp; omega
              have HNX := Lib.hid (HNO.out (by rintro ⟨-, -, h⟩; exact q2 h))
              clear q0 q2
              go_upto_region 16 with (first
                | ((with_reducible show wpList _ _ _ ({ dst := some 45, op := Op.load 96 _, type := _, pos := _, after := _, guard := _ } :: _) _ _); go_must (refine wpList_load_row rfl 96 (.tmp 8) rfl pb rfl 96 (pc p) (0, 0) (.array 256 5) hB2 Try.underlying96 rfl (by rw [pc_size, HP.out]; exact info96) ?_))
                | (go_at_call 47; go_must (refine HEN.out.mono ?_); rintro e w3 ⟨⟨eA, en, ec⟩, he, hRE, hNE, hK3⟩; change e = .returned (.tuple #[.slice eA en ec, .bool true]) at he; subst he))
              have hK9 := hK2.non hK3
              have hB3 := hB2.non hK3
              have y0 : w3.cell? ⟨pb, 0, none⟩ = some (.int .u8 (p0 : Int)) := by have := byte_at hB3 (a := 0) (by rw [HP.out]; omega); rw [← HE0.out] at this; exact this
              have y2 : w3.cell? ⟨pb, 2, none⟩ = some (.int .u8 (p2 : Int)) := by have := byte_at hB3 (a := 2) (by rw [HP.out]; omega); rw [← HE2.out] at this; exact this
              go_wp2_with fail
              go_ret2
              exact OpenR.no HNX.out hK9
          · have q0b : ((p0 : Int) != 109) = true := by simp; omega
            have HNX := Lib.hid (HNO.out (by rintro ⟨-, h, -⟩; exact q0 h))
            clear q0
            go_upto_region 16 with (first
              | ((with_reducible show wpList _ _ _ ({ dst := some 45, op := Op.load 96 _, type := _, pos := _, after := _, guard := _ } :: _) _ _); go_must (refine wpList_load_row rfl 96 (.tmp 8) rfl pb rfl 96 (pc p) (0, 0) (.array 256 5) hB2 Try.underlying96 rfl (by rw [pc_size, HP.out]; exact info96) ?_))
              | (go_at_call 47; go_must (refine HEN.out.mono ?_); rintro e w3 ⟨⟨eA, en, ec⟩, he, hRE, hNE, hK3⟩; change e = .returned (.tuple #[.slice eA en ec, .bool true]) at he; subst he))
            have hK9 := hK2.non hK3
            have hB3 := hB2.non hK3
            have y0 : w3.cell? ⟨pb, 0, none⟩ = some (.int .u8 (p0 : Int)) := by have := byte_at hB3 (a := 0) (by rw [HP.out]; omega); rw [← HE0.out] at this; exact this
            have y2 : w3.cell? ⟨pb, 2, none⟩ = some (.int .u8 (p2 : Int)) := by have := byte_at hB3 (a := 2) (by rw [HP.out]; omega); rw [← HE2.out] at this; exact this
            go_wp2_with fail
            go_ret2
            exact OpenR.no HNX.out hK9
      · obtain ⟨r, ps, hrs⟩ : ∃ r ps, rs = r :: ps := by
          match rs, h1 with
          | [], h => exact absurd (by simp) h
          | r :: ps, _ => exact ⟨r, ps, rfl⟩
        have hpl : rs.length = ps.length + 1 := by rw [hrs]; rfl
        have hne : ps ≠ [] := by intro e; rw [e] at hpl; simp at hpl; omega
        have HRS := Lib.hid hrs
        have hV' : RowPg wx (.slice vA rs.length vc) (r :: ps) := by rw [hrs] at hV ⊢; exact hV
        have HHA := Lib.hid (hashed_any hV' (by rw [← hrs]; exact H256.out) (by omega) (by omega))
        have HNE := Lib.hid hne
        have HPL := Lib.hid (show ps.length ≤ 32 by omega)
        have hb1 : ((rs.length : Int) == 1) = false := beq_eq_false_iff_ne.2 (by omega)
        clear hrs hV hV' hne hpl hl1
        go_wp2_with fail
        refine HHA.out.mono ?_
        rintro e w3 (⟨d, g, t, l, qs, hRd, hWh, rfl, hG⟩ | ⟨hno, ⟨v, rfl⟩, hK3⟩)
        · have HOX : Hid (Opens rs d) := Lib.hid (by rw [HRS.out]; exact opens_of_read hRd hWh (H256.out r (by rw [HRS.out]; simp)) (fun p hp => H256.out p (by rw [HRS.out]; simp [hp])) HPL.out)
          clear hRd hWh
          go_wp2_with fail
          go_ret2
          exact .inl ⟨d, g, t, l, qs, HOX.out, rfl, ⟨hG.m, hK.non hG.k, fun q hq => by have := hG.n q hq; have := hK.size; omega⟩⟩
        · have HNX : Hid (∀ d, Opens rs d → False) := Lib.hid (fun d hd => by
            rw [HRS.out] at hd
            exact hno ⟨d, read_of_opens hd HNE.out⟩)
          clear hno
          go_wp2_with fail
          go_ret2
          exact OpenR.no HNX.out (hK.non hK3)
end Go.Proofs.Ytiieglfpmmhfiaa
