/- A disk is written. -/
import Derived.Test.YtolknnmaadkgiaaGreatDoorG8
set_option linter.unusedVariables false
set_option linter.unusedSimpArgs false
namespace Go.Uc
open Go.RowKit
theorem foldl_set (l : List Value) : ∀ (k : Nat) (cs : Array Value), ((l.zipIdx k).foldl (fun cs (p : Value × Nat) => cs.setIfInBounds p.2 p.1) cs).size = cs.size ∧ ∀ i, i < cs.size → ((l.zipIdx k).foldl (fun cs (p : Value × Nat) => cs.setIfInBounds p.2 p.1) cs)[i]? = if k ≤ i ∧ i < k + l.length then l[i - k]? else cs[i]? := by
 induction l with
 | nil =>
   intro k cs
   refine ⟨rfl, fun i hi => ?_⟩
   rw [if_neg (by rintro ⟨a, b⟩; simp at b; omega)]
   rfl
 | cons x l ih =>
   intro k cs
   rw [List.zipIdx_cons, List.foldl_cons]
   obtain ⟨h1, h2⟩ := ih (k + 1) (cs.setIfInBounds k x)
   refine ⟨by rw [h1]; simp, fun i hi => ?_⟩
   rw [h2 i (by simpa using hi)]
   by_cases hik : i = k
   · subst hik
     rw [if_neg (by omega), if_pos (by simp), Nat.sub_self]
     simp [hi]
   · by_cases h3 : k + 1 ≤ i ∧ i < k + 1 + l.length
     · rw [if_pos h3, if_pos (by simp; omega)]
       obtain ⟨j, rfl⟩ : ∃ j, i = k + 1 + j := ⟨i - (k + 1), by omega⟩
       rw [show k + 1 + j - (k + 1) = j by omega, show k + 1 + j - k = j + 1 by omega]
       rfl
     · rw [if_neg h3, if_neg (by simp; omega)]
       rw [Array.getElem?_setIfInBounds_ne (fun e => hik e.symm)]
theorem zipIdx_fold (vs cs : Array Value) (h : vs.size = cs.size) : vs.zipIdx.foldl (fun cs (c, j) => cs.setIfInBounds (0 + j) c) cs = vs := by
 have e : vs.zipIdx.foldl (fun cs (c, j) => cs.setIfInBounds (0 + j) c) cs = (vs.toList.zipIdx 0).foldl (fun cs (p : Value × Nat) => cs.setIfInBounds p.2 p.1) cs := by
   rw [← Array.foldl_toList, Array.toList_zipIdx]
   congr 1
   funext cs p
   obtain ⟨c, j⟩ := p
   show cs.setIfInBounds (0 + j) c = cs.setIfInBounds j c
   rw [Nat.zero_add]
 rw [e]
 obtain ⟨h1, h2⟩ := foldl_set vs.toList 0 cs
 apply Array.ext_getElem?
 intro i
 by_cases hi : i < cs.size
 · rw [h2 i hi, if_pos (by simp; omega)]
   simp
 · rw [Array.getElem?_eq_none (by rw [h1]; omega), Array.getElem?_eq_none (by omega)]
end Go.Uc
namespace Go.Proofs.YtolknnmaadkgiaaGreatDoor
set_option maxRecDepth 100000
open Go.RowKit Go.Uc
def put (L : List UInt8) (at_ : Nat) (b : List UInt8) : List UInt8 := L.take (128 * at_) ++ (b ++ L.drop (128 * at_ + b.length))
theorem put_len {L : List UInt8} {n at_ : Nat} {b : List UInt8} (hl : L.length = 128 * n) (hb : b.length = 128) (ha : at_ < n) : (put L at_ b).length = 128 * n := by
 unfold put
 simp only [List.length_append, List.length_take, List.length_drop]
 omega
def Dsk.one (s : Dsk) (x : Wt) : Dsk := { s with left := if 0 < s.left then s.left - 1 else s.left, waits := s.waits ++ [x], now := put s.now x.at_ x.b }
theorem Dsk.one_ok {s : Dsk} (h : s.ok) (x : Wt) (hx : x.at_ < s.n) : (s.one x).ok := by
 refine ⟨h.n1, h.n2, h.pl, put_len h.nw x.hb hx, ?_, ?_⟩
 · have := h.l1
   simp only [Dsk.one]
   split <;> omega
 · have := h.l2
   simp only [Dsk.one]
   split <;> omega
def Dsk.out (s : Dsk) : Dsk := { s with left := -1, off := true }
theorem Dsk.out_ok {s : Dsk} (h : s.ok) : s.out.ok := ⟨h.n1, h.n2, h.pl, h.nw, by simp [Dsk.out], by simp [Dsk.out]⟩
theorem info97 : (Tryz.prog.info? 107).map (fun i => (i.zero, i.size, i.bytes)) = some (some (.agg Tryz.zeroCells107), 130, 144) := by kernel_rfl
def wc0 (d : Nat) (x : Int) : Array Value := (Value.pointer (some ⟨d, 0, none⟩) :: Value.int .i64 x :: (zeros 128).map bv).toArray
theorem wc0_size (d : Nat) (x : Int) : (wc0 d x).size = 130 := by simp [wc0, zeros]
theorem wc0_one (d : Nat) (x : Int) : (wc0 d x).all (·.oneCell') = true := by
 rw [Array.all_eq_true_iff_forall_mem]
 intro v hv
 simp only [wc0, List.mem_toArray, List.mem_cons] at hv
 rcases hv with rfl | rfl | hv
 · rfl
 · rfl
 · exact pc_one _ v hv
theorem wpList_build_as {P : Program} {ops : Array Oper} {rest : List Oper} {o : Oper} {a : Act} {w : World} {Q : Exit → Act → World → Prop} (hg : o.guard = none) (t : TypeId) (parts : Array (Nat × Operand)) (ho : o.op = .build t parts) (cells : Array Value)
   (hb : P.built t (parts.map fun (i, x) => (i, a.eval x)).toList = some cells)
   (h : wpList P ops Q rest (a.put o.dst (.agg cells)) w) : wpList P ops Q (o :: rest) a w := by
 refine wpList_build hg t parts ho (by rw [hb]; rfl) ?_
 rw [hb]
 exact h
theorem zsize97 : Tryz.zeroCells107.size = 130 := by kernel_rfl
theorem size97 (w : World) : (sizeOf 107).run Tryz.prog w = .ok 130 w := by kernel_rfl
theorem zero97 (w : World) : (zeroValue 107).run Tryz.prog w = .ok (.agg Tryz.zeroCells107) w := by kernel_rfl
theorem bs91 (cs : Array Value) (hc : cs.size = 130) (w : World) : (Instr.buildSlice 102 1 #[(0, .agg cs)]).run Tryz.prog w = .ok (.slice (some ⟨w.heap.size, 0, none⟩) 1 1) (w.alloc (.cells cs 107)) := by
 have hz := zero97 w
 have hs := size97 w
 have hu := run_underlying (P := Tryz.prog) Tryz.underlying102 w
 have hf : Instr.fill (fun i => some (i * 130, 130)) ((Array.range (1 * 130)).map (Tryz.zeroCells107[· % Tryz.zeroCells107.size]!)) [(0, .agg cs)] = some cs := by
   unfold Instr.fill
   show (if cs.size ≠ 130 || 0 * 130 + cs.size > _ then none else _) = _
   rw [if_neg (by simp [hc])]
   show Instr.fill _ (cs.zipIdx.foldl (fun cs (c, j) => cs.setIfInBounds (0 * 130 + j) c) _) [] = _
   unfold Instr.fill
   rw [Nat.zero_mul, zipIdx_fold _ _ (by simp [hc])]
 unfold Instr.buildSlice
 simp only [Sem.run_bind, hu, Result.andThen_ok, hs]
 simp [Sem.run_bind, hz, newRow]
 rw [Nat.one_mul] at hf
 have e : (Value.agg Tryz.zeroCells107).cells = Tryz.zeroCells107 := rfl
 rw [e, hf]
 simp
theorem step_one97 {ops : Array Oper} {o : Oper} {a : Act} {w : World} {K : Act → World → Prop} {Q : Exit → Act → World → Prop} {E : Prop} (hgd : o.guard = none) (x : Operand) (ho : o.op = .buildSlice 102 1 #[(0, x)])
   (cs : Array Value) (hc : cs.size = 130) (hx : a.eval x = .agg cs) (h : K (a.put o.dst (.slice (some ⟨w.heap.size, 0, none⟩) 1 1)) (w.alloc (.cells cs 107))) :
   if Region.wanted o (yielded ops a.tmps) = true then Oper.wp Tryz.prog o a w K Q else E := by
 have hw : Region.wanted o (yielded ops a.tmps) = true := by simp [Region.wanted, hgd]
 rw [if_pos hw]
 unfold Oper.wp execOp
 have e : (#[(0, x)] : Array (Nat × Operand)).map (fun (i, x) => (i, a.eval x)) = #[(0, .agg cs)] := by simp [hx]
 simp only [ho, e, Sem.run_bind, bs91 cs hc w, Result.andThen_ok, Sem.run_pure]
 exact h
def sec0 (bs : List UInt8) : List UInt8 := (bs ++ zeros 128).take 128
theorem sec0_len (bs : List UInt8) : (sec0 bs).length = 128 := by
 unfold sec0
 rw [List.length_take, List.length_append, zeros_length]
 omega
theorem sec0_eq {bs : List UInt8} (h : 128 ≤ bs.length) : sec0 bs = bs.take 128 := by
 unfold sec0
 rw [List.take_append_of_le_length h]
def Dsk.wr (s : Dsk) (at_ : Nat) : Nat → List UInt8 → Dsk × Bool
 | 0, _ => (s, true)
 | m + 1, bs => if s.left = 0 then (s.out, false) else (s.one ⟨s.d, at_, sec0 bs, sec0_len bs⟩).wr (at_ + 1) m (bs.drop 128)
theorem Dm.next {w0 w w' : World} {K : Kb} {s s' : Dsk} {wv wv' : Sl} (h : Dm w0 w K s wv) (hk : Keeps (Fr K wv) w w') (hp : ∃ z, Blk w' K.p 104 #[wv'.v, .int .i64 s'.left, .bool s'.off, .int .i64 z, K.dv.v]) (hpl : Blk w' K.pl 5 (pc s'.plat)) (hnw : Blk w' K.nw 5 (pc s'.now)) (hwt : RowP w' 107 130 encW wv'.v s'.waits) (hwn : wv'.n = s'.waits.length) (ho : ∀ q ∈ own wv'.v, q ∈ own wv.v ∨ w.heap.size ≤ q) (hok : s'.ok) (hn : s'.n = s.n) (hdd : s'.d = s.d) (hod : ∀ x ∈ s'.waits, x ∈ s.waits ∨ x.d = s.d) : Dm w0 w' K s' wv' := by
 obtain ⟨n1, n2, n3, n4, n6⟩ := h.new
 refine ⟨hok, hp, ?_, hpl, hnw, hdd.trans h.hd, fun x hx => ?_, hwt, hwn, h.ne, ⟨n1, n2, n3, n4, fun q hq => ?_⟩, ?_⟩
 · rw [hn]
   exact h.dk.keep hk (h.free h.dk (by decide) (by decide) (by decide))
 · rcases hod x hx with e | e
   · obtain ⟨cs, hc⟩ := h.od x e
     exact ⟨cs, hc.keep hk (h.free hc (by decide) (by decide) (by decide))⟩
   · rw [e, h.hd]
     exact ⟨_, h.dk.keep hk (h.free h.dk (by decide) (by decide) (by decide))⟩
 · rcases ho q hq with e | e
   · exact n6 q e
   · have := h.keep.size; omega
 · exact h.keep.then hk fun i hi e => h.low hi e
theorem Dm.power {w0 w w' : World} {K : Kb} {s s' : Dsk} {wv : Sl} (h : Dm w0 w K s wv) (hk : Keeps (Only K.p) w w') (hp : ∃ z, Blk w' K.p 104 #[wv.v, .int .i64 s'.left, .bool s'.off, .int .i64 z, K.dv.v]) (hs : s' = { s with left := s'.left, off := s'.off }) (hok : s'.ok) : Dm w0 w' K s' wv := by
 have hk' : Keeps (Fr K wv) w w' := hk.mono fun k e => .inl e
 obtain ⟨z, hp0⟩ := h.pw
 have e1 : s'.plat = s.plat := by rw [hs]
 have e2 : s'.now = s.now := by rw [hs]
 have e3 : s'.waits = s.waits := by rw [hs]
 have e4 : s'.n = s.n := by rw [hs]
 refine h.next hk' hp ?_ ?_ ?_ ?_ (fun q hq => .inl hq) hok e4 (by rw [hs]) (fun x hx => .inl (by rw [e3] at hx; exact hx))
 · rw [e1]; exact h.pl.one hk (h.pl.ne hp0 (by decide))
 · rw [e2]; exact h.nw.one hk (h.nw.ne hp0 (by decide))
 · rw [e3]; exact h.wt.keep hk fun q hq e => by unfold Only at e; exact own_type h.wt hp0 (by decide) (e ▸ hq)
 · rw [e3]; exact h.wn
set_option maxHeartbeats 4000000 in
theorem write30_any {w0 w : World} {K : Kb} {s : Dsk} {wv : Sl} (h : Dm w0 w K s wv) (ho : s.off = false) (at_ m : Nat) (bs : List UInt8) (A : Option Addr) (c : Nat) (hA : At w A bs) (hl : bs.length = 128 * m) (hc : bs.length ≤ c) (ha : at_ + m ≤ s.n) (hF : ∀ ad, A = some ad → ¬ Fr K wv ad.block) (hW : s.waits.length + m ≤ 1073741824) :
   Calls Tryz.prog 73 #[.pointer (some ⟨K.d, 0, none⟩), .int .i64 (at_ : Int), .slice A (128 * m) c] w fun e w' => ∃ wv', e = .returned (.int .i64 (if (s.wr at_ m bs).2 then 0 else 5)) ∧ Dm w0 w' K (s.wr at_ m bs).1 wv' ∧ Keeps (Fr K wv) w w' ∧ ∀ q ∈ own wv'.v, q ∈ own wv.v ∨ w.heap.size ≤ q := by
 have HD : Hid (Calls Tryz.prog 127 #[.pointer (some ⟨K.d, 0, none⟩)] w fun e w' => e = .returned (.int .i64 0) ∧ w' = w) := Lib.hid (by have := down70_any h; rw [ho] at this; exact this)
 have HH := Lib.hid (has71_yes h at_ m ha)
 have hn := h.ok.n2
 have e1 : wrap64 (m : Int) = (m : Int) := IntWalk.wrap64_in _ ⟨by omega, by omega⟩
 obtain ⟨R, hRR⟩ : ∃ R, R = s.wr at_ m bs := ⟨_, rfl⟩
 rw [← hRR]
 obtain ⟨rv, hrv⟩ : ∃ rv : Int, rv = if R.2 then 0 else 5 := ⟨_, rfl⟩
 rw [← hrv]
 have HRV := Lib.hid hrv
 have HRR := Lib.hid hRR
 clear hrv hRR
 go_enter Tryz.func73, Tryz.ntmps73
 go_upto_region 7 with (first
   | (go_at_call 127; go_must (refine HD.out.mono ?_); rintro e w9 ⟨rfl, hw9⟩; subst w9)
   | (go_at_call 128; go_must (refine HH.out.mono ?_); rintro e w9 ⟨rfl, hw9⟩; subst w9))
 go_loopw [32] (fun i wr => ∃ (j : Nat) (sx : Dsk) (wx : Sl), j ≤ m ∧ i = .int .i64 (j : Int) ∧ Dm w0 wr K sx wx ∧ sx.off = false ∧ sx.n = s.n ∧ sx.waits.length = s.waits.length + j ∧ sx.wr (at_ + j) (m - j) (bs.drop (128 * j)) = R ∧ At wr A bs ∧ Keeps (Fr K wv) w wr ∧ (∀ q ∈ own wx.v, q ∈ own wv.v ∨ w.heap.size ≤ q)) (fun i _ => m - (intOf i).toNat)
 case atStart => exact ⟨0, s, wv, Nat.zero_le _, rfl, h, ho, rfl, rfl, by rw [HRR.out]; simp, hA, Keeps.refl _ _, fun q hq => .inl hq⟩
 case round =>
   obtain ⟨j, sx, wx, hj, rfl, hD, hoff, hsn, hwl, hwr, hAx, hK, hN⟩ := hrel
   obtain ⟨wz, rfl⟩ : ∃ V : World, V = wr := ⟨_, rfl⟩
   have HWL := Lib.hid hwl
   have HSN := Lib.hid hsn
   clear hwl hsn
   by_cases hlt : j < m
   · have hji : (j : Int) < (m : Int) := by omega
     obtain ⟨z, hp⟩ := hD.pw
     have p0 : wz.cell? ⟨K.p, 0, none⟩ = some wx.v := hp.cell 0
     have p1 : wz.cell? ⟨K.p, 1, none⟩ = some (.int .i64 sx.left) := hp.cell 1
     have p2 : wz.cell? ⟨K.p, 2, none⟩ = some (.bool sx.off) := hp.cell 2
     have p3 : wz.cell? ⟨K.p, 3, none⟩ = some (.int .i64 z) := hp.cell 3
     have d0 : wz.cell? ⟨K.d, 0, none⟩ = some (.pointer (some ⟨K.p, 0, none⟩)) := hD.dk.cell 0
     have f1 := hp.frozen 1
     have f2 := hp.frozen 2
     have f3 := hp.frozen 3
     have l1 := hD.ok.l1
     have l2 := hD.ok.l2
     by_cases hz : sx.left = 0
     · have hzd : decide (sx.left = 0) = true := decide_eq_true hz
       have b1 := (hp.set 2 (.bool true)).set 1 (.int .i64 (-1))
       have k1 : Keeps (Only K.p) wz ((wz.setCell ⟨K.p, 2, none⟩ (.bool true)).setCell ⟨K.p, 1, none⟩ (.int .i64 (-1))) := ((Keeps.refl (Only K.p) wz).set (p := ⟨K.p, 2, none⟩) rfl _).set (p := ⟨K.p, 1, none⟩) rfl _
       have HE := Lib.hid (hD.power (s' := sx.out) k1 ⟨z, b1⟩ rfl (Dsk.out_ok hD.ok))
       have HK := Lib.hid k1
       clear b1 k1
       go_wp2_with fail
       go_ret
       have hR : R = (sx.out, false) := by
         rw [← hwr, show m - j = (m - j - 1) + 1 by omega, Dsk.wr, if_pos hz]
       refine ⟨wx, ?_, ?_, hK.then HK.out fun i hi e => .inl e, hN⟩
       · rw [HRV.out, hR]; rfl
       · rw [hR]; exact HE.out
     · have hzd : decide (sx.left = 0) = false := decide_eq_false hz
       go_upto_if 54 with fail
       go_cut [] from 43 to 61 (fun wc => Blk wc K.p 104 #[wx.v, .int .i64 (if 0 < sx.left then sx.left - 1 else sx.left), .bool sx.off, .int .i64 z, K.dv.v] ∧ Keeps (Only K.p) wz wc)
       case first =>
         by_cases hpos : 0 < sx.left
         · have hpd : decide (0 < sx.left) = true := decide_eq_true hpos
           have HX := Lib.hid (hp.set 1 (.int .i64 (sx.left - 1)))
           have HK := Lib.hid ((Keeps.refl (Only K.p) wz).set (p := ⟨K.p, 1, none⟩) rfl (.int .i64 (sx.left - 1)))
           go_wp2_with fail
           go_meet
           case rel =>
             rw [if_pos hpos]
             exact ⟨HX.out, HK.out⟩
         · have hpd : decide (0 < sx.left) = false := decide_eq_false hpos
           go_wp2_with fail
           go_meet
           case rel =>
             rw [if_neg (by omega)]
             exact ⟨hp, Keeps.refl _ _⟩
       case rest =>
         obtain ⟨hpc, hkc⟩ := hcut
         obtain ⟨w1, rfl⟩ : ∃ V : World, V = wc := ⟨_, rfl⟩
         clear p0 p1 p2 p3 f1 f2 f3
         obtain ⟨nl, hnl⟩ : ∃ z, z = if 0 < sx.left then sx.left - 1 else sx.left := ⟨_, rfl⟩
         rw [← hnl] at hpc
         have HNL := Lib.hid hnl
         clear hnl
         have p3 : w1.cell? ⟨K.p, 3, none⟩ = some (.int .i64 z) := hpc.cell 3
         have f3 := hpc.frozen 3
         have hp2 := hpc.set 3 (.int .i64 (wrap64 (z + 1)))
         have hk2 := hkc.set (p := ⟨K.p, 3, none⟩) rfl (.int .i64 (wrap64 (z + 1)))
         go_upto_region 16 with fail
         obtain ⟨w2, hw2⟩ : ∃ V : World, V = w1.setCell ⟨K.p, 3, none⟩ (.int .i64 (wrap64 (z + 1))) := ⟨_, rfl⟩
         rw [← hw2] at hp2 hk2 ⊢
         clear hw2 p3 f3 hpc hkc
         have hZ := Blk.new w2 107 Tryz.zeroCells107
         have hkz := (Keeps.refl Non w2).alloc (.cells Tryz.zeroCells107 107)
         have hin : (Tryz.prog.info? 107).map (·.size) = some (wc0 K.d ((at_ : Int) + (j : Int))).size := by rw [wc0_size]; kernel_rfl
         have hzs : Tryz.zeroCells107.size = (wc0 K.d ((at_ : Int) + (j : Int))).size := by rw [wc0_size, zsize97]
         go_upto_region 17 with (first
           | ((with_reducible show wpList _ _ _ ({ dst := some 73, op := _, type := _, pos := _, after := _, guard := _ } :: _) _ _); go_must (refine wpList_build_as rfl 107 _ rfl (wc0 K.d ((at_ : Int) + (j : Int))) (by kernel_rfl) ?_))
           | ((with_reducible show wpList _ _ _ ({ dst := none, op := Op.store 107 _ _, type := _, pos := _, after := _, guard := _ } :: _) _ _); go_must (refine wpList_store_blk rfl 107 (.tmp 10) (.tmp 73) rfl w2.heap.size (wc0 K.d ((at_ : Int) + (j : Int))) rfl rfl 107 _ hZ hin hzs (wc0_one _ _) ?_); intro w4 hZ4 hK4))
         obtain ⟨pw, hpw⟩ : ∃ z, z = w2.heap.size := ⟨_, rfl⟩
         rw [← hpw] at hZ4 hK4 ⊢
         have HPW := Lib.hid hpw
         clear hpw hZ
         have hAb : ∃ ab ao, A = some ⟨ab, ao, none⟩ := by
           obtain ⟨ab, ao, e, -⟩ := hAx.at_ (k := 0) (by omega)
           exact ⟨ab, ao, e⟩
         obtain ⟨ab, ao, rfl⟩ := hAb
         have hab : ab < wz.heap.size := by
           obtain ⟨ad, e, h'⟩ := hAx.lt (by omega)
           injection e with e
           subst e
           exact h'
         have habF : ¬ Fr K wx ab := by
           have h1 := hF _ rfl
           have h2 : ab < w.heap.size := by
             obtain ⟨ad, e, h'⟩ := hA.lt (by omega)
             injection e with e
             subst e
             exact h'
           rintro (e | e | e | e)
           · exact h1 (.inl e)
           · exact h1 (.inr (.inl e))
           · exact h1 (.inr (.inr (.inl e)))
           · rcases hN _ e with e' | e'
             · exact h1 (.inr (.inr (.inr e')))
             · omega
         have hz2 : wz.heap.size ≤ pw := by rw [HPW.out]; exact hk2.size
         have hA4 : At w4 (some ⟨ab, ao, none⟩) bs := ((hAx.keep hk2 fun ad e h' => by injection e with e; subst e; exact habF (.inl h')).non hkz).keep hK4 fun ad e h' => by injection e with e; subst e; have h2' : ab = pw := h'; omega
         have hsl : 128 * j + 128 ≤ bs.length := by omega
         have hsec : sec0 (bs.drop (128 * j)) = (bs.drop (128 * j)).take 128 := sec0_eq (by rw [List.length_drop]; omega)
         have hAs : At w4 (some ⟨ab, ao + j * 128, none⟩) (sec0 (bs.drop (128 * j))) := by
           rw [hsec, Nat.mul_comm j 128]
           exact At.dropx hA4 rfl (128 * j) 128
         have hxl := sec0_len (bs.drop (128 * j))
         obtain ⟨X, hX⟩ : ∃ X : Wt, X = ⟨K.d, at_ + j, sec0 (bs.drop (128 * j)), hxl⟩ := ⟨_, rfl⟩
         have HX := Lib.hid hX
         have HXX : Hid (X = ⟨sx.d, at_ + j, sec0 (bs.drop (128 * j)), sec0_len (bs.drop (128 * j))⟩) := Lib.hid (by rw [hD.hd]; exact hX)
         have hspl : (wc0 K.d ((at_ : Int) + (j : Int))).toList.take 2 ++ ((sec0 (bs.drop (128 * j))).map bv ++ (wc0 K.d ((at_ : Int) + (j : Int))).toList.drop (2 + ((sec0 (bs.drop (128 * j))).map bv).length)) = encW X := by
           rw [hX]
           simp [wc0, encW, hxl, zeros]
         have HSP := Lib.hid hspl
         have HXD : Hid (X.d = sx.d) := Lib.hid (by rw [hX, hD.hd])
         clear hspl hX hsec hsl
         generalize sec0 (bs.drop (128 * j)) = sx0 at hAs hxl HX HSP
         obtain ⟨J, hJ⟩ : ∃ J : Nat, J = j * 128 := ⟨_, rfl⟩
         have hb1 : (J : Int) ≤ 128 * (m : Int) := by omega
         have hne : ¬ c = J := by omega
         rw [← hJ] at hAs
         have hmin := Lib.hid (show sx0.length = Nat.min (128 * m - J) 128 by rw [hxl]; show _ = min _ _; omega)
         have HJ := Lib.hid hJ
         have hw1 : IntKind.i64.wrap ((j : Int) * 128) = (J : Int) := by rw [IntKind.wrap_i64]; omega
         clear hJ
         have hZt : Blk w4 pw 107 (wc0 K.d ((at_ : Int) + (j : Int))).toList.toArray := by rw [Array.toArray_toList]; exact hZ4
         have hcl : (wc0 K.d ((at_ : Int) + (j : Int))).toList.length = 130 := by rw [Array.length_toList, wc0_size]
         simp only [Act.put]
         have hq1 := Lib.hid (show (sx0.map bv).length = Nat.min (128 * m - J) 128 by rw [List.length_map]; exact hmin.out)
         have hq2 : Hid (0 < (sx0.map bv).length → (some ⟨pw, 2, none⟩ : Option Addr) = some ⟨pw, 2, none⟩ ∧ ∃ ad, (some ⟨ab, ao + J, none⟩ : Option Addr) = some ad ∧ ∀ j v, (sx0.map bv)[j]? = some v → w4.drew.cell? (ad.add j) = some v) := Lib.hid (fun hp => ⟨rfl, (At.non hAs (Keeps.refl Non w4).drew).some (by simpa using hp)⟩)
         obtain ⟨CC, hCC⟩ : ∃ CC, CC = (wc0 K.d ((at_ : Int) + (j : Int))).toList := ⟨_, rfl⟩
         rw [← hCC] at hZt hcl HSP
         have hq3 := Lib.hid (show 2 + (sx0.map bv).length ≤ CC.length by rw [List.length_map, hxl, hcl]; decide)
         have hq4 : Blk w4.drew pw 107 CC.toArray := hZt
         have hq5 := Lib.hid (pc_one sx0)
         clear hCC
         clear hZ4 hin hzs hmin
         go_cut [] from 74 to 80 (fun wc => Blk wc pw 107 (encW X).toArray ∧ Keeps (Only pw) w4 wc)
         case first =>
           go_region_law ((with_reducible show (if Region.wanted ({ dst := some 80, op := _, type := _, pos := _, after := _, guard := _ } : Oper) _ = true then _ else _)); go_must (refine step_copy_one (o := ⟨some 80, _, _, _, _, _⟩) rfl (.tmp 75) (.tmp 79) 22 22 rfl 5 Tryz.underlying22 infoS5 (some ⟨pw, 2, none⟩) (some ⟨ab, ao + J, none⟩) 128 128 (128 * m - J) (c - J) (by kernel_rfl) (by kernel_rfl) pw 2 CC 107 hq4 (sx0.map bv) hq1.out hq2.out hq3.out hq5.out ?_); intro w5 hZ5 hK5; rw [HSP.out] at hZ5)
           all_goals
             go_wp2_with fail
             go_meet
             case rel => exact ⟨hZ5, ((Keeps.refl (Only pw) w4).drew).trans hK5⟩
         case rest =>
           obtain ⟨hZ5, hK5⟩ := hcut
           obtain ⟨w5, rfl⟩ : ∃ V : World, V = wc := ⟨_, rfl⟩
           clear hq1 hq2 hq3 hq4 hq5 hw1 hb1 hne hZt hcl HSP hAs hA4
           go_upto_region 18 with fail
           have hkA : Keeps (Only K.p) wz w5 := ((hk2.non hkz).then hK4 fun i hi e => by unfold Only at e; omega).then hK5 fun i hi e => by unfold Only at e; omega
           have hpl := hp.lt
           have hp5 : Blk w5 K.p 104 #[wx.v, .int .i64 nl, .bool sx.off, .int .i64 (wrap64 (z + 1)), K.dv.v] := ((hp2.non hkz).one hK4 (by omega)).one hK5 (by omega)
           have hW5 : RowP w5 107 130 encW wx.v sx.waits := hD.wt.keep hkA fun q hq e => by unfold Only at e; exact own_type hD.wt hp (by decide) (e ▸ hq)
           have hwxn := hD.wn
           have hz5 : wz.heap.size ≤ w5.heap.size := hkA.size
           clear hk2 hkz hK4 hp2
           obtain ⟨wA, wn, wc⟩ := wx
           simp only at hwxn
           subst hwxn
           have hd5 : Keeps Non w5 w5.drew := (Keeps.refl Non w5).drew
           have ha5 : Keeps Non w5 (w5.drew.alloc (.cells (encW X).toArray 107)) := hd5.alloc _
           have d1 : w5.drew.cell? ⟨K.p, 0, none⟩ = some (.slice wA sx.waits.length wc) := (hp5.non hd5).cell 0
           have hbs := fun W => bs91 (encW X).toArray (by rw [List.size_toArray, encW_len]) W
           have hp5a := hp5.non ha5
           have hW5a := hW5.non ha5
           have hAt5 : Ats (w5.drew.alloc (.cells (encW X).toArray 107)) (some ⟨w5.drew.heap.size, 0, none⟩) ([X].flatMap encW) := Ats.lit w5.drew _ 107 _ (by simp)
           have HB : Hid (sx.waits.length + [X].length ≤ maxLen ∧ (sx.waits.length + [X].length) * 144 ≤ 140737488355328) := Lib.hid (by have := HWL.out; rw [List.length_singleton]; unfold maxLen; omega)
           have hpwn : pw ∉ own (.slice wA sx.waits.length wc) := fun hq => by have := RowP.lt hD.wt _ hq; omega
           have d1a : (w5.alloc (.cells (encW X).toArray 107)).cell? ⟨K.p, 0, none⟩ = some (.slice wA sx.waits.length wc) := ((hp5.non ((Keeps.refl Non w5).alloc _))).cell 0
           go_cut [] from 81 to 90 (fun wc' => ∃ wv' : Sl, Blk wc' K.p 104 #[wv'.v, .int .i64 nl, .bool sx.off, .int .i64 (wrap64 (z + 1)), K.dv.v] ∧ RowP wc' 107 130 encW wv'.v (sx.waits ++ [X]) ∧ wv'.n = (sx.waits ++ [X]).length ∧ (∀ q ∈ own wv'.v, q ∈ own (.slice wA sx.waits.length wc) ∨ w5.heap.size ≤ q) ∧ Keeps (fun g => g = K.p ∨ g ∈ own (.slice wA sx.waits.length wc)) w5 wc')
           case first =>
             have hra : w5.rangeAt pw 0 (encW X) := fun jj v hj => by
               rw [show (0 + jj) = jj by omega, hZ5.cell]
               simpa using hj
             have hraN : Hid (∀ V, Keeps Non w5 V → V.rangeAt pw 0 (encW X)) := Lib.hid (fun V hV jj v hj => hV.cell (hra jj v hj) id)
             refine wp_region_held_drew (S := fun w' : World => w'.rangeAt pw 0 (encW X)) (by kernel_rfl) hra (fun hH0 => ?_)
             refine wpAnyH_take (i := 0) (oi := ⟨some 81, _, _, _, _, _⟩) (v := .pointer (some ⟨K.p, 0, none⟩)) rfl (by kernel_rfl) (by kernel_rfl) (by kernel_rfl) (fun _ _ _ h => h) (Or.inl ⟨by kernel_rfl, by intro w' hw'; go_simp⟩) (by assumption) ?_
             simp only [Act.put, List.setIfInBounds_toArray, List.set_cons_zero, List.set_cons_succ]
             refine wpAnyH_take (i := 1) (oi := ⟨some 82, _, _, _, _, _⟩) (v := .pointer (some ⟨K.p, 0, none⟩)) rfl (by kernel_rfl) (by kernel_rfl) (by kernel_rfl) (fun _ _ _ h => h) (Or.inl ⟨by kernel_rfl, by intro w' hw'; go_simp⟩) (by assumption) ?_
             simp only [Act.put, List.setIfInBounds_toArray, List.set_cons_zero, List.set_cons_succ]
             refine wpAnyH_take (i := 2) (oi := ⟨some 83, _, _, _, _, _⟩) (v := .pointer (some ⟨K.p, 0, none⟩)) rfl (by kernel_rfl) (by kernel_rfl) (by kernel_rfl) (fun _ _ _ h => h) (Or.inl ⟨by kernel_rfl, by intro w' hw'; go_simp⟩) (by assumption) ?_
             simp only [Act.put, List.setIfInBounds_toArray, List.set_cons_zero, List.set_cons_succ]
             refine wpAnyH_take (i := 3) (oi := ⟨some 84, _, _, _, _, _⟩) (v := .pointer (some ⟨K.p, 0, none⟩)) rfl (by kernel_rfl) (by kernel_rfl) (by kernel_rfl) (fun _ _ _ h => h) (Or.inl ⟨by kernel_rfl, by intro w' hw'; go_simp⟩) (by assumption) ?_
             simp only [Act.put, List.setIfInBounds_toArray, List.set_cons_zero, List.set_cons_succ]
             refine wpAnyH_take (i := 5) (oi := ⟨some 86, _, _, _, _, _⟩) (v := .agg (encW X).toArray) rfl (by kernel_rfl) (by kernel_rfl) (by kernel_rfl) (fun _ _ _ h => h) (yieldsIf_load_mid (by kernel_rfl) 107 (.tmp 10) rfl pw 0 (by kernel_rfl) (encW X) _ (fun _ h => h) Tryz.underlying107 rfl (by rw [encW_len]; kernel_rfl)) (by assumption) ?_
             simp only [Act.put, List.setIfInBounds_toArray, List.set_cons_zero, List.set_cons_succ]
             refine wpAnyH_ready (rs := [4, 6]) (by kernel_rfl) (by simp) ?_
             refine AllReadyH.cons (o := ⟨some 85, _, _, _, _, _⟩) rfl (fun K' hK' => ?_) (AllReadyH.cons (o := ⟨some 87, _, _, _, _, _⟩) rfl (fun K' hK' => ?_) AllReadyH.nil)
             case' refine_1 =>
               go_simp
               refine hK'.out _ _ (hraN.out _ hd5) (fun hH => ?_)
               clear hK'
               clear K'
               try simp only [Act.put, List.setIfInBounds_toArray, List.set_cons_zero, List.set_cons_succ]
               refine wpAnyH_ready (rs := [6]) (by kernel_rfl) (by simp) ?_
               refine AllReadyH.cons (o := ⟨some 87, _, _, _, _, _⟩) rfl (fun K' hK' => ?_) AllReadyH.nil
               refine step_one97 rfl (.tmp 86) rfl (encW X).toArray (by rw [List.size_toArray, encW_len]) (by kernel_rfl) ?_
               refine hK'.out _ _ (hraN.out _ ha5) (fun hH => ?_)
               clear hK'
               clear K'
               try simp only [Act.put, List.setIfInBounds_toArray, List.set_cons_zero, List.set_cons_succ]
             case' refine_2 =>
               refine step_one97 rfl (.tmp 86) rfl (encW X).toArray (by rw [List.size_toArray, encW_len]) (by kernel_rfl) ?_
               refine hK'.out _ _ (hraN.out _ ha5) (fun hH => ?_)
               clear hK'
               clear K'
               try simp only [Act.put, List.setIfInBounds_toArray, List.set_cons_zero, List.set_cons_succ]
               refine wpAnyH_ready (rs := [4]) (by kernel_rfl) (by simp) ?_
               refine AllReadyH.cons (o := ⟨some 85, _, _, _, _, _⟩) rfl (fun K' hK' => ?_) AllReadyH.nil
               go_simp
               refine hK'.out _ _ (hraN.out _ ha5) (fun hH => ?_)
               clear hK'
               clear K'
               try simp only [Act.put, List.setIfInBounds_toArray, List.set_cons_zero, List.set_cons_succ]
             all_goals
               refine wpAnyH_ready (rs := [7]) (by kernel_rfl) (by simp) ?_
               refine AllReadyH.cons (o := ⟨some 88, _, _, _, _, _⟩) rfl (fun K' hK' => ?_) AllReadyH.nil
               refine step_append_row (o := ⟨some 88, _, _, _, _, _⟩) rfl (.tmp 85) (.tmp 87) 102 rfl 107 130 encW (.agg Tryz.zeroCells107) 144 Tryz.underlying102 info97 zsize97 (by decide) (encW_len) (encW_one) (.slice wA sx.waits.length wc) sx.waits (by kernel_rfl) hW5a (some ⟨w5.drew.heap.size, 0, none⟩) 1 1 [X] (by kernel_rfl) rfl hAt5 HB.out.1 HB.out.2 ?_
               intro u8 w8 hO8 hK8 hat
               obtain ⟨⟨A8, n8, c8⟩, rfl, h8⟩ := RowP.sl hO8
               have hn8 : n8 = sx.waits.length + 1 := by rw [show n8 = (sx.waits ++ [X]).length from h8, List.length_append]; rfl
               clear h8
               subst hn8
               have hB8 := hp5a.keep hK8 (own_type hW5a hp5a (by decide))
               have z8 := hB8.cell 0
               have f8 := hB8.frozen 0
               have hZ8 := (hZ5.non ha5).keep hK8 hpwn
               have hr8 : w8.rangeAt pw 0 (encW X) := fun jj v hj => by
                 rw [show (0 + jj) = jj by omega, hZ8.cell]
                 simpa using hj
               refine hK'.out _ _ (hr8) (fun hH => ?_)
               clear hK'
               clear K'
               try simp only [Act.put, List.setIfInBounds_toArray, List.set_cons_zero, List.set_cons_succ]
               refine wpAnyH_take (i := 8) (oi := ⟨some 89, _, _, _, _, _⟩) (v := .pointer (some ⟨K.p, 0, none⟩)) rfl (by kernel_rfl) (by kernel_rfl) (by kernel_rfl) (fun _ _ _ h => h) (Or.inl ⟨by kernel_rfl, by intro w' hw'; go_simp⟩) (by assumption) ?_
               simp only [Act.put, List.setIfInBounds_toArray, List.set_cons_zero, List.set_cons_succ]
               refine wpAnyH_take (i := 9) (oi := ⟨some 90, _, _, _, _, _⟩) (v := .pointer (some ⟨K.p, 0, none⟩)) rfl (by kernel_rfl) (by kernel_rfl) (by kernel_rfl) (fun _ _ _ h => h) (Or.inl ⟨by kernel_rfl, by intro w' hw'; go_simp⟩) (by assumption) ?_
               simp only [Act.put, List.setIfInBounds_toArray, List.set_cons_zero, List.set_cons_succ]
               refine wpAnyH_ready (rs := [10]) (by kernel_rfl) (by simp) ?_
               refine AllReadyH.cons (o := ⟨none, _, _, _, _, _⟩) rfl (fun K' hK' => ?_) AllReadyH.nil
               go_simp
               have hk9 : Keeps (Only K.p) w8 (w8.setCell ⟨K.p, 0, none⟩ (.slice A8 (sx.waits.length + 1) c8)) := (Keeps.refl (Only K.p) _).set (p := ⟨K.p, 0, none⟩) rfl _
               have hB9 := hB8.set 0 (.slice A8 (sx.waits.length + 1) c8)
               have hr9 : (w8.setCell ⟨K.p, 0, none⟩ (.slice A8 (sx.waits.length + 1) c8)).rangeAt pw 0 (encW X) := fun jj v hj => hk9.cell (hr8 jj v hj) (by show ¬ pw = K.p; omega)
               refine hK'.out _ _ (hr9) (fun hH => ?_)
               clear hK'
               clear K'
               try simp only [Act.put, List.setIfInBounds_toArray, List.set_cons_zero, List.set_cons_succ]
               refine wpAnyH_done (by kernel_rfl) ?_ _
               go_wp2_with fail
               go_meet
               case rel =>
                 refine ⟨⟨A8, sx.waits.length + 1, c8⟩, hB9, hO8.keep hk9 fun q hq e => (by unfold Only at e; exact own_type hO8 hB8 (by decide) (e ▸ hq)), by simp, fun q hq => ?_, ?_⟩
                 · rw [mem_own] at hq
                   rcases hat with e | e
                   · exact .inl (mem_own.2 (e.symm.trans hq))
                   · have e2 := e.symm.trans hq
                     injection e2 with e2
                     subst e2
                     right
                     simp
                 · exact ((ha5.of_non (S := fun g => g = K.p ∨ g ∈ own (.slice wA sx.waits.length wc))).trans (hK8.mono fun k e => .inr e)).trans (hk9.mono fun k e => .inl e)
           case rest =>
             obtain ⟨wy, hp9, hW9, hwn9, ho9, hK9⟩ := hcut
             obtain ⟨w9, rfl⟩ : ∃ V : World, V = wc := ⟨_, rfl⟩
             have hpnw : K.nw ≠ K.p := hD.nw.ne hp (by decide)
             have hppl : K.pl ≠ K.p := hD.pl.ne hp (by decide)
             have hnw5 := hD.nw.one hkA hpnw
             have hpl5 := hD.pl.one hkA hppl
             have hnw9 : Blk w9 K.nw 5 (pc sx.now) := hnw5.keep hK9 (by rintro (e | e); exact hpnw e; exact own_type hW5 hnw5 (by decide) e)
             have hpl9 : Blk w9 K.pl 5 (pc sx.plat) := hpl5.keep hK9 (by rintro (e | e); exact hppl e; exact own_type hW5 hpl5 (by decide) e)
             have hpwp : pw ≠ K.p := by omega
             have hpwn5 : pw ≠ K.nw := by have := hD.nw.lt; omega
             have hZ9 : Blk w9 pw 107 (encW X).toArray := hZ5.keep hK9 (by rintro (e | e); exact hpwp e; exact hpwn e)
             have hk9a : Keeps (fun g => g = K.p ∨ g ∈ own (.slice wA sx.waits.length wc)) wz w9 := (hkA.mono fun k e => .inl e).trans hK9
             have hk9F : Keeps (Fr K ⟨wA, sx.waits.length, wc⟩) wz w9 := hk9a.mono fun k e => by
               rcases e with e | e
               · exact .inl e
               · exact .inr (.inr (.inr e))
             have hd9 := hD.dk.keep hk9F (hD.free hD.dk (by decide) (by decide) (by decide))
             have hk9d : Keeps Non w9 w9.drew := (Keeps.refl Non w9).drew
             have e2 : w9.drew.cell? ⟨K.d, 2, none⟩ = some (.slice (some ⟨K.nw, 0, none⟩) (128 * sx.n) (128 * sx.n)) := (hd9.non hk9d).cell 2
             have hXl := X.hb
             have hA9 : At w9.drew (some ⟨pw, 2, none⟩) X.b := fun i hi => by
               refine ⟨_, rfl, ?_⟩
               rw [addr_add_none, (hZ9.non hk9d).cell]
               simp [encW, show 2 + i = i + 1 + 1 by omega, hi]
             obtain ⟨Q, hQ⟩ : ∃ Q : Nat, Q = at_ + j := ⟨_, rfl⟩
             have hQn : Q < sx.n := by rw [HSN.out]; omega
             have hn9 : sx.n ≤ 8192 := hD.ok.n2
             have HQn := Lib.hid hQn
             have HSc := Lib.hid (fun V => sector34_any (.pointer (some ⟨K.d, 0, none⟩)) K.nw sx.n Q V hQn hn9)
             have hnw9d := hnw9.non hk9d
             have hmn : Hid (X.b.length = Nat.min 128 128) := Lib.hid hXl
             have hft : Hid (128 * Q + X.b.length ≤ sx.now.length) := Lib.hid (by rw [hXl, hD.ok.nw]; omega)
             have HQ := Lib.hid hQ
             have hwq : IntKind.i64.wrap ((at_ : Int) + (j : Int)) = (Q : Int) := by rw [IntKind.wrap_i64]; omega
             clear hQ hQn
             go_upto_region 19 with fail
             go_region_law (first
               | ((with_reducible show (if Region.wanted ({ dst := some 99, op := _, type := _, pos := _, after := _, guard := _ } : Oper) _ = true then _ else _)); go_simp; go_at_call 38; refine (HSc.out _).mono ?_; rintro e w10 ⟨rfl, hw10⟩; subst w10; go_must (skip))
               | ((with_reducible show (if Region.wanted ({ dst := some 102, op := _, type := _, pos := _, after := _, guard := _ } : Oper) _ = true then _ else _)); go_must (refine step_copy_bytes (o := ⟨some 102, _, _, _, _, _⟩) rfl (.tmp 99) (.tmp 101) 22 22 rfl 5 Tryz.underlying22 infoS5 (some ⟨K.nw, 128 * Q, none⟩) (some ⟨pw, 2, none⟩) 128 (128 * sx.n - 128 * Q) 128 128 (by kernel_rfl) (by kernel_rfl) K.nw (128 * Q) sx.now 5 hnw9d X.b hmn.out rfl hA9 hft.out ?_); intro w11 hB11 hK11))
             all_goals
               go_wp2_with fail
               go_roundw
               case rel =>
                 have hk11 : Keeps (Only K.nw) w9 w11 := ((Keeps.refl (Only K.nw) w9).drew).trans hK11
                 have hkz : Keeps (Fr K ⟨wA, sx.waits.length, wc⟩) wz w11 := hk9F.trans (hk11.mono fun k e => .inr (.inr (.inl e)))
                 have hXe : X.at_ = Q := by rw [HX.out, HQ.out]
                 have hoX := Dsk.one_ok hD.ok X (by rw [hXe]; exact HQn.out)
                 have hp11 := hp9.one hk11 (Ne.symm hpnw)
                 have hDn : Dm w0 w11 K (sx.one X) wy := by
                   refine hD.next hkz ⟨wrap64 (z + 1), ?_⟩ (hpl9.one hk11 hD.ne) ?_ (hW9.keep hk11 fun q hq e => by unfold Only at e; exact own_type hW9 hnw9 (by decide) (e ▸ hq)) hwn9 (fun q hq => ?_) hoX rfl rfl (fun x hx => by simp only [Dsk.one, List.mem_append, List.mem_singleton] at hx; rcases hx with hx | hx; exact .inl hx; exact .inr (by rw [hx, HXD.out]))
                   · rw [show (sx.one X).left = nl from HNL.out.symm]
                     exact hp11
                   · show Blk w11 K.nw 5 (pc (put sx.now X.at_ X.b))
                     unfold put
                     rw [hXe]
                     exact hB11
                   · rcases ho9 q hq with e | e
                     · exact .inl e
                     · right; omega
                 refine ⟨j + 1, sx.one X, wy, by omega, by go_num, hDn, hoff, HSN.out, ?_, ?_, ?_, ?_, ?_⟩
                 · have := HWL.out
                   show (sx.waits ++ [X]).length = _
                   rw [List.length_append, List.length_singleton]
                   omega
                 · rw [← hwr, show m - j = (m - j - 1) + 1 by omega, Dsk.wr, if_neg hz, ← HXX.out, List.drop_drop]
                   rw [show 128 * j + 128 = 128 * (j + 1) by omega, show m - j - 1 = m - (j + 1) by omega]
                   rfl
                 · exact hAx.keep hkz fun ad e h' => by injection e with e; subst e; exact habF h'
                 · exact hK.then hkz fun i hi e => by
                     rcases e with e | e | e | e
                     · exact .inl e
                     · exact .inr (.inl e)
                     · exact .inr (.inr (.inl e))
                     · rcases hN _ e with e' | e'
                       · exact .inr (.inr (.inr e'))
                       · omega
                 · intro q hq
                   rcases ho9 q hq with e | e
                   · exact hN q e
                   · right; have := hK.size; omega
               case measure => simp [intOf]; omega
   · obtain rfl : j = m := by omega
     go_wp2_with fail
     go_ret
     have hR : R = (sx, true) := by rw [← hwr, Nat.sub_self, Dsk.wr]
     refine ⟨wx, ?_, ?_, hK, hN⟩
     · rw [HRV.out, hR]; rfl
     · rw [hR]; exact hD
end Go.Proofs.YtolknnmaadkgiaaGreatDoor
