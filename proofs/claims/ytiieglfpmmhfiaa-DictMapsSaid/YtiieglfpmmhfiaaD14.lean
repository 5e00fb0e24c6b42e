/- Pages laid down. -/
import Derived.Test.YtiieglfpmmhfiaaD13
import Derived.Lib.BufferWrite
import Derived.Deep.RegionLaw
namespace Go.Proofs.Ytiieglfpmmhfiaa
set_option maxRecDepth 100000
open Go.RowKit Go.Uc

section law
variable {P : Program} {ops : Array Oper} {rest : List Oper} {o : Oper} {a : Act} {w : World} {Q : Exit → Act → World → Prop}
theorem step_copy_str {K : Act → World → Prop} {E : Prop} (hgd : o.guard = none) (d s : Operand) (dT sT : TypeId)
    (ho : o.op = .call { callee := .builtin .copy, args := #[d, s], argTypes := #[dT, sT] }) (elem : TypeId) (hu : P.underlying dT = some (.slice elem)) (hsz : (P.info? elem).map (·.size) = some 1)
    (g off dLen dCap : Nat) (hd : a.eval d = .slice (some ⟨g, off, none⟩) dLen dCap) (n : List UInt8) (hs : a.eval s = .string (str n))
    (cur : List UInt8) (t : TypeId) (hg : Blk w g t (pc cur)) (hle : n.length ≤ dLen) (hfit : off + n.length ≤ cur.length)
    (h : ∀ w', Blk w' g t (pc (cur.take off ++ (n ++ cur.drop (off + n.length)))) → Keeps (Only g) w w' → K (a.put o.dst (.int .i64 n.length)) w') :
    if Region.wanted o (yielded ops a.tmps) = true then Oper.wp P o a w K Q else E := by
  have hss : (str n).size = n.length := str_size n
  have hrun := Lib.run_copy_row_string (P := P) w dT sT o.type elem g off dLen dCap (str n) (pc cur) t hu hsz hg (by rw [hss]; exact hle) (by rw [hss, pc_size]; exact hfit)
  rw [hss] at hrun
  have e1 : ((pc cur).toList.take off ++ Lib.byteCells (str n).data.toList ++ (pc cur).toList.drop (off + n.length)).toArray = pc (cur.take off ++ (n ++ cur.drop (off + n.length))) := by
    simp [pc, Lib.byteCells, str, bv]
  rw [e1] at hrun
  have hw : Region.wanted o (yielded ops a.tmps) = true := by simp [Region.wanted, hgd]
  rw [if_pos hw]
  unfold Oper.wp
  simp [execOp, ho, resolve, invoke, builtin, hd, hs, hrun, Result.andThen]
  exact h _ (hg.row _) (Keeps.row _ _ _)
end law
theorem zero96 (w : World) : (zeroValue 96).run Try.prog w = .ok (.agg (pc (zeros 256))) w := by kernel_rfl
theorem build96 (a b c : Int) (w : World) : (Instr.build 96 #[(0, .int .u8 a), (1, .int .u8 b), (2, .int .u8 c)]).run Try.prog w = .ok (.agg (#[.int .u8 a, .int .u8 b, .int .u8 c] ++ pc (zeros 253))) w := by kernel_rfl
theorem build96r (a b : Int) (w : World) : (Instr.build 96 #[(0, .int .u8 a), (1, .int .u8 b)]).run Try.prog w = .ok (.agg (#[.int .u8 a, .int .u8 b] ++ pc (zeros 254))) w := by kernel_rfl
theorem info5 : (Try.prog.info? 5).map (·.size) = some 1 := by kernel_rfl
theorem info96 : (Try.prog.info? 96).map (·.size) = some 256 := by kernel_rfl
def entB (e : Ent) : List UInt8 := UInt8.ofNat e.name.length :: (e.name ++ le 4 e.val.toNat)
theorem entB_len (e : Ent) : (entB e).length = 5 + e.name.length := by simp [entB, le_length]; omega
theorem ents_len (l : List Ent) : (l.flatMap entB).length = roomE l := by
  induction l with
  | nil => rfl
  | cons x l ih => rw [List.flatMap_cons, List.length_append, ih, entB_len]; simp [roomE]
/-- A page's first bytes, noughts behind. -/
def pad (x : List UInt8) : List UInt8 := x ++ zeros (256 - x.length)
theorem pad_len {x : List UInt8} (h : x.length ≤ 256) : (pad x).length = 256 := by unfold pad; rw [List.length_append, zeros_length]; omega
theorem pad_set {x : List UInt8} (c : UInt8) (h : x.length < 256) : (pad x).set x.length c = pad (x ++ [c]) := by
  unfold pad
  rw [set_zeros x x.length 256 c h]
  simp
theorem pad_copy {x n : List UInt8} (_h : x.length + n.length ≤ 256) : (pad x).take x.length ++ (n ++ (pad x).drop (x.length + n.length)) = pad (x ++ n) := by
  unfold pad
  rw [List.take_left', List.drop_append, List.drop_eq_nil_of_le (by omega), zeros_drop]
  · simp [Nat.sub_sub]
  · rfl
def laidB (a b c : UInt8) (l : List Ent) : List UInt8 := pad ([a, b, c] ++ l.flatMap entB)
theorem ent_take (l : List Ent) (k : Nat) (hk : k < l.length) : (l.take (k + 1)).flatMap entB = (l.take k).flatMap entB ++ entB l[k] := by
  rw [List.take_succ_eq_append_getElem hk, List.flatMap_append]; simp

set_option maxHeartbeats 4000000 in
theorem laid_any (a b c : UInt8) (v : Value) (l : List Ent) (hf : fitE l = true) (hG : ∀ e ∈ l, GoodE e) (w : World) (hrow : RowE w v l) :
    Calls Try.prog 49 #[bv a, bv b, bv c, v] w fun e w' => e = .returned (.agg (pc (laidB a b c l))) ∧ Keeps Non w w' := by
  obtain ⟨A, cp, rfl, hc, -⟩ := hrow.val
  obtain ⟨h50, hroom⟩ := fitE_len hf
  have hz := zero96
  have hsz : (pc (zeros 256)).size = 256 := by rw [pc_size, zeros_length]
  have e0 : ((((pc (zeros 256)).setIfInBounds 0 (.int .u8 (a.toNat : Int))).setIfInBounds 1 (.int .u8 (b.toNat : Int))).setIfInBounds 2 (.int .u8 (c.toNat : Int))) = pc (pad [a, b, c]) := by
    show ((((pc (zeros 256)).setIfInBounds 0 (bv a)).setIfInBounds 1 (bv b)).setIfInBounds 2 (bv c)) = _
    rw [set_pc, set_pc, set_pc]
    rfl
  have E0 := Lib.hid e0
  clear e0
  have hlen3 : (pad [a, b, c]).length = 256 := pad_len (by simp)
  have hB0 : Blk ((w.alloc (.cells (pc (zeros 256)) 96)).alloc (.cells (pc (zeros 256)) 96)) (w.heap.size + 1) 96 (pc (zeros 256)) := by
    have := Blk.new (w.alloc (.cells (pc (zeros 256)) 96)) 96 (pc (zeros 256)); simpa using this
  have hR0 : Blk ((w.alloc (.cells (pc (zeros 256)) 96)).alloc (.cells (pc (zeros 256)) 96)) w.heap.size 96 (pc (zeros 256)) := (Blk.new w 96 (pc (zeros 256))).alloc _
  have hK0 : Keeps Non w ((w.alloc (.cells (pc (zeros 256)) 96)).alloc (.cells (pc (zeros 256)) 96)) := ((Keeps.refl _ _).alloc _).alloc _
  have HL3 := Lib.hid hlen3
  clear hlen3
  unfold bv
  go_enter Try.func49, Try.ntmps49
  go_upto_region 2 with ((with_reducible show wpList _ _ _ ({ dst := none, op := Op.store 96 _ _, type := _, pos := _, after := _, guard := _ } :: _) _ _); go_must (refine wpList_store_blk rfl 96 (.tmp 9) (.tmp 17) rfl (w.heap.size + 1) ((((pc (zeros 256)).setIfInBounds 0 (.int .u8 (a.toNat : Int))).setIfInBounds 1 (.int .u8 (b.toNat : Int))).setIfInBounds 2 (.int .u8 (c.toNat : Int))) rfl rfl 96 (pc (zeros 256)) hB0 (by rw [E0.out, pc_size, HL3.out]; exact info96) (by rw [E0.out, pc_size, pc_size, HL3.out, zeros_length]) (by rw [E0.out]; exact pc_all _) ?_); intro w1 hB1 hK1; rw [E0.out] at hB1)
  have hR1 := hR0.one hK1 (by omega)
  have hK01 : Keeps Non w w1 := hK0.then hK1 fun i hi e => by unfold Only at e; omega
  clear hB0 hR0 hK0 hK1 hz hsz
  obtain ⟨pb, hpb⟩ : ∃ b, b = w.heap.size + 1 := ⟨_, rfl⟩
  rw [← hpb] at hB1 ⊢
  obtain ⟨rb, hrb⟩ : ∃ b, b = w.heap.size := ⟨_, rfl⟩
  rw [← hrb] at hR1 ⊢
  have hpw : w.heap.size ≤ pb := by omega
  have hrw : w.heap.size ≤ rb := by omega
  have hpr : rb ≠ pb := by omega
  clear hpb hrb
  have hxl : ∀ k, ([a, b, c] ++ (l.take k).flatMap entB).length = 3 + roomE (l.take k) := fun k => by rw [List.length_append, ents_len]; rfl
  have HXL := Lib.hid hxl
  clear hxl
  go_upto_region 4 with fail
  go_loopw [10, 20] (fun at_ i wr => ∃ k, k ≤ l.length ∧ i = .int .i64 (k : Int) ∧ at_ = .int .i64 ((3 + roomE (l.take k) : Nat) : Int) ∧ Blk wr pb 96 (pc (pad ([a, b, c] ++ (l.take k).flatMap entB))) ∧ Blk wr rb 96 (pc (zeros 256)) ∧ Keeps Non w wr) (fun _ i _ => l.length - (intOf i).toNat)
  case atStart => exact ⟨0, Nat.zero_le _, rfl, rfl, hB1, hR1, hK01⟩
  case round =>
    obtain ⟨k, hk, rfl, rfl, hB, hRr, hK⟩ := hrel
    obtain ⟨wx, rfl⟩ : ∃ W : World, W = wr := ⟨_, rfl⟩
    clear hB1 hR1 hK01
    by_cases hlt : k < l.length
    · obtain ⟨eb, cap, ev, -, x0, x1, -, -⟩ := rowE_at (hrow.non hK) hlt
      injection ev with e1 e2 e3
      clear e2
      subst e1 e3
      have hge := hG l[k] (List.getElem_mem hlt)
      have htk := roomE_take l k hlt
      have hle := roomE_le l (k + 1)
      have het := ent_take l k hlt
      generalize l[k] = e at x0 x1 hge htk het
      obtain ⟨g1, g2, g3, g4⟩ := hge
      obtain ⟨n, v⟩ := e
      obtain ⟨m, hm⟩ : ∃ m : Nat, v = (m : Int) := ⟨v.toNat, by show v = _; simp at g3; omega⟩
      subst hm
      simp only at x0 x1 g1 g2 g3 g4 htk
      have hxl := HXL.out k
      have hxl1 := HXL.out (k + 1)
      have HET := Lib.hid het
      have HTK := Lib.hid htk
      obtain ⟨X, hX⟩ : ∃ X, X = [a, b, c] ++ (l.take k).flatMap entB := ⟨_, rfl⟩
      rw [← hX] at hB hxl
      have HX := Lib.hid hX
      have HXL1 := Lib.hid hxl1
      have hpb : 3 + roomE (l.take k) + 5 + n.length ≤ 256 := by omega
      obtain ⟨p, hp⟩ : ∃ p, p = 3 + roomE (l.take k) := ⟨_, rfl⟩
      rw [← hp] at hxl hpb ⊢
      have HP := Lib.hid hp
      clear hX hp het htk hle hxl1
      go_upto_region 6 with fail
      have hk2 := (Keeps.refl Non wx).alloc (.cells #[.string (str n), .int .i64 (m : Int)] 56)
      have hE2 := Blk.new wx 56 #[.string (str n), .int .i64 (m : Int)]
      obtain ⟨w2, hw2⟩ : ∃ W : World, W = wx.alloc (.cells #[.string (str n), .int .i64 (m : Int)] 56) := ⟨_, rfl⟩
      obtain ⟨xb, hxb⟩ : ∃ b, b = wx.heap.size := ⟨_, rfl⟩
      rw [← hw2] at hk2 hE2 ⊢
      have hxp : xb ≠ pb := by have := hB.lt; omega
      rw [← hxb] at hE2 ⊢
      clear hw2 hxb x0 x1
      have hB2 := hB.non hk2
      have hRr2 := hRr.non hk2
      have hK2 := hK.non hk2
      have y0 : w2.cell? ⟨xb, 0, none⟩ = some (.string (str n)) := hE2.cell 0
      have hpad : (pad X).length = 256 := pad_len (by omega)
      have y2 : w2.cell? ⟨pb, p, none⟩ = some (bv ((pad X)[p]'(by omega))) := by rw [hB2.cell, pc_get, List.getElem?_eq_getElem (by omega)]; rfl
      have y3 := hB2.frozen p
      have hss : (str n).size = n.length := str_size n
      have hp256 : (p : Int) < 256 := by omega
      have hB3 := hB2.set p (bv (UInt8.ofNat n.length))
      rw [set_pc, ← hxl, pad_set _ (by omega), hxl, bv_ofNat _ (by omega)] at hB3
      have hK3 : Keeps (Only pb) w2 (w2.setCell ⟨pb, p, none⟩ (.int .u8 (n.length : Int))) := (Keeps.refl (Only pb) _).set (p := ⟨pb, p, none⟩) rfl _
      go_upto_region 8 with fail
      obtain ⟨p1, hp1⟩ : ∃ q, q = p + 1 := ⟨_, rfl⟩
      rw [show (p : Int) + 1 = (p1 : Int) by omega]
      obtain ⟨w3, hw3⟩ : ∃ W : World, W = w2.setCell ⟨pb, p, none⟩ (.int .u8 (n.length : Int)) := ⟨_, rfl⟩
      rw [← hw3] at hB3 hK3 ⊢
      clear hw3 y2 y3
      have hx1 : (X ++ [UInt8.ofNat n.length]).length = p1 := by rw [List.length_append, hxl, hp1]; rfl
      have hE3 := hE2.one hK3 hxp
      have hR3 := hRr2.one hK3 hpr
      have hK03 : Keeps Non w w3 := hK2.then hK3 fun i hi e => by unfold Only at e; omega
      have y0 : w3.drew.cell? ⟨xb, 0, none⟩ = some (.string (str n)) := hE3.cell 0
      have hp1i : (p1 : Int) ≤ 256 := by omega
      have hpc : p1 + n.length ≤ 256 := by omega
      have hB3d := hB3.drew
      have h256 : ¬ 256 = p1 := by omega
      have hpl : (pad (X ++ [UInt8.ofNat n.length])).length = 256 := pad_len (by omega)
      have hcp := pad_copy (x := X ++ [UInt8.ofNat n.length]) (n := n) (by omega)
      rw [hx1] at hcp
      have HCP := Lib.hid hcp
      have HPL := Lib.hid hpl
      have HX1 := Lib.hid hx1
      have HP1 := Lib.hid hp1
      clear hp1 hcp hpl hx1 hpad hxl
      obtain ⟨p2, hp2⟩ : ∃ q, q = p1 + n.length := ⟨_, rfl⟩
      have hwr : IntKind.i64.wrap ((p1 : Int) + (n.length : Int)) = (p2 : Int) := by rw [IntKind.wrap_i64]; omega
      have HP2 := Lib.hid hp2
      clear hp2
      go_region_law (first
        | (go_loud (refine step_copy_str (o := ⟨some 37, _, _, _, _, _⟩) rfl (.tmp 34) (.tmp 36) 53 9 rfl 5 Try.underlying53 info5 pb p1 (256 - p1) (256 - p1) rfl n rfl (pad (X ++ [UInt8.ofNat n.length])) 96 hB3d (by omega) (by rw [HPL.out]; exact hpc) ?_; intro w4 hB4 hK4; rw [HCP.out] at hB4)))
      have hp2i : (p1 : Int) + (n.length : Int) ≤ 256 := by omega
      have hE4 := hE3.drew.one hK4 hxp
      have hR4 := hR3.drew.one hK4 hpr
      have hK04 : Keeps Non w w4 := (hK03.drew).then hK4 fun i hi e => by unfold Only at e; omega
      have hp24 : p2 + 4 ≤ 256 := by have := HP1.out; have := HP2.out; omega
      have y1 : w4.cell? ⟨xb, 1, none⟩ = some (.int .i64 (m : Int)) := hE4.cell 1
      have hB4' : Blk w4 pb 96 (pc (pad (X ++ [UInt8.ofNat n.length] ++ n ++ le 0 m))) := by show Blk w4 pb 96 (pc (pad (_ ++ []))); rw [List.append_nil]; exact hB4
      have hx2 : ∀ j, (X ++ [UInt8.ofNat n.length] ++ n ++ le j m).length = p2 + j := fun j => by rw [List.length_append, List.length_append, HX1.out, le_length, HP2.out]
      have HX2 := Lib.hid hx2
      clear y0 HCP hx2 hB3 hK3 hB3d h256 hwr
      go_upto_region 10 with fail
      go_loopw [10, 39] (fun at_ i wr => ∃ j : Nat, j ≤ 4 ∧ i = .int .i64 (j : Int) ∧ at_ = .int .i64 ((p2 + j : Nat) : Int) ∧ Blk wr pb 96 (pc (pad (X ++ [UInt8.ofNat n.length] ++ n ++ le j m))) ∧ Keeps (Only pb) w4 wr) (fun _ i _ => 4 - (intOf i).toNat)
      case atStart => exact ⟨0, by omega, rfl, rfl, hB4', Keeps.refl _ _⟩
      case round =>
        obtain ⟨j, hj, rfl, rfl, hBj, hKj⟩ := hrel
        obtain ⟨wy, rfl⟩ : ∃ W : World, W = wr := ⟨_, rfl⟩
        by_cases hj4 : j < 4
        · have y1 : wy.cell? ⟨xb, 1, none⟩ = some (.int .i64 (m : Int)) := (hE4.one hKj hxp).cell 1
          have hxj := HX2.out j
          have hpj : (pad (X ++ [UInt8.ofNat n.length] ++ n ++ le j m)).length = 256 := pad_len (by omega)
          obtain ⟨z, y2⟩ : ∃ z, wy.cell? ⟨pb, p2 + j, none⟩ = some z := ⟨bv ((pad (X ++ [UInt8.ofNat n.length] ++ n ++ le j m))[p2 + j]'(by omega)), by rw [hBj.cell, pc_get, List.getElem?_eq_getElem (by omega)]; rfl⟩
          have y3 := hBj.frozen (p2 + j)
          have hBs := hBj.set (p2 + j) (bv (UInt8.ofNat (m / 256 ^ j % 256)))
          rw [set_pc, ← hxj, pad_set _ (by omega), hxj, ← shr_byte, List.append_assoc, ← le_snoc] at hBs
          have hKs : Keeps (Only pb) w4 (wy.setCell ⟨pb, p2 + j, none⟩ (.int .u8 ((m : Int) / 2 ^ (8 * j) % 256))) := hKj.set (p := ⟨pb, p2 + j, none⟩) rfl _
          obtain ⟨q, hq⟩ : ∃ q, q = p2 + j := ⟨_, rfl⟩
          rw [← hq] at y2 y3 hBs hKs ⊢
          have hqi : (q : Int) < 256 := by omega
          have hm0 : (0 : Int) ≤ (m : Int) := by omega
          have HQ := Lib.hid hq
          clear hq hxj hpj
          have hj3 : j = 0 ∨ j = 1 ∨ j = 2 ∨ j = 3 := by omega
          clear hj4 hj
          rcases hj3 with rfl | rfl | rfl | rfl
          · go_wp2_with fail
            go_roundw
            case rel => exact ⟨1, by omega, rfl, by have := HQ.out; go_num, by simpa using hBs, by simpa using hKs⟩
            case measure => simp [intOf]
          · go_wp2_with fail
            go_roundw
            case rel => exact ⟨2, by omega, rfl, by have := HQ.out; go_num, by simpa using hBs, by simpa using hKs⟩
            case measure => simp [intOf]
          · go_wp2_with fail
            go_roundw
            case rel => exact ⟨3, by omega, rfl, by have := HQ.out; go_num, by simpa using hBs, by simpa using hKs⟩
            case measure => simp [intOf]
          · go_wp2_with fail
            go_roundw
            case' rel => have hd : (m : Int) / 16777216 % 256 = (m : Int) / 16777216 := by omega
            case rel => exact ⟨4, by omega, rfl, by have := HQ.out; go_num, by simpa [hd] using hBs, by simpa [hd] using hKs⟩
            case measure => simp [intOf]
        · obtain rfl : j = 4 := by omega
          have HXE : Hid ([a, b, c] ++ (l.take (k + 1)).flatMap entB = X ++ [UInt8.ofNat n.length] ++ n ++ le 4 m) := Lib.hid (by rw [HET.out, HX.out]; simp [entB])
          have HPE : Hid (p2 + 4 = 3 + roomE (l.take (k + 1))) := Lib.hid (by rw [HTK.out, HP2.out, HP1.out, HP.out]; omega)
          have hR6 := hR4.one hKj hpr
          have hK6 : Keeps Non w wy := hK04.then hKj fun i hi e => by unfold Only at e; omega
          go_wp2_with fail
          go_roundw
          case rel => exact ⟨k + 1, by omega, by go_num, by rw [← HPE.out], by rw [HXE.out]; exact hBj, hR6, hK6⟩
          case measure => simp [intOf]; omega
    · obtain rfl : k = l.length := by omega
      have hall : l.take l.length = l := List.take_of_length_le (Nat.le_refl _)
      rw [hall] at hB
      have hB' : Blk wx pb 96 (pc (laidB a b c l)) := hB
      have hLL : (laidB a b c l).length = 256 := by
        have := HXL.out l.length
        rw [hall] at this
        exact pad_len (by rw [this]; omega)
      clear hB
      have HLL := Lib.hid hLL
      clear hLL hall
      go_wp2_with ((with_reducible show wpList _ _ _ _ _ _); refine wpList_load_row (o := ⟨some 54, _, _, _, _, _⟩) rfl 96 (.tmp 9) rfl pb rfl 96 (pc (laidB a b c l)) (0, 0) (.array 256 5) hB' Try.underlying96 rfl (by rw [pc_size, HLL.out]; exact info96) ?_; refine wpList_store_blk rfl 96 (.tmp 8) (.tmp 54) rfl rb (pc (laidB a b c l)) rfl rfl 96 (pc (zeros 256)) hRr (by rw [pc_size, HLL.out]; exact info96) (by rw [pc_size, pc_size, HLL.out, zeros_length]) (pc_all _) ?_; intro w7 hR8 hK8; have hK9 : Keeps Non w w7 := hK.then hK8 (fun i hi e => absurd e (by show ¬ i = rb; omega)))
      refine bodyPost_ret (results_cell_blk (ty := 96) rfl _ rb 96 _ (.array 256 5) rfl hR8 Try.underlying96 rfl (by rw [pc_size, HLL.out]; exact info96)) rfl ⟨rfl, hK9⟩
end Go.Proofs.Ytiieglfpmmhfiaa
