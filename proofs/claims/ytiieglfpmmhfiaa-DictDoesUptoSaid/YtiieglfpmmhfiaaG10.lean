/- append of a string, and of noughts, onto bytes. The document's page. The document's Pages. The document's Pages of a large dictionary. The document's rising. -/
import Derived.Test.YtiieglfpmmhfiaaG9
import Derived.Lib.AppendStr
import Derived.Lib.AppendZerosOnto
import Derived.BigRegion
namespace Go.Uc
open Go.RowKit
section az
variable {P : Program} {ops : Array Oper} {rest : List Oper} {o : Oper} {a : Act} {w : World} {Q : Exit → Act → World → Prop}
theorem zeroCells_bytes (k : Nat) : Builtin.zeroCells (Value.int .u8 0).cells k = pc (zeros k) := by
  apply Array.ext_getElem?
  intro i
  rw [pc_get]
  unfold Builtin.zeroCells zeros
  rw [List.getElem?_replicate]
  by_cases h : i < k
  · rw [if_pos h]
    simp [Value.cells, h, bv, Nat.mod_one]
  · rw [if_neg h]
    simp [Value.cells, h]
theorem run_append_room_zeros (t tn ty e : TypeId) (i : TypeInfo) (kq kn : IntKind) (ht : P.underlying t = some (.slice e)) (htn : P.underlying tn = some (.int kn)) (hi : P.info? e = some i) (hz : i.zero = some (.int .u8 0)) (hs1 : i.size = 1) (hb1 : i.bytes = 1)
    (g sLen sCap : Nat) (cur : Array Value) (hg : w.heap[g]? = some (.cells cur e (0, 0))) (k : Nat) (hk : k ≤ 1000) (h0 : 0 < k) (hroom : sLen + k ≤ sCap) (hfit : sLen + k ≤ cur.size) :
    (Builtin.append_ #[t, tn] ty #[.slice (some ⟨g, 0, none⟩) sLen sCap, .int kq k]).run P w =
      .ok (.slice (some ⟨g, 0, none⟩) (sLen + k) sCap) (w.setRow g (cur.toList.take sLen ++ (zeros k).map bv ++ cur.toList.drop (sLen + k)).toArray) := by
  have hst := run_storeCells_at P g sLen e ((zeros k).map bv) 0 cur w hg (by simpa [zeros] using hfit) (fun v hv => pc_one _ v hv)
  have hlz : ((zeros k).map bv).length = k := by simp [zeros]
  simp only [Nat.add_zero, hlz] at hst
  have hzc : (Builtin.zeroCells (Value.int .u8 0).cells k).toList = (zeros k).map bv := by rw [zeroCells_bytes]; rfl
  have hw : IntKind.i64.wrap (k : Int) = k := by rw [IntKind.wrap_i64]; omega
  have hneg : ¬ ((k : Int) < 0) := by omega
  have h48i : ¬ (281474976710656 < (k : Int)) := by omega
  have hk0 : ¬ k = 0 := by omega
  simp [Builtin.append_, run_underlying ht, run_underlying htn, sizeOf, typeInfo, zeroValue, hi, hz, hs1, hb1, asInt, asIntOf, hw, hroom, hneg, h48i, hk0, Addr.add_lit, hzc, hst]
theorem run_append_no_zeros (t tn ty e : TypeId) (i : TypeInfo) (kq kn : IntKind) (ht : P.underlying t = some (.slice e)) (htn : P.underlying tn = some (.int kn)) (hi : P.info? e = some i) (hs1 : i.size = 1) (hb1 : i.bytes = 1)
    (A : Option Addr) (sLen sCap : Nat) (hroom : sLen ≤ sCap) :
    (Builtin.append_ #[t, tn] ty #[.slice A sLen sCap, .int kq 0]).run P w = .ok (.slice A sLen sCap) w := by
  have hw : IntKind.i64.wrap 0 = 0 := by rw [IntKind.wrap_i64]; rfl
  cases A with
  | none => simp [Builtin.append_, run_underlying ht, run_underlying htn, sizeOf, typeInfo, hi, hs1, hb1, asInt, asIntOf, hw, hroom]
  | some ad => simp [Builtin.append_, run_underlying ht, run_underlying htn, sizeOf, typeInfo, hi, hs1, hb1, asInt, asIntOf, hw, hroom, storeCells]
end az
end Go.Uc
namespace Go.Proofs.Ytiieglfpmmhfiaa
set_option maxRecDepth 100000
open Go.RowKit Go.Uc
section az
variable {P : Program} {ops : Array Oper} {rest : List Oper} {o : Oper} {a : Act} {w : World} {Q : Exit → Act → World → Prop}
theorem strCells_str (L : List UInt8) : Lib.strCells (str L) = L.map bv := by
  unfold Lib.strCells str
  simp
  intro a _
  rfl
/-- 'append(b, name...)'. -/
theorem wpList_append_name (hgd : o.guard = none) (s x : Operand) (t u : TypeId) (ho : o.op = .call { callee := .builtin .append, args := #[s, x], argTypes := #[t, u] })
    (base : Nat) (e : TypeId) (i : TypeInfo) (ht : P.underlying t = some (.slice e)) (hu : P.underlying u = some .string) (hi : P.info? e = some i) (hz : i.zero = some (.int .u8 0)) (hsize : i.size = 1) (hby : i.bytes = 1)
    (v : Value) (bs : List UInt8) (hs : a.eval s = v) (hrow : OwnB w base e v bs) (L : List UInt8) (hx : a.eval x = .string (str L)) (hm : bs.length + L.length ≤ 100000) (hb : base ≤ w.heap.size)
    (h : ∀ v' w', OwnB w' base e v' (bs ++ L) → Keeps (Owned v) w w' → wpList P ops Q rest (a.put o.dst v') w') : wpList P ops Q (o :: rest) a w := by
  refine Lib.wpList_append_own_string w hgd s x t u ho base e i ht hu hi hz hsize hby v bs.length (bs.map bv) hs hrow (str L) hx (by rw [str_size]; unfold maxLen; omega) (by rw [str_size]; omega) hb fun v' w' h2 h3 h4 => h v' w' ?_ (keeps_grown h3)
  unfold OwnB
  rw [List.length_append, List.map_append, ← strCells_str]
  rw [str_size] at h2
  exact h2
theorem run_append_own_zeros (t tn ty e : TypeId) (i : TypeInfo) (kq kn : IntKind) (ht : P.underlying t = some (.slice e)) (htn : P.underlying tn = some (.int kn)) (hi : P.info? e = some i) (hz : i.zero = some (.int .u8 0)) (hs1 : i.size = 1) (hb1 : i.bytes = 1)
    (base : Nat) (v : Value) (bs : List UInt8) (hrow : OwnB w base e v bs) (k : Nat) (hk : k ≤ 1000) (hm : bs.length ≤ 1000) (hb : base ≤ w.heap.size) :
    ∃ v' w', (Builtin.append_ #[t, tn] ty #[v, .int kq k]).run P w = .ok v' w' ∧ OwnB w' base e v' (bs ++ zeros k) ∧ Keeps (Owned v) w w' := by
  rcases Nat.eq_zero_or_pos k with rfl | h0
  · obtain ⟨A, c, rfl, hc, -⟩ := hrow.open
    exact ⟨_, w, run_append_no_zeros t tn ty e i kq kn ht htn hi hs1 hb1 A bs.length c hc, by rw [show zeros 0 = [] from rfl, List.append_nil]; exact hrow, Keeps.refl _ _⟩
  have hnew : ∀ (olds : Array Value) (c : Nat), olds = pc bs → bs.length + k ≤ c → c ≤ maxLen → OwnB (w.drew.alloc (.cells (olds ++ Builtin.zeroCells (Value.int .u8 0).cells k ++ Builtin.zeroCells (Value.int .u8 0).cells (c - (bs.length + k))) e)) base e (.slice (some ⟨w.heap.size, 0, none⟩) (bs.length + k) c) (bs ++ zeros k) := fun olds c ho hc hcm => by
    subst ho
    rw [zeroCells_bytes, zeroCells_bytes]
    have e1 : pc bs ++ pc (zeros k) ++ pc (zeros (c - (bs.length + k))) = pc ((bs ++ zeros k) ++ zeros (c - (bs.length + k))) := by simp [pc]
    rw [e1]
    have hbl := Blk.new w.drew e (pc ((bs ++ zeros k) ++ zeros (c - (bs.length + k))))
    have := OwnB.blk (B := base) hbl hb (by simp [zeros]; omega)
    simp only [List.length_append, zeros_length] at this
    rw [show bs.length + k + (c - (bs.length + k)) = c by omega] at this
    exact this
  rcases hrow.form with ⟨rfl, rfl⟩ | ⟨g, cap, cur, rfl, hbg, hblk, hl, hcm, hcs, hct⟩
  · have hr := Lib.run_append_grow_zeros (P := P) w t tn ty e i (.int .u8 0) kq kn ht htn hi hz none 0 0 [] (by simp [Builtin.firstCells]) k h0 (by omega) (by omega) (by omega) (by rw [hb1]; omega) (by rw [hb1]; exact growslice_fits (by omega) (by omega))
    have hgc := grownCap_ge w (0 + k) 0 e
    have hgm := grownCap_le_maxLen w (0 + k) 0 e (by unfold maxLen; omega)
    refine ⟨_, _, hr, ?_, ?_⟩
    · have := hnew #[] (grownCap w (0 + k) 0 e) rfl (by simpa using hgc) hgm
      simpa using this
    · exact ((Keeps.refl _ _).drew).alloc _
  · by_cases hfit : bs.length + k ≤ cap
    · have hr := run_append_room_zeros (P := P) (w := w) t tn ty e i kq kn ht htn hi hz hs1 hb1 g bs.length cap cur hblk k hk h0 hfit (by omega)
      refine ⟨_, _, hr, ?_, ?_⟩
      · unfold OwnB
        rw [List.length_append, zeros_length, List.map_append]
        refine ⟨by simp [zeros], .inr ⟨g, cap, _, rfl, hbg, setRow_heap w g cur _ e _ hblk, hfit, hcm, ?_, ?_⟩⟩
        · simp [zeros]; omega
        · rw [Nat.mul_one, hct]
          simp only [List.append_assoc]
          rw [← List.append_assoc, List.take_left' (by simp [zeros])]
      · have := Keeps.row w g (cur.toList.take bs.length ++ (zeros k).map bv ++ cur.toList.drop (bs.length + k)).toArray
        exact this.mono fun q e => by unfold Only at e; subst e; rfl
    · have hold : (Builtin.firstCells i.size bs.length (.slice (some ⟨g, 0, none⟩) bs.length cap)).run P w.drew = .ok (bs.map bv).toArray w.drew := by
        obtain ⟨A, c, e1, -, hA, -⟩ := hrow.open
        injection e1 with e1
        subst e1
        have := run_firstCells_some (P := P) w.drew i.size bs.length ⟨g, 0, none⟩ bs.length cap (bs.map bv) (by simp [hs1]) (fun j v hv => hA.news rfl j v hv)
        exact this
      have hr := Lib.run_append_grow_zeros (P := P) w t tn ty e i (.int .u8 0) kq kn ht htn hi hz (some ⟨g, 0, none⟩) bs.length cap (bs.map bv) hold k h0 (by omega) (by omega) (by omega) (by rw [hb1]; omega) (by rw [hb1]; exact growslice_fits (by omega) (by omega))
      have hgc := grownCap_ge w (bs.length + k) cap e
      have hgm := grownCap_le_maxLen w (bs.length + k) cap e (by unfold maxLen; omega)
      refine ⟨_, _, hr, hnew _ _ rfl hgc hgm, ((Keeps.refl _ _).drew).alloc _⟩
end az
end Go.Proofs.Ytiieglfpmmhfiaa
namespace Go.Proofs.Ytiieglfpmmhfiaa
set_option maxRecDepth 100000
open Go.RowKit Go.Uc

theorem ownb_then {w0 w w' : World} {e : TypeId} {v : Value} {bs : List UInt8} (h : OwnB w w0.heap.size e v bs) (hk : Keeps Non w0 w) (hK : Keeps (Owned v) w w') : Keeps Non w0 w' := hk.then hK fun i _ hq => by have := h.new i hq; omega
theorem keep_old {w0 w w' : World} {v : Value} {b o : Nat} {x : Value} (hK : Keeps (Owned v) w w') (hn : ∀ k, v.ownBlock = some k → w0.heap.size ≤ k) (hb : b < w0.heap.size) (h : w.cell? ⟨b, o, none⟩ = some x) : w'.cell? ⟨b, o, none⟩ = some x := hK.cell h fun hq => by have := hn b hq; omega
theorem info5i : ∃ i, Try.prog.info? 5 = some i ∧ i.zero = some (.int .u8 0) ∧ i.size = 1 ∧ i.bytes = 1 := info_p info5'
theorem val_byte (m j : Nat) (hj : j < 4) : ((m / 256 ^ j : Nat) : Int) % 256 = ((m / 256 ^ j % 256 : Nat) : Int) := by omega
set_option maxHeartbeats 8000000 in
theorem page38_any (A : Option Addr) (c : Nat) (hd : List UInt8) (vA : Option Addr) (vc : Nat) (l : List Ent) (w : World) (hA : At w A hd) (hE : RowE w (.slice vA l.length vc) l) (hG : ∀ e ∈ l, GoodE e) (hf : hd.length + roomE l ≤ 256) (h60 : l.length ≤ 60) :
    Calls Try.prog 38 #[.slice A hd.length c, .slice vA l.length vc] w fun en w' => ∃ s : Sl, en = .returned s.v ∧ RowU w' s.v (pad (hd ++ l.flatMap entB)) ∧ New w s ∧ Keeps Non w w' := by
  obtain ⟨i5, hi5, hz5, hs5, hb5⟩ := info5i
  have hO0 : OwnB w w.heap.size 5 (.slice none 0 0) [] := OwnB.nil w _ 5
  have hdl : hd.length ≤ 256 := by omega
  go_enter Try.func38, Try.ntmps38
  go_upto_region 3 with (at_builtin; go_must (refine wpList_append_bytes (o := ⟨some 11, _, _, _, _, _⟩) rfl (.tmp 9) (.tmp 10) 53 rfl w.heap.size 5 Try.underlying53 info5' (.slice none 0 0) [] rfl hO0 A hd.length c hd rfl rfl hA (by simp; omega) (Nat.le_refl _) ?_); intro u1 w1 hO1 hK1 _hat1)
  rw [List.nil_append] at hO1
  have hK01 : Keeps Non w w1 := hK1.mono fun q hq => by cases hq
  clear hO0 hK1 _hat1
  go_upto_region 4 with fail
  go_loopw [5, 6] (fun b i wr => ∃ k : Nat, k ≤ l.length ∧ i = .int .i64 (k : Int) ∧ OwnB wr w.heap.size 5 b (hd ++ (l.take k).flatMap entB) ∧ Keeps Non w wr) (fun _ i _ => l.length - (intOf i).toNat)
  case atStart => exact ⟨0, Nat.zero_le _, rfl, by simpa using hO1, hK01⟩
  case round =>
    obtain ⟨k, hk, rfl, hO, hK⟩ := hrel
    obtain ⟨wx, rfl⟩ : ∃ V : World, V = wr := ⟨_, rfl⟩
    clear hO1 hK01
    have hxl : (hd ++ (l.take k).flatMap entB).length = hd.length + roomE (l.take k) := by rw [List.length_append, ents_len]
    by_cases hlt : k < l.length
    · obtain ⟨eb, cap, e1, -, x0, x1, -, -⟩ := rowE_at (hE.non hK) hlt
      injection e1 with e1 e2 e3
      clear e2
      subst e1 e3
      have hel : eb < w.heap.size := hE.lt eb (by simp [own_slice])
      have hge := hG l[k] (List.getElem_mem hlt)
      have htk := roomE_take l k hlt
      have hle := roomE_le l (k + 1)
      have HET := Lib.hid (ent_take l k hlt)
      generalize l[k] = e at x0 x1 hge htk HET
      obtain ⟨g1, g2, g3, g4⟩ := hge
      obtain ⟨n, v⟩ := e
      simp only at x0 x1 g1 g2 g3 g4 htk
      obtain ⟨m, rfl⟩ : ∃ m : Nat, v = (m : Int) := ⟨v.toNat, by omega⟩
      have HX : Hid (hd ++ (l.take (k + 1)).flatMap entB = (hd ++ (l.take k).flatMap entB) ++ [UInt8.ofNat n.length] ++ n ++ le 4 m) := Lib.hid (by rw [HET.out]; simp [entB])
      generalize hd ++ (l.take k).flatMap entB = X at hO hxl HX
      have hss : (str n).size = n.length := str_size n
      have hX256 : X.length + 5 + n.length ≤ 256 := by rw [hxl]; omega
      have hka := (Keeps.refl Non wx).alloc (.cells #[.int .u8 (n.length : Int)] 5)
      have hOa := hO.non hka
      have hKa := hK.non hka
      have hAt1 : At (wx.alloc (.cells #[.int .u8 (n.length : Int)] 5)) (some ⟨wx.heap.size, 0, none⟩) [UInt8.ofNat n.length] := At.one wx _ 5 _ (by rw [bv_ofNat _ (by omega)])
      go_upto_region 7 with (at_builtin; go_must (refine wpList_append_bytes (o := ⟨some 27, _, _, _, _, _⟩) rfl (.tmp 18) (.tmp 26) 53 rfl w.heap.size 5 Try.underlying53 info5' _ X rfl hOa (some ⟨wx.heap.size, 0, none⟩) 1 1 [UInt8.ofNat n.length] rfl rfl hAt1 (by simp; omega) hKa.size ?_); intro u2 w2 hO2 hK2 _hat2)
      have hKb := ownb_then hOa hKa hK2
      have z0 : w2.cell? ⟨eb, k * 2, none⟩ = some (.string (str n)) := keep_old hK2 hOa.new hel (hka.cell x0 id)
      have z1 : w2.cell? ⟨eb, k * 2 + 1, none⟩ = some (.int .i64 (m : Int)) := keep_old hK2 hOa.new hel (hka.cell x1 id)
      clear hO hK hka hOa hKa hAt1 hK2 _hat2 x0 x1
      go_upto_region 8 with (at_builtin; go_must (refine wpList_append_name (o := ⟨some 34, _, _, _, _, _⟩) rfl (.tmp 28) (.tmp 33) 53 9 rfl w.heap.size 5 i5 Try.underlying53 Try.underlying9 hi5 hz5 hs5 hb5 _ (X ++ [UInt8.ofNat n.length]) rfl hO2 n rfl (by simp; omega) hKb.size ?_); intro u3 w3 hO3 hK3)
      have hKc := ownb_then hO2 hKb hK3
      have z1' : w3.cell? ⟨eb, k * 2 + 1, none⟩ = some (.int .i64 (m : Int)) := keep_old hK3 hO2.new hel z1
      clear hO2 hKb hK3 z0 z1
      generalize hY : X ++ [UInt8.ofNat n.length] ++ n = Y at hO3 HX
      have hYl : Y.length = X.length + 1 + n.length := by rw [← hY]; simp; omega
      clear hY
      go_upto_region 10 with fail
      go_loopw [5, 7, 8] (fun b v i wr => ∃ j : Nat, j ≤ 4 ∧ i = .int .i64 (j : Int) ∧ v = .int .i64 ((m / 256 ^ j : Nat) : Int) ∧ OwnB wr w.heap.size 5 b (Y ++ le j m) ∧ Keeps Non w wr) (fun _ _ i _ => 4 - (intOf i).toNat)
      case atStart => exact ⟨0, by omega, rfl, by rw [Nat.pow_zero, Nat.div_one], by simpa [le] using hO3, hKc⟩
      case round =>
        obtain ⟨j, hj, rfl, rfl, hO, hK⟩ := hrel
        obtain ⟨wy, rfl⟩ : ∃ V : World, V = wr := ⟨_, rfl⟩
        by_cases hj4 : j < 4
        · have hsn := le_snoc j m
          have hm0 : (0 : Int) ≤ ((m / 256 ^ j : Nat) : Int) := Int.natCast_nonneg _
          have hmm : ((m / 256 ^ j : Nat) : Int) ≤ 2147483647 := by have h1 := Nat.div_le_self m (256 ^ j); generalize m / 256 ^ j = z at h1; omega
          have hnx : m / 256 ^ (j + 1) = m / 256 ^ j / 256 := by rw [Nat.pow_succ, Nat.div_div_eq_div_mul]
          obtain ⟨q, hq⟩ : ∃ q, q = m / 256 ^ j := ⟨_, rfl⟩
          rw [← hq] at hm0 hmm hsn hnx
          rw [← hq]
          have HSN : Hid (Y ++ le (j + 1) m = (Y ++ le j m) ++ [UInt8.ofNat (q % 256)]) := Lib.hid (by rw [hsn, List.append_assoc])
          have HNX := Lib.hid hnx
          clear hq hsn hnx
          have hka := (Keeps.refl Non wy).alloc (.cells #[.int .u8 ((q : Int) % 256)] 5)
          have hOa := hO.non hka
          have hKa := hK.non hka
          have hlj : (Y ++ le j m).length ≤ 300 := by rw [List.length_append, le_length]; omega
          have hAt1 : At (wy.alloc (.cells #[.int .u8 ((q : Int) % 256)] 5)) (some ⟨wy.heap.size, 0, none⟩) [UInt8.ofNat (q % 256)] := At.one wy _ 5 _ (by rw [bv_ofNat _ (Nat.mod_lt _ (by decide)), Int.natCast_emod]; rfl)
          generalize Y ++ le j m = Z at hO hOa HSN hlj
          go_wp2_with (at_builtin; go_must (refine wpList_append_bytes (o := ⟨some 49, _, _, _, _, _⟩) rfl (.tmp 44) (.tmp 48) 53 rfl w.heap.size 5 Try.underlying53 info5' _ Z rfl hOa (some ⟨wy.heap.size, 0, none⟩) 1 1 [UInt8.ofNat (q % 256)] rfl rfl hAt1 (by simp; omega) hKa.size ?_); intro u2 w2 hO2 hK2 _hat2)
          go_roundw
          case rel => exact ⟨j + 1, by omega, by go_num, by rw [HNX.out]; first | rfl | go_num, by rw [HSN.out]; exact hO2, ownb_then hOa hKa hK2⟩
          case measure => simp [intOf]; omega
        · obtain rfl : j = 4 := by omega
          rw [← HX.out] at hO
          go_wp2_with fail
          go_roundw
          case rel => exact ⟨k + 1, by omega, by go_num, hO, hK⟩
          case measure => simp [intOf]; omega
    · obtain rfl : k = l.length := by omega
      rw [List.take_of_length_le (Nat.le_refl _)] at hO hxl
      have hpd : pad (hd ++ l.flatMap entB) = (hd ++ l.flatMap entB) ++ zeros (256 - (hd ++ l.flatMap entB).length) := rfl
      obtain ⟨F, hF⟩ : ∃ F, F = pad (hd ++ l.flatMap entB) := ⟨_, rfl⟩
      have HF : Hid (pad (hd ++ l.flatMap entB) = F) := Lib.hid hF.symm
      rw [hpd] at hF
      generalize hd ++ l.flatMap entB = Y at hO hxl hF
      have HF2 := Lib.hid hF
      clear hF hpd
      obtain ⟨yA, yc, rfl, -, -, -⟩ := hO.open
      have hYl : Y.length ≤ 256 := by omega
      clear hxl
      have hsub : (256 : Int) - (Y.length : Int) = ((256 - Y.length : Nat) : Int) := by omega
      have HSB := Lib.hid hsub
      clear hsub
      obtain ⟨v', w', hr, h2, h3⟩ := run_append_own_zeros (P := Try.prog) (w := wx) 53 3 53 5 i5 .i64 .i64 Try.underlying53 Try.underlying3 hi5 hz5 hs5 hb5 w.heap.size _ Y hO (256 - Y.length) (by omega) (by omega) hK.size
      rw [← HSB.out] at hr
      go_wp2_with (at_builtin; go_must (refine Lib.wpList_append_run wx rfl (.tmp 52) (.tmp 55) 53 3 rfl (.slice yA Y.length yc) (.int .i64 (256 - (Y.length : Int))) rfl rfl v' w' hr ?_))
      go_ret
      have hR : RowU w' v' F := by
        unfold RowU RowP
        rw [HF2.out, flat_encU]
        exact h2.mono (Nat.zero_le _)
      obtain ⟨s, rfl, -⟩ := RowP.sl hR
      exact ⟨s, rfl, by rw [HF.out]; exact hR, fun q hq => h2.new q (mem_own.1 hq), ownb_then hO hK h3⟩
end Go.Proofs.Ytiieglfpmmhfiaa
namespace Go.Proofs.Ytiieglfpmmhfiaa
set_option maxRecDepth 100000
open Go.RowKit Go.Uc

/-- Pages of the call's own. -/
structure PgG (w0 w : World) (o : Sl) (ss : List Sl) (bs : List (List UInt8)) : Prop where
  m : PgM w o ss bs
  n : ∀ q ∈ footS o ss, w0.heap.size ≤ q
  k : Keeps Non w0 w
theorem PgG.non {w0 w w' : World} {o : Sl} {ss : List Sl} {bs : List (List UInt8)} (h : PgG w0 w o ss bs) (hk : Keeps Non w w') : PgG w0 w' o ss bs := ⟨h.m.non hk, h.n, h.k.non hk⟩
theorem PgG.one {w0 w : World} {s : Sl} {b : List UInt8} (hk : Keeps Non w0 w) (hs : RowU w s.v b) (hn : ∀ q ∈ own s.v, w0.heap.size ≤ q) : PgG w0 (w.alloc (.cells #[s.v] 53)) ⟨some ⟨w.heap.size, 0, none⟩, 1, 1⟩ [s] [b] := by
  have hka := (Keeps.refl Non w).alloc (.cells #[s.v] 53)
  have hult := hs.lt
  have hz := hk.size
  refine ⟨⟨RowP.lit encS_len w 53 [s] _ rfl (by show 1 ≤ maxLen; decide), rfl, fun i hi hi' => ?_, ?_⟩, fun q hq => ?_, hk.non hka⟩
  · simp at hi; subst hi; exact hs.non hka
  · show ([w.heap.size] ++ (own s.v ++ [])).Nodup
    rw [List.append_nil, List.nodup_append]
    refine ⟨by simp, own_nodup _, ?_⟩
    rintro q hq q' hq' rfl
    simp at hq
    have := hult q hq'
    omega
  · rcases mem_footS.1 hq with e | ⟨i, hi, e⟩
    · have : q ∈ [w.heap.size] := e
      simp at this; omega
    · simp at hi; subst hi
      exact hn q e
theorem PgG.snoc {w0 w wA w8 : World} {o o8 s : Sl} {ss : List Sl} {bs : List (List UInt8)} {b : List UInt8} (h : PgG w0 w o ss bs) (hs : RowU w s.v b) (hn : ∀ q ∈ own s.v, q ∉ footS o ss) (hnw : ∀ q ∈ own s.v, w0.heap.size ≤ q) (hA : Keeps Non w wA)
    (hO : RowP w8 53 1 encS o8.v (ss ++ [s])) (hK : Keeps (· ∈ own o.v) wA w8) (hat : o8.v.ownBlock = o.v.ownBlock ∨ o8.v.ownBlock = some wA.heap.size) : PgG w0 w8 o8 (ss ++ [s]) (bs ++ [b]) := by
  refine ⟨h.m.snoc hs hn hA hO hK hat, fun q hq => ?_, (h.k.non hA).then hK fun i hi e => by have := h.n i (mem_footS.2 (.inl e)); omega⟩
  have hzw := (h.k.non hA).size
  rcases mem_footS.1 hq with e | ⟨i, hi, e⟩
  · rw [mem_own] at e
    rcases hat with e' | e'
    · rw [e'] at e; exact h.n q (mem_footS.2 (.inl (mem_own.2 e)))
    · rw [e'] at e; injection e with e; omega
  · simp at hi
    rcases Nat.lt_or_ge i ss.length with hlt2 | hge
    · rw [List.getElem_append_left hlt2] at e; exact h.n q (mem_footS.2 (.inr ⟨i, hlt2, e⟩))
    · obtain rfl : i = ss.length := by omega
      rw [List.getElem_append_right (Nat.le_refl _)] at e
      simp at e
      exact hnw q e
set_option maxHeartbeats 8000000 in
theorem pages14_small {w : World} {g : Nat} {d : Dic} {t l : Sl} {ps : List (Nat × Sl)} (h : DictM 84 86 w g d t l ps) (hi : Inv0 d) (hsm : d.small = true) :
    Calls Try.prog 14 #[.pointer (some ⟨g, 0, none⟩)] w fun e w' => ∃ (o : Sl) (ss : List Sl), e = .returned o.v ∧ PgG w w' o ss (pagesD d) := by
  have HPD : pagesD d = [laidB 109 (UInt8.ofNat (leafAt d 0).l.length) 0 (leafAt d 0).l] := by unfold pagesD; rw [if_pos hsm]
  rw [HPD]
  clear HPD
  have hl1 := (hi.sm hsm).2
  have hkd : 0 < d.leaves.length := by omega
  have hkp : 0 < ps.length := by rw [h.len]; exact hkd
  have hE := h.ent 0 hkp hkd
  rw [← leafAt_get hkd] at hE
  have hf := hi.ok.fit _ (leaf_mem hkd)
  have hG : ∀ e ∈ (leafAt d 0).l, GoodE e := hi.good 0 hkd
  obtain ⟨-, -, -, c3⟩ := dict_cells h
  have c0 : w.cell? ⟨g, 0, none⟩ = some (.bool true) := by rw [← hsm]; exact h.blk.cell 0
  obtain ⟨bl, cl, e2, -, -, x1, -, -⟩ := rowP_at h.lvs hkp
  rw [e2] at c3
  obtain ⟨eA, ec, hev, -, -⟩ := hE.val
  rw [hev] at x1 hE
  have x1' : w.cell? ⟨bl, 1, none⟩ = some (.slice eA (leafAt d 0).l.length ec) := x1
  generalize (leafAt d 0).l = L at x1' hE hf hG
  obtain ⟨h50, hrm⟩ := fitE_len hf
  have hkpi : (0 : Int) < (ps.length : Int) := by omega
  have hka := (Keeps.refl Non w).alloc (.cells #[.int .u8 109, .int .u8 (L.length : Int), .int .u8 0] 5)
  have hAt : At (w.alloc (.cells #[.int .u8 109, .int .u8 (L.length : Int), .int .u8 0] 5)) (some ⟨w.heap.size, 0, none⟩) [109, UInt8.ofNat L.length, 0] := At.blk (t := 5) (by rw [show pc [109, UInt8.ofNat L.length, 0] = #[bv 109, bv (UInt8.ofNat L.length), bv 0] from rfl, bv_ofNat _ (by omega)]; exact Blk.new w 5 _)
  have HP : Hid (Calls Try.prog 38 #[.slice (some ⟨w.heap.size, 0, none⟩) 3 3, .slice eA L.length ec] (w.alloc (.cells #[.int .u8 109, .int .u8 (L.length : Int), .int .u8 0] 5)) fun en w' => ∃ s : Sl, en = .returned s.v ∧ RowU w' s.v (laidB 109 (UInt8.ofNat L.length) 0 L) ∧ New (w.alloc (.cells #[.int .u8 109, .int .u8 (L.length : Int), .int .u8 0] 5)) s ∧ Keeps Non (w.alloc (.cells #[.int .u8 109, .int .u8 (L.length : Int), .int .u8 0] 5)) w') :=
    Lib.hid (page38_any (some ⟨w.heap.size, 0, none⟩) 3 [109, UInt8.ofNat L.length, 0] eA ec L _ hAt (hE.non hka) hG (by show 3 + roomE L ≤ 256; omega) (by omega))
  clear x1 hev e2 h hi hE hG hf hl1 hkd hsm hAt
  generalize ps.length = pn at *
  go_enter Try.func14, Try.ntmps14
  go_wp2_with ((go_at_call 38; go_must (refine HP.out.mono ?_); rintro e w2 ⟨⟨sA, sn, sc⟩, he, hU2, hN2, hK2⟩; change e = .returned (.slice sA sn sc) at he; subst he))
  go_ret
  exact ⟨_, _, rfl, PgG.one (s := ⟨sA, sn, sc⟩) (hka.non hK2) hU2 (fun q hq => by have h1 : _ ≤ q := hN2 q hq; have := hka.size; omega)⟩
end Go.Proofs.Ytiieglfpmmhfiaa
namespace Go.Proofs.Ytiieglfpmmhfiaa
set_option maxRecDepth 100000
open Go.RowKit Go.Uc

def rootX (d : Dic) (k : Nat) : List UInt8 := [114, UInt8.ofNat d.depth] ++ (d.table.take k).map fun x => UInt8.ofNat (x + 1)
theorem rootX_succ {d : Dic} {k : Nat} (hk : k < d.table.length) : rootX d (k + 1) = rootX d k ++ [UInt8.ofNat (d.table[k] + 1)] := by
  unfold rootX
  rw [List.take_succ_eq_append_getElem hk, List.map_append, ← List.append_assoc]
  rfl
set_option maxHeartbeats 8000000 in
theorem pages14_large {w : World} {g : Nat} {d : Dic} {t l : Sl} {ps : List (Nat × Sl)} (h : DictM 84 86 w g d t l ps) (hi : Inv0 d) (hsm : d.small = false) :
    Calls Try.prog 14 #[.pointer (some ⟨g, 0, none⟩)] w fun e w' => ∃ (o : Sl) (ss : List Sl), e = .returned o.v ∧ PgG w w' o ss (pagesD d) := by
  have HPD : Hid (pagesD d = rootB d :: d.leaves.map leafB) := Lib.hid (by unfold pagesD; rw [if_neg (by simp [hsm])])
  have hd5 := hi.ok.dep
  have htl := hi.ok.tab
  have hpw := two_pow d.depth hd5
  have hmany := hi.ok.many
  have hlen := h.len
  have htr : ∀ i (hi : i < d.table.length), d.table[i] < 32 := fun i hi' => by have := hi.ok.rng _ (List.getElem_mem hi'); omega
  obtain ⟨lA, lc, hle, -, -⟩ := h.lvs.val
  obtain ⟨tA, tc, hte, -, -⟩ := h.tab.val
  have HC : Hid (∀ W, Keeps Non w W → W.cell? ⟨g, 0, none⟩ = some (.bool false) ∧ W.cell? ⟨g, 1, none⟩ = some (.int .i64 (d.depth : Int)) ∧ W.cell? ⟨g, 2, none⟩ = some (.slice tA d.table.length tc) ∧ W.cell? ⟨g, 3, none⟩ = some (.slice lA ps.length lc)) := Lib.hid (fun W hk => by
    have := dict_cells (h.non hk)
    rw [hle, hte, hsm] at this
    exact this)
  have hT : RowN w (.slice tA d.table.length tc) d.table := by rw [← hte]; exact h.tab
  have HLE := Lib.hid hle
  clear hle hte
  obtain ⟨c0, c1, -, -⟩ := HC.out w (Keeps.refl _ _)
  have htl32 : d.table.length ≤ 32 := by omega
  have hka := (Keeps.refl Non w).alloc (.cells #[.int .u8 114, .int .u8 (d.depth : Int)] 5)
  have hO0 : OwnB (w.alloc (.cells #[.int .u8 114, .int .u8 (d.depth : Int)] 5)) w.heap.size 5 (.slice (some ⟨w.heap.size, 0, none⟩) 2 2) (rootX d 0) := by
    have hb : Blk (w.alloc (.cells #[.int .u8 114, .int .u8 (d.depth : Int)] 5)) w.heap.size 5 (pc (rootX d 0 ++ [])) := by
      rw [List.append_nil, show pc (rootX d 0) = #[bv 114, bv (UInt8.ofNat d.depth)] from rfl, bv_ofNat _ (by omega)]
      exact Blk.new w 5 _
    exact OwnB.blk (bs := rootX d 0) (xs := []) hb (Nat.le_refl _) (by show 2 + 0 ≤ maxLen; decide)
  clear hpw htl
  go_enter Try.func14, Try.ntmps14
  go_upto_region 5 with fail
  obtain ⟨w1, hw1⟩ : ∃ V : World, V = w.alloc (.cells #[.int .u8 114, .int .u8 (d.depth : Int)] 5) := ⟨_, rfl⟩
  rw [← hw1] at hka hO0 ⊢
  clear hw1 c0 c1
  obtain ⟨rv, hrv⟩ : ∃ v, v = Value.slice (some ⟨w.heap.size, 0, none⟩) 2 2 := ⟨_, rfl⟩
  rw [← hrv] at hO0
  have HRV := Lib.hid hrv
  clear hrv
  go_upto_region 6 with fail
  go_loopw [4, 5] (fun b i wr => ∃ k : Nat, k ≤ d.table.length ∧ i = .int .i64 (k : Int) ∧ OwnB wr w.heap.size 5 b (rootX d k) ∧ Keeps Non w wr) (fun _ i _ => d.table.length - (intOf i).toNat)
  case atStart => exact ⟨0, Nat.zero_le _, rfl, by rw [← HRV.out]; exact hO0, hka⟩
  case round =>
    obtain ⟨k, hk, rfl, hO, hK⟩ := hrel
    obtain ⟨wx, rfl⟩ : ∃ V : World, V = wr := ⟨_, rfl⟩
    clear hO0 hka
    obtain ⟨-, -, c2, c3⟩ := HC.out wx hK
    by_cases hlt : k < d.table.length
    · obtain ⟨bt, ct, e1, -, z0, -⟩ := rowN_at (hT.non hK) hlt
      injection e1 with e1 e1b e1c
      clear e1b
      subst e1 e1c
      have HRX := Lib.hid (rootX_succ hlt)
      have hr32 := htr k hlt
      have hrl : (rootX d k).length ≤ 40 := by unfold rootX; simp; omega
      generalize d.table[k] = x at z0 HRX hr32
      generalize rootX d k = X at hO HRX hrl
      have hki : (k : Int) < (d.table.length : Int) := by omega
      have hka := (Keeps.refl Non wx).alloc (.cells #[.int .u8 ((x : Int) + 1)] 5)
      have hOa := hO.non hka
      have hKa := hK.non hka
      have hAt1 : At (wx.alloc (.cells #[.int .u8 ((x : Int) + 1)] 5)) (some ⟨wx.heap.size, 0, none⟩) [UInt8.ofNat (x + 1)] := At.one wx _ 5 _ (by rw [bv_ofNat _ (by omega)]; rfl)
      clear c3
      go_wp2_with (at_builtin; go_must (refine wpList_append_bytes (o := ⟨some 54, _, _, _, _, _⟩) rfl (.tmp 43) (.tmp 53) 53 rfl w.heap.size 5 Try.underlying53 info5' _ X rfl hOa (some ⟨wx.heap.size, 0, none⟩) 1 1 [UInt8.ofNat (x + 1)] rfl rfl hAt1 (by simp; omega) hKa.size ?_); intro u2 w2 hO2 hK2 _hat2)
      go_roundw
      case rel => exact ⟨k + 1, by omega, by go_num, by rw [HRX.out]; exact hO2, ownb_then hOa hKa hK2⟩
      case measure => simp [intOf]; omega
    · obtain rfl : k = d.table.length := by omega
      have hrl : (rootX d d.table.length).length ≤ 40 := by unfold rootX; simp; omega
      have HRB : Hid (pad (rootX d d.table.length ++ ([] : List Ent).flatMap entB) = rootB d) := Lib.hid (by unfold rootX rootB; rw [List.take_of_length_le (Nat.le_refl _)]; simp)
      obtain ⟨yA, yc, rfl, -, hAy, -⟩ := hO.open
      have HP := Lib.hid (page38_any yA yc (rootX d d.table.length) none 0 [] wx hAy (RowP.nil _ _ _ _) (fun e he => by cases he) (by simp [roomE]; omega) (by simp))
      rw [HRB.out] at HP
      generalize rootX d d.table.length = X at HP hrl
      clear hO hAy c3
      have hnl : ¬ d.table.length < d.table.length := by omega
      go_upto_region 10 with ((go_at_call 38; go_must (refine HP.out.mono ?_); rintro e w2 ⟨⟨sA, sn, sc⟩, he, hU2, hN2, hK2⟩; change e = .returned (.slice sA sn sc) at he; subst he))
      have hP3 := PgG.one (w0 := w) (s := ⟨sA, sn, sc⟩) (hK.non hK2) hU2 (fun q hq => by have h1 : _ ≤ q := hN2 q hq; have := hK.size; omega)
      obtain ⟨w3, hw3⟩ : ∃ V : World, V = w2.alloc (.cells #[.slice sA sn sc] 53) := ⟨_, rfl⟩
      change PgG w (w2.alloc (.cells #[.slice sA sn sc] 53)) _ _ _ at hP3
      rw [← hw3] at hP3 ⊢
      clear hw3 hU2 hN2 hK2 c2 HP
      obtain ⟨ob, hob⟩ : ∃ b, b = w2.heap.size := ⟨_, rfl⟩
      rw [← hob] at hP3 ⊢
      clear hob
      go_upto_region 11 with fail
      go_loopw [6, 7] (fun o i wr => ∃ (k : Nat) (oA : Option Addr) (oc : Nat) (ss : List Sl), k ≤ d.leaves.length ∧ i = .int .i64 (k : Int) ∧ o = .slice oA ss.length oc ∧ PgG w wr ⟨oA, ss.length, oc⟩ ss (rootB d :: (d.leaves.take k).map leafB)) (fun _ i _ => d.leaves.length - (intOf i).toNat)
      case atStart => exact ⟨0, some ⟨ob, 0, none⟩, 1, [(⟨sA, sn, sc⟩ : Sl)], Nat.zero_le _, rfl, rfl, hP3⟩
      case round =>
        obtain ⟨k, oA, oc, ss, hk2, rfl, rfl, hP⟩ := hrel
        obtain ⟨wy, rfl⟩ : ∃ V : World, V = wr := ⟨_, rfl⟩
        clear hP3 hnl
        obtain ⟨-, -, -, c3⟩ := HC.out wy hP.k
        by_cases hlt : k < d.leaves.length
        · have hkp : k < ps.length := by omega
          obtain ⟨bl, cl, e2, -, x0, x1, -, -⟩ := rowP_at (h.lvs.non hP.k) hkp
          rw [HLE.out] at e2
          injection e2 with e2 e2b e2c
          clear e2b
          subst e2 e2c
          have hE := (h.ent k hkp hlt).non hP.k
          obtain ⟨eA, ec, hev, -, -⟩ := hE.val
          have hdp : ps[k].1 = d.leaves[k].depth := h.dep k hkp hlt
          rw [hev] at x1 hE
          rw [hdp] at x0
          have hlow : d.leaves[k].depth ≤ 5 := by have := hi.ok.low _ (List.getElem_mem hlt); omega
          have hf := hi.ok.fit _ (List.getElem_mem hlt)
          have hG : ∀ e ∈ d.leaves[k].l, GoodE e := by rw [← leafAt_get hlt]; exact hi.good k hlt
          have HMP : Hid ((d.leaves.take (k + 1)).map leafB = (d.leaves.take k).map leafB ++ [laidB 108 (UInt8.ofNat d.leaves[k].depth) (UInt8.ofNat d.leaves[k].l.length) d.leaves[k].l]) := Lib.hid (by
            rw [List.take_succ_eq_append_getElem hlt, List.map_append]; rfl)
          generalize d.leaves[k].l = L at x1 hE hf hG HMP
          generalize d.leaves[k].depth = dp at x0 hlow HMP
          obtain ⟨h50, hrm⟩ := fitE_len hf
          have hki : (k : Int) < (ps.length : Int) := by omega
          clear hev hdp
          have hk4 := (Keeps.refl Non wy).alloc (.cells #[.int .i64 (dp : Int), .slice eA L.length ec] 86)
          have hX4 := Blk.new wy 86 #[.int .i64 (dp : Int), .slice eA L.length ec]
          go_upto_region 14 with fail
          obtain ⟨w4, hw4⟩ : ∃ V : World, V = wy.alloc (.cells #[.int .i64 (dp : Int), .slice eA L.length ec] 86) := ⟨_, rfl⟩
          rw [← hw4] at hk4 hX4 ⊢
          clear hw4 x0 x1 c3
          obtain ⟨xb, hxb⟩ : ∃ b, b = wy.heap.size := ⟨_, rfl⟩
          rw [← hxb] at hX4 ⊢
          clear hxb
          have y0 : w4.cell? ⟨xb, 0, none⟩ = some (.int .i64 (dp : Int)) := hX4.cell 0
          have y1 : w4.cell? ⟨xb, 1, none⟩ = some (.slice eA L.length ec) := hX4.cell 1
          have hP4 := hP.non hk4
          have hka := (Keeps.refl Non w4).alloc (.cells #[.int .u8 108, .int .u8 (dp : Int), .int .u8 (L.length : Int)] 5)
          have hAt : At (w4.alloc (.cells #[.int .u8 108, .int .u8 (dp : Int), .int .u8 (L.length : Int)] 5)) (some ⟨w4.heap.size, 0, none⟩) [108, UInt8.ofNat dp, UInt8.ofNat L.length] := At.blk (t := 5) (by rw [show pc [108, UInt8.ofNat dp, UInt8.ofNat L.length] = #[bv 108, bv (UInt8.ofNat dp), bv (UInt8.ofNat L.length)] from rfl, bv_ofNat _ (by omega), bv_ofNat _ (by omega)]; exact Blk.new w4 5 _)
          have y0a := hka.cell y0 id
          have y1a := hka.cell y1 id
          have HP : Hid (Calls Try.prog 38 #[.slice (some ⟨w4.heap.size, 0, none⟩) 3 3, .slice eA L.length ec] (w4.alloc (.cells #[.int .u8 108, .int .u8 (dp : Int), .int .u8 (L.length : Int)] 5)) fun en w' => ∃ s : Sl, en = .returned s.v ∧ RowU w' s.v (laidB 108 (UInt8.ofNat dp) (UInt8.ofNat L.length) L) ∧ New (w4.alloc (.cells #[.int .u8 108, .int .u8 (dp : Int), .int .u8 (L.length : Int)] 5)) s ∧ Keeps Non (w4.alloc (.cells #[.int .u8 108, .int .u8 (dp : Int), .int .u8 (L.length : Int)] 5)) w') :=
            Lib.hid (page38_any (some ⟨w4.heap.size, 0, none⟩) 3 [108, UInt8.ofNat dp, UInt8.ofNat L.length] eA ec L _ hAt ((hE.non hk4).non hka) hG (by show 3 + roomE L ≤ 256; omega) (by omega))
          have hsl : ss.length ≤ 33 := by rw [hP.m.len]; simp; omega
          have HB1 : Hid (ss.length + 1 ≤ maxLen ∧ (ss.length + 1) * 24 ≤ 140737488355328) := Lib.hid (by unfold maxLen; omega)
          clear hE hf hG hX4 hAt
          go_upto_region 15 with ((go_at_call 38; go_must (refine HP.out.mono ?_); rintro e w5 ⟨⟨zA, zn, zc⟩, he, hU5, hN5, hK5⟩; change e = .returned (.slice zA zn zc) at he; subst he))
          have hP5 := (hP4.non hka).non hK5
          have hPA := hP5.non ((Keeps.refl Non w5).alloc (.cells #[.slice zA zn zc] 53))
          have hlw := hP4.m.low
          have hsz4 := hka.size
          have hsz0 := hP4.k.size
          go_wp2_with (at_builtin; go_must (refine wpList_append_row (o := ⟨some 88, _, _, _, _, _⟩) rfl (.tmp 85) (.tmp 87) 42 rfl 53 1 encS _ 24 Try.underlying42 info53 rfl (by decide) encS_len encS_one (.slice oA ss.length oc) ss rfl hPA.m.row (some ⟨w5.heap.size, 0, none⟩) 1 1 [(⟨zA, zn, zc⟩ : Sl)] rfl rfl (Ats.lit w5 #[.slice zA zn zc] 53 _ rfl) HB1.out.1 HB1.out.2 ?_); intro u8 w8 hO8 hK8 hat; obtain ⟨⟨A8, n8, c8⟩, rfl, h8⟩ := RowP.sl hO8; have hn8 : n8 = (ss ++ [(⟨zA, zn, zc⟩ : Sl)]).length := h8; clear h8; subst hn8)
          have hPS := hP5.snoc (o8 := ⟨A8, (ss ++ [(⟨zA, zn, zc⟩ : Sl)]).length, c8⟩) hU5 (fun q hq hq' => by have h1 : _ ≤ q := hN5 q hq; have := hlw q hq'; omega) (fun q hq => by have h1 : _ ≤ q := hN5 q hq; omega) ((Keeps.refl Non w5).alloc (.cells #[.slice zA zn zc] 53)) hO8 hK8 hat
          go_roundw
          case rel => exact ⟨k + 1, A8, c8, ss ++ [(⟨zA, zn, zc⟩ : Sl)], by omega, by go_num, by show Value.slice A8 _ c8 = Value.slice A8 _ c8; simp, by rw [HMP.out]; exact hPS⟩
          case measure => simp [intOf]; omega
        · obtain rfl : k = d.leaves.length := by omega
          rw [List.take_of_length_le (Nat.le_refl _), ← HPD.out] at hP
          have hnl : ¬ d.leaves.length < ps.length := by omega
          go_wp2_with fail
          go_ret
          exact ⟨⟨oA, ss.length, oc⟩, ss, rfl, hP⟩
theorem pages14_any {w : World} {g : Nat} {d : Dic} {t l : Sl} {ps : List (Nat × Sl)} (h : DictM 84 86 w g d t l ps) (hi : Inv0 d) :
    Calls Try.prog 14 #[.pointer (some ⟨g, 0, none⟩)] w fun e w' => ∃ (o : Sl) (ss : List Sl), e = .returned o.v ∧ PgG w w' o ss (pagesD d) := by
  cases hs : d.small
  · exact pages14_large h hi hs
  · exact pages14_small h hi hs
end Go.Proofs.Ytiieglfpmmhfiaa
namespace Go.Proofs.Ytiieglfpmmhfiaa
set_option maxRecDepth 100000
open Go.RowKit Go.Uc

theorem srt_take_succ {l : List Ent} {k : Nat} (hk : k + 1 < l.length) (h : Srt (l.take (k + 1))) (hlt : lt l[k].name l[k + 1].name = true) : Srt (l.take (k + 2)) := by
  rw [List.take_succ_eq_append_getElem hk]
  refine srt_snoc h _ ?_
  rw [List.getLast?_eq_getElem?, List.length_take, Nat.min_eq_left (by omega), Nat.add_sub_cancel, List.getElem?_take, if_pos (by omega), List.getElem?_eq_getElem (by omega)]
  simp [hlt]
set_option maxHeartbeats 8000000 in
theorem rising84_any (vA : Option Addr) (vc : Nat) (l : List Ent) (hl : l.length ≤ 100000) (w : World) (h : RowE w (.slice vA l.length vc) l) :
    Calls Try.prog 84 #[.slice vA l.length vc] w fun en w' => ((Srt l ∧ en = .returned (.bool true)) ∨ (¬ Srt l ∧ en = .returned (.bool false))) ∧ Keeps Non w w' := by
  obtain ⟨Q, hQ⟩ : ∃ Q : Ending → World → Prop, Q = fun en w' => ((Srt l ∧ en = .returned (.bool true)) ∨ (¬ Srt l ∧ en = .returned (.bool false))) ∧ Keeps Non w w' := ⟨_, rfl⟩
  rw [← hQ]
  have HQ := Lib.hid hQ
  clear hQ
  go_enter Try.func84, Try.ntmps84
  go_upto_region 2 with fail
  go_loopw [3] (fun i wr => ∃ j : Nat, i = .int .i64 ((j + 1 : Nat) : Int) ∧ j ≤ l.length ∧ Hid (Srt (l.take (j + 1))) ∧ Keeps Non w wr) (fun i _ => l.length + 1 - (intOf i).toNat)
  case atStart =>
    refine ⟨0, rfl, Nat.zero_le _, Lib.hid ?_, Keeps.refl _ _⟩
    match l with
    | [] => exact List.Pairwise.nil
    | x :: l => exact List.pairwise_singleton _ _
  case round =>
    obtain ⟨j, rfl, hj, HS, hK⟩ := hrel
    obtain ⟨wx, rfl⟩ : ∃ V : World, V = wr := ⟨_, rfl⟩
    by_cases hjl : j + 1 < l.length
    · have hjl0 : j < l.length := by omega
      have hRy := h.non hK
      obtain ⟨b1, c1, e1, -, x0, -⟩ := rowE_at hRy hjl
      obtain ⟨b2, c2, e2, -, y0, -⟩ := rowE_at hRy hjl0
      injection e1 with e1 e1b e1c
      injection e2 with e2 e2b e2c
      clear e1b e2b
      subst e1 e1c
      injection e2 with e2
      injection e2 with e2
      subst e2 e2c
      have HSS : Hid (lt l[j].name l[j + 1].name = true → Srt (l.take (j + 2))) := Lib.hid (fun hh => srt_take_succ hjl HS.out hh)
      have HNS : Hid (¬ lt l[j].name l[j + 1].name = true → ¬ Srt l) := Lib.hid (fun hh hs => hh (List.pairwise_iff_getElem.1 hs j (j + 1) hjl0 hjl (by omega)))
      generalize l[j + 1] = x at x0 HSS HNS
      generalize l[j] = y at y0 HSS HNS
      obtain ⟨i, hi⟩ : ∃ i, i = j + 1 := ⟨_, rfl⟩
      rw [← hi] at x0 hjl ⊢
      have hsub : (i : Int) - 1 = (j : Int) := by omega
      have hw3 : IntKind.i64.wrap ((i : Int) - 1) = (j : Int) := by rw [IntKind.wrap_i64]; omega
      have hw4 : IntKind.i64.wrap (j : Int) = (j : Int) := by rw [IntKind.wrap_i64]; omega
      have hi1 : (j : Int) < (l.length : Int) := by omega
      have hi2 : (i : Int) < (l.length : Int) := by omega
      have HI := Lib.hid hi
      clear hi
      cases hlb : lt y.name x.name
      · have hcb : Op.bytesLess (str y.name).toList (str x.name).toList = false := by rw [str_toList, str_toList]; exact hlb
        have HNX := Lib.hid (HNS.out (by rw [hlb]; simp))
        clear hlb
        go_upto_region 4 with fail
        go_quiet (fail)
        go_wp2_with fail
        rw [HQ.out]
        exact ⟨.inr ⟨HNX.out, rfl⟩, hK.drewN _⟩
      · have hcb : Op.bytesLess (str y.name).toList (str x.name).toList = true := by rw [str_toList, str_toList]; exact hlb
        have HSX := Lib.hid (HSS.out hlb)
        clear hlb
        go_upto_region 4 with fail
        go_quiet (fail)
        go_wp2_with fail
        go_roundw
        case rel => exact ⟨j + 1, by have := HI.out; go_num, by omega, HSX, hK.drewN _⟩
        case measure => simp [intOf]; have := HI.out; omega
    · have hs : Srt l := by have := HS.out; rwa [List.take_of_length_le (by omega)] at this
      have HSL := Lib.hid hs
      clear hs
      obtain ⟨i, hi⟩ : ∃ i, i = j + 1 := ⟨_, rfl⟩
      rw [← hi] at hjl ⊢
      clear hi
      go_wp2_with fail
      rw [HQ.out]
      exact ⟨.inl ⟨HSL.out, rfl⟩, hK⟩
end Go.Proofs.Ytiieglfpmmhfiaa
