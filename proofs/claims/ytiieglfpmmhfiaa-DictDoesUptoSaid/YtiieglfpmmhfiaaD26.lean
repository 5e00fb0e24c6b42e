/- entries. -/
import Derived.Test.YtiieglfpmmhfiaaG6
import Derived.WalkLawsBesides
import Derived.RegionTactic
namespace Go.Proofs.Ytiieglfpmmhfiaa
set_option maxRecDepth 100000
open Go.RowKit Go.Uc

/-- What entries answers. -/
def EntR (w : World) (o : Option (List Ent)) (e : Ending) (w' : World) : Prop :=
  match o with
  | none => e = .returned (.tuple #[.slice none 0 0, .bool false]) ∧ Keeps Non w w'
  | some l => ∃ s : Sl, e = .returned (.tuple #[s.v, .bool true]) ∧ RowE w' s.v l ∧ New w s ∧ Keeps Non w w'
theorem or_byte (m x k : Nat) (hm : m < 256 ^ k) (hx : x < 256) (hk : k ≤ 3) : bits .or .i64 (m : Int) (wrap64 ((x : Int) * 2 ^ (8 * k))) = ((m + x * 256 ^ k : Nat) : Int) := by
  have e : (2 : Int) ^ (8 * k) = ((256 ^ k : Nat) : Int) := by rw [Int.pow_mul]; simp
  have e2 : (256 : Nat) ^ k = 2 ^ (8 * k) := by rw [Nat.pow_mul]
  have hp : (256 : Nat) ^ k ≤ 256 ^ 3 := Nat.pow_le_pow_right (by decide) hk
  have hy : x * 256 ^ k < 4294967296 := by
    have := Nat.mul_le_mul (show x ≤ 255 by omega) hp
    omega
  rw [e, ← Int.natCast_mul, IntWalk.wrap64_in _ ⟨by omega, by omega⟩]
  rw [(bits_nat .i64 63 (by decide) (fun n h0 h1 => by rw [IntKind.wrap_i64]; omega) m (x * 256 ^ k) (by omega) (by omega)).2]
  congr 1
  rw [Nat.or_comm, e2, Nat.mul_comm x, ← Nat.two_pow_add_eq_or_of_lt (by rw [← e2]; exact hm) x]
  omega
/-- The first so many of four bytes as a number. -/
def rdk (p : List UInt8) (a : Nat) : Nat → Nat
  | 0 => 0
  | j + 1 => rdk p a j + (p.getD (a + j) 0).toNat * 256 ^ j
theorem rdk_four (p : List UInt8) (a : Nat) : rdk p a 4 = rd4 p a := by
  unfold rd4
  simp [rdk]
theorem rdk_lt (p : List UInt8) (a : Nat) : ∀ j, rdk p a j < 256 ^ j := by
  intro j
  induction j with
  | zero => simp [rdk]
  | succ j ih =>
    have := (p.getD (a + j) 0).toNat_lt
    have h2 : (p.getD (a + j) 0).toNat * 256 ^ j ≤ 255 * 256 ^ j := Nat.mul_le_mul_right _ (by omega)
    show rdk p a j + (p.getD (a + j) 0).toNat * 256 ^ j < 256 ^ (j + 1)
    rw [Nat.pow_succ]
    omega
theorem getLast_get {l : List Ent} (h : 0 < l.length) : l.getLast? = some (l[l.length - 1]'(by omega)) := by
  rw [List.getLast?_eq_getElem?, List.getElem?_eq_getElem (by omega)]
theorem byte_at {w : World} {pb : Nat} {t : TypeId} {p : List UInt8} (h : Blk w pb t (pc p)) {a : Nat} (ha : a < p.length) : w.cell? ⟨pb, a, none⟩ = some (.int .u8 ((p.getD a 0).toNat : Int)) := by
  have := h.byteD ha
  rw [this, List.getD_eq_getElem?_getD, List.getElem?_eq_getElem ha]; rfl
set_option maxHeartbeats 8000000 in
theorem entries_any (p : List UInt8) (hp : p.length = 256) (m : Nat) (hm : m ≤ 255) (w : World) :
    Calls Try.prog 47 #[.agg (pc p), .int .i64 (m : Int)] w (EntR w (entF p m)) := by
  obtain ⟨o, ho⟩ : ∃ o, o = entF p m := ⟨_, rfl⟩
  rw [← ho]
  have HO := Lib.hid ho
  have HF : Hid (entG p m 3 [] = none → o = none) := Lib.hid (fun h => by rw [ho]; unfold entF; rw [h])
  clear ho
  have hB0 := Blk.new w 96 (pc p)
  have hK0 := (Keeps.refl Non w).alloc (.cells (pc p) 96)
  go_enter Try.func47, Try.ntmps47
  go_upto_region 4 with fail
  obtain ⟨w1, hw1⟩ : ∃ W : World, W = w.alloc (.cells (pc p) 96) := ⟨_, rfl⟩
  obtain ⟨pb, hpb⟩ : ∃ b, b = w.heap.size := ⟨_, rfl⟩
  rw [← hw1] at hB0 hK0 ⊢
  rw [← hpb] at hB0 ⊢
  have hpw : w.heap.size ≤ pb := by omega
  clear hw1 hpb
  go_loopw [6, 7, 14] (fun l_ at_ i wr => ∃ (a : Nat) (l : List Ent) (sA : Option Addr) (sc : Nat), l.length ≤ m ∧ i = .int .i64 (l.length : Int) ∧ at_ = .int .i64 (a : Int) ∧ l_ = .slice sA l.length sc ∧ a ≤ 256 ∧ RowE wr (.slice sA l.length sc) l ∧ (∀ q ∈ own (.slice sA l.length sc), pb < q) ∧ Blk wr pb 96 (pc p) ∧ Keeps Non w wr ∧ Hid (entG p m 3 [] = entG p (m - l.length) a l)) (fun _ _ i _ => m - (intOf i).toNat)
  case atStart => exact ⟨3, [], none, 0, Nat.zero_le _, rfl, rfl, rfl, by omega, RowP.nil _ _ _ _, fun q hq => (List.not_mem_nil hq).elim, hB0, hK0, Lib.hid rfl⟩
  case round =>
    obtain ⟨a, l, sA, sc, hk, rfl, rfl, rfl, ha, hR, hN, hB, hK, HG⟩ := hrel
    obtain ⟨wx, rfl⟩ : ∃ W : World, W = wr := ⟨_, rfl⟩
    clear hB0 hK0
    by_cases hlt : l.length < m
    · obtain ⟨j0, hj⟩ : ∃ j, m - l.length = j + 1 := ⟨m - l.length - 1, by omega⟩
      have HG1 : Hid (entG p m 3 [] = entG p (j0 + 1) a l) := Lib.hid (by rw [HG.out, hj])
      have HJ : Hid (m - (l.length + 1) = j0) := Lib.hid (by omega)
      clear HG hj
      by_cases h256 : 256 ≤ a
      · have HNone : Hid (o = none) := Lib.hid (HF.out (by rw [HG1.out]; exact entG_big h256))
        go_wp2_with fail
        go_ret2
        rw [HNone.out]
        exact ⟨rfl, hK⟩
      · have c0 := byte_at hB (a := a) (by omega)
        obtain ⟨n, hn⟩ : ∃ n, n = (p.getD a 0).toNat := ⟨_, rfl⟩
        rw [← hn] at c0
        have hn255 : n < 256 := by rw [hn]; exact UInt8.toNat_lt _
        have HNN := Lib.hid hn
        clear hn
        have ha2 : (a : Int) < 256 := by omega
        go_upto_region 8 with fail
        by_cases hbad : n < 1 ∨ 24 < n ∨ 256 < a + n + 5
        · have HNone : Hid (o = none) := Lib.hid (HF.out (by rw [HG1.out]; exact entG_bad h256 (by rw [← HNN.out]; exact hbad)))
          rcases hbad with hb | hb | hb
          · obtain rfl : n = 0 := by omega
            go_wp2_with fail
            go_ret2
            rw [HNone.out]
            exact ⟨rfl, hK⟩
          · have hb1 : ¬ n < 1 := by omega
            go_wp2_with fail
            go_ret2
            rw [HNone.out]
            exact ⟨rfl, hK⟩
          · by_cases hb1 : n < 1
            · go_wp2_with fail
              go_ret2
              rw [HNone.out]
              exact ⟨rfl, hK⟩
            · by_cases hb2 : 24 < n
              · go_wp2_with fail
                go_ret2
                rw [HNone.out]
                exact ⟨rfl, hK⟩
              · go_wp2_with fail
                go_ret2
                rw [HNone.out]
                exact ⟨rfl, hK⟩
        · have hb1 : ¬ n < 1 := by omega
          have hb2 : ¬ 24 < n := by omega
          have hb3 : (a : Int) + (n : Int) + 5 ≤ 256 := by omega
          go_upto_region 10 with fail
          obtain ⟨nm, hnm⟩ : ∃ nm, nm = (p.drop (a + 1)).take n := ⟨_, rfl⟩
          have hnl : n = nm.length := by rw [hnm, List.length_take, List.length_drop]; omega
          have hAt : At wx (some ⟨pb, a + 1, none⟩) nm := by
            have := ((At.blk hB).drop (a + 1)).take n
            rw [hnm]
            simpa [Addr.add] using this
          have cv : ∀ c, (convert 53 9 (.slice (some ⟨pb, a + 1, none⟩) n c)).run Try.prog wx = .ok (.string (str nm)) wx := fun c => run_convert_at 53 9 5 Try.underlying53 Try.underlying5 Try.underlying9 _ _ hAt n c hnl
          have HNM := Lib.hid hnm
          have HNL := Lib.hid hnl
          clear hnm hnl hAt
          have hal : Try.prog.arrayLen 96 = 256 := by simp [Program.arrayLen, Try.underlying96]
          have hsl : ∀ W, (Instr.sliceAt 96 (.pointer (some ⟨pb, 0, none⟩)) (some (.int .i64 ((a : Int) + 1))) (some (.int .i64 ((a : Int) + 1 + (n : Int)))) none).run Try.prog W = .ok (.slice (some ⟨pb, a + 1, none⟩) n (256 - (a + 1))) W := fun W => by
            rw [run_sliceAt_array_lh W 96 ⟨pb, 0, none⟩ (by simp [Program.arrayLen, Program.elem, Try.underlying96]) .i64 .i64 ((a : Int) + 1) ((a : Int) + 1 + (n : Int)) (by omega) (by omega) (by rw [hal]; omega)]
            go_simp
            omega
          clear hal
          go_upto_region 11 with fail
          have hE := Blk.new wx 56 #[.string (str nm), .int .i64 0]
          have hK2 := (Keeps.refl Non wx).alloc (.cells #[.string (str nm), .int .i64 0] 56)
          have heb : wx.heap.size ≠ pb := by have := hB.lt; omega
          obtain ⟨w2, hw2⟩ : ∃ W : World, W = wx.alloc (.cells #[.string (str nm), .int .i64 0] 56) := ⟨_, rfl⟩
          rw [← hw2] at hE hK2 ⊢
          clear hw2 cv hsl
          have hB2 := hB.non hK2
          have hR2 := hR.non hK2
          have hK02 := hK.non hK2
          have hebN : ∀ q ∈ own (.slice sA l.length sc), q ≠ wx.heap.size := fun q hq => by have := hR.lt q hq; omega
          have hebW : w.heap.size ≤ wx.heap.size := hK.size
          generalize wx.heap.size = eb at *
          obtain ⟨a2, ha2e⟩ : ∃ a2, a2 = a + 1 + n := ⟨_, rfl⟩
          have ha2l : a2 + 4 ≤ 256 := by omega
          go_upto_region 13 with fail
          rw [show (a : Int) + (1 + (n : Int)) = (a2 : Int) by omega]
          have HA2 := Lib.hid ha2e
          clear ha2e hb3 ha2
          go_loopw [48] (fun i wr => ∃ j : Nat, j ≤ 4 ∧ i = .int .i64 (j : Int) ∧ Blk wr eb 56 #[.string (str nm), .int .i64 (rdk p a2 j : Int)] ∧ Keeps (Only eb) w2 wr) (fun i _ => 4 - (intOf i).toNat)
          case atStart => exact ⟨0, by omega, rfl, hE, Keeps.refl _ _⟩
          case round =>
            obtain ⟨j, hj, rfl, hEj, hKj⟩ := hrel
            obtain ⟨wy, rfl⟩ : ∃ W : World, W = wr := ⟨_, rfl⟩
            have hBy := hB2.one hKj heb.symm
            by_cases hj4 : j < 4
            · have x1 : wy.cell? ⟨eb, 1, none⟩ = some (.int .i64 (rdk p a2 j : Int)) := hEj.cell 1
              have x2 := byte_at hBy (a := a2 + j) (by omega)
              have xf := hEj.frozen 1
              have hlt8 := (p.getD (a2 + j) 0).toNat_lt
              have hrl := rdk_lt p a2 j
              obtain ⟨x, hx⟩ : ∃ x, x = (p.getD (a2 + j) 0).toNat := ⟨_, rfl⟩
              obtain ⟨y, hy⟩ : ∃ y, y = rdk p a2 j := ⟨_, rfl⟩
              have HST : Hid (rdk p a2 (j + 1) = y + x * 256 ^ j) := Lib.hid (by rw [hx, hy]; rfl)
              rw [← hx] at x2 hlt8
              rw [← hy] at x1 hrl
              clear hx hy
              have hES := hEj.set 1 (.int .i64 ((y + x * 256 ^ j : Nat) : Int))
              have hKS : Keeps (Only eb) w2 (wy.setCell ⟨eb, 1, none⟩ (.int .i64 ((y + x * 256 ^ j : Nat) : Int))) := hKj.set (p := ⟨eb, 1, none⟩) rfl _
              have hor := or_byte y x j hrl hlt8 (by omega)
              have hai : (a2 : Int) + (j : Int) < 256 := by omega
              go_upto_region 15 with fail
              go_region
              go_wp2_with fail
              go_roundw
              case rel => exact ⟨j + 1, by omega, by go_num, by rw [HST.out]; have := hES.drew; simpa using this, by have := hKS.drew; simpa using this⟩
              case measure => simp [intOf]; omega
            · obtain rfl : j = 4 := by omega
              rw [rdk_four] at hEj
              obtain ⟨e, he⟩ : ∃ e : Ent, e = ⟨nm, (rd4 p a2 : Int)⟩ := ⟨_, rfl⟩
              have hE4 : Blk wy eb 56 #[.string (str e.name), .int .i64 e.val] := by rw [he]; exact hEj
              have HEE : Hid (e = ⟨(p.drop (a + 1)).take n, (rd4 p (a + 1 + n) : Int)⟩) := Lib.hid (by rw [he, HNM.out, HA2.out])
              have hen : e.name = nm := by rw [he]
              have hR4 : RowE wy (.slice sA l.length sc) l := hR2.keep hKj fun q hq e => hebN q hq e
              have hK4 : Keeps Non w wy := hK02.then hKj fun i hi e => by unfold Only at e; omega
              have hgood : ¬ (n < 1 ∨ 24 < n ∨ 256 < a + n + 5) := hbad
              have HNB := Lib.hid hgood
              have HNL2 : Hid (e.name.length = n) := Lib.hid (by rw [hen]; exact HNL.out.symm)
              have hv0 : 0 ≤ e.val := by rw [he]; show (0 : Int) ≤ (rd4 p a2 : Int); omega
              have H256 := Lib.hid h256
              have HENM := Lib.hid hen
              clear hKj hEj he hen hE hK2 hB2 hR2 hK02 hR hB hK hb1 hb2 hbad hgood
              have y0 : wy.cell? ⟨eb, 0, none⟩ = some (.string (str e.name)) := hE4.cell 0
              have y1 : wy.cell? ⟨eb, 1, none⟩ = some (.int .i64 e.val) := hE4.cell 1
              by_cases hv : 2147483647 < e.val
              · have HNone : Hid (o = none) := Lib.hid (HF.out (by rw [HG1.out]; exact entG_val H256.out HNN.out HNB.out HEE.out (.inl hv)))
                have hvb : decide (2147483647 < e.val) = true := decide_eq_true hv
                go_upto_region 18 with fail
                go_quiet (fail)
                go_wp2_with fail
                go_ret2
                rw [HNone.out]
                exact ⟨rfl, hK4.drewN _⟩
              · have hvb : decide (2147483647 < e.val) = false := decide_eq_false hv
                go_upto_region 18 with fail
                have HLa : Hid (l.length + 1 ≤ maxLen ∧ (l.length + 1) * 24 ≤ 140737488355328) := Lib.hid (by unfold maxLen; omega)
                by_cases hl0 : l.length = 0
                · have hl0b : decide (0 < l.length) = false := decide_eq_false (by omega)
                  have HOK : Hid (entG p m 3 [] = entG p j0 (a + n + 5) (l ++ [e])) := Lib.hid (by
                    rw [HG1.out]
                    refine entG_ok H256.out HNN.out HNB.out HEE.out ?_
                    rintro (h | h)
                    · exact hv h
                    · rw [List.eq_nil_of_length_eq_zero hl0] at h; simp at h)
                  clear hl0
                  go_quiet (fail)
                  go_upto_region 20 with fail
                  obtain ⟨w5, hw5⟩ : ∃ W : World, W = wy.drewN nq := ⟨_, rfl⟩
                  rw [← hw5]
                  have hK5 : Keeps Non wy w5 := by rw [hw5]; exact (Keeps.refl _ _).drewN _
                  clear hw5
                  have hE5 := hE4.non hK5
                  have z0 : w5.cell? ⟨eb, 0, none⟩ = some (.string (str e.name)) := hE5.cell 0
                  have z1 : w5.cell? ⟨eb, 1, none⟩ = some (.int .i64 e.val) := hE5.cell 1
                  have hka := (Keeps.refl Non w5).alloc (.cells #[.string (str e.name), .int .i64 e.val] 56)
                  have hR5 := (hR4.non hK5).non hka
                  have hB5 := (hBy.non hK5).non hka
                  have hK05 := (hK4.non hK5).non hka
                  have hpz : pb < w5.heap.size := (hBy.non hK5).lt
                  clear hR4 hBy hK4 hE4 y0 y1 hK5 hka
                  go_wp2_with (refine wpList_append_row (o := ⟨some 90, _, _, _, _, _⟩) rfl (.tmp 87) (.tmp 89) 32 rfl 56 2 encE _ 24 Try.underlying32 info56 rfl (by decide) encE_len encE_one (.slice sA l.length sc) l rfl hR5 (some ⟨w5.heap.size, 0, none⟩) 1 1 [e] rfl rfl (Ats.lit w5 #[.string (str e.name), .int .i64 e.val] 56 _ rfl) HLa.out.1 HLa.out.2 ?_; intro u8 w8 hO8 hK8 hat; obtain ⟨⟨A8, n8, c8⟩, rfl, h8⟩ := RowP.sl hO8; simp only at h8; subst h8)
                  go_roundw
                  case rel =>
                    refine ⟨a + n + 5, l ++ [e], A8, c8, by simp; omega, by simp, by have := HA2.out; go_num, by show Value.slice A8 _ c8 = Value.slice A8 _ c8; simp, by have := HA2.out; omega, hO8, fun q hq => ?_, hB5.keep hK8 (fun hq => by have := hN pb hq; omega), hK05.then hK8 (fun i hi hq => by have := hN i hq; omega), by rw [List.length_append, List.length_singleton, HJ.out]; exact HOK⟩
                    rw [mem_own] at hq
                    rcases hat with h | h
                    · rw [h] at hq; exact hN q (mem_own.2 hq)
                    · rw [h] at hq; injection hq with hq; simp at hq; omega
                  case measure => simp [intOf]; omega
                · have hl0b : decide (0 < l.length) = true := decide_eq_true (by omega)
                  have hlt0 : l.length - 1 < l.length := by omega
                  obtain ⟨g, cap, ev, -, q0, -, -, -⟩ := rowE_at hR4 hlt0
                  injection ev with e1 e2 e3
                  clear e2
                  subst e1 e3
                  have hlast := getLast_get (l := l) (by omega)
                  obtain ⟨x, hx⟩ : ∃ x, x = l[l.length - 1] := ⟨_, rfl⟩
                  rw [← hx] at q0 hlast
                  clear hx
                  have hidx : ((l.length : Int) - 1) = ((l.length - 1 : Nat) : Int) := by omega
                  have hN1 : (0 : Int) ≤ (l.length : Int) - 1 := by omega
                  have hN2 : ((l.length : Int) - 1).toNat = l.length - 1 := by omega
                  have hN3 : IntKind.i64.wrap ((l.length : Int) - 1) = (l.length : Int) - 1 := by rw [IntKind.wrap_i64]; omega
                  have HLast := Lib.hid hlast
                  have hlk' : l.length ≤ 255 := by omega
                  cases hlb : lt x.name e.name
                  · have HNone : Hid (o = none) := Lib.hid (HF.out (by rw [HG1.out]; exact entG_val H256.out HNN.out HNB.out HEE.out (.inr (by rw [HLast.out]; simp [hlb]))))
                    have hcb : Op.bytesLess (str x.name).toList (str e.name).toList = false := by rw [str_toList, str_toList]; exact hlb
                    clear hlb hlast hidx
                    go_quiet (fail)
                    go_wp2_with fail
                    go_ret2
                    rw [HNone.out]
                    exact ⟨rfl, hK4.drewN _⟩
                  · have HOK : Hid (entG p m 3 [] = entG p j0 (a + n + 5) (l ++ [e])) := Lib.hid (by
                      rw [HG1.out]
                      refine entG_ok H256.out HNN.out HNB.out HEE.out ?_
                      rintro (h | h)
                      · exact hv h
                      · rw [HLast.out] at h; simp [hlb] at h)
                    have hcb : Op.bytesLess (str x.name).toList (str e.name).toList = true := by rw [str_toList, str_toList]; exact hlb
                    clear hlb hlast hidx
                    go_quiet (fail)
                    go_upto_region 20 with fail
                    obtain ⟨w5, hw5⟩ : ∃ W : World, W = wy.drewN nq := ⟨_, rfl⟩
                    rw [← hw5]
                    have hK5 : Keeps Non wy w5 := by rw [hw5]; exact (Keeps.refl _ _).drewN _
                    clear hw5
                    have hE5 := hE4.non hK5
                    have z0 : w5.cell? ⟨eb, 0, none⟩ = some (.string (str e.name)) := hE5.cell 0
                    have z1 : w5.cell? ⟨eb, 1, none⟩ = some (.int .i64 e.val) := hE5.cell 1
                    have hka := (Keeps.refl Non w5).alloc (.cells #[.string (str e.name), .int .i64 e.val] 56)
                    have hR5 := (hR4.non hK5).non hka
                    have hB5 := (hBy.non hK5).non hka
                    have hK05 := (hK4.non hK5).non hka
                    have hpz : pb < w5.heap.size := (hBy.non hK5).lt
                    clear hR4 hBy hK4 hE4 y0 y1 hK5 hka
                    go_wp2_with (refine wpList_append_row (o := ⟨some 90, _, _, _, _, _⟩) rfl (.tmp 87) (.tmp 89) 32 rfl 56 2 encE _ 24 Try.underlying32 info56 rfl (by decide) encE_len encE_one (.slice (some ⟨g, 0, none⟩) l.length sc) l rfl hR5 (some ⟨w5.heap.size, 0, none⟩) 1 1 [e] rfl rfl (Ats.lit w5 #[.string (str e.name), .int .i64 e.val] 56 _ rfl) HLa.out.1 HLa.out.2 ?_; intro u8 w8 hO8 hK8 hat; obtain ⟨⟨A8, n8, c8⟩, rfl, h8⟩ := RowP.sl hO8; simp only at h8; subst h8)
                    go_roundw
                    case rel =>
                      refine ⟨a + n + 5, l ++ [e], A8, c8, by simp; omega, by simp, by have := HA2.out; go_num, by show Value.slice A8 _ c8 = Value.slice A8 _ c8; simp, by have := HA2.out; omega, hO8, fun q hq => ?_, hB5.keep hK8 (fun hq => by have := hN pb hq; omega), hK05.then hK8 (fun i hi hq => by have := hN i hq; omega), by rw [List.length_append, List.length_singleton, HJ.out]; exact HOK⟩
                      rw [mem_own] at hq
                      rcases hat with h | h
                      · rw [h] at hq; exact hN q (mem_own.2 hq)
                      · rw [h] at hq; injection hq with hq; simp at hq; omega
                    case measure => simp [intOf]; omega
    · have hlm : l.length = m := by omega
      have HG0 : Hid (entG p m 3 [] = some (a, l)) := Lib.hid (by rw [HG.out, hlm, Nat.sub_self]; rfl)
      have HOS : Hid (o = if (p.drop a).all (· == 0) = true then some l else none) := Lib.hid (by rw [HO.out]; unfold entF; rw [HG0.out])
      clear HG
      have hal : Try.prog.arrayLen 96 = 256 := by simp [Program.arrayLen, Try.underlying96]
      by_cases ha6 : a = 256
      · subst ha6
        have HON : Hid (o = some l) := Lib.hid (by rw [HOS.out, List.drop_of_length_le (by omega)]; rfl)
        have hsl : ∀ W, (Instr.sliceAt 96 (.pointer (some ⟨pb, 0, none⟩)) (some (.int .i64 256)) none none).run Try.prog W = .ok (.slice (some ⟨pb, 0, none⟩) 0 0) W := fun W => by
          rw [run_sliceAt_array_l W 96 ⟨pb, 0, none⟩ (by simp [Program.arrayLen, Program.elem, Try.underlying96]) .i64 256 (by omega) (by rw [hal]; omega)]
          go_simp
        clear hal
        go_wp2_with fail
        go_loop [95] (fun i => i = .int .i64 0) (fun _ => 0)
        case atStart => rfl
        case round =>
          obtain rfl := hrel
          go_wp2_with fail
          go_ret2
          rw [HON.out]
          exact ⟨⟨sA, m, sc⟩, rfl, by rw [← hlm]; exact hR, fun q hq => by have := hN q (by rw [hlm]; exact hq); omega, hK⟩
      · have hsl : ∀ W, (Instr.sliceAt 96 (.pointer (some ⟨pb, 0, none⟩)) (some (.int .i64 (a : Int))) none none).run Try.prog W = .ok (.slice (some ⟨pb, a, none⟩) (256 - a) (256 - a)) W := fun W => by
          rw [run_sliceAt_array_l W 96 ⟨pb, 0, none⟩ (by simp [Program.arrayLen, Program.elem, Try.underlying96]) .i64 (a : Int) (by omega) (by rw [hal]; omega)]
          go_simp
          omega
        clear hal
        obtain ⟨N, hNe⟩ : ∃ N, N = 256 - a := ⟨_, rfl⟩
        rw [← hNe] at hsl
        have hNp : a + N = 256 := by omega
        clear hNe
        go_wp2_with fail
        go_loop [95] (fun i => ∃ j : Nat, j ≤ N ∧ i = .int .i64 (j : Int) ∧ Hid (∀ q, q < j → p.getD (a + q) 0 = 0)) (fun i => N - (intOf i).toNat)
        case atStart => exact ⟨0, Nat.zero_le _, rfl, Lib.hid (fun q h => by omega)⟩
        case round =>
          obtain ⟨j, hj, rfl, HZ⟩ := hrel
          by_cases hjn : j < N
          · have c0 := byte_at hB (a := a + j) (by omega)
            by_cases hz : p.getD (a + j) 0 = 0
            · have HZ1 : Hid (∀ q, q < j + 1 → p.getD (a + q) 0 = 0) := Lib.hid (fun q h => by rcases Nat.lt_or_ge q j with h' | h'; (exact HZ.out q h'); (obtain rfl : q = j := by omega); exact hz)
              rw [hz] at c0
              have c1 : wx.cell? ⟨pb, a + j, none⟩ = some (.int .u8 0) := c0
              clear c0 hz
              go_wp2_with fail
              go_round
              case rel => exact ⟨j + 1, by omega, by go_num, HZ1⟩
              case measure => simp [intOf]; omega
            · have HON : Hid (o = none) := Lib.hid (by
                rw [HOS.out, if_neg]
                intro h
                have hm := List.all_eq_true.1 h (p.getD (a + j) 0) (by
                  rw [List.getD_eq_getElem?_getD, List.getElem?_eq_getElem (by omega)]
                  show p[a + j]'(by omega) ∈ _
                  rw [List.mem_iff_getElem]
                  exact ⟨j, by rw [List.length_drop]; omega, by rw [List.getElem_drop]⟩)
                exact hz (by simpa using hm))
              have hx : (p.getD (a + j) 0).toNat ≠ 0 := fun h => hz (UInt8.toNat_inj.1 (by rw [h]; rfl))
              generalize (p.getD (a + j) 0).toNat = x at c0 hx
              have hxb : ((x : Int) != 0) = true := by simp; omega
              clear hz hx
              go_wp2_with fail
              go_ret2
              rw [HON.out]
              exact ⟨rfl, hK⟩
          · obtain rfl : j = N := by omega
            have HON : Hid (o = some l) := Lib.hid (by
              rw [HOS.out, if_pos]
              rw [List.all_eq_true]
              intro x hx
              obtain ⟨q, hq, rfl⟩ := List.getElem_of_mem hx
              rw [List.length_drop] at hq
              have := HZ.out q (by omega)
              rw [List.getD_eq_getElem?_getD, List.getElem?_eq_getElem (by omega)] at this
              rw [List.getElem_drop]
              simpa using this)
            go_wp2_with fail
            go_ret2
            rw [HON.out]
            exact ⟨⟨sA, m, sc⟩, rfl, by rw [← hlm]; exact hR, fun q hq => by have := hN q (by rw [hlm]; exact hq); omega, hK⟩
end Go.Proofs.Ytiieglfpmmhfiaa
