/- The document's Same of pages. -/
import Derived.Test.YtiieglfpmmhfiaaD24
import Derived.Test.YtiieglfpmmhfiaaBasec
import Derived.RegionTactic
namespace Go.Proofs.Ytiieglfpmmhfiaa
set_option maxRecDepth 100000
open Go.RowKit Go.Uc
/-- Pages as they are read. -/
def PgR (w : World) (A : Option Addr) (rs : List (List UInt8)) : Prop := ∀ i (h : i < rs.length), ∃ b off Ai ci, A = some ⟨b, off, none⟩ ∧ w.cell? ⟨b, off + i, none⟩ = some (.slice Ai rs[i].length ci) ∧ At w Ai rs[i]
theorem PgR.non {w w' : World} {A : Option Addr} {rs : List (List UInt8)} (h : PgR w A rs) (hk : Keeps Non w w') : PgR w' A rs := fun i hi => by
  obtain ⟨b, off, Ai, ci, e, hc, ha⟩ := h i hi
  exact ⟨b, off, Ai, ci, e, hk.cell hc id, ha.non hk⟩
theorem PgM.read {w : World} {A : Option Addr} {n c : Nat} {ss : List Sl} {bs : List (List UInt8)} (h : PgM w ⟨A, n, c⟩ ss bs) : n = bs.length ∧ PgR w A bs := by
  obtain ⟨A', c', e, -, -⟩ := h.row.val
  have e' : Value.slice A n c = .slice A' ss.length c' := e
  injection e' with e1 e2 e3
  refine ⟨by rw [e2, h.len], fun i hi => ?_⟩
  have hi' : i < ss.length := by rw [h.len]; exact hi
  obtain ⟨g, cap, e4, -, -, hc, -⟩ := h.row.at_ encS_len hi'
  have e5 : Value.slice A n c = .slice (some ⟨g, 0, none⟩) ss.length cap := e4
  injection e5 with e6
  have hp := h.pg i hi' hi
  obtain ⟨As, cs, es, -⟩ := hp.val
  have := hc 0 (by decide)
  refine ⟨g, 0, As, cs, e6, ?_, ?_⟩
  · rw [Nat.zero_add]
    simp [encS] at this
    rw [this]
    exact congrArg some es
  · have hp' : RowU w (.slice As bs[i].length cs) bs[i] := by rw [← es]; exact hp
    exact hp'.at_.2
theorem takeL_succ {a b : List (List UInt8)} {k : Nat} (hk : k < a.length) (hb : k < b.length) (h : a.take k = b.take k) : a.take (k + 1) = b.take (k + 1) ↔ a[k] = b[k] := by
  rw [List.take_succ_eq_append_getElem hk, List.take_succ_eq_append_getElem hb, h]
  constructor
  · intro e
    have := List.append_cancel_left e
    injection this
  · intro e; rw [e]
set_option maxHeartbeats 2000000 in
theorem same_any {w : World} {A B : Option Addr} {ca cb : Nat} {a b : List (List UInt8)} (ha : PgR w A a) (hb : PgR w B b) (hmx : a.length ≤ 9223372036854775807) :
    Calls Try.prog 51 #[.slice A a.length ca, .slice B b.length cb] w fun e w' => e = .returned (.bool (decide (a = b))) ∧ ∃ q, w' = w.drewN q := by
  by_cases hl : a.length = b.length
  · have hlb : ((a.length : Int) != (b.length : Int)) = false := by simp [hl]
    have HL := Lib.hid hl
    clear hl
    go_enter Try.func51, Try.ntmps51
    go_upto_region 4 with fail
    go_loopw [5] (fun i wr => ∃ k, k ≤ a.length ∧ i = .int .i64 (k : Int) ∧ Hid (a.take k = b.take k) ∧ ∃ q, wr = w.drewN q) (fun i _ => a.length - (intOf i).toNat)
    case atStart => exact ⟨0, Nat.zero_le _, rfl, rfl, 0, rfl⟩
    case round =>
      obtain ⟨k, hk, rfl, hE, q, hq⟩ := hrel
      obtain ⟨wx, rfl⟩ : ∃ W : World, W = wr := ⟨_, rfl⟩
      have hK : Keeps Non w wx := by rw [hq]; exact (Keeps.refl _ _).drewN q
      have HQ := Lib.hid hq
      clear hq
      by_cases hlt : k < a.length
      · have hltb : k < b.length := by have := HL.out; omega
        obtain ⟨b1, o1, A1, c1, rfl, x0, hA1⟩ := ((ha.non hK).non (Keeps.refl Non wx).drew) k hlt
        obtain ⟨b2, o2, A2, c2, rfl, y0, hA2⟩ := ((hb.non hK).non (Keeps.refl Non wx).drew) k hltb
        have HTK := Lib.hid (takeL_succ hlt hltb hE.out)
        have HAB : Hid (a.take (k + 1) ≠ b.take (k + 1) → a ≠ b) := Lib.hid (fun h e => h (by rw [e]))
        have hi1 : (k : Int) < (a.length : Int) := by omega
        have hi2 : (k : Int) < (b.length : Int) := by omega
        have cv1 : (convert 53 9 (.slice A1 a[k].length c1)).run Try.prog wx.drew = .ok (.string (str a[k])) wx.drew := run_convert_at 53 9 5 Try.underlying53 Try.underlying5 Try.underlying9 _ _ hA1 _ _ rfl
        have cv2 : (convert 53 9 (.slice A2 b[k].length c2)).run Try.prog wx.drew = .ok (.string (str b[k])) wx.drew := run_convert_at 53 9 5 Try.underlying53 Try.underlying5 Try.underlying9 _ _ hA2 _ _ rfl
        clear hA1 hA2
        generalize a[k] = ea at x0 cv1 HTK
        generalize b[k] = eb at y0 cv2 HTK
        by_cases hn : (str ea).toList = (str eb).toList
        · have HEE : Hid (ea = eb) := Lib.hid (by rw [str_toList, str_toList] at hn; exact hn)
          have hnb : ((str ea).toList == (str eb).toList) = true := by simp [hn]
          go_upto_region 6 with fail
          go_region
          go_wp2_with fail
          go_roundw
          case rel => exact ⟨k + 1, by omega, by go_num, Lib.hid (HTK.out.2 HEE.out), q + 1, by rw [HQ.out]; rfl⟩
          case measure => simp [intOf]; omega
        · have HD : Hid (decide (a = b) = false) := Lib.hid (decide_eq_false (HAB.out fun e => hn (by rw [HTK.out.1 e])))
          have hnb : ((str ea).toList == (str eb).toList) = false := by simp [hn]
          go_upto_region 6 with fail
          go_region
          go_wp2_with fail
          go_ret
          exact ⟨by rw [HD.out]; rfl, q + 1, by rw [HQ.out]; rfl⟩
      · obtain rfl : k = a.length := by omega
        have hab : a = b := by
          have := hE.out
          rw [List.take_of_length_le (Nat.le_refl _), List.take_of_length_le (by have := HL.out; omega)] at this
          exact this
        have HD : Hid (decide (a = b) = true) := Lib.hid (decide_eq_true hab)
        go_wp2_with fail
        go_ret
        exact ⟨by rw [HD.out]; rfl, q, HQ.out⟩
  · have hlb : ((a.length : Int) != (b.length : Int)) = true := by simp; omega
    have HD : Hid (decide (a = b) = false) := Lib.hid (decide_eq_false fun e => hl (by rw [e]))
    clear hl
    go_enter Try.func51, Try.ntmps51
    go_wp2_with fail
    go_ret
    exact ⟨by rw [HD.out]; rfl, 0, rfl⟩
end Go.Proofs.Ytiieglfpmmhfiaa
namespace Go.Proofs.Ytiieglfpmmhfiaa
open Go.RowKit Go.Uc
set_option maxHeartbeats 1000000 in
theorem Same_any {w : World} {A B : Option Addr} {ca cb : Nat} {a b : List (List UInt8)} (ha : PgR w A a) (hb : PgR w B b) (hmx : a.length ≤ 9223372036854775807) :
    Calls Try.prog 23 #[.slice A a.length ca, .slice B b.length cb] w fun e w' => e = .returned (.bool (decide (a = b))) ∧ ∃ q, w' = w.drewN q := by
  have H := Lib.hid (same_any (ca := ca) (cb := cb) ha hb hmx)
  clear ha hb hmx
  generalize decide (a = b) = r at H ⊢
  go_enter Try.func23, Try.ntmps23
  go_wp2_with ((go_at_call 51; refine H.out.mono ?_; rintro e w2 ⟨rfl, q, rfl⟩))
  go_ret
  exact ⟨rfl, q, rfl⟩
/-- slices.Index. -/
def idx (l : List Nat) (k : Nat) : Option Nat := l.findIdx? (· == k)
set_option maxHeartbeats 2000000 in
theorem index_any {w : World} {v : Value} {l : List Nat} (h : RowN w v l) (k : Nat) :
    Calls Try.prog 85 #[v, .int .i64 (k : Int)] w fun e w' => (∃ i : Nat, ∃ hi : i < l.length, e = .returned (.int .i64 (i : Int)) ∧ l[i] = k ∧ ∀ j (hj : j < l.length), j < i → l[j] ≠ k) ∧ w' = w ∨ (e = .returned (.int .i64 (-1)) ∧ k ∉ l) ∧ w' = w := by
  obtain ⟨A, c, rfl, hc, hm⟩ := h.val
  unfold maxLen at hm
  obtain ⟨Q, hQ⟩ : ∃ Q : Ending → World → Prop, Q = fun e w' => (∃ i : Nat, ∃ hi : i < l.length, e = .returned (.int .i64 (i : Int)) ∧ l[i] = k ∧ ∀ j (hj : j < l.length), j < i → l[j] ≠ k) ∧ w' = w ∨ (e = .returned (.int .i64 (-1)) ∧ k ∉ l) ∧ w' = w := ⟨_, rfl⟩
  rw [← hQ]
  have HQ := Lib.hid hQ
  clear hQ
  go_enter Try.func85, Try.ntmps85
  go_upto_region 2 with fail
  go_loopw [8] (fun i wr => ∃ m, m ≤ l.length ∧ i = .int .i64 (m : Int) ∧ wr = w ∧ Hid (∀ j (hj : j < l.length), j < m → l[j] ≠ k)) (fun i _ => l.length - (intOf i).toNat)
  case atStart => exact ⟨0, Nat.zero_le _, rfl, rfl, Lib.hid (fun j _ h => by omega)⟩
  case round =>
    obtain ⟨m, hm2, rfl, rfl, hN⟩ := hrel
    by_cases hlt : m < l.length
    · obtain ⟨g, cap, e1, -, x0, -⟩ := rowN_at h hlt
      injection e1 with e1 e2 e3
      clear e2
      subst e1 e3
      obtain ⟨x, hx⟩ : ∃ x, x = l[m] := ⟨_, rfl⟩
      rw [← hx] at x0
      have HX := Lib.hid hx
      clear hx
      by_cases hxk : x = k
      · have hb : ((k : Int) == (x : Int)) = true := by simp [hxk]
        have HXK := Lib.hid hxk
        clear hxk
        go_wp2_with fail
        rw [HQ.out]
        exact .inl ⟨⟨m, hlt, rfl, by rw [← HX.out]; exact HXK.out, hN.out⟩, rfl⟩
      · have hb : ((k : Int) == (x : Int)) = false := beq_eq_false_iff_ne.2 (by omega)
        have HXK := Lib.hid hxk
        clear hxk
        go_wp2_with fail
        go_roundw
        case rel => exact ⟨m + 1, by omega, by go_num, by trivial, Lib.hid (fun j hj h => by rcases Nat.lt_or_ge j m with h' | h'; (exact hN.out j hj h'); (obtain rfl : j = m := by omega); rw [← HX.out]; exact HXK.out)⟩
        case measure => simp [intOf]; omega
    · obtain rfl : m = l.length := by omega
      go_wp2_with fail
      rw [HQ.out]
      exact .inr ⟨⟨rfl, fun hk => by obtain ⟨j, hj, e⟩ := List.getElem_of_mem hk; exact hN.out j hj hj e⟩, rfl⟩
end Go.Proofs.Ytiieglfpmmhfiaa
