import Derived.Test.YtmlffigfhhoihaaP1
import Derived.Test.YtmlffigfhhoihaaBasec
import Derived.WalkSpells
namespace Go.Proofs.Ytmlffigfhhoihaa
open Go.RowKit Go.Uc

theorem or_byte (m x k : Nat) (hm : m < 256 ^ k) (hx : x < 256) (hk : k ≤ 3) : bits .or .i64 (m : Int) (wrap64 ((x : Int) * 2 ^ (8 * k))) = ((m + x * 256 ^ k : Nat) : Int) := by
  have e : (2 : Int) ^ (8 * k) = ((256 ^ k : Nat) : Int) := by rw [Int.pow_mul]; simp
  have e2 : (256 : Nat) ^ k = 2 ^ (8 * k) := by rw [Nat.pow_mul]
  have hp : (256 : Nat) ^ k ≤ 256 ^ 3 := Nat.pow_le_pow_right (by decide) hk
  have hy : x * 256 ^ k < 4294967296 := by
    have := Nat.mul_le_mul (show x ≤ 255 by omega) hp
    omega
  rw [e, ← Int.natCast_mul, IntWalk.wrap64_in _ ⟨by omega, by omega⟩]
  rw [(bits_nat .i64 63 (by decide) (fun n h0 h1 => by rw [IntKind.wrap_i64]; omega) m (x * 256 ^ k) (by omega) (by omega)).2]
  congr 1
  rw [Nat.or_comm, e2, Nat.mul_comm x, ← Nat.two_pow_add_eq_or_of_lt (by rw [← e2]; exact hm) x]
  omega
set_option maxHeartbeats 400000 in
theorem number_of (A : Option Addr) (c : Nat) (bs : List UInt8) (w : World) (hA : At w A bs) (hn : bs.length = 4) :
    Calls Try.prog 34 #[.slice A 4 c] w fun e w' => e = .returned (.int .i64 (leVal bs)) ∧ w = w' := by
  have HA := Lib.hid hA
  clear hA
  go_enter Try.func34, Try.ntmps34
  go_wp2
  go_loop [3, 8] (fun s i => ∃ k : Nat, k ≤ 4 ∧ i = .int .i64 k ∧ s = .int .i64 (leVal (bs.take k))) (fun _ i => 4 - (intOf i).toNat)
  case atStart => exact ⟨0, by omega, rfl, rfl⟩
  case round =>
    obtain ⟨k, hk, rfl, rfl⟩ := hrel
    by_cases hlt : k < 4
    · obtain ⟨b, off, rfl, hc⟩ := HA.out.at_ (k := k) (by omega)
      have hc' : w.cell? ⟨b, off + k, none⟩ = some (.int .u8 (bs[k]'(by omega)).toNat) := hc
      clear hc
      obtain ⟨x, hx⟩ : ∃ x, x = (bs[k]'(by omega)).toNat := ⟨_, rfl⟩
      have hx8 : x < 256 := by rw [hx]; exact (bs[k]'(by omega)).toNat_lt
      rw [← hx] at hc'
      have HX := Lib.hid hx
      clear hx
      obtain ⟨m, hm⟩ : ∃ m, m = leVal (bs.take k) := ⟨_, rfl⟩
      rw [← hm]
      have HM := Lib.hid hm
      clear hm
      go_wp2
      have hml : m < 256 ^ k := by
        have := leVal_lt (bs.take k)
        rw [List.length_take, Nat.min_eq_left (by omega)] at this
        rw [HM.out]; exact this
      rw [or_byte m x k hml hx8 (by omega)]
      go_round
      case rel =>
        refine ⟨k + 1, by omega, by go_num, ?_⟩
        congr 2
        rw [← take_snoc bs k (by omega), leVal_snoc, List.length_take, Nat.min_eq_left (by omega), HM.out, HX.out]
      case measure => simp [intOf]; omega
    · obtain rfl : k = 4 := by omega
      go_wp2
      go_ret
      rw [List.take_of_length_le (by omega)]
      exact ⟨rfl, rfl⟩

/-- slices.Equal on bytes. -/
theorem equal_any (A B : Option Addr) (c d : Nat) (xs ys : List UInt8) (w : World) (hA : At w A xs) (hB : At w B ys) (h1 : xs.length ≤ 100000) (h2 : ys.length ≤ 100000) (n m : Nat) (en : n = xs.length) (em : m = ys.length) :
    Calls Try.prog 35 #[.slice A n c, .slice B m d] w fun e w' => e = .returned (.bool (decide (xs = ys))) ∧ ∃ q, w' = w.drewN q := by
  subst en em
  by_cases hl : xs.length = ys.length
  · have HA := Lib.hid hA
    have HB := Lib.hid hB
    have HL := Lib.hid hl
    have hb : (((xs.length : Nat) : Int) != ((ys.length : Nat) : Int)) = false := by simp [hl]
    clear hA hB hl
    go_enter Try.func35, Try.ntmps35
    go_wp2
    go_loopw [13] (fun i wr => ∃ k : Nat, k ≤ xs.length ∧ i = .int .i64 k ∧ xs.take k = ys.take k ∧ ∃ q, wr = w.drewN q) (fun i _ => xs.length - (intOf i).toNat)
    case atStart => exact ⟨0, by omega, rfl, rfl, 0, rfl⟩
    case round =>
      obtain ⟨k, hk, rfl, he, q, rfl⟩ := hrel
      have hK : Keeps Non w (w.drewN q) := (Keeps.refl _ _).drewN q
      have HE := Lib.hid he
      clear he
      by_cases hlt : k < xs.length
      · have hlt2 : k < ys.length := by have := HL.out; omega
        obtain ⟨b, off, rfl, hc⟩ := HA.out.at_ hlt
        obtain ⟨b2, off2, rfl, hc2⟩ := HB.out.at_ hlt2
        have q1 : w.cell? ⟨b, off + k, none⟩ = some (.int .u8 xs[k].toNat) := hc
        have q2 : w.cell? ⟨b2, off2 + k, none⟩ = some (.int .u8 ys[k].toNat) := hc2
        clear hc hc2
        by_cases hx : xs[k] = ys[k]
        · have hx' := Lib.hid hx
          have hbb : (((xs[k].toNat : Nat) : Int) != ((ys[k].toNat : Nat) : Int)) = false := by rw [hx]; simp
          clear hx
          go_wp2
          go_quiet (fail)
          go_wp2
          go_roundw
          case rel => exact ⟨k + 1, by omega, by go_num, by rw [← take_snoc xs k hlt, ← take_snoc ys k hlt2, HE.out, hx'.out], _, rfl⟩
          case measure => simp [intOf]; omega
        · have hbb : (((xs[k].toNat : Nat) : Int) != ((ys[k].toNat : Nat) : Int)) = true := by
            have : xs[k].toNat ≠ ys[k].toNat := fun e => hx (UInt8.toNat_inj.1 e)
            simp; omega
          have hne : ¬ xs = ys := fun e => hx (by subst e; rfl)
          have HN := Lib.hid hne
          clear hx hne
          go_wp2
          go_quiet (fail)
          go_wp2
          go_ret
          exact ⟨ret_bool (by simpa using HN.out), _, World.drewN_drewN _ _ _⟩
      · go_wp2
        go_ret
        refine ⟨ret_bool ?_, q, rfl⟩
        obtain rfl : k = xs.length := by omega
        have h1 := HE.out
        rw [List.take_length, HL.out, List.take_length] at h1
        simp [h1]
  · have hne : ¬ xs = ys := fun e => hl (by rw [e])
    have hb : (((xs.length : Nat) : Int) != ((ys.length : Nat) : Int)) = true := by simp; omega
    clear hl
    go_enter Try.func35, Try.ntmps35
    go_wp2
    go_ret
    exact ⟨ret_bool (by simpa using hne), 0, rfl⟩

/-- slices.Clone on bytes. -/
theorem clone_any (A : Option Addr) (c : Nat) (bs : List UInt8) (w : World) (hA : At w A bs) (hn : bs.length ≤ 140737488355328) :
    Calls Try.prog 36 #[.slice A bs.length c] w fun e w' => ∃ v, e = .returned v ∧ OwnB w' w.heap.size 5 v bs ∧ Keeps Non w w' := by
  have he := fun (w : World) (a : Option Addr) (n c : Nat) => Lib.run_eql_slice_nil (P := Try.prog) w 31 5 a n c 0 0 Try.underlying31
  cases A with
  | none =>
    obtain rfl : bs = [] := by
      cases bs with
      | nil => rfl
      | cons b bs => obtain ⟨ad, e, _⟩ := hA 0 (by simp); cases e
    go_enter Try.func36, Try.ntmps36
    go_wp2
    go_ret
    exact ⟨_, rfl, OwnB.nil _ _ _, Keeps.refl _ _⟩
  | some ad =>
    have hO : OwnB (w.alloc (.cells #[] 5)) w.heap.size 5 (.slice (some ⟨w.heap.size, 0, none⟩) 0 0) [] := OwnB.blk (bs := []) (xs := []) (Blk.new w 5 #[]) (Nat.le_refl _) (by simp)
    have hA2 : At (w.alloc (.cells #[] 5)) (some ad) bs := hA.non ((Keeps.refl Non w).alloc _)
    go_enter Try.func36, Try.ntmps36
    go_wp2_with (at_builtin; refine wpList_append_bytes rfl (.tmp 5) (.tmp 6) 31 rfl w.heap.size 5 Try.underlying31 info5 _ [] rfl hO (some ad) bs.length c bs rfl rfl hA2 (by simp; omega) (by simp) ?_; intro v w2 hO2 hK2 hat)
    go_ret
    exact ⟨_, rfl, by simpa using hO2, ((Keeps.refl Non w).alloc _).then hK2 fun i hi e => by have := hO.new i e; omega⟩
end Go.Proofs.Ytmlffigfhhoihaa
