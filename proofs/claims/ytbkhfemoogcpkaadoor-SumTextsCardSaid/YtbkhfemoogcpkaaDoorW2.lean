/- ParseUint, base 16. -/
import Derived.Test.YtbkhfemoogcpkaaDoorW1
import Derived.Lib.ConvBytes
import Derived.Lib.Strings
namespace Go.Proofs.YtbkhfemoogcpkaaDoor
set_option maxRecDepth 100000
open Go.RowKit Go.Uc

def PUP (o : Option Nat) (w : World) (e : Ending) (w' : World) : Prop :=
  (match o with | some n => e = .returned (.tuple #[.int .u64 n, .nilIface]) | none => e = .returned (.tuple #[.int .u64 0, .iface 85 (.int .i64 2)])) ∧ Keeps Non w w'
theorem pup_some {n : Nat} {w w' : World} {o : Option Nat} (h : o = some n) (hk : Keeps Non w w') : PUP o w (.returned (.tuple #[.int .u64 n, .nilIface])) w' := by subst h; exact ⟨rfl, hk⟩
theorem pup_none {w w' : World} {o : Option Nat} (h : o = none) (hk : Keeps Non w w') : PUP o w (.returned (.tuple #[.int .u64 0, .iface 85 (.int .i64 2)])) w' := by subst h; exact ⟨rfl, hk⟩
theorem or8n : ∀ n : Nat, n < 256 → bits .or .u8 (n : Int) 32 = ((n ||| 32 : Nat) : Int) := of_decide_eq_true (by kernel_rfl)
theorem or8 (c : UInt8) : bits .or .u8 (c.toNat : Int) 32 = ((c ||| 32).toNat : Int) := by
  rw [or8n _ c.toNat_lt, UInt8.toNat_or]; rfl
theorem lower_any (c : UInt8) (w : World) : Calls Tryd.prog 42 #[.int .u8 (c.toNat : Int)] w fun e w' => e = .returned (.int .u8 ((c ||| 32).toNat : Int)) ∧ w' = w := by
  have h := or8 c
  go_enter Tryd.func42, Tryd.ntmps42
  go_wp2_with fail
  go_ret
  exact ⟨rfl, rfl⟩
theorem lower95 (w : World) : Calls Tryd.prog 42 #[.int .u8 95] w fun e w' => e = .returned (.int .u8 127) ∧ w' = w := lower_any 95 w
theorem bytesWorld_keeps (w : World) (e : TypeId) (s : ByteArray) : Keeps Non w (Lib.bytesWorld w e s) := by
  refine ⟨?_, ?_, ?_, by rw [Lib.bytesWorld_size]; omega, fun k hk _ => Lib.bytesWorld_at_old w e s k hk⟩ <;> · unfold Lib.bytesWorld World.freeze; split <;> rfl
theorem hexN_cut (bs : List UInt8) (k : Nat) (hk : k < bs.length) (h : hexS (hexN (bs.take k)) bs[k] = none) : hexN bs = none := by
  have h1 : bs = bs.take (k + 1) ++ bs.drop (k + 1) := (List.take_append_drop _ _).symm
  rw [h1, hexN, List.foldl_append, List.take_succ_eq_append_getElem hk, List.foldl_append, List.foldl_cons, List.foldl_nil]
  rw [show hexS (List.foldl hexS (some 0) (bs.take k)) bs[k] = none from h, hex_none]

set_option maxHeartbeats 2000000 in
theorem parseHex_any (t : ByteArray) (bs : List UInt8) (hbs : t = str bs) (h0 : 0 < bs.length) (hl : bs.length ≤ 16) (w : World) :
    Calls Tryd.prog 27 #[.string t, .int .i64 16, .int .i64 64] w (PUP (hexN bs) w) := by
  have hL : bs = t.data.toList := by rw [hbs]; rfl
  have hLn : bs.length = t.size := by rw [hL, Lib.size_eq]
  have hz : t.toList.isEmpty = false := by
    rw [Lib.toList_data, ← hL]
    cases bs with
    | nil => simp at h0
    | cons a b => rfl
  have hcv := Lib.run_convert_string_bytes (P := Tryd.prog) w 9 32 5 t (u := .string) Tryd.underlying9 Tryd.underlying32 Tryd.underlying5
  have hB : ∀ j, j < t.size → (Lib.bytesWorld w 5 t).cell? ⟨w.heap.size, j, none⟩ = some (.int .u8 (t.data.toList.getD j 0).toNat) := fun j hj => Lib.bytesWorld_cell w 5 t j hj
  have hKw := bytesWorld_keeps w 5 t
  obtain ⟨W1, hW1⟩ : ∃ W1, W1 = Lib.bytesWorld w 5 t := ⟨_, rfl⟩
  rw [← hW1] at hcv hB hKw
  clear hW1
  rw [← hL] at hB
  obtain ⟨sz, hsz⟩ : ∃ sz, sz = t.size := ⟨_, rfl⟩
  have HL : Hid (bs.length = sz ∧ 0 < sz ∧ sz ≤ 16) := Lib.hid ⟨by omega, by omega, by omega⟩
  rw [← hsz] at hB hcv
  clear hL hLn hbs h0 hl hsz
  have hmv : IntKind.u64.wrap (IntKind.u64.wrap 18446744073709551616 - 1) = 18446744073709551615 := by
    rw [IntKind.wrap_u64, IntKind.wrap_u64]
    decide
  go_enter Tryd.func27, Tryd.ntmps27
  go_wp2_with fail
  go_loop [12, 13, 101] (fun vu vn vi => ∃ (k acc : Nat) (a : Int), vu = .bool false ∧ vn = .int .u64 a ∧ vi = .int .i64 k ∧ k ≤ sz ∧ Hid (a = (acc : Int) ∧ acc < 16 ^ k ∧ hexN (bs.take k) = some acc))
    (fun _ _ vi => sz - (intOf vi).toNat)
  case atStart => exact ⟨0, 0, 0, rfl, rfl, rfl, by omega, rfl, by decide, rfl⟩
  case round =>
    obtain ⟨k, acc, a, rfl, rfl, rfl, hk, hh⟩ := hrel
    obtain ⟨ha, hacc, hdec⟩ := hh.out
    clear hh
    have a0 : 0 ≤ a := by omega
    by_cases hkn : k < sz
    · have hc := hB k hkn
      have hlen : k < bs.length := by have := HL.out; omega
      have hk15 : k ≤ 15 := by have := HL.out; omega
      have hpow : 16 ^ k ≤ 16 ^ 15 := Nat.pow_le_pow_right (by omega) hk15
      have icut : a < 1152921504606846976 := by omega
      have hget : bs.getD k 0 = bs[k] := by simp [List.getD, hlen]
      rw [hget] at hc
      have hcut := hexN_cut bs k hlen
      have hsn : hexN (bs.take (k + 1)) = hexS (some acc) bs[k] := by rw [List.take_succ_eq_append_getElem hlen, hexN_snoc, hdec]
      rw [hdec] at hcut
      generalize bs[k] = c at hc hcut hsn
      have hc256 : c.toNat < 256 := c.toNat_lt
      have ho8 := or8 c
      have hl256 : (c ||| 32).toNat < 256 := (c ||| 32).toNat_lt
      obtain ⟨lo, hlo⟩ : ∃ lo, lo = (c ||| 32).toNat := ⟨_, rfl⟩
      have HLw := Lib.hid (fun (w : World) => lower_any c w)
      have hvc : hv c = if 48 ≤ c.toNat ∧ c.toNat ≤ 57 then some (c.toNat - 48) else if 97 ≤ lo ∧ lo ≤ 102 then some (lo - 87) else none := by rw [hlo]; rfl
      have hne95 : 97 ≤ lo → lo ≤ 122 → c.toNat ≠ 95 := by
        intro h1 h2 h3
        rw [hlo, UInt8.toNat_or, h3] at h2
        exact absurd h2 (by decide)
      rw [← hlo] at ho8 hl256 HLw
      clear hget hdec hlo hpow hB
      by_cases hdig : 48 ≤ c.toNat ∧ c.toNat ≤ 57
      · have hs1 : hexS (some acc) c = some (16 * acc + (c.toNat - 48)) := by simp [hexS, hvc, hdig]
        rw [hs1] at hsn
        obtain ⟨hd0, hd1⟩ := hdig
        have hb : 16 * acc + (c.toNat - 48) < 16 ^ (k + 1) := by rw [Nat.pow_succ]; omega
        have HN : Hid (a * 16 + ((c.toNat : Int) - 48) = ((16 * acc + (c.toNat - 48) : Nat) : Int) ∧ 16 * acc + (c.toNat - 48) < 16 ^ (k + 1) ∧ hexN (bs.take (k + 1)) = some (16 * acc + (c.toNat - 48))) := Lib.hid ⟨by omega, hb, hsn⟩
        have iov : a * 16 + ((c.toNat : Int) - 48) < 18446744073709551616 := by omega
        clear hb hs1 hsn hcut hvc hne95 ha hacc hlen
        go_wp2_with fail
        refine ⟨⟨k + 1, 16 * acc + (c.toNat - 48), a * 16 + ((c.toNat : Int) - 48), rfl, (by first | rfl | (congr 1; omega)), (by first | rfl | (congr 1; omega)), by omega, HN⟩, by simp [intOf]; omega⟩
      · have hdI : ¬ (48 ≤ (c.toNat : Int) ∧ (c.toNat : Int) ≤ 57) := by omega
        by_cases hhex : 97 ≤ lo ∧ lo ≤ 102
        · have hs1 : hexS (some acc) c = some (16 * acc + (lo - 87)) := by simp [hexS, hvc, hdig, hhex]
          rw [hs1] at hsn
          obtain ⟨hd0, hd1⟩ := hhex
          have h95 := hne95 hd0 (by omega)
          have h95i : ((c.toNat : Int) == 95) = false := by simp; omega
          have hb : 16 * acc + (lo - 87) < 16 ^ (k + 1) := by rw [Nat.pow_succ]; omega
          have HN : Hid (a * 16 + ((lo : Int) - 97 + 10) = ((16 * acc + (lo - 87) : Nat) : Int) ∧ 16 * acc + (lo - 87) < 16 ^ (k + 1) ∧ hexN (bs.take (k + 1)) = some (16 * acc + (lo - 87))) := Lib.hid ⟨by omega, hb, hsn⟩
          have iov : a * 16 + ((lo : Int) - 97 + 10) < 18446744073709551616 := by omega
          clear hb hs1 hsn hcut hvc hne95 ha hacc hlen hdig
          by_cases h48 : 48 ≤ (c.toNat : Int)
          all_goals
            go_wp2_with (go_at_call 42; refine (HLw.out _).mono ?_; rintro e w' ⟨rfl, rfl⟩)
            refine ⟨⟨k + 1, 16 * acc + (lo - 87), a * 16 + ((lo : Int) - 97 + 10), rfl, (by first | rfl | (congr 1; omega)), (by first | rfl | (congr 1; omega)), by omega, HN⟩, by simp [intOf]; omega⟩
        · have hs1 : hexS (some acc) c = none := by simp [hexS, hvc, hdig, hhex]
          have HF := Lib.hid (hcut hs1)
          have h16 : 97 ≤ lo → lo ≤ 122 → 103 ≤ lo := by omega
          have HE : Hid (∀ w', Keeps Non w w' → PUP (hexN bs) w (.returned (.tuple #[.int .u64 0, .iface 85 (.int .i64 2)])) w') := Lib.hid fun w' hk => pup_none HF.out hk
          clear hs1 hsn hcut hvc ha hacc hlen hdig
          by_cases h95 : c.toNat = 95
          · rw [h95] at hc
            clear hne95 h16 HLw hdI h95 ho8 hl256 hc256
            go_wp2_with (go_at_call 42; refine (lower95 _).mono ?_; rintro e w' ⟨rfl, rfl⟩)
            go_ret2
            exact HE.out _ hKw
          · have h95i : ((c.toNat : Int) == 95) = false := by simp; omega
            clear hne95
            by_cases h48 : 48 ≤ (c.toNat : Int)
            all_goals
              by_cases h97 : 97 ≤ (lo : Int)
              all_goals
                by_cases h122 : (lo : Int) ≤ 122
                all_goals
                  have h103 : 97 ≤ (lo : Int) → (lo : Int) ≤ 122 → 103 ≤ (lo : Int) := fun h1 h2 => by have := h16 (by omega) (by omega); omega
                  clear h16
                  go_wp2_with (go_at_call 42; refine (HLw.out _).mono ?_; rintro e w' ⟨rfl, rfl⟩)
                  all_goals go_ret2
                  all_goals exact HE.out _ hKw
    · obtain rfl : k = sz := by omega
      have HF : Hid (hexN bs = some acc) := by
        have : bs.take k = bs := List.take_of_length_le (by have := HL.out; omega)
        rw [this] at hdec
        exact hdec
      subst ha
      clear hdec hacc a0
      go_wp2_with fail
      go_ret2
      exact pup_some HF.out hKw
end Go.Proofs.YtbkhfemoogcpkaaDoor
