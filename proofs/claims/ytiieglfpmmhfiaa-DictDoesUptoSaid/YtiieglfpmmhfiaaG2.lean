/- room, fit, fits; find. A dictionary in memory. copy of elements of k cells. slices.Clone, slices.Insert. slices.Insert in the middle. slices.Insert where there is no room; the whole. The blocks of a dictionary, one by one. -/
import Derived.Test.YtiieglfpmmhfiaaG1
import Derived.Test.YtiieglfpmmhfiaaShelf
import Derived.Lib.AppendZerosOnto
import Derived.Lib.Overlaps
import Derived.Deep.RegionLaw
namespace Go.Proofs.Ytiieglfpmmhfiaa
set_option maxRecDepth 100000
open Go.RowKit Go.Uc

/-- A row of entries. -/
abbrev RowE (w : World) (v : Value) (l : List Ent) : Prop := RowP w 56 2 encE v l
/-- What is read of entry i. -/
theorem rowE_at {w : World} {v : Value} {l : List Ent} (h : RowE w v l) {i : Nat} (hi : i < l.length) : ∃ g cap, v = .slice (some ⟨g, 0, none⟩) l.length cap ∧ l.length ≤ cap ∧ w.cell? ⟨g, i * 2, none⟩ = some (.string (str l[i].name)) ∧ w.cell? ⟨g, i * 2 + 1, none⟩ = some (.int .i64 l[i].val) ∧ (∀ j, w.frozen? ⟨g, j, none⟩ = false) ∧ g < w.heap.size := by
  obtain ⟨g, cap, e, h1, _, h2, h3, h4⟩ := h.at_ encE_len hi
  exact ⟨g, cap, e, h1, by have := h2 0 (by decide); rw [Nat.add_zero] at this; exact this, h2 1 (by decide), h3, h4⟩
theorem roomE_take (l : List Ent) (k : Nat) (hk : k < l.length) : roomE (l.take (k + 1)) = roomE (l.take k) + (5 + l[k].name.length) := by
  rw [List.take_succ_eq_append_getElem hk, roomE_app]; simp [roomE]
theorem roomE_le (l : List Ent) (k : Nat) : roomE (l.take k) ≤ roomE l := by
  conv => rhs; rw [← List.take_append_drop k l]
  rw [roomE_app]; omega

set_option maxHeartbeats 1000000 in
theorem room_any (v : Value) (l : List Ent) (hb : roomE l ≤ 1000000000000000) (w : World) (h : RowE w v l) : Calls Try.prog 57 #[v] w fun e w' => e = .returned (.int .i64 (roomE l : Int)) ∧ Keeps Non w w' := by
  obtain ⟨A, c, rfl, hc, hm⟩ := h.val
  have hst : ∀ a : List UInt8, (str a).size = a.length := str_size
  unfold maxLen at hm
  go_enter Try.func57, Try.ntmps57
  go_wp2_with fail
  go_loopw [3, 8] (fun s i wr => ∃ k r : Nat, k ≤ l.length ∧ i = .int .i64 k ∧ s = .int .i64 r ∧ Hid (r = roomE (l.take k)) ∧ Keeps Non w wr) (fun _ i _ => l.length - (intOf i).toNat)
  case atStart => exact ⟨0, 0, by omega, rfl, rfl, rfl, Keeps.refl _ _⟩
  case round =>
    obtain ⟨k, r, hk, rfl, rfl, hr, hK⟩ := hrel
    by_cases hlt : k < l.length
    · obtain ⟨g, cap, e1, _, c0, c1, _, hg⟩ := rowE_at (h.non hK) hlt
      injection e1 with e1 _ e2
      subst e1 e2
      have HR := Lib.hid (roomE_take l k hlt)
      have hle := roomE_le l (k + 1)
      generalize l[k] = x at c0 c1 HR
      have hb1 : r + (5 + x.name.length) ≤ 1000000000000000 := by rw [hr.out, ← HR.out]; omega
      clear hle
      obtain ⟨wy, rfl⟩ : ∃ W : World, W = wr := ⟨_, rfl⟩
      go_wp2_with fail
      go_roundw
      case rel => exact ⟨k + 1, r + (5 + x.name.length), by omega, by go_num, by go_num, by show _ = _; rw [HR.out, hr.out], hK.alloc _⟩
      case measure => simp [intOf]; omega
    · obtain rfl : k = l.length := by omega
      go_wp2_with fail
      go_ret
      exact ⟨by rw [hr.out, List.take_of_length_le (Nat.le_refl _)]; rfl, hK⟩
theorem fit_any (v : Value) (l : List Ent) (hb : roomE l ≤ 1000000000000000) (w : World) (h : RowE w v l) : Calls Try.prog 32 #[v] w fun e w' => e = .returned (.bool (fitE l)) ∧ Keeps Non w w' := by
  have HH := Lib.hid (room_any v l hb w h)
  clear h
  obtain ⟨f, hf⟩ : ∃ f, f = fitE l := ⟨_, rfl⟩
  have HF : Hid (f = decide (3 + roomE l ≤ 256)) := hf
  rw [← hf]
  clear hf
  generalize roomE l = r at HH hb HF
  go_enter Try.func32, Try.ntmps32
  go_wp2_with fail
  refine HH.out.mono ?_
  rintro e w' ⟨rfl, hK⟩
  go_wp2_with fail
  go_ret
  refine ⟨?_, hK⟩
  rw [HF.out]
  show Ending.returned (.bool (decide (3 + (r : Int) ≤ 256))) = _
  congr 2
  rw [Bool.eq_iff_iff]
  simp
  omega
set_option maxHeartbeats 1000000 in
theorem fits_any (v : Value) (l : List Ent) (hb : roomE l ≤ 1000000000000000) (w : World) (h : RowE w v l) : Calls Try.prog 64 #[v] w fun e w' => e = .returned (.bool (fitE l)) ∧ w' = w := by
  obtain ⟨A, c, rfl, hc, hm⟩ := h.val
  have hst : ∀ a : List UInt8, (str a).size = a.length := str_size
  unfold maxLen at hm
  obtain ⟨f, hf⟩ : ∃ f, f = fitE l := ⟨_, rfl⟩
  have HF : Hid (f = decide (3 + roomE l ≤ 256)) := hf
  rw [← hf]
  clear hf
  go_enter Try.func64, Try.ntmps64
  go_wp2_with fail
  go_loop [3, 4] (fun s i => ∃ k r : Nat, k ≤ l.length ∧ i = .int .i64 k ∧ s = .int .i64 r ∧ Hid (r = 3 + roomE (l.take k))) (fun _ i => l.length - (intOf i).toNat)
  case atStart => exact ⟨0, 3, by omega, rfl, rfl, rfl⟩
  case round =>
    obtain ⟨k, r, hk, rfl, rfl, hr⟩ := hrel
    by_cases hlt : k < l.length
    · obtain ⟨g, cap, e1, _, c0, c1, _, hg⟩ := rowE_at h hlt
      injection e1 with e1 _ e2
      subst e1 e2
      have HR := Lib.hid (roomE_take l k hlt)
      have hle := roomE_le l (k + 1)
      generalize l[k] = x at c0 c1 HR
      have hb1 : r + (5 + x.name.length) ≤ 1000000000000003 := by rw [hr.out]; have := HR.out; omega
      clear hle
      go_wp2_with fail
      go_round
      case rel => exact ⟨k + 1, r + (5 + x.name.length), by omega, by go_num, by go_num, by show _ = _; rw [HR.out, hr.out]; omega⟩
      case measure => simp [intOf]; omega
    · obtain rfl : k = l.length := by omega
      have hr2 := hr.out
      rw [List.take_of_length_le (Nat.le_refl _)] at hr2
      replace HF : Hid (f = decide (r ≤ 256)) := by show _ = _; rw [HF.out, hr2]
      clear hr2
      go_wp2_with fail
      go_ret
      refine ⟨?_, rfl⟩
      rw [HF.out]
      show Ending.returned (.bool (decide ((r : Int) ≤ 256))) = _
      congr 2
      rw [Bool.eq_iff_iff]
      simp
      omega

/-- The comparison that find hands over. -/
theorem cmp_any (x : Ent) (n : List UInt8) (w : World) : Calls Try.prog 53 #[.agg #[.string (str x.name), .int .i64 x.val], .string (str n)] w fun e w' => e = .returned (.int .i64 (Lib.compareBytes x.name n)) ∧ Keeps Non w w' := by
  have H : Hid (∀ W, Calls Try.prog 37 #[.string (str x.name), .string (str n)] W fun e w' => e = .returned (.int .i64 (Lib.compareBytes x.name n)) ∧ w' = W) := fun W => Try.strings_Compare (str x.name) (str n) W
  go_enter Try.func53, Try.ntmps53
  go_wp2_with fail
  refine (H.out _).mono ?_
  rintro e w' ⟨rfl, rfl⟩
  go_wp2_with fail
  go_ret
  exact ⟨rfl, (Keeps.refl _ _).alloc _⟩

set_option maxHeartbeats 2000000 in
theorem search_any (v : Value) (l : List Ent) (n : List UInt8) (hn : l.length ≤ 1000000000000) (hs : Srt l) (w : World) (h : RowE w v l) :
    Calls Try.prog 52 #[v, .string (str n), .func (.func 53) #[] #[]] w fun e w' => e = .returned (.tuple #[.int .i64 (lb l n : Int), .bool (has l n)]) ∧ Keeps Non w w' := by
  obtain ⟨A, c, rfl, hc, hm⟩ := h.val
  unfold maxLen at hm
  have hlb := lb_le l n
  have HL : Hid (∀ k (hk : k < l.length), lt l[k].name n = true ↔ k < lb l n) := fun k hk => lb_lt hs n hk
  have HH : Hid (has l n = true ↔ ∃ h : lb l n < l.length, l[lb l n].name = n) := has_lb hs n
  have HC : Hid (∀ (x : Ent) W, Calls Try.prog 53 #[.agg #[.string (str x.name), .int .i64 x.val], .string (str n)] W fun e w' => e = .returned (.int .i64 (Lib.compareBytes x.name n)) ∧ Keeps Non W w') := fun x W => cmp_any x n W
  clear hs
  generalize lb l n = b at hlb HL HH ⊢
  generalize has l n = hb at HH ⊢
  go_enter Try.func52, Try.ntmps52
  go_wp2_with fail
  go_loopw [9, 10] (fun s t wr => ∃ i j : Nat, i ≤ b ∧ b ≤ j ∧ j ≤ l.length ∧ s = .int .i64 i ∧ t = .int .i64 j ∧ Keeps Non w wr) (fun s t _ => (intOf t).toNat - (intOf s).toNat)
  case atStart => exact ⟨0, l.length, by omega, hlb, Nat.le_refl _, rfl, rfl, Keeps.refl _ _⟩
  case round =>
    obtain ⟨i, j, hi, hj, hjl, rfl, rfl, hK⟩ := hrel
    obtain ⟨wy, rfl⟩ : ∃ W : World, W = wr := ⟨_, rfl⟩
    by_cases hlt : i < j
    · obtain ⟨m, hmd⟩ : ∃ m, m = (i + j) / 2 := ⟨_, rfl⟩
      have hmi : i ≤ m := by omega
      have hmj : m < j := by omega
      have hm2 : ((i : Int) + (j : Int)) / 2 = (m : Int) := by omega
      have hml : m < l.length := by omega
      obtain ⟨g, cap, e1, _, c0, c1, _, hg⟩ := rowE_at (h.non hK) hml
      injection e1 with e1 _ e2
      subst e1 e2
      have HLm := Lib.hid (HL.out m hml)
      generalize l[m] = x at c0 c1 HLm
      have HCx := Lib.hid (HC.out x)
      have HN := Lib.hid (cmp_neg x.name n)
      obtain ⟨r, hr⟩ : ∃ r, r = Lib.compareBytes x.name n := ⟨_, rfl⟩
      rw [← hr] at HCx HN
      clear hr hmd
      by_cases hr0 : r < 0
      · have hmb : m < b := HLm.out.1 (HN.out.1 hr0)
        go_wp2_with (go_at_call 53; refine (HCx.out _).mono ?_; rintro e w2 ⟨rfl, hK2⟩)
        go_roundw
        case rel => exact ⟨m + 1, j, by omega, hj, hjl, by go_num, rfl, hK.non hK2⟩
        case measure => simp [intOf]; omega
      · have hmb : b ≤ m := by
          rcases Nat.lt_or_ge m b with h1 | h1
          · exact absurd (HN.out.2 (HLm.out.2 h1)) hr0
          · exact h1
        go_wp2_with (go_at_call 53; refine (HCx.out _).mono ?_; rintro e w2 ⟨rfl, hK2⟩)
        go_roundw
        case rel => exact ⟨i, m, hi, hmb, by omega, rfl, rfl, hK.non hK2⟩
        case measure => simp [intOf]; omega
    · obtain rfl : i = b := by omega
      by_cases hil : i < l.length
      · obtain ⟨g, cap, e1, _, c0, c1, _, hg⟩ := rowE_at (h.non hK) hil
        injection e1 with e1 _ e2
        subst e1 e2
        have HHi : Hid (hb = true ↔ l[i].name = n) := ⟨fun h => (HH.out.1 h).2, fun h => HH.out.2 ⟨hil, h⟩⟩
        generalize l[i] = x at c0 c1 HHi
        have HCx := Lib.hid (HC.out x)
        have HN := Lib.hid (cmp_zero x.name n)
        obtain ⟨r, hr⟩ : ∃ r, r = Lib.compareBytes x.name n := ⟨_, rfl⟩
        rw [← hr] at HCx HN
        clear hr
        by_cases hr0 : r = 0
        · obtain rfl : hb = true := HHi.out.2 (HN.out.1 hr0)
          have hr1 : (r == 0) = true := by simpa using hr0
          clear hr0
          go_wp2_with (go_at_call 53; refine (HCx.out _).mono ?_; rintro e w2 ⟨rfl, hK2⟩)
          go_ret2
          exact ⟨rfl, hK.non hK2⟩
        · obtain rfl : hb = false := by
            cases hb with
            | false => rfl
            | true => exact absurd (HN.out.2 (HHi.out.1 rfl)) hr0
          have hr1 : (r == 0) = false := by simpa using hr0
          clear hr0
          go_wp2_with (go_at_call 53; refine (HCx.out _).mono ?_; rintro e w2 ⟨rfl, hK2⟩)
          go_ret2
          exact ⟨rfl, hK.non hK2⟩
      · obtain rfl : hb = false := by
          cases hb with
          | false => rfl
          | true => obtain ⟨h1, _⟩ := HH.out.1 rfl; exact absurd h1 hil
        go_wp2_with fail
        go_ret2
        exact ⟨rfl, hK⟩
theorem find_any (v : Value) (l : List Ent) (n : List UInt8) (hn : l.length ≤ 1000000000000) (hs : Srt l) (w : World) (h : RowE w v l) :
    Calls Try.prog 28 #[v, .string (str n)] w fun e w' => e = .returned (.tuple #[.int .i64 (lb l n : Int), .bool (has l n)]) ∧ Keeps Non w w' := by
  have H := Lib.hid (search_any v l n hn hs w h)
  clear h hs hn
  generalize lb l n = b at H ⊢
  generalize has l n = t at H ⊢
  go_enter Try.func28, Try.ntmps28
  go_wp2_with fail
  refine H.out.mono ?_
  rintro e w' ⟨rfl, hK⟩
  go_wp2_with fail
  go_ret2
  exact ⟨rfl, hK⟩
end Go.Proofs.Ytiieglfpmmhfiaa
namespace Go.Proofs.Ytiieglfpmmhfiaa
set_option maxRecDepth 100000
open Go.RowKit Go.Uc

/-- A slice's three parts. -/
structure Sl where
  A : Option Addr
  n : Nat
  c : Nat
abbrev Sl.v (s : Sl) : Value := .slice s.A s.n s.c
theorem RowP.sl {α : Type} {w : World} {e : TypeId} {k : Nat} {enc : α → List Value} {v : Value} {xs : List α} (h : RowP w e k enc v xs) : ∃ s : Sl, v = s.v ∧ s.n = xs.length := by
  obtain ⟨A, c, rfl, _⟩ := h.val
  exact ⟨⟨A, xs.length, c⟩, rfl, rfl⟩
def encN (n : Nat) : List Value := [.int .i64 (n : Int)]
theorem encN_len (n : Nat) : (encN n).length = 1 := rfl
theorem encN_one (n : Nat) : ∀ u ∈ encN n, u.oneCell' = true := by intro u hu; simp [encN] at hu; subst hu; rfl
def encP (p : Nat × Sl) : List Value := [.int .i64 (p.1 : Int), p.2.v]
theorem encP_len (p : Nat × Sl) : (encP p).length = 2 := rfl
theorem encP_one (p : Nat × Sl) : ∀ u ∈ encP p, u.oneCell' = true := by
  intro u hu; simp [encP] at hu; rcases hu with rfl | rfl <;> rfl
abbrev RowN (w : World) (v : Value) (l : List Nat) : Prop := RowP w 3 1 encN v l
theorem rowN_at {w : World} {v : Value} {l : List Nat} (h : RowN w v l) {i : Nat} (hi : i < l.length) : ∃ g cap, v = .slice (some ⟨g, 0, none⟩) l.length cap ∧ l.length ≤ cap ∧ w.cell? ⟨g, i, none⟩ = some (.int .i64 (l[i] : Int)) ∧ (∀ j, w.frozen? ⟨g, j, none⟩ = false) ∧ g < w.heap.size := by
  obtain ⟨g, cap, e, h1, _, h2, h3, h4⟩ := h.at_ encN_len hi
  exact ⟨g, cap, e, h1, by have := h2 0 (by decide); simpa [encN] using this, h3, h4⟩
theorem rowP_at {L : TypeId} {w : World} {v : Value} {l : List (Nat × Sl)} (h : RowP w L 2 encP v l) {i : Nat} (hi : i < l.length) : ∃ g cap, v = .slice (some ⟨g, 0, none⟩) l.length cap ∧ l.length ≤ cap ∧ w.cell? ⟨g, i * 2, none⟩ = some (.int .i64 (l[i].1 : Int)) ∧ w.cell? ⟨g, i * 2 + 1, none⟩ = some l[i].2.v ∧ (∀ j, w.frozen? ⟨g, j, none⟩ = false) ∧ g < w.heap.size := by
  obtain ⟨g, cap, e, h1, _, h2, h3, h4⟩ := h.at_ encP_len hi
  exact ⟨g, cap, e, h1, by have := h2 0 (by decide); rw [Nat.add_zero] at this; exact this, h2 1 (by decide), h3, h4⟩

/-- The blocks of a dictionary. -/
def foot (g : Nat) (t l : Sl) (ps : List (Nat × Sl)) : List Nat := g :: (own t.v ++ (own l.v ++ ps.flatMap fun p => own p.2.v))
/-- A dictionary, its table at t, its leaves at l, their entries at ps. -/
structure DictM (T L : TypeId) (w : World) (g : Nat) (d : Dic) (t l : Sl) (ps : List (Nat × Sl)) : Prop where
  blk : Blk w g T #[.bool d.small, .int .i64 (d.depth : Int), t.v, l.v]
  tab : RowN w t.v d.table
  lvs : RowP w L 2 encP l.v ps
  len : ps.length = d.leaves.length
  dep : ∀ i (h : i < ps.length) (h' : i < d.leaves.length), ps[i].1 = d.leaves[i].depth
  ent : ∀ i (h : i < ps.length) (h' : i < d.leaves.length), RowE w ps[i].2.v d.leaves[i].l
  nod : (foot g t l ps).Nodup
section mem
variable {T L : TypeId} {w w' : World} {g : Nat} {d : Dic} {t l : Sl} {ps : List (Nat × Sl)}
theorem foot_g : g ∈ foot g t l ps := List.mem_cons_self ..
theorem foot_t {k : Nat} (h : k ∈ own t.v) : k ∈ foot g t l ps := List.mem_cons_of_mem _ (List.mem_append_left _ h)
theorem foot_l {k : Nat} (h : k ∈ own l.v) : k ∈ foot g t l ps := List.mem_cons_of_mem _ (List.mem_append_right _ (List.mem_append_left _ h))
theorem foot_p {k i : Nat} (hi : i < ps.length) (h : k ∈ own ps[i].2.v) : k ∈ foot g t l ps :=
  List.mem_cons_of_mem _ (List.mem_append_right _ (List.mem_append_right _ (List.mem_flatMap.2 ⟨_, List.getElem_mem hi, h⟩)))
theorem DictM.keep {S : Nat → Prop} (h : DictM T L w g d t l ps) (hk : Keeps S w w') (hS : ∀ k ∈ foot g t l ps, ¬ S k) : DictM T L w' g d t l ps :=
  ⟨h.blk.keep hk (hS g foot_g), h.tab.keep hk fun k hk' => hS k (foot_t hk'), h.lvs.keep hk fun k hk' => hS k (foot_l hk'), h.len, h.dep, fun i hi hi' => (h.ent i hi hi').keep hk fun k hk' => hS k (foot_p hi hk'), h.nod⟩
theorem DictM.non (h : DictM T L w g d t l ps) (hk : Keeps Non w w') : DictM T L w' g d t l ps := h.keep hk fun _ _ e => e
theorem DictM.drewN (h : DictM T L w g d t l ps) (n : Nat) : DictM T L (w.drewN n) g d t l ps := h.non ((Keeps.refl Non w).drewN n)
theorem DictM.low (h : DictM T L w g d t l ps) : ∀ k ∈ foot g t l ps, k < w.heap.size := by
  intro k hk
  rcases List.mem_cons.1 hk with rfl | hk
  · exact h.blk.lt
  rcases List.mem_append.1 hk with hk | hk
  · exact h.tab.lt k hk
  rcases List.mem_append.1 hk with hk | hk
  · exact h.lvs.lt k hk
  obtain ⟨p, hp, hk⟩ := List.mem_flatMap.1 hk
  obtain ⟨i, hi, rfl⟩ := List.getElem_of_mem hp
  exact (h.ent i hi (by have := h.len; omega)).lt k hk
end mem

/-- Where a name's leaf is. -/
def plc (d : Dic) (n : List UInt8) : Nat := hash n % 2 ^ d.depth
def kOf (d : Dic) (n : List UInt8) : Nat := d.table.getD (plc d n) 0
/-- What the code leans on. -/
structure Ok (d : Dic) : Prop where
  dep : d.depth ≤ 5
  tab : d.table.length = 2 ^ d.depth
  rng : ∀ x ∈ d.table, x < d.leaves.length
  many : d.leaves.length ≤ 32
  srt : ∀ x ∈ d.leaves, Srt x.l
  fit : ∀ x ∈ d.leaves, fitE x.l = true
  low : ∀ x ∈ d.leaves, x.depth ≤ d.depth
theorem plc_lt {d : Dic} (h : Ok d) (n : List UInt8) : plc d n < d.table.length := by rw [h.tab]; exact Nat.mod_lt _ (Nat.pow_pos (by omega))
theorem kOf_get {d : Dic} (h : Ok d) (n : List UInt8) : kOf d n = d.table[plc d n]'(plc_lt h n) := by unfold kOf; rw [List.getD_eq_getElem?_getD, List.getElem?_eq_getElem (plc_lt h n)]; rfl
theorem kOf_lt {d : Dic} (h : Ok d) (n : List UInt8) : kOf d n < d.leaves.length := by rw [kOf_get h]; exact h.rng _ (List.getElem_mem _)
theorem fitE_len {l : List Ent} (h : fitE l = true) : l.length ≤ 50 ∧ roomE l ≤ 253 := by
  unfold fitE at h
  have h1 : 3 + roomE l ≤ 256 := of_decide_eq_true h
  have h2 : l.length * 5 ≤ roomE l := by
    clear h h1
    induction l with
    | nil => simp
    | cons x l ih => simp [roomE] at *; omega
  omega
theorem two_pow (n : Nat) (h : n ≤ 5) : 2 ^ n = 1 ∨ 2 ^ n = 2 ∨ 2 ^ n = 4 ∨ 2 ^ n = 8 ∨ 2 ^ n = 16 ∨ 2 ^ n = 32 := by
  have : n = 0 ∨ n = 1 ∨ n = 2 ∨ n = 3 ∨ n = 4 ∨ n = 5 := by omega
  rcases this with rfl | rfl | rfl | rfl | rfl | rfl <;> decide
theorem and_pow (x : BitVec 32) (n : Nat) (h : n ≤ 5) : bits .and .u32 (v32 x) ((2 ^ n - 1 : Nat) : Int) = ((x.toNat % 2 ^ n : Nat) : Int) := by
  have hp := two_pow n h
  have h1 : ((2 ^ n - 1 : Nat) : Int) = v32 (BitVec.ofNat 32 (2 ^ n - 1)) := by unfold v32; rw [BitVec.toNat_ofNat, Nat.mod_eq_of_lt (by omega)]
  rw [h1, and32]
  unfold v32
  rw [BitVec.toNat_and, BitVec.toNat_ofNat, Nat.mod_eq_of_lt (a := 2 ^ n - 1) (by omega), Nat.and_two_pow_sub_one_eq_mod]

set_option maxHeartbeats 1000000 in
theorem place_any {L : TypeId} {w : World} {g : Nat} {d : Dic} {t l : Sl} {ps : List (Nat × Sl)} (h : DictM 69 L w g d t l ps) (hd : d.depth ≤ 5) (n : List UInt8) (hn : n.length ≤ 9223372036854775807) :
    Calls Try.prog 34 #[.pointer (some ⟨g, 0, none⟩), .string (str n)] w fun e w' => e = .returned (.int .i64 (plc d n : Int)) ∧ ∃ q, w' = w.drewN q := by
  have c1 : w.cell? ⟨g, 1, none⟩ = some (.int .i64 (d.depth : Int)) := h.blk.cell 1
  have HP : Hid (plc d n = (hashB n).toNat % 2 ^ d.depth) := rfl
  have HH := Lib.hid (fun W => hash_any n hn W)
  have ha := and_pow (hashB n) d.depth hd
  generalize plc d n = p at HP ⊢
  generalize d.depth = dd at c1 HP ha hd
  clear h
  obtain ⟨x, hx⟩ : ∃ x, x = hashB n := ⟨_, rfl⟩
  rw [← hx] at HP HH ha
  clear hx
  have b0 := v32_nonneg x
  have b1 := v32_le x
  have HV : Hid (wrap64 (bits .and .u32 (v32 x) (((2 : Int) ^ dd - 1) % 4294967296)) = (p : Int)) := by
    show _ = _
    have hp := two_pow dd hd
    have e1 : (((2 : Int) ^ dd - 1) % 4294967296) = ((2 ^ dd - 1 : Nat) : Int) := by
      have e2 : ((2 : Int) ^ dd) = ((2 ^ dd : Nat) : Int) := by simp
      rw [e2]
      omega
    rw [e1, ha, HP.out]
    have := Nat.mod_lt x.toNat (show 0 < 2 ^ dd by omega)
    generalize x.toNat % 2 ^ dd = m at this ⊢
    unfold wrap64
    omega
  clear ha
  go_enter Try.func34, Try.ntmps34
  go_wp2_with fail
  go_quiet ((go_at_call 16; exact Calls.quiet_of_same (HH.out _)))
  go_wp2_with fail
  go_ret
  exact ⟨by rw [← HV.out]; rfl, _, rfl⟩
theorem dict_cells {T L : TypeId} {w : World} {g : Nat} {d : Dic} {t l : Sl} {ps : List (Nat × Sl)} (h : DictM T L w g d t l ps) :
    w.cell? ⟨g, 0, none⟩ = some (.bool d.small) ∧ w.cell? ⟨g, 1, none⟩ = some (.int .i64 (d.depth : Int)) ∧ w.cell? ⟨g, 2, none⟩ = some t.v ∧ w.cell? ⟨g, 3, none⟩ = some l.v :=
  ⟨h.blk.cell 0, h.blk.cell 1, h.blk.cell 2, h.blk.cell 3⟩
set_option maxHeartbeats 1000000 in
theorem of_any {w : World} {g : Nat} {d : Dic} {t l : Sl} {ps : List (Nat × Sl)} (h : DictM 69 66 w g d t l ps) (ho : Ok d) (n : List UInt8) (hn : n.length ≤ 9223372036854775807) :
    Calls Try.prog 27 #[.pointer (some ⟨g, 0, none⟩), .string (str n)] w fun e w' => (∃ b, l.A = some ⟨b, 0, none⟩ ∧ e = .returned (.pointer (some ⟨b, kOf d n * 2, none⟩))) ∧ ∃ q, w' = w.drewN q := by
  obtain ⟨c0, c1, c2, c3⟩ := dict_cells h
  have hp := plc_lt ho n
  have hk := kOf_get ho n
  have hkl := kOf_lt ho n
  rw [← h.len] at hkl
  obtain ⟨bt, ct, e1, hct, ct0, -⟩ := rowN_at h.tab hp
  obtain ⟨bl, cl, e2, hcl, -⟩ := rowP_at h.lvs hkl
  rw [← hk] at ct0
  rw [e1] at c2
  rw [e2] at c3
  have HA : Hid (l.A = some ⟨bl, 0, none⟩) := by
    have := e2
    unfold Sl.v at this
    injection this
  have HP := Lib.hid (fun q => place_any (h.drewN q) ho.dep n hn)
  generalize plc d n = p at hp ct0 HP
  generalize kOf d n = k at ct0 hkl ⊢
  obtain ⟨tn, htn⟩ : ∃ tn, tn = d.table.length := ⟨_, rfl⟩
  rw [← htn] at hp c2
  obtain ⟨ln, hln⟩ : ∃ ln, ln = ps.length := ⟨_, rfl⟩
  rw [← hln] at hkl c3
  have i1 : (p : Int) < (tn : Int) := by omega
  have i2 : (k : Int) < (ln : Int) := by omega
  clear h ho hk e1 e2 htn hln hct hcl c0 c1
  go_enter Try.func27, Try.ntmps27
  go_wp2_with fail
  go_quiet ((go_at_call 34; exact Calls.quiet_of (HP.out _)))
  go_wp2_with fail
  go_ret
  exact ⟨⟨bl, HA.out, rfl⟩, _, rfl⟩
set_option maxHeartbeats 1000000 in
theorem leaf_any {w : World} {g : Nat} {d : Dic} {t l : Sl} {ps : List (Nat × Sl)} (h : DictM 84 86 w g d t l ps) (ho : Ok d) (n : List UInt8) (hn : n.length ≤ 9223372036854775807) :
    Calls Try.prog 62 #[.pointer (some ⟨g, 0, none⟩), .string (str n)] w fun e w' => e = .returned (.int .i64 (kOf d n : Int)) ∧ ∃ q, w' = w.drewN q := by
  obtain ⟨c0, c1, c2, c3⟩ := dict_cells h
  have hp := plc_lt ho n
  have hk := kOf_get ho n
  obtain ⟨bt, ct, e1, hct, ct0, -⟩ := rowN_at h.tab hp
  rw [← hk] at ct0
  rw [e1] at c2
  have HP := Lib.hid (fun (W : World) => refhash_any n hn W)
  have HW := Lib.hid (fun (W : World) => power_any d.depth (by have := ho.dep; omega) W)
  have hv : v32 (hashB n) = ((hashB n).toNat : Int) := rfl
  have hpl : plc d n = (hashB n).toNat % 2 ^ d.depth := rfl
  have hpw := two_pow d.depth ho.dep
  generalize 2 ^ d.depth = pw at hpl hpw HW
  have b1 := v32_le (hashB n)
  rw [hv] at b1 HP
  generalize (hashB n).toNat = x at hpl HP b1
  generalize kOf d n = k at ct0 ⊢
  have hr : (x : Int) % (pw : Int) = (plc d n : Int) := by rw [hpl]; omega
  generalize plc d n = p at hp ct0 hr hpl
  obtain ⟨tn, htn⟩ : ∃ tn, tn = d.table.length := ⟨_, rfl⟩
  rw [← htn] at hp c2
  have i1 : (p : Int) < (tn : Int) := by omega
  have p1 : 1 ≤ (pw : Int) := by omega
  have p2 : (pw : Int) ≤ 32 := by omega
  have p3 : (p : Int) ≤ 32 := by
    have := Nat.mod_lt x (show 0 < pw by omega)
    omega
  clear h ho hk e1 htn hct c0 c3 hpw hv hpl
  go_enter Try.func62, Try.ntmps62
  go_wp2_with fail
  go_quiet (first | (go_at_call 17; exact Calls.quiet_of_same (HP.out _)) | (go_at_call 82; exact Calls.quiet_of_same (HW.out _)))
  go_wp2_with fail
  go_ret
  exact ⟨rfl, _, rfl⟩
end Go.Proofs.Ytiieglfpmmhfiaa
namespace Go.Uc
open Go.RowKit
section copyk
variable {P : Program} {ops : Array Oper} {rest : List Oper} {o : Oper} {a : Act} {w : World} {Q : Exit → Act → World → Prop}
theorem run_copy_k (k n : Nat) (dT sT ty elem : TypeId) (hu : P.underlying dT = some (.slice elem)) (hsz : (P.info? elem).map (·.size) = some k)
    (ad : Addr) (dLen dCap sLen sCap : Nat) (g off : Nat) (cur : List Value) (t : TypeId) (hg : Blk w g t cur.toArray) (cs : List Value) (hn : n = Nat.min sLen dLen) (hcl : cs.length = n * k)
    (hsrc : ∀ j v, cs[j]? = some v → w.cell? (ad.add j) = some v)
    (hfit : off + cs.length ≤ cur.length) (h1 : ∀ v ∈ cs, v.oneCell' = true) :
    ∃ w', (Builtin.copy_ #[dT, sT] ty #[.slice (some ⟨g, off, none⟩) dLen dCap, .slice (some ad) sLen sCap]).run P w = .ok (goInt n) w' ∧
      Blk w' g t (cur.take off ++ (cs ++ cur.drop (off + cs.length))).toArray ∧ Keeps (Only g) w w' := by
  have hl := run_loadCells_list (P := P) w ad cs hsrc
  have hst := run_storeCells_at P g off t cs 0 cur.toArray w hg (by simpa using hfit) h1
  rw [hcl] at hl
  cases hq : P.info? elem with
  | none => simp [hq] at hsz
  | some i =>
    have hi : i.size = k := by simpa [hq] using hsz
    refine ⟨_, ?_, ?_, Keeps.row w g (cur.toArray.toList.take (off + 0) ++ cs ++ cur.toArray.toList.drop (off + 0 + cs.length)).toArray⟩
    · simp [Builtin.copy_, run_underlying hu, Builtin.lenOf, Builtin.firstCells, sizeOf, typeInfo, hq, hi, ← hn, hl]
      simpa [Result.andThen] using congrArg (fun r => Result.andThen r fun _ w' => Result.ok (goInt n) w') hst
    · have := Blk.row hg (cur.toArray.toList.take (off + 0) ++ cs ++ cur.toArray.toList.drop (off + 0 + cs.length)).toArray
      simpa using this
theorem wp_copy_k {K : Act → World → Prop} (k n : Nat) (d s : Operand) (dT sT : TypeId)
    (ho : o.op = .call { callee := .builtin .copy, args := #[d, s], argTypes := #[dT, sT] }) (elem : TypeId) (hu : P.underlying dT = some (.slice elem)) (hsz : (P.info? elem).map (·.size) = some k)
    (ad : Addr) (dLen dCap sLen sCap : Nat) (g off : Nat) (hd : a.eval d = .slice (some ⟨g, off, none⟩) dLen dCap) (hs : a.eval s = .slice (some ad) sLen sCap)
    (cur : List Value) (t : TypeId) (hg : Blk w g t cur.toArray) (cs : List Value) (hn : n = Nat.min sLen dLen) (hcl : cs.length = n * k)
    (hsrc : ∀ j v, cs[j]? = some v → w.cell? (ad.add j) = some v)
    (hfit : off + cs.length ≤ cur.length) (h1 : ∀ v ∈ cs, v.oneCell' = true)
    (h : ∀ w', Blk w' g t (cur.take off ++ (cs ++ cur.drop (off + cs.length))).toArray → Keeps (Only g) w w' → K (a.put o.dst (goInt n)) w') : o.wp P a w K Q := by
  obtain ⟨w', hrun, hb, hk⟩ := run_copy_k (P := P) (w := w) k n dT sT o.type elem hu hsz ad dLen dCap sLen sCap g off cur t hg cs hn hcl hsrc hfit h1
  unfold Oper.wp
  simp [execOp, ho, resolve, invoke, builtin, hd, hs, hrun, Result.andThen]
  exact h w' hb hk
theorem wpList_copy_k (k n : Nat) (hgd : o.guard = none) (d s : Operand) (dT sT : TypeId)
    (ho : o.op = .call { callee := .builtin .copy, args := #[d, s], argTypes := #[dT, sT] }) (elem : TypeId) (hu : P.underlying dT = some (.slice elem)) (hsz : (P.info? elem).map (·.size) = some k)
    (ad : Addr) (dLen dCap sLen sCap : Nat) (g off : Nat) (hd : a.eval d = .slice (some ⟨g, off, none⟩) dLen dCap) (hs : a.eval s = .slice (some ad) sLen sCap)
    (cur : List Value) (t : TypeId) (hg : Blk w g t cur.toArray) (cs : List Value) (hn : n = Nat.min sLen dLen) (hcl : cs.length = n * k)
    (hsrc : ∀ j v, cs[j]? = some v → w.cell? (ad.add j) = some v)
    (hfit : off + cs.length ≤ cur.length) (h1 : ∀ v ∈ cs, v.oneCell' = true)
    (h : ∀ w', Blk w' g t (cur.take off ++ (cs ++ cur.drop (off + cs.length))).toArray → Keeps (Only g) w w' → wpList P ops Q rest (a.put o.dst (goInt n)) w') : wpList P ops Q (o :: rest) a w :=
  wpList_plain hgd fun _ hK => wp_copy_k k n d s dT sT ho elem hu hsz ad dLen dCap sLen sCap g off hd hs cur t hg cs hn hcl hsrc hfit h1 fun w' h2 h3 => hK _ _ (h w' h2 h3)
theorem step_copy_k {K : Act → World → Prop} {E : Prop} (k n : Nat) (hgd : o.guard = none) (d s : Operand) (dT sT : TypeId)
    (ho : o.op = .call { callee := .builtin .copy, args := #[d, s], argTypes := #[dT, sT] }) (elem : TypeId) (hu : P.underlying dT = some (.slice elem)) (hsz : (P.info? elem).map (·.size) = some k)
    (ad : Addr) (dLen dCap sLen sCap : Nat) (g off : Nat) (hd : a.eval d = .slice (some ⟨g, off, none⟩) dLen dCap) (hs : a.eval s = .slice (some ad) sLen sCap)
    (cur : List Value) (t : TypeId) (hg : Blk w g t cur.toArray) (cs : List Value) (hn : n = Nat.min sLen dLen) (hcl : cs.length = n * k)
    (hsrc : ∀ j v, cs[j]? = some v → w.cell? (ad.add j) = some v)
    (hfit : off + cs.length ≤ cur.length) (h1 : ∀ v ∈ cs, v.oneCell' = true)
    (h : ∀ w', Blk w' g t (cur.take off ++ (cs ++ cur.drop (off + cs.length))).toArray → Keeps (Only g) w w' → K (a.put o.dst (goInt n)) w') :
    if Region.wanted o (yielded ops a.tmps) = true then Oper.wp P o a w K Q else E := by
  have hw : Region.wanted o (yielded ops a.tmps) = true := by simp [Region.wanted, hgd]
  rw [if_pos hw]
  exact wp_copy_k k n d s dT sT ho elem hu hsz ad dLen dCap sLen sCap g off hd hs cur t hg cs hn hcl hsrc hfit h1 h
end copyk
end Go.Uc
namespace Go.Proofs.Ytiieglfpmmhfiaa
set_option maxRecDepth 100000
open Go.RowKit Go.Uc

theorem info56 : (Try.prog.info? 56).map (fun i => (i.zero, i.size, i.bytes)) = some (some (.agg #[.string ByteArray.empty, .int .i64 0]), 2, 24) := by kernel_rfl
theorem info3 : (Try.prog.info? 3).map (fun i => (i.zero, i.size, i.bytes)) = some (some (.int .i64 0), 1, 8) := by kernel_rfl
theorem info66 : (Try.prog.info? 66).map (fun i => (i.zero, i.size, i.bytes)) = some (some (.agg #[.int .i64 0, .slice none 0 0]), 2, 32) := by kernel_rfl
theorem info86 : (Try.prog.info? 86).map (fun i => (i.zero, i.size, i.bytes)) = some (some (.agg #[.int .i64 0, .slice none 0 0]), 2, 32) := by kernel_rfl

/-- What a function hands back as its own. -/
def New (w : World) (s : Sl) : Prop := ∀ k ∈ own s.v, w.heap.size ≤ k
theorem own_new {w w1 : World} {v v' : Value} (h1 : ∀ k ∈ own v, w.heap.size ≤ k) (hz : w.heap.size ≤ w1.heap.size) (h : v'.ownBlock = v.ownBlock ∨ v'.ownBlock = some w1.heap.size) : ∀ k ∈ own v', w.heap.size ≤ k := by
  intro k hk
  rw [mem_own] at hk
  rcases h with h | h
  · rw [h] at hk; exact h1 k (mem_own.2 hk)
  · rw [h] at hk; injection hk with hk; omega
theorem keeps_own {w w1 w2 : World} {v : Value} (h0 : Keeps Non w w1) (h : Keeps (· ∈ own v) w1 w2) (h1 : ∀ k ∈ own v, w.heap.size ≤ k) : Keeps Non w w2 := h0.then h fun i hi e => by have := h1 i e; omega

theorem cloneE_any (v : Value) (l : List Ent) (hn : l.length ≤ 1000000000000) (w : World) (h : RowE w v l) :
    Calls Try.prog 31 #[v] w fun e w' => ∃ s : Sl, e = .returned s.v ∧ RowE w' s.v l ∧ New w s ∧ Keeps Non w w' := by
  have he := fun (w : World) (a : Option Addr) (n c : Nat) => Lib.run_eql_slice_nil (P := Try.prog) w 32 56 a n c 0 0 Try.underlying32
  rcases h.form with ⟨rfl, rfl⟩ | ⟨g, cap, cur, rfl, hB, hc, hm, -⟩
  · go_enter Try.func31, Try.ntmps31
    go_wp2
    go_ret
    exact ⟨⟨none, 0, 0⟩, rfl, RowP.nil _ _ _ _, fun k hk => by simp [Sl.v, own_nil] at hk, Keeps.refl _ _⟩
  · obtain ⟨A, c, e1, -, hA⟩ := h.ats encE_len
    injection e1 with e1 _ e2
    subst e1 e2
    have hO : RowE (w.alloc (.cells #[] 56)) (.slice (some ⟨w.heap.size, 0, none⟩) 0 0) [] := RowP.lit encE_len w 56 [] #[] rfl (by decide)
    have hA2 := hA.non ((Keeps.refl Non w).alloc (.cells #[] 56))
    have hne : ∀ k ∈ own (.slice (some ⟨w.heap.size, 0, none⟩) 0 0), w.heap.size ≤ k := fun k hk => by rw [own_slice] at hk; simp at hk; omega
    go_enter Try.func31, Try.ntmps31
    go_wp2_with (at_builtin; go_must (refine wpList_append_row rfl (.tmp 5) (.tmp 6) 32 rfl 56 2 encE _ 24 Try.underlying32 info56 rfl (by decide) encE_len encE_one _ [] rfl hO (some ⟨g, 0, none⟩) l.length cap l rfl rfl hA2 (by unfold maxLen; simp; omega) (by simp; omega) ?_); intro v2 w2 hO2 hK2 hat)
    go_ret
    obtain ⟨s, rfl, -⟩ := RowP.sl hO2
    exact ⟨s, rfl, by simpa using hO2, own_new hne (by simp) hat, keeps_own ((Keeps.refl Non w).alloc _) hK2 hne⟩
theorem cloneN_any (v : Value) (l : List Nat) (hn : l.length ≤ 1000000000000) (w : World) (h : RowN w v l) :
    Calls Try.prog 54 #[v] w fun e w' => ∃ s : Sl, e = .returned s.v ∧ RowN w' s.v l ∧ New w s ∧ Keeps Non w w' := by
  have he := fun (w : World) (a : Option Addr) (n c : Nat) => Lib.run_eql_slice_nil (P := Try.prog) w 23 3 a n c 0 0 Try.underlying23
  rcases h.form with ⟨rfl, rfl⟩ | ⟨g, cap, cur, rfl, hB, hc, hm, -⟩
  · go_enter Try.func54, Try.ntmps54
    go_wp2
    go_ret
    exact ⟨⟨none, 0, 0⟩, rfl, RowP.nil _ _ _ _, fun k hk => by simp [Sl.v, own_nil] at hk, Keeps.refl _ _⟩
  · obtain ⟨A, c, e1, -, hA⟩ := h.ats encN_len
    injection e1 with e1 _ e2
    subst e1 e2
    have hO : RowN (w.alloc (.cells #[] 3)) (.slice (some ⟨w.heap.size, 0, none⟩) 0 0) [] := RowP.lit encN_len w 3 [] #[] rfl (by decide)
    have hA2 := hA.non ((Keeps.refl Non w).alloc (.cells #[] 3))
    have hne : ∀ k ∈ own (.slice (some ⟨w.heap.size, 0, none⟩) 0 0), w.heap.size ≤ k := fun k hk => by rw [own_slice] at hk; simp at hk; omega
    go_enter Try.func54, Try.ntmps54
    go_wp2_with (at_builtin; go_must (refine wpList_append_row rfl (.tmp 5) (.tmp 6) 23 rfl 3 1 encN _ 8 Try.underlying23 info3 rfl (by decide) encN_len encN_one _ [] rfl hO (some ⟨g, 0, none⟩) l.length cap l rfl rfl hA2 (by unfold maxLen; simp; omega) (by simp; omega) ?_); intro v2 w2 hO2 hK2 hat)
    go_ret
    obtain ⟨s, rfl, -⟩ := RowP.sl hO2
    exact ⟨s, rfl, by simpa using hO2, own_new hne (by simp) hat, keeps_own ((Keeps.refl Non w).alloc _) hK2 hne⟩

/-- What Insert hands back. -/
def InsP (w : World) (sv : Value) (l : List Ent) (i : Nat) (x : Ent) (e : Ending) (w' : World) : Prop :=
  ∃ s : Sl, e = .returned s.v ∧ RowE w' s.v (l.take i ++ x :: l.drop i) ∧ (∀ k ∈ own s.v, k ∈ own sv ∨ w.heap.size ≤ k) ∧ Keeps (· ∈ own sv) w w'
theorem ats_one {w : World} {v : Nat} {x : Ent} (h : RowE w (.slice (some ⟨v, 0, none⟩) 1 1) [x]) : Ats w (some ⟨v, 0, none⟩) ([x].flatMap encE) := by
  obtain ⟨A, c, e, -, h⟩ := h.ats encE_len
  injection e with e
  subst e
  exact h
theorem insert_end (v : Value) (l : List Ent) (hn : l.length ≤ 1000000000000) (x : Ent) (vb : Nat) (w : World) (h : RowE w v l) (hx : RowE w (.slice (some ⟨vb, 0, none⟩) 1 1) [x]) :
    Calls Try.prog 30 #[v, .int .i64 (l.length : Int), .slice (some ⟨vb, 0, none⟩) 1 1] w (InsP w v l l.length x) := by
  obtain ⟨A, c, rfl, hc, hm⟩ := h.val
  unfold maxLen at hm
  have hA := ats_one hx
  clear hx
  obtain ⟨Q, hQ⟩ : ∃ Q : Ending → World → Prop, Q = InsP w (.slice A l.length c) l l.length x := ⟨_, rfl⟩
  rw [← hQ]
  have HQ := Lib.hid hQ
  clear hQ
  go_enter Try.func30, Try.ntmps30
  go_wp2_with (at_builtin; go_must (refine wpList_append_row rfl (.tmp 23) (.tmp 24) 32 rfl 56 2 encE _ 24 Try.underlying32 info56 rfl (by decide) encE_len encE_one _ l rfl h (some ⟨vb, 0, none⟩) 1 1 [x] rfl rfl hA (by unfold maxLen; simp; omega) (by simp; omega) ?_); intro v2 w2 hO2 hK2 hat; clear h)
  all_goals
    obtain ⟨s, rfl, -⟩ := RowP.sl hO2
    rw [HQ.out]
    refine ⟨s, rfl, ?_, ?_, hK2⟩
    · rw [List.take_of_length_le (Nat.le_refl _), List.drop_of_length_le (Nat.le_refl _)]; exact hO2
    · intro k hk
      rw [mem_own] at hk
      rcases hat with h | h
      · rw [h] at hk; exact .inl (mem_own.2 hk)
      · rw [h] at hk; injection hk with hk; exact .inr (by omega)
end Go.Proofs.Ytiieglfpmmhfiaa
namespace Go.Proofs.Ytiieglfpmmhfiaa
set_option maxRecDepth 100000
open Go.RowKit Go.Uc

theorem zero56 (w : World) : (zeroValue 56).run Try.prog w = .ok (.agg #[.string ByteArray.empty, .int .i64 0]) w := by kernel_rfl
/-- Elements' cells, an element put in between. -/
theorem flat_app (a b : List Ent) : (a ++ b).flatMap encE = a.flatMap encE ++ b.flatMap encE := List.flatMap_append
theorem flat_take (l : List Ent) (i : Nat) : (l.flatMap encE).take (i * 2) = (l.take i).flatMap encE := by
  conv => lhs; rw [← List.take_append_drop i l]
  rw [flat_app]
  by_cases hi : i ≤ l.length
  · rw [List.take_left' (by rw [flat_len encE_len, List.length_take, Nat.min_eq_left hi])]
  · have h1 : l.drop i = [] := List.drop_of_length_le (by omega)
    rw [h1, List.take_of_length_le (by rw [List.length_append, flat_len encE_len, flat_len encE_len, List.length_take]; simp; omega)]
    simp
theorem flat_drop (l : List Ent) (i : Nat) : (l.flatMap encE).drop (i * 2) = (l.drop i).flatMap encE := by
  conv => lhs; rw [← List.take_append_drop i l]
  rw [flat_app]
  by_cases hi : i ≤ l.length
  · rw [List.drop_left' (by rw [flat_len encE_len, List.length_take, Nat.min_eq_left hi])]
  · have h1 : l.drop i = [] := List.drop_of_length_le (by omega)
    rw [h1, List.drop_of_length_le (by rw [List.length_append, flat_len encE_len, flat_len encE_len, List.length_take]; simp; omega)]
    simp
theorem flat_one (l : List Ent) : ∀ u ∈ l.flatMap encE, u.oneCell' = true := by
  intro u hu
  obtain ⟨x, _, hu⟩ := List.mem_flatMap.1 hu
  exact encE_one x u hu
theorem ats_drop {w : World} {g : Nat} {l : List Ent} (h : Ats w (some ⟨g, 0, none⟩) (l.flatMap encE)) (i : Nat) : ∀ j v, ((l.drop i).flatMap encE)[j]? = some v → w.cell? ((⟨g, i * 2, none⟩ : Addr).add j) = some v := by
  intro j v hj
  rw [← flat_drop, List.getElem?_drop] at hj
  have hp : 0 < (l.flatMap encE).length := by have := (List.getElem?_eq_some_iff.1 hj).1; omega
  obtain ⟨ad, e, hc⟩ := h hp
  injection e with e
  subst e
  have := hc _ v hj
  rw [show (⟨g, 0, none⟩ : Addr).add (i * 2 + j) = ⟨g, i * 2 + j, none⟩ from by unfold Addr.add; split <;> simp_all] at this
  rw [show (⟨g, i * 2, none⟩ : Addr).add j = ⟨g, i * 2 + j, none⟩ from by unfold Addr.add; split <;> simp_all]
  exact this

/-- The two copies, on the cells. -/
theorem shift_list (cur : List Value) (l : List Ent) (x : Ent) (i : Nat) (hi : i < l.length) (ht : cur.take (l.length * 2) = l.flatMap encE) (hs : (l.length + 1) * 2 ≤ cur.length) (b1 b2 : List Value)
    (h1 : b1 = cur.take ((i + 1) * 2) ++ ((l.drop i).flatMap encE ++ cur.drop ((i + 1) * 2 + ((l.drop i).flatMap encE).length))) (h2 : b2 = b1.take (i * 2) ++ (encE x ++ b1.drop (i * 2 + 2))) :
    b2.length = cur.length ∧ b2.take ((l.length + 1) * 2) = (l.take i ++ x :: l.drop i).flatMap encE := by
  have hF : ((l.drop i).flatMap encE).length = (l.length - i) * 2 := by rw [flat_len encE_len, List.length_drop]
  have hl1 : b1.length = cur.length := by rw [h1]; simp only [List.length_append, List.length_take, List.length_drop, hF]; omega
  have e1 : b1.take (i * 2) = (l.take i).flatMap encE := by
    rw [h1, List.take_append_of_le_length (by rw [List.length_take]; omega), List.take_take, Nat.min_eq_left (by omega), ← flat_take, ← ht, List.take_take, Nat.min_eq_left (by omega)]
  have e2 : b1.drop (i * 2 + 2) = (l.drop i).flatMap encE ++ cur.drop ((i + 1) * 2 + ((l.drop i).flatMap encE).length) := by
    rw [h1, List.drop_left' (by rw [List.length_take]; omega)]
  have hG : ((l.take i).flatMap encE).length = i * 2 := by rw [flat_len encE_len, List.length_take, Nat.min_eq_left (by omega)]
  rw [h2, e1, e2]
  refine ⟨?_, ?_⟩
  · simp only [List.length_append, List.length_drop, hF, hG, encE_len]; omega
  · rw [flat_app, List.flatMap_cons, ← List.append_assoc (encE x), ← List.append_assoc, List.take_left']
    simp only [List.length_append, hF, hG, encE_len]; omega

set_option maxHeartbeats 2000000 in
/-- There is room: what stands behind is moved on. -/
theorem insert_shift (g cap : Nat) (l : List Ent) (hn : l.length ≤ 1000000000000) (x : Ent) (i vb : Nat) (hi : i < l.length) (hroom : l.length + 1 ≤ cap) (w : World) (h : RowE w (.slice (some ⟨g, 0, none⟩) l.length cap) l) (hx : RowE w (.slice (some ⟨vb, 0, none⟩) 1 1) [x]) (hne : vb ≠ g) :
    Calls Try.prog 30 #[.slice (some ⟨g, 0, none⟩) l.length cap, .int .i64 (i : Int), .slice (some ⟨vb, 0, none⟩) 1 1] w (InsP w (.slice (some ⟨g, 0, none⟩) l.length cap) l i x) := by
  obtain ⟨A, c, e1, -, hAl⟩ := h.ats encE_len
  injection e1 with e1 e1b e2
  clear e1b
  subst e1 e2
  have hAx := ats_one hx
  rcases h.form with ⟨e1, _⟩ | ⟨g', cap', cur, e1, hB, hc, hm, hsz, htk⟩
  · cases e1
  injection e1 with e1 e1b e2
  clear e1b
  injection e1 with e1
  injection e1 with e1 e1b e1c
  clear e1b e1c
  subst e1 e2
  rcases hx.form with ⟨e1, _⟩ | ⟨g', cap', curx, e1, hBx, hcx, -, hszx, -⟩
  · cases e1
  injection e1 with e1 e1b e2
  clear e1b
  injection e1 with e1
  injection e1 with e1 e1b e1c
  clear e1b e1c
  subst e1 e2
  unfold maxLen at hm
  have hov : ∀ lb cb, (callFunc 55 #[.slice (some ⟨vb, 0, none⟩) 1 1, .slice (some ⟨g, (i + 1) * 2, none⟩) lb cb]).run Try.prog w = .ok (.value (.bool false)) w := fun lb cb => by
    rw [run_callFunc_extern Try.func55 (by kernel_rfl) (by kernel_rfl) (by kernel_rfl) (e := Extern.SlicesOverlaps.overlaps #[32, 32] #[4]) (by kernel_rfl),
      Lib.run_overlaps_apart w 32 4 56 Try.underlying32 2 (fun w => by kernel_rfl) ⟨vb, 0, none⟩ ⟨g, (i + 1) * 2, none⟩ 1 1 lb cb hne 56 56 curx.size cur.size (by simp [World.shape?, show w.heap[vb]? = _ from hBx]) (by simp [World.shape?, show w.heap[g]? = _ from hB]) (by omega) (hBx.frozen 0) (hBx.frozen _)]
    rfl
  have hF : ((l.drop i).flatMap encE).length = (l.length - i) * 2 := by rw [flat_len encE_len, List.length_drop]
  have hBL : Blk w.drew g 56 cur.toList.toArray := by rw [Array.toArray_toList]; exact hB
  have hsz2 : (Try.prog.info? 56).map (·.size) = some 2 := by kernel_rfl
  have hAd := ats_drop (hAl.non (Keeps.refl Non w).drew) i
  have hAxd := hAx.non (Keeps.refl Non w).drew
  have HL := Lib.hid (shift_list cur.toList l x i hi htk (by simp; omega) _ _ rfl rfl)
  obtain ⟨n, hnn⟩ : ∃ n, n = l.length := ⟨_, rfl⟩
  rw [← hnn] at hi hroom hn hF HL ⊢
  have HN := Lib.hid hnn
  obtain ⟨Q, hQ⟩ : ∃ Q : Ending → World → Prop, Q = InsP w (.slice (some ⟨g, 0, none⟩) n cap) l i x := ⟨_, rfl⟩
  rw [← hQ]
  have HQ := Lib.hid hQ
  have hcl : cur.toList.length = cap * 2 := by simp [hsz]
  have hw1 : IntKind.i64.wrap ((i : Int) + 1) = (i : Int) + 1 := by rw [IntKind.wrap_i64]; omega
  have hw2 : IntKind.i64.wrap ((n : Int) + 1) = (n : Int) + 1 := by rw [IntKind.wrap_i64]; omega
  have hb1 : (0 : Int) ≤ (i : Int) + 1 := by omega
  have hin : (i : Int) ≤ (n : Int) := by omega
  have htn : ((i : Int) + 1).toNat = i + 1 := by omega
  have htn2 : ((n : Int) + 1).toNat = n + 1 := by omega
  have hb2 : ¬ (cap = i + 1) := by omega
  have hb3 : (i : Int) ≤ (n : Int) + 1 := by omega
  have hb4 : ¬ (cap = i) := by omega
  have hb5 : ¬ ((cap : Int) < (n : Int) + 1) := by omega
  have hb6 : (n : Int) + 1 ≤ (cap : Int) := by omega
  have hz2 : ¬ ((i : Int) = (n : Int)) := by omega
  have hz3 : ((i : Int) == (n : Int)) = false := by simpa using hz2
  have hb7 : (i : Int) + 1 ≤ (n : Int) + 1 := by omega
  have HAd := Lib.hid hAd
  have HAxd := Lib.hid hAxd
  have HBL := Lib.hid hBL
  have hmin : n - i = Nat.min (n + 1 - i) (n - i) := by simp only [Nat.min_def]; split <;> omega
  have HS : Hid (n - i = Nat.min (n + 1 - i) (n - i) ∧ ((l.drop i).flatMap encE).length = (n - i) * 2 ∧ (i + 1) * 2 + ((l.drop i).flatMap encE).length ≤ cur.toList.length) := Lib.hid ⟨hmin, hF, by rw [hF, hcl]; omega⟩
  have HS2 : Hid (1 = Nat.min 1 (n + 1 - i) ∧ (encE x).length = 1 * 2) := Lib.hid ⟨by simp only [Nat.min_def]; split <;> omega, rfl⟩
  have HC := Lib.hid hcl
  have HM := Lib.hid hm
  clear hmin
  clear hnn hQ hAl hAx h hx hBx hB hsz htk hcx hszx hF hcl hAd hAxd hBL hsz2
  go_enter Try.func30, Try.ntmps30
  go_wp2_with (simp only [hov])
  go_region_law (refine step_copy_k 2 (n - i) rfl (.tmp 73) (.tmp 76) 32 32 rfl 56 Try.underlying32 (by kernel_rfl) ⟨g, i * 2, none⟩ (n - i) (cap - (i + 1)) (n + 1 - i) (cap - i) g ((i + 1) * 2) (by simp [Act.eval, Act.put]) (by simp [Act.eval, Act.put]) cur.toList 56 HBL.out ((l.drop i).flatMap encE) HS.out.1 HS.out.2.1 HAd.out HS.out.2.2 (flat_one _) ?_; intro w2 hB2 hK2)
  have hAx3 := (HAxd.out.keep hK2 (fun ad e => by injection e with e; subst e; exact hne))
  have HAx3 : Hid (∀ j v, (encE x)[j]? = some v → w2.cell? ((⟨vb, 0, none⟩ : Addr).add j) = some v) := Lib.hid fun j v hj => by
    obtain ⟨ad, e, hc⟩ := hAx3 (by simp [encE])
    injection e with e
    subst e
    exact hc j v (by simpa using hj)
  have HB2 := Lib.hid hB2
  have HF2 : Hid (i * 2 + (encE x).length ≤ (cur.toList.take ((i + 1) * 2) ++ ((l.drop i).flatMap encE ++ cur.toList.drop ((i + 1) * 2 + ((l.drop i).flatMap encE).length))).length) := Lib.hid (by
    have h1 := HS.out.2
    rw [HC.out] at h1
    simp only [List.length_append, List.length_take, List.length_drop, HC.out, h1.1, encE_len]
    omega)
  clear hAx3 hB2
  go_wp2_with ((with_reducible show wpList _ _ _ ({ dst := some 82, op := _, type := _, pos := _, after := _, guard := _ } :: _) _ _); go_must (refine wpList_copy_k 2 1 rfl (.tmp 80) (.tmp 81) 32 32 rfl 56 Try.underlying32 (by kernel_rfl) ⟨vb, 0, none⟩ (n + 1 - i) (cap - i) 1 1 g (i * 2) rfl rfl _ 56 HB2.out (encE x) HS2.out.1 HS2.out.2 HAx3.out HF2.out (encE_one x) ?_; intro w3 hB3 hK3))
  rw [HQ.out]
  obtain ⟨h1, h2⟩ := HL.out
  rw [encE_len] at hB3
  refine ⟨⟨some ⟨g, 0, none⟩, n + 1, cap⟩, rfl, ?_, fun k hk => .inl (by simpa [Sl.v, own_slice] using hk), ?_⟩
  · have hlen : (l.take i ++ x :: l.drop i).length = n + 1 := by
      have := HN.out
      simp only [List.length_append, List.length_cons, List.length_take, List.length_drop]; omega
    have h3 : RowE w3 (.slice (some ⟨g, 0, none⟩) (l.take i ++ x :: l.drop i).length cap) (l.take i ++ x :: l.drop i) := by
      refine RowP.mk encE_len hB3 (by rw [hlen]; exact hroom) ?_ ?_ ?_
      · unfold maxLen; have := HM.out; omega
      · simpa [HC.out] using h1
      · rw [hlen]
        simpa using h2
    rw [hlen] at h3
    exact h3
  · have hd : Keeps (Only g) w w.drew := (Keeps.refl _ _).drew
    exact ((hd.trans hK2).trans hK3).mono fun k hk => by rw [own_slice]; simpa [Only] using hk
end Go.Proofs.Ytiieglfpmmhfiaa
namespace Go.Proofs.Ytiieglfpmmhfiaa
set_option maxRecDepth 100000
open Go.RowKit Go.Uc

theorem grow_list (row : List Value) (l : List Ent) (x : Ent) (i : Nat) (hi : i < l.length) (ht : row.take (i * 2) = (l.take i).flatMap encE) (hs : (l.length + 1) * 2 ≤ row.length) (b1 b2 : List Value)
    (h1 : b1 = row.take (i * 2) ++ (encE x ++ row.drop (i * 2 + (encE x).length))) (h2 : b2 = b1.take ((i + 1) * 2) ++ ((l.drop i).flatMap encE ++ b1.drop ((i + 1) * 2 + ((l.drop i).flatMap encE).length))) :
    b1.length = row.length ∧ b2.length = row.length ∧ b2.take ((l.length + 1) * 2) = (l.take i ++ x :: l.drop i).flatMap encE := by
  have hF : ((l.drop i).flatMap encE).length = (l.length - i) * 2 := by rw [flat_len encE_len, List.length_drop]
  have hG : ((l.take i).flatMap encE).length = i * 2 := by rw [flat_len encE_len, List.length_take, Nat.min_eq_left (by omega)]
  rw [encE_len] at h1
  have hl1 : b1.length = row.length := by rw [h1, ht]; simp only [List.length_append, List.length_drop, hG, encE_len]; omega
  have e1 : b1.take ((i + 1) * 2) = (l.take i).flatMap encE ++ encE x := by
    rw [h1, ht, ← List.append_assoc, List.take_left']
    simp only [List.length_append, hG, encE_len]; omega
  refine ⟨hl1, ?_, ?_⟩
  · rw [h2, e1]; simp only [List.length_append, List.length_drop, hF, hG, encE_len, hl1]; omega
  · rw [h2, e1, flat_app, List.flatMap_cons, ← List.append_assoc, List.append_assoc _ _ ((l.drop i).flatMap encE), List.take_left']
    simp only [List.length_append, hF, hG, encE_len]; omega

set_option maxHeartbeats 2000000 in
theorem insert_grow (g cap : Nat) (l : List Ent) (hn : l.length ≤ 1000000000000) (x : Ent) (i vb : Nat) (hi : i < l.length) (hroom : cap < l.length + 1) (w : World) (h : RowE w (.slice (some ⟨g, 0, none⟩) l.length cap) l) (hx : RowE w (.slice (some ⟨vb, 0, none⟩) 1 1) [x]) :
    Calls Try.prog 30 #[.slice (some ⟨g, 0, none⟩) l.length cap, .int .i64 (i : Int), .slice (some ⟨vb, 0, none⟩) 1 1] w (InsP w (.slice (some ⟨g, 0, none⟩) l.length cap) l i x) := by
  obtain ⟨A, c, e1, hcap, hAl⟩ := h.ats encE_len
  injection e1 with e1 e1b e2
  clear e1b
  subst e1 e2
  have hAx := ats_one hx
  have hlo := h.lt g (by rw [own_slice]; simp)
  obtain ⟨i0, hi0, hz0, hzs, hzb⟩ := info_p info56
  have hsz2 : (Try.prog.info? 56).map (·.size) = some 2 := by kernel_rfl
  have hF : ((l.drop i).flatMap encE).length = (l.length - i) * 2 := by rw [flat_len encE_len, List.length_drop]
  have hG : ((l.take i).flatMap encE).length = i * 2 := by rw [flat_len encE_len, List.length_take, Nat.min_eq_left (by omega)]
  have hold : (Builtin.firstCells i0.size i (.slice (some ⟨g, 0, none⟩) i cap)).run Try.prog w.drew = .ok ((l.take i).flatMap encE).toArray w.drew := by
    rw [hzs]
    refine run_firstCells_some w.drew 2 i ⟨g, 0, none⟩ i cap ((l.take i).flatMap encE) hG fun j v hj => ?_
    obtain ⟨ad, e, hc⟩ := hAl (by rw [flat_len encE_len]; omega)
    injection e with e
    subst e
    refine hc j v ?_
    rw [← flat_take, List.getElem?_take] at hj
    split at hj
    · exact hj
    · cases hj
  obtain ⟨n, hnn⟩ : ∃ n, n = l.length := ⟨_, rfl⟩
  have hin0 : i + (n + 1 - i) = n + 1 := by omega
  obtain ⟨G, hGd⟩ : ∃ G, G = grownCap w (n + 1) cap 56 := ⟨_, rfl⟩
  obtain ⟨row, hrow⟩ : ∃ row : Array Value, row = ((l.take i).flatMap encE).toArray ++ Builtin.zeroCells (Value.agg #[.string ByteArray.empty, .int .i64 0]).cells (n + 1 - i) ++ Builtin.zeroCells (Value.agg #[.string ByteArray.empty, .int .i64 0]).cells (G - (n + 1)) := ⟨_, rfl⟩
  have hrun : ∀ ty, (Builtin.append_ #[32, 3] ty #[.slice (some ⟨g, 0, none⟩) i cap, .int .i64 ((n + 1 - i : Nat) : Int)]).run Try.prog w = .ok (.slice (some ⟨w.heap.size, 0, none⟩) (n + 1) G) (w.drew.alloc (.cells row 56)) := fun ty => by
    have h := Lib.run_append_grow_zeros w 32 3 ty 56 i0 _ .i64 .i64 Try.underlying32 Try.underlying3 hi0 hz0 (some ⟨g, 0, none⟩) i cap _ hold (n + 1 - i) (by omega) (by omega) (by omega) (by omega) (by rw [hzb]; omega) (by rw [hzb, hin0]; exact growslice_fits (by omega) (by omega))
    rw [hin0, ← hGd, ← hrow] at h
    exact h
  have hGn : n + 1 ≤ G := by rw [hGd]; exact grownCap_ge w _ _ _
  have hGm : G ≤ maxLen := by rw [hGd]; exact grownCap_le_maxLen w _ _ _ (by unfold maxLen; omega)
  have hrl : row.size = G * 2 := by
    rw [hrow]
    generalize (l.take i).flatMap encE = Fl at hG
    simp [Builtin.zeroCells, Value.cells]
    omega
  have hrt : row.toList.take (i * 2) = (l.take i).flatMap encE := by
    rw [hrow]
    simp only [Array.toList_append]
    rw [List.append_assoc, List.take_left' (by simpa using hG)]
  have HL := Lib.hid (grow_list row.toList l x i hi hrt (by simp [hrl]; omega) _ _ rfl rfl)
  obtain ⟨W1, hW1⟩ : ∃ W1 : World, W1 = w.drew.alloc (.cells row 56) := ⟨_, rfl⟩
  obtain ⟨N, hN⟩ : ∃ N, N = w.heap.size := ⟨_, rfl⟩
  have hB : Blk W1 N 56 row := by rw [hW1, hN]; exact Blk.new w.drew 56 row
  have hK : Keeps Non w W1 := by rw [hW1]; exact ((Keeps.refl _ _).drew).alloc _
  rw [← hW1, ← hN] at hrun
  have hAl1 := hAl.non hK
  have hAx1 := hAx.non hK
  have HB := Lib.hid hB
  have HK := Lib.hid hK
  have HAx1 : Hid (∀ j v, (encE x)[j]? = some v → W1.cell? ((⟨vb, 0, none⟩ : Addr).add j) = some v) := Lib.hid fun j v hj => by
    obtain ⟨ad, e, hc⟩ := hAx1 (by simp [encE])
    injection e with e
    subst e
    exact hc j v (by simpa using hj)
  have hgN : g ≠ N := by omega
  have HAl1 := Lib.hid hAl1
  have hmin : n - i = Nat.min (n - i) (n - i) := by simp
  rw [← hnn] at hi hroom hn hF HL ⊢
  have HS : Hid (n - i = Nat.min (n - i) (n - i) ∧ ((l.drop i).flatMap encE).length = (n - i) * 2) := Lib.hid ⟨hmin, hF⟩
  have HS2 : Hid (1 = Nat.min 1 (n + 1 - i) ∧ (encE x).length = 1 * 2) := Lib.hid ⟨by simp only [Nat.min_def]; split <;> omega, rfl⟩
  have HF1 : Hid (i * 2 + (encE x).length ≤ row.toList.length) := Lib.hid (by simp [hrl, encE_len]; omega)
  have HF2 : Hid ((i + 1) * 2 + ((l.drop i).flatMap encE).length ≤ (row.toList.take (i * 2) ++ (encE x ++ row.toList.drop (i * 2 + (encE x).length))).length) := Lib.hid (by
    rw [HL.out.1, hF]; simp [hrl]; omega)
  have HM := Lib.hid hGm
  have HR := Lib.hid hrl
  have HNn := Lib.hid hN
  have HN := Lib.hid hnn
  obtain ⟨Q, hQ⟩ : ∃ Q : Ending → World → Prop, Q = InsP w (.slice (some ⟨g, 0, none⟩) n cap) l i x := ⟨_, rfl⟩
  rw [← hQ]
  have HQ := Lib.hid hQ
  have hw1 : IntKind.i64.wrap ((i : Int) + 1) = (i : Int) + 1 := by rw [IntKind.wrap_i64]; omega
  have hw2 : IntKind.i64.wrap ((n : Int) + 1) = (n : Int) + 1 := by rw [IntKind.wrap_i64]; omega
  have hw3 : (n : Int) + 1 - (i : Int) = ((n + 1 - i : Nat) : Int) := by omega
  have hb1 : (0 : Int) ≤ (i : Int) + 1 := by omega
  have hin : (i : Int) ≤ (n : Int) := by omega
  have htn : ((i : Int) + 1).toNat = i + 1 := by omega
  have hb2 : ¬ (G = i + 1) := by omega
  have hb3 : (i : Int) ≤ (n : Int) + 1 := by omega
  have hb4 : ¬ (cap = i) := by omega
  have hb5 : (cap : Int) < (n : Int) + 1 := by omega
  have hb8 : ¬ (G = i) := by omega
  have hz2 : ¬ ((i : Int) = (n : Int)) := by omega
  have hb7 : (i : Int) + 1 ≤ (n : Int) + 1 := by omega
  have hic : (i : Int) ≤ (cap : Int) := by omega
  clear hnn hQ hAl hAx h hx hlo hi0 hz0 hzs hzb hsz2 hF hG hold hin0 hGd hrow hGm hrl hrt hW1 hN hB hK hAl1 hAx1 hmin hcap
  go_enter Try.func30, Try.ntmps30
  go_wp2_with (first
    | (at_builtin; refine Lib.wpList_append_run _ rfl _ _ _ _ rfl _ _ rfl rfl _ _ (hrun _) ?_)
    | ((with_reducible show wpList _ _ _ ({ dst := some 45, op := _, type := _, pos := _, after := _, guard := _ } :: _) _ _); go_must (refine wpList_copy_k 2 1 rfl (.tmp 43) (.tmp 44) 32 32 rfl 56 Try.underlying32 (by kernel_rfl) ⟨vb, 0, none⟩ (n + 1 - i) (G - i) 1 1 N (i * 2) rfl rfl row.toList 56 (by rw [Array.toArray_toList]; exact HB.out) (encE x) HS2.out.1 HS2.out.2 HAx1.out HF1.out (encE_one x) ?_; intro w2 hB2 hK2)))
  have hAl2 := (HAl1.out.keep hK2 (fun ad e => by injection e with e; subst e; exact hgN)).non (Keeps.refl Non w2).drew
  have HAd := Lib.hid (ats_drop hAl2 i)
  have HB2 := Lib.hid hB2.drew
  clear hAl2 hB2
  go_region_law (refine step_copy_k 2 (n - i) rfl (.tmp 50) (.tmp 53) 32 32 rfl 56 Try.underlying32 (by kernel_rfl) ⟨g, i * 2, none⟩ (n - i) (G - (i + 1)) (n - i) (cap - i) N ((i + 1) * 2) (by simp [Act.eval, Act.put]) (by simp [Act.eval, Act.put]) _ 56 HB2.out ((l.drop i).flatMap encE) HS.out.1 HS.out.2 HAd.out HF2.out (flat_one _) ?_; intro w3 hB3 hK3)
  go_wp2_with fail
  rw [HQ.out]
  obtain ⟨-, h1, h2⟩ := HL.out
  refine ⟨⟨some ⟨N, 0, none⟩, n + 1, G⟩, rfl, ?_, fun k hk => .inr ?_, ?_⟩
  · have hlen : (l.take i ++ x :: l.drop i).length = n + 1 := by
      have := HN.out
      simp only [List.length_append, List.length_cons, List.length_take, List.length_drop]; omega
    have h3 : RowE w3 (.slice (some ⟨N, 0, none⟩) (l.take i ++ x :: l.drop i).length G) (l.take i ++ x :: l.drop i) := by
      refine RowP.mk encE_len hB3 (by rw [hlen]; exact hGn) HM.out ?_ ?_
      · simpa [HR.out] using h1
      · rw [hlen]
        simpa using h2
    rw [hlen] at h3
    exact h3
  · simp [Sl.v, own_slice] at hk
    rw [hk, HNn.out]; exact Nat.le_refl _
  · have hN := HNn.out
    have k1 : Keeps Non w w2 := HK.out.then hK2 fun i hi e => by unfold Only at e; omega
    have k2 : Keeps Non w w3 := (k1.drew).then hK3 fun i hi e => by unfold Only at e; omega
    exact k2.of_non
theorem insert_any (v : Value) (l : List Ent) (hn : l.length ≤ 1000000000000) (x : Ent) (i vb : Nat) (hi : i ≤ l.length) (w : World) (h : RowE w v l) (hx : RowE w (.slice (some ⟨vb, 0, none⟩) 1 1) [x]) (hne : vb ∉ own v) :
    Calls Try.prog 30 #[v, .int .i64 (i : Int), .slice (some ⟨vb, 0, none⟩) 1 1] w (InsP w v l i x) := by
  rcases Nat.lt_or_ge i l.length with h1 | h1
  · rcases h.form with ⟨rfl, rfl⟩ | ⟨g, cap, cur, rfl, -⟩
    · simp at h1
    · rcases Nat.lt_or_ge cap (l.length + 1) with h2 | h2
      · exact insert_grow g cap l hn x i vb h1 h2 w h hx
      · exact insert_shift g cap l hn x i vb h1 h2 w h hx (by rw [own_slice] at hne; simpa using hne)
  · obtain rfl : i = l.length := by omega
    exact insert_end v l hn x vb w h hx
end Go.Proofs.Ytiieglfpmmhfiaa
namespace Go.Proofs.Ytiieglfpmmhfiaa
open Go.RowKit Go.Uc

def ents (ps : List (Nat × Sl)) : List Nat := ps.flatMap fun p => own p.2.v
theorem own_nodup (v : Value) : (own v).Nodup := by unfold own; cases v.ownBlock <;> simp
/-- What it is that no block is met twice. -/
structure Nod (g : Nat) (t l : Sl) (ps : List (Nat × Sl)) : Prop where
  gt : g ∉ own t.v
  gl : g ∉ own l.v
  ge : g ∉ ents ps
  tl : ∀ k ∈ own t.v, k ∉ own l.v
  te : ∀ k ∈ own t.v, k ∉ ents ps
  le : ∀ k ∈ own l.v, k ∉ ents ps
  ee : (ents ps).Nodup
theorem nod_iff {g : Nat} {t l : Sl} {ps : List (Nat × Sl)} : (foot g t l ps).Nodup ↔ Nod g t l ps := by
  show (g :: (own t.v ++ (own l.v ++ ents ps))).Nodup ↔ _
  rw [List.nodup_cons, List.nodup_append, List.nodup_append]
  simp only [List.mem_append, not_or]
  constructor
  · rintro ⟨⟨h1, h2, h3⟩, h4, ⟨h5, h6, h7⟩, h8⟩
    exact ⟨h1, h2, h3, fun k hk hk' => h8 k hk k (.inl hk') rfl, fun k hk hk' => h8 k hk k (.inr hk') rfl, fun k hk hk' => h7 k hk k hk' rfl, h6⟩
  · intro h
    refine ⟨⟨h.gt, h.gl, h.ge⟩, own_nodup _, ⟨own_nodup _, h.ee, ?_⟩, ?_⟩
    · rintro k hk k' hk' rfl; exact h.le k hk hk'
    · rintro k hk k' hk' rfl
      rcases hk' with hk' | hk'
      · exact h.tl k hk hk'
      · exact h.te k hk hk'
theorem mem_foot {g : Nat} {t l : Sl} {ps : List (Nat × Sl)} {k : Nat} : k ∈ foot g t l ps ↔ k = g ∨ k ∈ own t.v ∨ k ∈ own l.v ∨ k ∈ ents ps := by
  show k ∈ g :: (own t.v ++ (own l.v ++ ents ps)) ↔ _
  simp [List.mem_append]
theorem ents_snoc (ps : List (Nat × Sl)) (p : Nat × Sl) : ents (ps ++ [p]) = ents ps ++ own p.2.v := by simp [ents]
theorem mem_ents {ps : List (Nat × Sl)} {k : Nat} : k ∈ ents ps ↔ ∃ i, ∃ h : i < ps.length, k ∈ own ps[i].2.v := by
  unfold ents
  rw [List.mem_flatMap]
  constructor
  · rintro ⟨p, hp, hk⟩
    obtain ⟨i, hi, rfl⟩ := List.getElem_of_mem hp
    exact ⟨i, hi, hk⟩
  · rintro ⟨i, hi, hk⟩
    exact ⟨_, List.getElem_mem hi, hk⟩
/-- Another row of leaves. -/
theorem Nod.leaves {g : Nat} {t l l' : Sl} {ps : List (Nat × Sl)} (h : Nod g t l ps) (hl : ∀ k ∈ own l'.v, k ≠ g ∧ k ∉ own t.v ∧ k ∉ ents ps) : Nod g t l' ps :=
  ⟨h.gt, fun hk => (hl _ hk).1 rfl, h.ge, fun k hk hk' => (hl k hk').2.1 hk, h.te, fun k hk => (hl k hk).2.2, h.ee⟩
theorem Nod.table {g : Nat} {t t' l : Sl} {ps : List (Nat × Sl)} (h : Nod g t l ps) (hl : ∀ k ∈ own t'.v, k ≠ g ∧ k ∉ own l.v ∧ k ∉ ents ps) : Nod g t' l ps :=
  ⟨fun hk => (hl _ hk).1 rfl, h.gl, h.ge, fun k hk => (hl k hk).2.1, fun k hk => (hl k hk).2.2, h.le, h.ee⟩
/-- One more leaf. -/
theorem Nod.snoc {g : Nat} {t l : Sl} {ps : List (Nat × Sl)} {p : Nat × Sl} (h : Nod g t l ps) (hp : ∀ k ∈ own p.2.v, k ≠ g ∧ k ∉ own t.v ∧ k ∉ own l.v ∧ k ∉ ents ps) : Nod g t l (ps ++ [p]) := by
  have hm : ∀ k, k ∈ ents (ps ++ [p]) ↔ k ∈ ents ps ∨ k ∈ own p.2.v := fun k => by rw [ents_snoc, List.mem_append]
  refine ⟨h.gt, h.gl, fun hk => ?_, h.tl, fun k hk hk' => ?_, fun k hk hk' => ?_, ?_⟩
  · rcases (hm _).1 hk with hk | hk
    · exact h.ge hk
    · exact (hp _ hk).1 rfl
  · rcases (hm _).1 hk' with hk' | hk'
    · exact h.te k hk hk'
    · exact (hp _ hk').2.1 hk
  · rcases (hm _).1 hk' with hk' | hk'
    · exact h.le k hk hk'
    · exact (hp _ hk').2.2.1 hk
  · rw [ents_snoc, List.nodup_append]
    refine ⟨h.ee, own_nodup _, ?_⟩
    rintro k hk k' hk' rfl
    exact (hp k hk').2.2.2 hk
theorem ents_set {ps : List (Nat × Sl)} {i : Nat} (hi : i < ps.length) (p : Nat × Sl) : ents (ps.set i p) = ents (ps.take i) ++ (own p.2.v ++ ents (ps.drop (i + 1))) := by
  unfold ents
  rw [List.set_eq_take_append_cons_drop, if_pos hi, List.flatMap_append, List.flatMap_cons]
theorem ents_at {ps : List (Nat × Sl)} {i : Nat} (hi : i < ps.length) : ents ps = ents (ps.take i) ++ (own ps[i].2.v ++ ents (ps.drop (i + 1))) := by
  have := ents_set hi ps[i]
  rwa [List.set_getElem_self] at this
/-- One leaf's entries elsewhere. -/
theorem Nod.set {g : Nat} {t l : Sl} {ps : List (Nat × Sl)} {i : Nat} (hi : i < ps.length) {p : Nat × Sl} (h : Nod g t l ps) (hp : ∀ k ∈ own p.2.v, k ∈ own ps[i].2.v ∨ (k ≠ g ∧ k ∉ own t.v ∧ k ∉ own l.v ∧ k ∉ ents ps)) : Nod g t l (ps.set i p) := by
  have hm : ∀ k, k ∈ ents (ps.set i p) → k ∈ ents ps ∨ (k ∈ own p.2.v ∧ k ∉ own ps[i].2.v) := fun k hk => by
    rw [ents_set hi] at hk
    rw [ents_at hi]
    simp only [List.mem_append] at hk ⊢
    rcases hk with hk | hk | hk
    · exact .inl (.inl hk)
    · by_cases hk' : k ∈ own ps[i].2.v
      · exact .inl (.inr (.inl hk'))
      · exact .inr ⟨hk, hk'⟩
    · exact .inl (.inr (.inr hk))
  have hq : ∀ k ∈ own p.2.v, k ∉ own ps[i].2.v → k ≠ g ∧ k ∉ own t.v ∧ k ∉ own l.v ∧ k ∉ ents ps := fun k hk hk' => (hp k hk).resolve_left hk'
  refine ⟨h.gt, h.gl, fun hk => ?_, h.tl, fun k hk hk' => ?_, fun k hk hk' => ?_, ?_⟩
  · rcases hm _ hk with hk | ⟨hk, hk'⟩
    · exact h.ge hk
    · exact (hq _ hk hk').1 rfl
  · rcases hm _ hk' with hk' | ⟨hk', hk''⟩
    · exact h.te k hk hk'
    · exact (hq _ hk' hk'').2.1 hk
  · rcases hm _ hk' with hk' | ⟨hk', hk''⟩
    · exact h.le k hk hk'
    · exact (hq _ hk' hk'').2.2.1 hk
  · have h1 := h.ee
    rw [ents_at hi, List.nodup_append, List.nodup_append] at h1
    obtain ⟨a1, ⟨a2, a3, a4⟩, a5⟩ := h1
    rw [ents_set hi, List.nodup_append, List.nodup_append]
    refine ⟨a1, ⟨own_nodup _, a3, ?_⟩, ?_⟩
    · rintro k hk k' hk' rfl
      rcases hp k hk with h2 | h2
      · exact a4 k h2 k hk' rfl
      · exact h2.2.2.2 (by rw [ents_at hi]; simp [hk'])
    · rintro k hk k' hk' rfl
      rcases List.mem_append.1 hk' with hk' | hk'
      · rcases hp k hk' with h2 | h2
        · exact a5 k hk k (by simp [h2]) rfl
        · exact h2.2.2.2 (by rw [ents_at hi]; simp [hk])
      · exact a5 k hk k (by simp [hk']) rfl
/-- Entries of one leaf are no other leaf's. -/
theorem Nod.other {g : Nat} {t l : Sl} {ps : List (Nat × Sl)} (h : Nod g t l ps) {i j : Nat} (hi : i < ps.length) (hj : j < ps.length) (hne : i ≠ j) {k : Nat} (hk : k ∈ own ps[i].2.v) : k ∉ own ps[j].2.v := by
  intro hk'
  have h1 := h.ee
  rw [ents_at hi, List.nodup_append, List.nodup_append] at h1
  obtain ⟨a1, ⟨a2, a3, a4⟩, a5⟩ := h1
  rcases Nat.lt_or_ge j i with hlt | hge
  · have : k ∈ ents (ps.take i) := mem_ents.2 ⟨j, by rw [List.length_take]; omega, by rw [List.getElem_take]; exact hk'⟩
    exact a5 k this k (by simp [hk]) rfl
  · have : k ∈ ents (ps.drop (i + 1)) := mem_ents.2 ⟨j - (i + 1), by rw [List.length_drop]; omega, by rw [List.getElem_drop]; simpa [show i + 1 + (j - (i + 1)) = j by omega] using hk'⟩
    exact a4 k hk k this rfl
end Go.Proofs.Ytiieglfpmmhfiaa
