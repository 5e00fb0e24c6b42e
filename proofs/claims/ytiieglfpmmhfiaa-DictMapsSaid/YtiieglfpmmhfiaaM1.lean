/- A dictionary in memory. -/
import Derived.Test.YtiieglfpmmhfiaaD2
namespace Go.Proofs.Ytiieglfpmmhfiaa
set_option maxRecDepth 100000
open Go.RowKit Go.Uc

/-- A slice's three parts. -/
structure Sl where
  A : Option Addr
  n : Nat
  c : Nat
abbrev Sl.v (s : Sl) : Value := .slice s.A s.n s.c
theorem RowP.sl {α : Type} {w : World} {e : TypeId} {k : Nat} {enc : α → List Value} {v : Value} {xs : List α} (h : RowP w e k enc v xs) : ∃ s : Sl, v = s.v ∧ s.n = xs.length := by
  obtain ⟨A, c, rfl, _⟩ := h.val
  exact ⟨⟨A, xs.length, c⟩, rfl, rfl⟩
def encN (n : Nat) : List Value := [.int .i64 (n : Int)]
theorem encN_len (n : Nat) : (encN n).length = 1 := rfl
theorem encN_one (n : Nat) : ∀ u ∈ encN n, u.oneCell' = true := by intro u hu; simp [encN] at hu; subst hu; rfl
def encP (p : Nat × Sl) : List Value := [.int .i64 (p.1 : Int), p.2.v]
theorem encP_len (p : Nat × Sl) : (encP p).length = 2 := rfl
theorem encP_one (p : Nat × Sl) : ∀ u ∈ encP p, u.oneCell' = true := by
  intro u hu; simp [encP] at hu; rcases hu with rfl | rfl <;> rfl
abbrev RowN (w : World) (v : Value) (l : List Nat) : Prop := RowP w 3 1 encN v l
theorem rowN_at {w : World} {v : Value} {l : List Nat} (h : RowN w v l) {i : Nat} (hi : i < l.length) : ∃ g cap, v = .slice (some ⟨g, 0, none⟩) l.length cap ∧ l.length ≤ cap ∧ w.cell? ⟨g, i, none⟩ = some (.int .i64 (l[i] : Int)) ∧ (∀ j, w.frozen? ⟨g, j, none⟩ = false) ∧ g < w.heap.size := by
  obtain ⟨g, cap, e, h1, _, h2, h3, h4⟩ := h.at_ encN_len hi
  exact ⟨g, cap, e, h1, by have := h2 0 (by decide); simpa [encN] using this, h3, h4⟩
theorem rowP_at {L : TypeId} {w : World} {v : Value} {l : List (Nat × Sl)} (h : RowP w L 2 encP v l) {i : Nat} (hi : i < l.length) : ∃ g cap, v = .slice (some ⟨g, 0, none⟩) l.length cap ∧ l.length ≤ cap ∧ w.cell? ⟨g, i * 2, none⟩ = some (.int .i64 (l[i].1 : Int)) ∧ w.cell? ⟨g, i * 2 + 1, none⟩ = some l[i].2.v ∧ (∀ j, w.frozen? ⟨g, j, none⟩ = false) ∧ g < w.heap.size := by
  obtain ⟨g, cap, e, h1, _, h2, h3, h4⟩ := h.at_ encP_len hi
  exact ⟨g, cap, e, h1, by have := h2 0 (by decide); rw [Nat.add_zero] at this; exact this, h2 1 (by decide), h3, h4⟩

/-- The blocks of a dictionary. -/
def foot (g : Nat) (t l : Sl) (ps : List (Nat × Sl)) : List Nat := g :: (own t.v ++ (own l.v ++ ps.flatMap fun p => own p.2.v))
/-- A dictionary, its table at t, its leaves at l, their entries at ps. -/
structure DictM (T L : TypeId) (w : World) (g : Nat) (d : Dic) (t l : Sl) (ps : List (Nat × Sl)) : Prop where
  blk : Blk w g T #[.bool d.small, .int .i64 (d.depth : Int), t.v, l.v]
  tab : RowN w t.v d.table
  lvs : RowP w L 2 encP l.v ps
  len : ps.length = d.leaves.length
  dep : ∀ i (h : i < ps.length) (h' : i < d.leaves.length), ps[i].1 = d.leaves[i].depth
  ent : ∀ i (h : i < ps.length) (h' : i < d.leaves.length), RowE w ps[i].2.v d.leaves[i].l
  nod : (foot g t l ps).Nodup
section mem
variable {T L : TypeId} {w w' : World} {g : Nat} {d : Dic} {t l : Sl} {ps : List (Nat × Sl)}
theorem foot_g : g ∈ foot g t l ps := List.mem_cons_self ..
theorem foot_t {k : Nat} (h : k ∈ own t.v) : k ∈ foot g t l ps := List.mem_cons_of_mem _ (List.mem_append_left _ h)
theorem foot_l {k : Nat} (h : k ∈ own l.v) : k ∈ foot g t l ps := List.mem_cons_of_mem _ (List.mem_append_right _ (List.mem_append_left _ h))
theorem foot_p {k i : Nat} (hi : i < ps.length) (h : k ∈ own ps[i].2.v) : k ∈ foot g t l ps :=
  List.mem_cons_of_mem _ (List.mem_append_right _ (List.mem_append_right _ (List.mem_flatMap.2 ⟨_, List.getElem_mem hi, h⟩)))
theorem DictM.keep {S : Nat → Prop} (h : DictM T L w g d t l ps) (hk : Keeps S w w') (hS : ∀ k ∈ foot g t l ps, ¬ S k) : DictM T L w' g d t l ps :=
  ⟨h.blk.keep hk (hS g foot_g), h.tab.keep hk fun k hk' => hS k (foot_t hk'), h.lvs.keep hk fun k hk' => hS k (foot_l hk'), h.len, h.dep, fun i hi hi' => (h.ent i hi hi').keep hk fun k hk' => hS k (foot_p hi hk'), h.nod⟩
theorem DictM.non (h : DictM T L w g d t l ps) (hk : Keeps Non w w') : DictM T L w' g d t l ps := h.keep hk fun _ _ e => e
theorem DictM.drewN (h : DictM T L w g d t l ps) (n : Nat) : DictM T L (w.drewN n) g d t l ps := h.non ((Keeps.refl Non w).drewN n)
theorem DictM.low (h : DictM T L w g d t l ps) : ∀ k ∈ foot g t l ps, k < w.heap.size := by
  intro k hk
  rcases List.mem_cons.1 hk with rfl | hk
  · exact h.blk.lt
  rcases List.mem_append.1 hk with hk | hk
  · exact h.tab.lt k hk
  rcases List.mem_append.1 hk with hk | hk
  · exact h.lvs.lt k hk
  obtain ⟨p, hp, hk⟩ := List.mem_flatMap.1 hk
  obtain ⟨i, hi, rfl⟩ := List.getElem_of_mem hp
  exact (h.ent i hi (by have := h.len; omega)).lt k hk
end mem

/-- Where a name's leaf is. -/
def plc (d : Dic) (n : List UInt8) : Nat := hash n % 2 ^ d.depth
def kOf (d : Dic) (n : List UInt8) : Nat := d.table.getD (plc d n) 0
/-- What the code leans on. -/
structure Ok (d : Dic) : Prop where
  dep : d.depth ≤ 5
  tab : d.table.length = 2 ^ d.depth
  rng : ∀ x ∈ d.table, x < d.leaves.length
  many : d.leaves.length ≤ 32
  srt : ∀ x ∈ d.leaves, Srt x.l
  fit : ∀ x ∈ d.leaves, fitE x.l = true
  low : ∀ x ∈ d.leaves, x.depth ≤ d.depth
theorem plc_lt {d : Dic} (h : Ok d) (n : List UInt8) : plc d n < d.table.length := by rw [h.tab]; exact Nat.mod_lt _ (Nat.pow_pos (by omega))
theorem kOf_get {d : Dic} (h : Ok d) (n : List UInt8) : kOf d n = d.table[plc d n]'(plc_lt h n) := by unfold kOf; rw [List.getD_eq_getElem?_getD, List.getElem?_eq_getElem (plc_lt h n)]; rfl
theorem kOf_lt {d : Dic} (h : Ok d) (n : List UInt8) : kOf d n < d.leaves.length := by rw [kOf_get h]; exact h.rng _ (List.getElem_mem _)
theorem fitE_len {l : List Ent} (h : fitE l = true) : l.length ≤ 50 ∧ roomE l ≤ 253 := by
  unfold fitE at h
  have h1 : 3 + roomE l ≤ 256 := of_decide_eq_true h
  have h2 : l.length * 5 ≤ roomE l := by
    clear h h1
    induction l with
    | nil => simp
    | cons x l ih => simp [roomE] at *; omega
  omega
theorem two_pow (n : Nat) (h : n ≤ 5) : 2 ^ n = 1 ∨ 2 ^ n = 2 ∨ 2 ^ n = 4 ∨ 2 ^ n = 8 ∨ 2 ^ n = 16 ∨ 2 ^ n = 32 := by
  have : n = 0 ∨ n = 1 ∨ n = 2 ∨ n = 3 ∨ n = 4 ∨ n = 5 := by omega
  rcases this with rfl | rfl | rfl | rfl | rfl | rfl <;> decide
theorem and_pow (x : BitVec 32) (n : Nat) (h : n ≤ 5) : bits .and .u32 (v32 x) ((2 ^ n - 1 : Nat) : Int) = ((x.toNat % 2 ^ n : Nat) : Int) := by
  have hp := two_pow n h
  have h1 : ((2 ^ n - 1 : Nat) : Int) = v32 (BitVec.ofNat 32 (2 ^ n - 1)) := by unfold v32; rw [BitVec.toNat_ofNat, Nat.mod_eq_of_lt (by omega)]
  rw [h1, and32]
  unfold v32
  rw [BitVec.toNat_and, BitVec.toNat_ofNat, Nat.mod_eq_of_lt (a := 2 ^ n - 1) (by omega), Nat.and_two_pow_sub_one_eq_mod]

set_option maxHeartbeats 1000000 in
theorem place_any {L : TypeId} {w : World} {g : Nat} {d : Dic} {t l : Sl} {ps : List (Nat × Sl)} (h : DictM 69 L w g d t l ps) (hd : d.depth ≤ 5) (n : List UInt8) (hn : n.length ≤ 9223372036854775807) :
    Calls Try.prog 34 #[.pointer (some ⟨g, 0, none⟩), .string (str n)] w fun e w' => e = .returned (.int .i64 (plc d n : Int)) ∧ ∃ q, w' = w.drewN q := by
  have c1 : w.cell? ⟨g, 1, none⟩ = some (.int .i64 (d.depth : Int)) := h.blk.cell 1
  have HP : Hid (plc d n = (hashB n).toNat % 2 ^ d.depth) := rfl
  have HH := Lib.hid (fun W => hash_any n hn W)
  have ha := and_pow (hashB n) d.depth hd
  generalize plc d n = p at HP ⊢
  generalize d.depth = dd at c1 HP ha hd
  clear h
  obtain ⟨x, hx⟩ : ∃ x, x = hashB n := ⟨_, rfl⟩
  rw [← hx] at HP HH ha
  clear hx
  have b0 := v32_nonneg x
  have b1 := v32_le x
  have HV : Hid (wrap64 (bits .and .u32 (v32 x) (((2 : Int) ^ dd - 1) % 4294967296)) = (p : Int)) := by
    show _ = _
    have hp := two_pow dd hd
    have e1 : (((2 : Int) ^ dd - 1) % 4294967296) = ((2 ^ dd - 1 : Nat) : Int) := by
      have e2 : ((2 : Int) ^ dd) = ((2 ^ dd : Nat) : Int) := by simp
      rw [e2]
      omega
    rw [e1, ha, HP.out]
    have := Nat.mod_lt x.toNat (show 0 < 2 ^ dd by omega)
    generalize x.toNat % 2 ^ dd = m at this ⊢
    unfold wrap64
    omega
  clear ha
  go_enter Try.func34, Try.ntmps34
  go_wp2_with fail
  go_quiet ((go_at_call 16; exact Calls.quiet_of_same (HH.out _)))
  go_wp2_with fail
  go_ret
  exact ⟨by rw [← HV.out]; rfl, _, rfl⟩
theorem dict_cells {T L : TypeId} {w : World} {g : Nat} {d : Dic} {t l : Sl} {ps : List (Nat × Sl)} (h : DictM T L w g d t l ps) :
    w.cell? ⟨g, 0, none⟩ = some (.bool d.small) ∧ w.cell? ⟨g, 1, none⟩ = some (.int .i64 (d.depth : Int)) ∧ w.cell? ⟨g, 2, none⟩ = some t.v ∧ w.cell? ⟨g, 3, none⟩ = some l.v :=
  ⟨h.blk.cell 0, h.blk.cell 1, h.blk.cell 2, h.blk.cell 3⟩
set_option maxHeartbeats 1000000 in
theorem of_any {w : World} {g : Nat} {d : Dic} {t l : Sl} {ps : List (Nat × Sl)} (h : DictM 69 66 w g d t l ps) (ho : Ok d) (n : List UInt8) (hn : n.length ≤ 9223372036854775807) :
    Calls Try.prog 27 #[.pointer (some ⟨g, 0, none⟩), .string (str n)] w fun e w' => (∃ b, l.A = some ⟨b, 0, none⟩ ∧ e = .returned (.pointer (some ⟨b, kOf d n * 2, none⟩))) ∧ ∃ q, w' = w.drewN q := by
  obtain ⟨c0, c1, c2, c3⟩ := dict_cells h
  have hp := plc_lt ho n
  have hk := kOf_get ho n
  have hkl := kOf_lt ho n
  rw [← h.len] at hkl
  obtain ⟨bt, ct, e1, hct, ct0, -⟩ := rowN_at h.tab hp
  obtain ⟨bl, cl, e2, hcl, -⟩ := rowP_at h.lvs hkl
  rw [← hk] at ct0
  rw [e1] at c2
  rw [e2] at c3
  have HA : Hid (l.A = some ⟨bl, 0, none⟩) := by
    have := e2
    unfold Sl.v at this
    injection this
  have HP := Lib.hid (fun q => place_any (h.drewN q) ho.dep n hn)
  generalize plc d n = p at hp ct0 HP
  generalize kOf d n = k at ct0 hkl ⊢
  obtain ⟨tn, htn⟩ : ∃ tn, tn = d.table.length := ⟨_, rfl⟩
  rw [← htn] at hp c2
  obtain ⟨ln, hln⟩ : ∃ ln, ln = ps.length := ⟨_, rfl⟩
  rw [← hln] at hkl c3
  have i1 : (p : Int) < (tn : Int) := by omega
  have i2 : (k : Int) < (ln : Int) := by omega
  clear h ho hk e1 e2 htn hln hct hcl c0 c1
  go_enter Try.func27, Try.ntmps27
  go_wp2_with fail
  go_quiet ((go_at_call 34; exact Calls.quiet_of (HP.out _)))
  go_wp2_with fail
  go_ret
  exact ⟨⟨bl, HA.out, rfl⟩, _, rfl⟩
set_option maxHeartbeats 1000000 in
theorem leaf_any {w : World} {g : Nat} {d : Dic} {t l : Sl} {ps : List (Nat × Sl)} (h : DictM 84 86 w g d t l ps) (ho : Ok d) (n : List UInt8) (hn : n.length ≤ 9223372036854775807) :
    Calls Try.prog 62 #[.pointer (some ⟨g, 0, none⟩), .string (str n)] w fun e w' => e = .returned (.int .i64 (kOf d n : Int)) ∧ ∃ q, w' = w.drewN q := by
  obtain ⟨c0, c1, c2, c3⟩ := dict_cells h
  have hp := plc_lt ho n
  have hk := kOf_get ho n
  obtain ⟨bt, ct, e1, hct, ct0, -⟩ := rowN_at h.tab hp
  rw [← hk] at ct0
  rw [e1] at c2
  have HP := Lib.hid (fun (W : World) => refhash_any n hn W)
  have HW := Lib.hid (fun (W : World) => power_any d.depth (by have := ho.dep; omega) W)
  have hv : v32 (hashB n) = ((hashB n).toNat : Int) := rfl
  have hpl : plc d n = (hashB n).toNat % 2 ^ d.depth := rfl
  have hpw := two_pow d.depth ho.dep
  generalize 2 ^ d.depth = pw at hpl hpw HW
  have b1 := v32_le (hashB n)
  rw [hv] at b1 HP
  generalize (hashB n).toNat = x at hpl HP b1
  generalize kOf d n = k at ct0 ⊢
  have hr : (x : Int) % (pw : Int) = (plc d n : Int) := by rw [hpl]; omega
  generalize plc d n = p at hp ct0 hr hpl
  obtain ⟨tn, htn⟩ : ∃ tn, tn = d.table.length := ⟨_, rfl⟩
  rw [← htn] at hp c2
  have i1 : (p : Int) < (tn : Int) := by omega
  have p1 : 1 ≤ (pw : Int) := by omega
  have p2 : (pw : Int) ≤ 32 := by omega
  have p3 : (p : Int) ≤ 32 := by
    have := Nat.mod_lt x (show 0 < pw by omega)
    omega
  clear h ho hk e1 htn hct c0 c3 hpw hv hpl
  go_enter Try.func62, Try.ntmps62
  go_wp2_with fail
  go_quiet (first | (go_at_call 17; exact Calls.quiet_of_same (HP.out _)) | (go_at_call 82; exact Calls.quiet_of_same (HW.out _)))
  go_wp2_with fail
  go_ret
  exact ⟨rfl, _, rfl⟩
end Go.Proofs.Ytiieglfpmmhfiaa
