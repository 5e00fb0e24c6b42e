import Derived.Test.YtmlffigfhhoihabV3
namespace Go.Proofs.Ytmlffigfhhoihab
open Go.RowKit Go.Uc

theorem info60 : (Try.prog.info? 60).map (fun i => (i.zero, i.size, i.bytes)) = some (some (.agg #[.int .i64 0, .int .i64 0, .int .i64 0, .slice none 0 0]), 4, 48) := by kernel_rfl

/-- A cell, as plain data: object, place, birth, bytes. -/
structure Cel where
  obj : Int
  at_ : Int
  birth : Int
  data : List UInt8
/-- The four cells of a cell whose bytes read so. -/
def CelV (E : Value → List UInt8 → Prop) (vs : List Value) (c : Cel) : Prop := ∃ d, vs = [.int .i64 c.obj, .int .i64 c.at_, .int .i64 c.birth, d] ∧ E d c.data
/-- A row of the call's own of such. -/
def RowC (w : World) (B : Nat) (E : Value → List UInt8 → Prop) (v : Value) (cs : List Cel) : Prop := ∃ vss : List (List Value), w.ownsRow B 60 4 v cs.length vss.flatten ∧ vss.length = cs.length ∧ ∀ i (h : i < cs.length) (h' : i < vss.length), CelV E vss[i] cs[i]

theorem RowC.snoc {w : World} {B : Nat} {E : Value → List UInt8 → Prop} {v : Value} {cs : List Cel} {c : Cel} {vss : List (List Value)} {vs : List Value} (h1 : w.ownsRow B 60 4 v (cs.length + 1) (vss.flatten ++ vs)) (h2 : vss.length = cs.length)
    (h3 : ∀ i (h : i < cs.length) (h' : i < vss.length), CelV E vss[i] cs[i]) (hc : CelV E vs c) : RowC w B E v (cs ++ [c]) := by
  refine ⟨vss ++ [vs], by simpa using h1, by simp [h2], fun i a b => ?_⟩
  rcases Nat.lt_or_ge i cs.length with hi | hi
  · rw [List.getElem_append_left (by omega), List.getElem_append_left hi]; exact h3 i hi (by omega)
  · simp at a
    obtain rfl : i = cs.length := by omega
    rw [List.getElem_append_right (by omega), List.getElem_append_right (by omega)]
    simpa [h2] using hc
theorem own_types {w : World} {B B' size size' : Nat} {e e' : TypeId} {u v : Value} {n n' : Nat} {vs vs' : List Value} (h : w.ownsRow B e size u n vs) (h' : w.ownsRow B' e' size' v n' vs') (hne : e ≠ e') : ∀ g, v.ownBlock = some g → ¬ Owned u g := by
  intro g hg hu
  rcases h.2 with ⟨rfl, _⟩ | ⟨g1, c1, cu1, rfl, _, hh1, _⟩
  · cases hu
  · rcases h'.2 with ⟨rfl, _⟩ | ⟨g2, c2, cu2, rfl, _, hh2, _⟩
    · cases hg
    · simp [Value.ownBlock] at hg
      simp [Owned, Value.ownBlock] at hu
      subst hg hu
      rw [hh1] at hh2
      injection hh2 with hh2
      injection hh2 with _ hh2
      exact hne hh2
theorem RowC.all {w w' : World} {S : Nat → Prop} {B : Nat} {v : Value} {cs : List Cel} (h : RowC w B (OwnB w B 5) v cs) (hk : Keeps S w w') (hS : ∀ k, B ≤ k → ¬ S k) : RowC w' B (OwnB w' B 5) v cs := by
  obtain ⟨vs, h1, h2, h3⟩ := h
  refine ⟨vs, row_keep h1 hk fun g hg => hS g (World.ownsRow.lt h1 g hg).1, h2, fun i a b => ?_⟩
  obtain ⟨d, e, hd⟩ := h3 i a b
  exact ⟨d, e, hd.keep hk fun g hg => hS g (hd.new g hg)⟩
/-- One cell more in the row: what the append leaves. -/
theorem RowC.grow {w w3 : World} {B : Nat} {u d v3 : Value} {o : Obj} {cs : List Cel} {c : Cel} {vss : List (List Value)} (h1 : w.ownsRow B 60 4 u cs.length vss.flatten) (h2 : vss.length = cs.length)
    (h3 : ∀ i (h : i < cs.length) (h' : i < vss.length), CelV (OwnB w B 5) vss[i] cs[i]) (hd : OwnB w B 5 d c.data) (hr : w3.ownsRow B 60 4 v3 (cs.length + 1) (vss.flatten ++ [.int .i64 c.obj, .int .i64 c.at_, .int .i64 c.birth, d]))
    (hk3 : Keeps (Owned u) (w.alloc o) w3) : RowC w3 B (OwnB w3 B 5) v3 (cs ++ [c]) := by
  have hka := (Keeps.refl Non w).alloc o
  have h1' := row_keep h1 hka fun _ _ e => e
  refine RowC.snoc hr h2 (fun i a b => ?_) ⟨d, rfl, (hd.non hka).keep hk3 (own_types h1' (hd.non hka) (by decide))⟩
  obtain ⟨d', e, hd'⟩ := h3 i a b
  exact ⟨d', e, (hd'.non hka).keep hk3 (own_types h1' (hd'.non hka) (by decide))⟩

theorem wpList_append_cell {ops : Array Oper} {rest : List Oper} {o : Oper} {a : Act} {w : World} {Q : Exit → Act → World → Prop} (hgd : o.guard = none) (s x : Operand)
    (ho : o.op = .call { callee := .builtin .append, args := #[s, x], argTypes := #[35, 35] })
    (base : Nat) (v : Value) (n : Nat) (xs : List Value) (hs : a.eval s = v) (hown : w.ownsRow base 60 4 v n xs)
    (A : Option Addr) (c : Nat) (news : List Value) (hx : a.eval x = .slice A 1 c) (hm : news.length = 4) (hr : Ats w A news) (h1 : ∀ u ∈ news, u.oneCell' = true)
    (hmax : (n + 1) * 48 ≤ 140737488355328) (hbase : base ≤ w.heap.size)
    (h : ∀ v' w', w'.ownsRow base 60 4 v' (n + 1) (xs ++ news) → Keeps (Owned v) w w' → (v'.ownBlock = v.ownBlock ∨ v'.ownBlock = Option.some w.heap.size) → wpList Try.prog ops Q rest (a.put o.dst v') w') : wpList Try.prog ops Q (o :: rest) a w := by
  obtain ⟨i, hi0, hz0, hz1, hz2⟩ := info_parts info60
  exact wpList_plain hgd fun _ hK => wp_append_any s x 35 ho base 60 i _ 4 48 Try.underlying35 hi0 hz0 hz1 hz2 rfl (by omega) v n xs hs hown A 1 c news hx (by omega) hr h1 (by unfold maxLen; omega) (by omega) hbase fun v' w' h2 h3 h4 => hK _ _ (h v' w' h2 h3 h4)
theorem Ats.four (w : World) (a b c d : Value) (t : TypeId) : Ats (w.alloc (.cells #[a, b, c, d] t)) (some ⟨w.heap.size, 0, none⟩) [a, b, c, d] := fun _ => ⟨_, rfl, fun j u hj => by
  have hb := Blk.new w t #[a, b, c, d]
  rw [show (⟨w.heap.size, 0, none⟩ : Addr).add j = ⟨w.heap.size, j, none⟩ from by unfold Addr.add; split <;> simp_all, hb.cell]
  simpa using hj⟩

def sub (reg : List UInt8) (at_ n : Nat) : List UInt8 := (reg.drop at_).take n
def cellsTo (xs : List UInt8) : Nat → List Cel
  | 0 => [⟨1, -1, 0, le 4 xs.length⟩]
  | k + 1 => if sub xs (256 * k) 256 = zeros 256 then cellsTo xs k else cellsTo xs k ++ [⟨1, k, 0, sub xs (256 * k) 256⟩]
theorem cellsTo_length (xs : List UInt8) (k : Nat) : (cellsTo xs k).length ≤ k + 1 := by
  induction k with
  | zero => simp [cellsTo]
  | succ k ih =>
    rw [cellsTo]
    split
    · omega
    · simp; omega

theorem cel_one {w : World} {B : Nat} {d : Value} {bs : List UInt8} {a b c : Int} (hd : OwnB w B 5 d bs) : ∀ u ∈ [Value.int .i64 a, .int .i64 b, .int .i64 c, d], u.oneCell' = true := by
  obtain ⟨A, cc, rfl, _⟩ := hd.open
  intro u hu
  simp at hu
  rcases hu with rfl | rfl | rfl | rfl <;> rfl
theorem le4 (n : Nat) (hn : n ≤ 16384) : (#[.int .u8 ((n : Int) % 256), .int .u8 ((n : Int) / 256), .int .u8 ((n : Int) / 65536), .int .u8 ((n : Int) / 16777216)] : Array Value) = pc (le 4 n) := by
  have e : ∀ m : Nat, m < 256 → bv (UInt8.ofNat m) = .int .u8 (m : Int) := bv_ofNat
  simp only [pc, le, List.map_cons, List.map_nil]
  rw [e _ (Nat.mod_lt _ (by decide)), e _ (Nat.mod_lt _ (by decide)), e _ (Nat.mod_lt _ (by decide)), e _ (Nat.mod_lt _ (by decide))]
  congr 1
  simp only [List.cons.injEq, Value.int.injEq, true_and, and_true]
  omega
theorem rowC_start (w : World) (n : Nat) (C : Array Value) (hC : C = pc (le 4 n)) :
    RowC ((w.alloc (.cells C 5)).alloc (.cells #[.int .i64 1, .int .i64 (-1), .int .i64 0, .slice (some ⟨w.heap.size, 0, none⟩) 4 4] 60)) w.heap.size
      (OwnB ((w.alloc (.cells C 5)).alloc (.cells #[.int .i64 1, .int .i64 (-1), .int .i64 0, .slice (some ⟨w.heap.size, 0, none⟩) 4 4] 60)) w.heap.size 5) (.slice (some ⟨w.heap.size + 1, 0, none⟩) 1 1) [⟨1, -1, 0, le 4 n⟩] := by
  subst hC
  refine ⟨[[.int .i64 1, .int .i64 (-1), .int .i64 0, .slice (some ⟨w.heap.size, 0, none⟩) 4 4]], ⟨rfl, .inr ⟨w.heap.size + 1, 1, #[.int .i64 1, .int .i64 (-1), .int .i64 0, .slice (some ⟨w.heap.size, 0, none⟩) 4 4], rfl, by omega, ?_, Nat.le_refl _, by unfold maxLen; omega, rfl, rfl⟩⟩, rfl, fun i a b => ?_⟩
  · have := Blk.new (w.alloc (.cells (pc (le 4 n)) 5)) 60 #[.int .i64 1, .int .i64 (-1), .int .i64 0, .slice (some ⟨w.heap.size, 0, none⟩) 4 4]
    simpa [Blk] using this
  · obtain rfl : i = 0 := by simp at a; exact a
    refine ⟨_, rfl, ?_⟩
    have h2 : Blk ((w.alloc (.cells (pc (le 4 n)) 5)).alloc (.cells #[.int .i64 1, .int .i64 (-1), .int .i64 0, .slice (some ⟨w.heap.size, 0, none⟩) 4 4] 60)) w.heap.size 5 (pc (le 4 n ++ [])) := by
      rw [List.append_nil]; exact (Blk.new w 5 (pc (le 4 n))).alloc _
    have h3 := OwnB.blk h2 (Nat.le_refl _) (by rw [le_length]; simp [maxLen])
    rw [le_length] at h3
    exact h3

theorem Blk.apart {w : World} {B size g n : Nat} {e t : TypeId} {u : Value} {vs : List Value} {cs : Array Value} (h : Blk w g t cs) (r : w.ownsRow B e size u n vs) (hne : t ≠ e) : ¬ Owned u g := by
  intro hu
  rcases r.2 with ⟨rfl, _⟩ | ⟨g1, c1, cu1, rfl, _, hh1, _⟩
  · cases hu
  · simp [Owned, Value.ownBlock] at hu
    subst hu
    unfold Blk at h
    rw [h] at hh1
    injection hh1 with hh1
    injection hh1 with _ hh1
    exact hne hh1

set_option maxRecDepth 100000 in
set_option maxHeartbeats 2000000 in
theorem cells_any (g gb : Nat) (xs : List UInt8) (w : World) (hv : VolB w g gb 55 xs) (hl : xs.length ≤ 16384) (hm : xs.length % 256 = 0) :
    Calls Try.prog 13 #[.pointer (some ⟨g, 0, none⟩)] w fun e w' => ∃ v, e = .returned v ∧ RowC w' w.heap.size (OwnB w' w.heap.size 5) v (cellsTo xs (xs.length / 256)) ∧ Keeps Non w w' := by
  have c0 : w.cell? ⟨g, 0, none⟩ = some (.slice (some ⟨gb, 0, none⟩) xs.length xs.length) := hv.1.cell 0
  go_enter Try.func13, Try.ntmps13
  go_wp2_with (at_make; go_must (refine wpList_make_bytes rfl _ _ 23 rfl 5 Try.underlying23 info5 .i64 .i64 _ _ 256 rfl rfl (by omega) (by omega) (by omega) ?_); intro w3 hB3 hK3)
  have hS := rowC_start w xs.length _ (le4 xs.length hl)
  have hS3 := hS.all hK3 (fun _ _ e => e)
  have hk3 : Keeps Non w w3 := (((Keeps.refl Non w).alloc _).alloc _).trans hK3
  obtain ⟨gn, hgn⟩ : ∃ gn, gn = w.heap.size + 1 + 1 := ⟨_, rfl⟩
  have hN3 : Blk w3 gn 5 (pc (zeros 256)) := by rw [hgn]; simpa using hB3
  have hgn2 : w.heap.size ≤ gn := by omega
  rw [← hgn]
  clear hS hB3 hK3 hgn
  have HV := Lib.hid hv
  obtain ⟨q, hq⟩ : ∃ q : Nat, q = xs.length / 256 := ⟨_, rfl⟩
  have hqi : (xs.length : Int) / 256 = (q : Int) := by omega
  have hq2 : xs.length = 256 * q := by omega
  have HQ2 := Lib.hid hq2
  have HQ := Lib.hid hq
  rw [hqi]
  clear hqi hq hq2 hv c0
  go_loopw [4, 30] (fun v i wr => ∃ k : Nat, k ≤ q ∧ i = .int .i64 k ∧ RowC wr w.heap.size (OwnB wr w.heap.size 5) v (cellsTo xs k) ∧ Keeps Non w wr ∧ Blk wr gn 5 (pc (zeros 256))) (fun _ i _ => q - (intOf i).toNat)
  case atStart => exact ⟨0, Nat.zero_le _, rfl, hS3, hk3, hN3⟩
  case round =>
    obtain ⟨k, hk, rfl, hR, hK, hNr⟩ := hrel
    have hvr : VolB wr g gb 55 xs := ⟨HV.out.1.non hK, HV.out.2.1.non hK, HV.out.2.2⟩
    have hsz := hK.size
    by_cases hlt : k < q
    · have c0 : wr.cell? ⟨g, 0, none⟩ = some (.slice (some ⟨gb, 0, none⟩) xs.length xs.length) := hvr.1.cell 0
      have b1 : (k + 1) * 256 ≤ xs.length := by have := HQ2.out; omega
      have b2 : ((k : Int) + 1) * 256 ≤ (xs.length : Int) := by omega
      have b3 : ¬ xs.length = k * 256 := by omega
      have e256 : (k + 1) * 256 - k * 256 = 256 := by omega
      have hsl : Hid ((sub xs (256 * k) 256).length = 256) := by show _ = _; simp [sub]; omega
      have hA : Hid (At wr (some ⟨gb, k * 256, none⟩) (sub xs (256 * k) 256)) := by
        have := (At.blkFrom hvr.2.1 (256 * k)).take 256
        rwa [Nat.mul_comm 256 k] at this ⊢
      have hN : Hid (At wr (some ⟨gn, 0, none⟩) (zeros 256)) := At.blk hNr
      have hEq := equal_any (some ⟨gb, k * 256, none⟩) (some ⟨gn, 0, none⟩) (xs.length - k * 256) 256 256 256 _ _ wr hA.out hN.out hsl.out.symm (zeros_length _).symm
      by_cases hz : sub xs (256 * k) 256 = zeros 256
      · rw [decide_eq_true hz] at hEq
        have HE := Lib.hid hEq
        have HZ := Lib.hid hz
        clear hEq hz
        go_wp2_with (go_at_call 25; go_must (refine HE.out.mono ?_); rintro e w4 ⟨rfl, rfl⟩)
        go_roundw
        case rel => exact ⟨k + 1, by omega, by go_num, by rw [cellsTo, if_pos HZ.out]; exact hR, hK, hNr⟩
        case measure => simp [intOf]; omega
      · rw [decide_eq_false hz] at hEq
        have hcl := clone_any (some ⟨gb, k * 256, none⟩) (xs.length - k * 256) _ wr hA.out (by rw [hsl.out]; omega)
        rw [hsl.out] at hcl
        have HE := Lib.hid hEq
        have HC := Lib.hid hcl
        have HZ := Lib.hid hz
        have hcl100 := cellsTo_length xs k
        have hq64 : q ≤ 64 := by have := HQ2.out; omega
        obtain ⟨vss, r1, r2, r3⟩ := hR
        have R2 := Lib.hid r2
        have R3 := Lib.hid r3
        clear hEq hz hcl r2 r3
        go_wp2_with (first
          | (go_at_call 25; go_must (refine HE.out.mono ?_); rintro e w4 ⟨rfl, rfl⟩)
          | (go_at_call 26; go_must (refine HC.out.mono ?_); rintro e w5 ⟨d, rfl, hd, hK5⟩; obtain ⟨A2, c2, rfl, hc2, hA2, -⟩ := hd.open)
          | (at_builtin; go_must (refine wpList_append_cell rfl (.tmp 47) (.tmp 52) rfl w.heap.size u4 _ _ rfl (row_keep (row_keep r1 hK5 fun _ _ e => e) ((Keeps.refl Non _).alloc _) fun _ _ e => e) (some ⟨w5.heap.size, 0, none⟩) 1 [.int .i64 1, .int .i64 k, .int .i64 0, .slice A2 _ c2] rfl rfl (Ats.four _ _ _ _ _ _) (cel_one hd) (by omega) (by have := hK5.size; simp; omega) ?_); intro v6 w6 hR6 hK6 hat6))
        go_roundw
        case rel =>
          have hka := (Keeps.refl Non w5).alloc (.cells #[.int .i64 1, .int .i64 k, .int .i64 0, .slice A2 (sub xs (256 * k) 256).length c2] 60)
          have r5 := row_keep r1 hK5 fun _ _ e => e
          have hlow : ∀ g, Owned u4 g → w.heap.size ≤ g := fun g hg => (World.ownsRow.lt r1 g hg).1
          refine ⟨k + 1, by omega, by go_num, ?_, ?_, ?_⟩
          · rw [cellsTo, if_neg HZ.out]
            exact RowC.grow (c := ⟨1, k, 0, sub xs (256 * k) 256⟩) r5 R2.out (fun i a b => by
              obtain ⟨d', e', hd'⟩ := R3.out i a b
              exact ⟨d', e', hd'.non hK5⟩) (hd.mono hsz) hR6 hK6
          · exact ((hK.trans hK5).trans hka).then hK6 fun i hi e => by have := hlow i e; omega
          · exact ((hNr.non hK5).non hka).keep hK6 (Blk.apart ((hNr.non hK5).non hka) (row_keep r5 hka fun _ _ e => e) (by decide))
        case measure => simp [intOf]; omega
    · obtain rfl : k = q := by omega
      go_wp2
      go_ret
      exact ⟨_, rfl, by rw [← HQ.out]; exact hR, hK⟩
end Go.Proofs.Ytmlffigfhhoihab
