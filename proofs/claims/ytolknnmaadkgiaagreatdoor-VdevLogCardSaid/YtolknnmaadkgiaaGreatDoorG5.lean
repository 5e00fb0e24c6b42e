/- A pointer taken up. Fletcher's sum: New, plus, Add. Value, Clone, Of, Check. Of, of the kind that is Fletcher's. Bytes with their sum; an uberblock as a sector. -/
import Derived.Test.YtolknnmaadkgiaaGreatDoorG4
import Derived.Deep.MidRow
import Derived.Deep.RegionWith
import Derived.RegionTactic
import Derived.RegionCalls
set_option linter.unusedVariables false
set_option linter.unusedSimpArgs false
namespace Go.Proofs.YtolknnmaadkgiaaGreatDoor
set_option maxRecDepth 100000
open Go.RowKit Go.Uc
theorem Blk.there {w : World} {g t : Nat} {cs : Array Value} (h : Blk w g t cs) (o n : Nat) (hn : o + n ≤ cs.size) : w.there g o n := fun j hj => by
 refine ⟨?_, h.frozen _⟩
 rw [h.cell, Array.getElem?_eq_getElem (by omega)]; rfl
theorem Keeps.cellsAt {S : Nat → Prop} {w : World} {g : Nat} (hg : S g) : ∀ (vs : List Value) (o : Nat) (w1 : World), Keeps S w w1 → Keeps S w (w1.setCells g o vs)
 | [], _, _, h => h
 | v :: vs, o, w1, h => by
   rw [World.setCells]
   exact Keeps.cellsAt hg vs (o + 1) _ (h.set (p := ⟨g, o, none⟩) hg v)
theorem Blk.cellsAt {g t : Nat} : ∀ (vs : List Value) (o : Nat) (w : World) (cs : Array Value), Blk w g t cs → ∃ cs' : Array Value, Blk (w.setCells g o vs) g t cs' ∧ cs'.size = cs.size ∧ ∀ i, cs'[i]? = if o ≤ i ∧ i < o + vs.length ∧ i < cs.size then vs[i - o]? else cs[i]?
 | [], o, w, cs, h => ⟨cs, h, rfl, fun i => by rw [if_neg]; rintro ⟨a, b, -⟩; simp at b; omega⟩
 | v :: vs, o, w, cs, h => by
   obtain ⟨cs', h1, h2, h3⟩ := Blk.cellsAt vs (o + 1) _ _ (h.set o v)
   refine ⟨cs', h1, by rw [h2]; simp, fun i => ?_⟩
   rw [h3 i]
   simp only [Array.size_setIfInBounds, List.length_cons, Array.getElem?_setIfInBounds]
   by_cases h4 : o + 1 ≤ i ∧ i < o + 1 + vs.length ∧ i < cs.size
   · rw [if_pos h4, if_pos (by omega)]
     rw [show i - o = (i - (o + 1)) + 1 by omega, List.getElem?_cons_succ]
   · rw [if_neg h4]
     by_cases h5 : o = i
     · subst h5
       by_cases h6 : o < cs.size
       · rw [if_pos rfl, if_pos h6, if_pos (by omega)]; simp
       · rw [if_pos rfl, if_neg h6, if_neg (by omega)]; rw [Array.getElem?_eq_none (by omega)]
     · rw [if_neg h5, if_neg (by omega)]
def ptr0 : Array Value := #[.int .i64 0, .int .i64 0, .int .i64 0, .int .u64 0, .int .i64 0, .int .u64 0, .int .u64 0, .int .u64 0, .int .u64 0]
theorem mid_eq (L a b c : List UInt8) (h : L = a ++ (b ++ c)) (n m : Nat) (hn : a.length = n) (hm : b.length = m) : (L.drop n).take m = b := by
 subst h hn hm
 simp
theorem wrapi (n : Nat) (h : n < 9223372036854775808) : IntKind.i64.wrap (n : Int) = (n : Int) := by rw [IntKind.wrap_i64]; omega
theorem ptr_part {bs : List UInt8} {at_ : Nat} {r : Pt} (hz : (bs.drop at_).take 48 = ptrB r) (k m v : Nat) (a c : List UInt8) (h : ptrB r = a ++ (le m v ++ c)) (ha : a.length = k) (hv : v < 256 ^ m) (hk : k + m ≤ 48) : leVal ((bs.drop (at_ + k)).take m) = v := by
 have e1 : (bs.drop (at_ + k)).take m = le m v := by
   have e := congrArg (fun l => (l.drop k).take m) hz
   simp only [List.drop_take, List.drop_drop, List.take_take] at e
   rw [Nat.min_eq_left (by omega)] at e
   rw [e]
   exact mid_eq _ a _ c h k m ha (le_length _ _)
 rw [e1, leVal_le, Nat.mod_eq_of_lt hv]
set_option maxHeartbeats 4000000 in
theorem takePtr113_any {w0 w : World} {g at_ : Nat} {bs : List UInt8} (r : Pt) (ho : r.ok) (h : Rg w0 w g bs at_) (hf : at_ + 48 ≤ bs.length) (hz : (bs.drop at_).take 48 = ptrB r) :
   Calls Tryz.prog 171 #[.pointer (some ⟨g, 0, none⟩)] w fun e w' => e = .returned (.agg #[.int .i64 (r.t : Int), .int .i64 (r.at_ : Int), .int .i64 (r.n : Int), .int .u64 (r.bi : Int), .int .i64 (r.k : Int), .int .u64 (r.s.a : Int), .int .u64 (r.s.b : Int), .int .u64 (r.s.c : Int), .int .u64 (r.s.d : Int)]) ∧ Rg w0 w' g bs (at_ + 48) ∧ Keeps (Only g) w w' := by
 obtain ⟨l1, l2, l3, l4, l5, l6⟩ := ho.lt
 obtain ⟨m1, m2, m3, m4⟩ := l6
 have v0 : leVal ((bs.drop (at_ + 0)).take 1) = r.t := ptr_part hz 0 1 _ [] (le 1 r.k ++ le 2 r.n ++ le 4 r.at_ ++ le 8 r.bi ++ r.s.bytes) (by simp [ptrB]) rfl (by omega) (by decide)
 have v1 : leVal ((bs.drop (at_ + 1)).take 1) = r.k := ptr_part hz 1 1 _ (le 1 r.t) (le 2 r.n ++ le 4 r.at_ ++ le 8 r.bi ++ r.s.bytes) (by simp [ptrB]) (le_length _ _) (by omega) (by decide)
 have v2 : leVal ((bs.drop (at_ + 2)).take 2) = r.n := ptr_part hz 2 2 _ (le 1 r.t ++ le 1 r.k) (le 4 r.at_ ++ le 8 r.bi ++ r.s.bytes) (by simp [ptrB]) (by simp [le_length]) (by omega) (by decide)
 have v3 : leVal ((bs.drop (at_ + 4)).take 4) = r.at_ := ptr_part hz 4 4 _ (le 1 r.t ++ le 1 r.k ++ le 2 r.n) (le 8 r.bi ++ r.s.bytes) (by simp [ptrB]) (by simp [le_length]) (by omega) (by decide)
 have v4 : leVal ((bs.drop (at_ + 8)).take 8) = r.bi := ptr_part hz 8 8 _ (le 1 r.t ++ le 1 r.k ++ le 2 r.n ++ le 4 r.at_) (r.s.bytes) (by simp [ptrB]) (by simp [le_length]) (by omega) (by decide)
 have v5 : leVal ((bs.drop (at_ + 16)).take 8) = r.s.a := ptr_part hz 16 8 _ (le 1 r.t ++ le 1 r.k ++ le 2 r.n ++ le 4 r.at_ ++ le 8 r.bi) (le 8 r.s.b ++ le 8 r.s.c ++ le 8 r.s.d) (by simp [ptrB, S4.bytes]) (by simp [le_length]) (by omega) (by decide)
 have v6 : leVal ((bs.drop (at_ + 24)).take 8) = r.s.b := ptr_part hz 24 8 _ (le 1 r.t ++ le 1 r.k ++ le 2 r.n ++ le 4 r.at_ ++ le 8 r.bi ++ le 8 r.s.a) (le 8 r.s.c ++ le 8 r.s.d) (by simp [ptrB, S4.bytes]) (by simp [le_length]) (by omega) (by decide)
 have v7 : leVal ((bs.drop (at_ + 32)).take 8) = r.s.c := ptr_part hz 32 8 _ (le 1 r.t ++ le 1 r.k ++ le 2 r.n ++ le 4 r.at_ ++ le 8 r.bi ++ le 8 r.s.a ++ le 8 r.s.b) (le 8 r.s.d) (by simp [ptrB, S4.bytes]) (by simp [le_length]) (by omega) (by decide)
 have v8 : leVal ((bs.drop (at_ + 40)).take 8) = r.s.d := ptr_part hz 40 8 _ (le 1 r.t ++ le 1 r.k ++ le 2 r.n ++ le 4 r.at_ ++ le 8 r.bi ++ le 8 r.s.a ++ le 8 r.s.b ++ le 8 r.s.c) [] (by simp [ptrB, S4.bytes]) (by simp [le_length]) (by omega) (by decide)
 have u1 := wrapi r.t (by omega)
 have u2 := wrapi r.k (by omega)
 have u3 := wrapi r.n (by omega)
 have u4 := wrapi r.at_ (by omega)
 have HN : Hid (∀ (V : World) (k m v : Nat), Rg w0 V g bs (at_ + k) → 1 ≤ m → m ≤ 8 → k + m ≤ 48 → leVal ((bs.drop (at_ + k)).take m) = v → Calls Tryz.prog 115 #[.pointer (some ⟨g, 0, none⟩), .int .i64 (m : Int)] V fun e w' => e = .returned (.int .u64 (v : Int)) ∧ Rg w0 w' g bs (at_ + (k + m)) ∧ Keeps (Only g) V w') := Lib.hid (fun V k m v hV h1 h8 hm hv => by
   have := rnum49_any hV m h1 h8 (by omega)
   rw [hv, Nat.add_assoc] at this
   exact this)
 have HS : Hid (∀ (V : World), Rg w0 V g bs (at_ + 16) → Calls Tryz.prog 163 #[.pointer (some ⟨g, 0, none⟩)] V fun e w' => e = .returned (.agg #[.int .u64 (r.s.a : Int), .int .u64 (r.s.b : Int), .int .u64 (r.s.c : Int), .int .u64 (r.s.d : Int)]) ∧ Rg w0 w' g bs (at_ + 48) ∧ Keeps (Only g) V w') := Lib.hid (fun V hV => by
   have := takeSum110_any hV (by omega)
   unfold sumAt S4.cs n8 at this
   rw [v5, Nat.add_assoc at_ 16 8, v6, Nat.add_assoc at_ 16 16, v7, Nat.add_assoc at_ 16 24, v8, Nat.add_assoc at_ 16 32] at this
   exact this)
 have V0 := Lib.hid v0
 have V1 := Lib.hid v1
 have V2 := Lib.hid v2
 have V3 := Lib.hid v3
 have V4 := Lib.hid v4
 clear v0 v1 v2 v3 v4 v5 v6 v7 v8 hz ho m1 m2 m3 m4
 have hgl : g < w.heap.size := by obtain ⟨b, i1, -⟩ := h; exact i1.lt
 have hB := Blk.new w 58 ptr0
 have hk := (Keeps.refl Non w).alloc (.cells ptr0 58)
 unfold ptr0 at hB hk
 go_enter Tryz.func171, Tryz.ntmps171
 go_upto_region 1 with fail
 obtain ⟨w1, hw1⟩ : ∃ V : World, V = w.alloc (.cells #[.int .i64 0, .int .i64 0, .int .i64 0, .int .u64 0, .int .i64 0, .int .u64 0, .int .u64 0, .int .u64 0, .int .u64 0] 58) := ⟨_, rfl⟩
 rw [← hw1] at hB hk ⊢
 clear hw1
 obtain ⟨pb, hpb⟩ : ∃ z, z = w.heap.size := ⟨_, rfl⟩
 rw [← hpb] at hB hgl ⊢
 have hpg : pb ≠ g := by omega
 have hpw : w.heap.size ≤ pb := by omega
 clear hpb
 go_wp2_with fail
 refine (HN.out w1 0 1 _ (h.non hk) (by decide) (by decide) (by decide) V0.out).mono ?_
 rintro e w2 ⟨rfl, hR2, hK2⟩
 go_wp2_with fail
 refine (HN.out w2 1 1 _ hR2 (by decide) (by decide) (by decide) V1.out).mono ?_
 rintro e w3 ⟨rfl, hR3, hK3⟩
 go_wp2_with fail
 refine (HN.out w3 2 2 _ hR3 (by decide) (by decide) (by decide) V2.out).mono ?_
 rintro e w4 ⟨rfl, hR4, hK4⟩
 go_wp2_with fail
 refine (HN.out w4 4 4 _ hR4 (by decide) (by decide) (by decide) V3.out).mono ?_
 rintro e w5 ⟨rfl, hR5, hK5⟩
 go_wp2_with fail
 refine (HN.out w5 8 8 _ hR5 (by decide) (by decide) (by decide) V4.out).mono ?_
 rintro e w6 ⟨rfl, hR6, hK6⟩
 have hKx : Keeps (Only g) w1 w6 := (((hK2.trans hK3).trans hK4).trans hK5).trans hK6
 have hB6 := hB.one hKx hpg
 have hKy : Keeps (Only g) w w6 := (hk.of_non (S := Only g)).trans hKx
 clear hR2 hR3 hR4 hR5 hK2 hK3 hK4 hK5 hK6 hKx
 go_upto_region 2 with fail
 have hQ := Blk.new w6 58 #[.int .i64 (r.t : Int), .int .i64 (r.at_ : Int), .int .i64 (r.n : Int), .int .u64 (r.bi : Int), .int .i64 (r.k : Int), .int .u64 0, .int .u64 0, .int .u64 0, .int .u64 0]
 have hkq := (Keeps.refl Non w6).alloc (.cells #[.int .i64 (r.t : Int), .int .i64 (r.at_ : Int), .int .i64 (r.n : Int), .int .u64 (r.bi : Int), .int .i64 (r.k : Int), .int .u64 0, .int .u64 0, .int .u64 0, .int .u64 0] 58)
 obtain ⟨w7, hw7⟩ : ∃ V : World, V = w6.alloc (.cells #[.int .i64 (r.t : Int), .int .i64 (r.at_ : Int), .int .i64 (r.n : Int), .int .u64 (r.bi : Int), .int .i64 (r.k : Int), .int .u64 0, .int .u64 0, .int .u64 0, .int .u64 0] 58) := ⟨_, rfl⟩
 rw [← hw7] at hQ hkq ⊢
 clear hw7
 obtain ⟨pq, hpq⟩ : ∃ z, z = w6.heap.size := ⟨_, rfl⟩
 rw [← hpq] at hQ ⊢
 have hqg : pq ≠ g := by obtain ⟨b, i1, -⟩ := hR6; have := i1.lt; omega
 have hqp : pb ≠ pq := by have := hB6.lt; omega
 have hqw : w.heap.size ≤ pq := by have := hKy.size; omega
 clear hpq
 have hR7 : Rg w0 w7 g bs (at_ + 16) := hR6.non hkq
 have HS7 := Lib.hid (HS.out w7 hR7)
 go_wp2_with fail
 refine HS7.out.mono ?_
 rintro e w8 ⟨rfl, hR8, hK8⟩
 have hQ8 := hQ.one hK8 hqg
 have hth : w8.there pq 5 4 := Blk.there hQ8 5 4 (Nat.le_refl 9)
 have hB8 := (hB6.non hkq).one hK8 hpg
 have hK78 := (hKy.non hkq).trans hK8
 have hK9 : Keeps (Only pq) w8 (w8.setCells pq 5 [.int .u64 (r.s.a : Int), .int .u64 (r.s.b : Int), .int .u64 (r.s.c : Int), .int .u64 (r.s.d : Int)]) := Keeps.cellsAt (S := Only pq) rfl _ 5 _ (Keeps.refl _ _)
 have hQ9 : Blk (w8.setCells pq 5 [.int .u64 (r.s.a : Int), .int .u64 (r.s.b : Int), .int .u64 (r.s.c : Int), .int .u64 (r.s.d : Int)]) pq 58 #[.int .i64 (r.t : Int), .int .i64 (r.at_ : Int), .int .i64 (r.n : Int), .int .u64 (r.bi : Int), .int .i64 (r.k : Int), .int .u64 (r.s.a : Int), .int .u64 (r.s.b : Int), .int .u64 (r.s.c : Int), .int .u64 (r.s.d : Int)] := (((hQ8.set 5 (.int .u64 (r.s.a : Int))).set 6 (.int .u64 (r.s.b : Int))).set 7 (.int .u64 (r.s.c : Int))).set 8 (.int .u64 (r.s.d : Int))
 go_upto_region 3 with ((with_reducible show wpList _ _ _ ({ dst := none, op := Op.store 56 _ _, type := _, pos := _, after := _, guard := _ } :: _) _ _); go_must (refine wpList_store_mid rfl 56 (.tmp 21) (.tmp 20) rfl pq 5 #[.int .u64 (r.s.a : Int), .int .u64 (r.s.b : Int), .int .u64 (r.s.c : Int), .int .u64 (r.s.d : Int)] rfl rfl hth (by kernel_rfl) (by kernel_rfl) ?_); obtain ⟨w9, hw9⟩ : ∃ V : World, V = w8.setCells pq 5 [.int .u64 (r.s.a : Int), .int .u64 (r.s.b : Int), .int .u64 (r.s.c : Int), .int .u64 (r.s.d : Int)] := ⟨_, rfl⟩; rw [show w8.setCells pq 5 #[.int .u64 (r.s.a : Int), .int .u64 (r.s.b : Int), .int .u64 (r.s.c : Int), .int .u64 (r.s.d : Int)].toList = w9 from hw9.symm]; rw [← hw9] at hQ9 hK9; clear hw9; have x0 : w9.cell? ⟨pq, 0, none⟩ = some (.int .i64 (r.t : Int)) := hQ9.cell 0; have x1 : w9.cell? ⟨pq, 1, none⟩ = some (.int .i64 (r.at_ : Int)) := hQ9.cell 1; have x2 : w9.cell? ⟨pq, 2, none⟩ = some (.int .i64 (r.n : Int)) := hQ9.cell 2; have x3 : w9.cell? ⟨pq, 3, none⟩ = some (.int .u64 (r.bi : Int)) := hQ9.cell 3; have x4 : w9.cell? ⟨pq, 4, none⟩ = some (.int .i64 (r.k : Int)) := hQ9.cell 4; have x5 : w9.cell? ⟨pq, 5, none⟩ = some (.int .u64 (r.s.a : Int)) := hQ9.cell 5; have x6 : w9.cell? ⟨pq, 6, none⟩ = some (.int .u64 (r.s.b : Int)) := hQ9.cell 6; have x7 : w9.cell? ⟨pq, 7, none⟩ = some (.int .u64 (r.s.c : Int)) := hQ9.cell 7; have x8 : w9.cell? ⟨pq, 8, none⟩ = some (.int .u64 (r.s.d : Int)) := hQ9.cell 8; have hB9 := hB8.one hK9 hqp)
 go_wp2_with ((with_reducible show wpList _ _ _ ({ dst := none, op := Op.store 58 _ _, type := _, pos := _, after := _, guard := _ } :: _) _ _); go_must (refine wpList_store_blk rfl 58 (.tmp 2) (.tmp 22) rfl pb #[.int .i64 (r.t : Int), .int .i64 (r.at_ : Int), .int .i64 (r.n : Int), .int .u64 (r.bi : Int), .int .i64 (r.k : Int), .int .u64 (r.s.a : Int), .int .u64 (r.s.b : Int), .int .u64 (r.s.c : Int), .int .u64 (r.s.d : Int)] rfl rfl 58 _ hB9 (by kernel_rfl) rfl (by kernel_rfl) ?_); intro w10 hB10 hK10)
 refine bodyPost_ret (results_cell_blk (ty := 58) rfl _ pb 58 _ _ rfl hB10 Tryz.underlying58 rfl (by kernel_rfl)) rfl ⟨rfl, ?_, ?_⟩
 · have hsz : w0.heap.size ≤ w.heap.size := by obtain ⟨b, i1, i2, i3, i4, i5, i6, i7⟩ := h; exact i7.size
   exact (hR8.one hQ8 (by decide) (by decide) (by omega) hK9).one hB9 (by decide) (by decide) (by omega) hK10
 · exact (hK78.then hK9 fun i hi e => by unfold Only at e; omega).then hK10 fun i hi e => by unfold Only at e; omega
end Go.Proofs.YtolknnmaadkgiaaGreatDoor
namespace Go.Proofs.YtolknnmaadkgiaaGreatDoor
open Go.RowKit Go.Uc
def b64 (x : UInt8) : BitVec 64 := BitVec.ofNat 64 x.toNat
theorem bv_b64 (x : UInt8) : bv x = .int .u8 (v64 (b64 x)) := by
 unfold bv v64 b64; have := x.toNat_lt; rw [BitVec.toNat_ofNat, Nat.mod_eq_of_lt (by omega)]
theorem b64_le (x : UInt8) : v64 (b64 x) ≤ 255 := by
 unfold v64 b64; have := x.toNat_lt; rw [BitVec.toNat_ofNat, Nat.mod_eq_of_lt (by omega)]; omega
def word4 (p q r s : UInt8) : BitVec 64 := b64 p ||| b64 q <<< 8 ||| b64 r <<< 16 ||| b64 s <<< 24
def Sum4.plus (s : Sum4) (x : BitVec 64) : Sum4 := ⟨s.a + x, s.b + (s.a + x), s.c + (s.b + (s.a + x)), s.d + (s.c + (s.b + (s.a + x)))⟩
def sum0 : Sum4 := ⟨0, 0, 0, 0⟩
def plusC (A B C D x : BitVec 64) : Array Value := #[.int .u64 (v64 (A + x)), .int .u64 (v64 (B + (A + x))), .int .u64 (v64 (C + (B + (A + x)))), .int .u64 (v64 (D + (C + (B + (A + x)))))]
set_option maxRecDepth 100000 in
set_option maxHeartbeats 1000000 in
theorem plus_any (s : Sum4) (p q r t : UInt8) (w : World) :
   Calls Tryz.prog 142 #[s.v, .agg #[bv p, bv q, bv r, bv t]] w fun e w' => e = .returned (s.plus (word4 p q r t)).v ∧ Keeps Non w w' := by
 obtain ⟨A, B, C, D⟩ := s
 unfold Sum4.v sv
 rw [bv_b64, bv_b64, bv_b64, bv_b64]
 have ho := or64
 have s8 : ∀ x : BitVec 64, IntKind.u64.wrap (v64 x * 256) = v64 (x <<< 8) := fun x => shl64 x 8
 have s16 : ∀ x : BitVec 64, IntKind.u64.wrap (v64 x * 65536) = v64 (x <<< 16) := fun x => shl64 x 16
 have s24 : ∀ x : BitVec 64, IntKind.u64.wrap (v64 x * 16777216) = v64 (x <<< 24) := fun x => shl64 x 24
 have hw : ∀ x : BitVec 64, IntKind.u64.wrap (v64 x) = v64 x := fun x => by rw [IntKind.wrap_u64]; have := v64_nonneg x; have := v64_le x; omega
 have ha := add64
 have l0 := v64_nonneg
 have l1 := b64_le
 go_enter Tryz.func142, Tryz.ntmps142
 go_wp2_with fail
 refine bodyPost_ret (results_cell_blk (ty := 56) rfl _ (w.heap.size + 1 + 1) 56 _ _ rfl (by have := Blk.new ((w.alloc (.cells (plusC A B C D (b64 p ||| b64 q <<< 8 ||| b64 r <<< 16 ||| b64 t <<< 24)) 56)).alloc (.cells #[.int .u8 (v64 (b64 p)), .int .u8 (v64 (b64 q)), .int .u8 (v64 (b64 r)), .int .u8 (v64 (b64 t))] 258)) 56 (plusC A B C D (b64 p ||| b64 q <<< 8 ||| b64 r <<< 16 ||| b64 t <<< 24)); simpa [plusC] using this) Tryz.underlying56 rfl (by kernel_rfl)) rfl ?_
 exact ⟨rfl, (((Keeps.refl _ _).alloc _).alloc _).alloc _⟩
structure Rn where
 s : Sum4
 p : UInt8
 q : UInt8
 r : UInt8
 t : UInt8
 k : Nat
def rn0 : Rn := ⟨sum0, 0, 0, 0, 0, 0⟩
def Rn.cells (x : Rn) : Array Value := #[.int .u64 (v64 x.s.a), .int .u64 (v64 x.s.b), .int .u64 (v64 x.s.c), .int .u64 (v64 x.s.d), bv x.p, bv x.q, bv x.r, bv x.t, .int .i64 (x.k : Int)]
def RnB (w : World) (g : Nat) (x : Rn) : Prop := Blk w g 260 x.cells
def Rn.step (x : Rn) (c : UInt8) : Rn :=
 match x.k with
 | 0 => ⟨x.s, c, x.q, x.r, x.t, 1⟩
 | 1 => ⟨x.s, x.p, c, x.r, x.t, 2⟩
 | 2 => ⟨x.s, x.p, x.q, c, x.t, 3⟩
 | _ => ⟨x.s.plus (word4 x.p x.q x.r c), 0, 0, 0, 0, 0⟩
theorem Rn.step_lt (x : Rn) (c : UInt8) : (x.step c).k < 4 := by unfold Rn.step; split <;> simp
def Rn.add (x : Rn) (bs : List UInt8) : Rn := bs.foldl Rn.step x
def Rn.value (x : Rn) : Sum4 := if x.k = 0 then x.s else x.s.plus (word4 x.p x.q x.r x.t)
theorem Rn.add_lt (bs : List UInt8) : ∀ (x : Rn), x.k < 4 → (x.add bs).k < 4 := by
 induction bs with
 | nil => exact fun _ h => h
 | cons c bs ih => exact fun x _ => ih _ (x.step_lt c)
theorem new_any (w : World) : Calls Tryz.prog 91 #[] w fun e w' => e = .returned (.pointer (some ⟨w.heap.size, 0, none⟩)) ∧ RnB w' w.heap.size rn0 ∧ Keeps Non w w' := by
 go_enter Tryz.func91, Tryz.ntmps91
 go_wp2_with fail
 go_ret
 exact ⟨rfl, Blk.new w 260 rn0.cells, (Keeps.refl _ _).alloc _⟩
set_option maxRecDepth 100000 in
set_option maxHeartbeats 1000000 in
theorem add_any (g : Nat) (x : Rn) (hx : x.k < 4) (A : Option Addr) (c : Nat) (bs : List UInt8) (w : World) (hB : RnB w g x) (hA : At w A bs) (_hc : bs.length ≤ c) (hn : bs.length ≤ 140737488351240) (hne : 0 < bs.length → ∀ ad, A = some ad → ad.block ≠ g) :
   Calls Tryz.prog 92 #[.pointer (some ⟨g, 0, none⟩), .slice A bs.length c] w fun e w' => e = .returned (.tuple #[]) ∧ RnB w' g (x.add bs) ∧ Keeps (Only g) w w' := by
 go_enter Tryz.func92, Tryz.ntmps92
 go_wp2_with fail
 go_loopw [8] (fun i wr => ∃ j : Nat, j ≤ bs.length ∧ i = .int .i64 j ∧ RnB wr g (x.add (bs.take j)) ∧ Keeps (Only g) w wr) (fun i _ => bs.length - (intOf i).toNat)
 case atStart => exact ⟨0, Nat.zero_le _, rfl, by simpa [Rn.add] using hB, Keeps.refl _ _⟩
 case round =>
   obtain ⟨j, hj, rfl, hR, hK⟩ := hrel
   by_cases hlt : j < bs.length
   · obtain ⟨bb, off, rfl, hcx⟩ := (hA.keep hK (fun ad e h => hne (by omega) ad e h)).at_ hlt
     have hlt4 := Rn.add_lt (bs.take j) x hx
     obtain ⟨y, hy⟩ : ∃ y, y = bs[j] := ⟨_, rfl⟩
     rw [← hy] at hcx
     replace hcx : wr.cell? ⟨bb, off + j, none⟩ = some (.int .u8 (y.toNat : Int)) := hcx
     have hty : (x.add (bs.take j)).step y = x.add (bs.take (j + 1)) := by
       unfold Rn.add; rw [List.take_succ_eq_append_getElem hlt, List.foldl_append, hy]; rfl
     obtain ⟨z, hz⟩ : ∃ z, z = x.add (bs.take j) := ⟨_, rfl⟩
     rw [← hz] at hR hlt4 hty
     have HZ := Lib.hid hty
     clear hz hy hty
     have j0 : (0 : Int) ≤ (j : Int) := by omega
     have j1 : (j : Int) < (bs.length : Int) := by omega
     have j2 : ((j : Int)).toNat = j := by omega
     obtain ⟨⟨SA, SB, SC, SD⟩, zp, zq, zr, zt, k⟩ := z
     obtain ⟨wx, rfl⟩ : ∃ W : World, W = wr := ⟨_, rfl⟩
     have c0 : wx.cell? ⟨g, 0, none⟩ = some (.int .u64 (v64 SA)) := Blk.cell hR 0
     have c1 : wx.cell? ⟨g, 1, none⟩ = some (.int .u64 (v64 SB)) := Blk.cell hR 1
     have c2 : wx.cell? ⟨g, 2, none⟩ = some (.int .u64 (v64 SC)) := Blk.cell hR 2
     have c3 : wx.cell? ⟨g, 3, none⟩ = some (.int .u64 (v64 SD)) := Blk.cell hR 3
     have c4 : wx.cell? ⟨g, 4, none⟩ = some (.int .u8 (zp.toNat : Int)) := Blk.cell hR 4
     have c5 : wx.cell? ⟨g, 5, none⟩ = some (.int .u8 (zq.toNat : Int)) := Blk.cell hR 5
     have c6 : wx.cell? ⟨g, 6, none⟩ = some (.int .u8 (zr.toNat : Int)) := Blk.cell hR 6
     have c7 : wx.cell? ⟨g, 7, none⟩ = some (.int .u8 (zt.toNat : Int)) := Blk.cell hR 7
     have f0 := fun i => Blk.frozen hR i
     have c8 : wx.cell? ⟨g, 8, none⟩ = some (.int .i64 (k : Int)) := Blk.cell hR 8
     match k, hlt4 with
     | 0, _ =>
       rw [show ((0 : Nat) : Int) = 0 from rfl] at c8
       go_wp2_with fail
       go_region
       all_goals
         go_wp2_with fail
         go_roundw
       case rel =>
         refine ⟨j + 1, by omega, by go_num, ?_, ?_⟩
         · rw [← HZ.out]
           exact ((Blk.set hR 4 (bv y)).drew.set 8 (.int .i64 1))
         · exact ((hK.set (p := ⟨g, 4, none⟩) rfl _).drew.set (p := ⟨g, 8, none⟩) rfl _)
       case measure => simp [intOf]; omega
     | 1, _ =>
       rw [show ((1 : Nat) : Int) = 1 from rfl] at c8
       go_wp2_with fail
       go_region
       all_goals
         go_wp2_with fail
         go_roundw
       case rel =>
         refine ⟨j + 1, by omega, by go_num, ?_, ?_⟩
         · rw [← HZ.out]
           exact ((Blk.set hR 5 (bv y)).drew.set 8 (.int .i64 2))
         · exact ((hK.set (p := ⟨g, 5, none⟩) rfl _).drew.set (p := ⟨g, 8, none⟩) rfl _)
       case measure => simp [intOf]; omega
     | 2, _ =>
       rw [show ((2 : Nat) : Int) = 2 from rfl] at c8
       go_wp2_with fail
       go_region
       all_goals
         go_wp2_with fail
         go_roundw
       case rel =>
         refine ⟨j + 1, by omega, by go_num, ?_, ?_⟩
         · rw [← HZ.out]
           exact ((Blk.set hR 6 (bv y)).drew.set 8 (.int .i64 3))
         · exact ((hK.set (p := ⟨g, 6, none⟩) rfl _).drew.set (p := ⟨g, 8, none⟩) rfl _)
       case measure => simp [intOf]; omega
     | 3, _ =>
       rw [show ((3 : Nat) : Int) = 3 from rfl] at c8
       go_wp2_with fail
       go_region
       go_wp2_with fail
       obtain ⟨wy, hwy⟩ : ∃ W : World, W = ((wx.setCell ⟨g, 7, none⟩ (.int .u8 (y.toNat : Int))).setCell ⟨g, 8, none⟩ (.int .i64 4)).drew := ⟨_, rfl⟩
       have hR2 : Blk wy g 260 #[.int .u64 (v64 SA), .int .u64 (v64 SB), .int .u64 (v64 SC), .int .u64 (v64 SD), .int .u8 (zp.toNat : Int), .int .u8 (zq.toNat : Int), .int .u8 (zr.toNat : Int), .int .u8 (y.toNat : Int), .int .i64 4] := by
         rw [hwy]; exact ((Blk.set hR 7 (bv y)).set 8 (.int .i64 4)).drew
       have hK2 : Keeps (Only g) w wy := by
         rw [hwy]; exact ((hK.set (p := ⟨g, 7, none⟩) rfl _).set (p := ⟨g, 8, none⟩) rfl _).drew
       rw [← hwy]
       clear c0 c1 c2 c3 c4 c5 c6 c7 c8 f0 hK hR hcx hwy
       clear wx
       obtain ⟨wx, rfl⟩ : ∃ W : World, W = wy := ⟨_, rfl⟩
       have c0 : wx.cell? ⟨g, 0, none⟩ = some (.int .u64 (v64 SA)) := hR2.cell 0
       have c1 : wx.cell? ⟨g, 1, none⟩ = some (.int .u64 (v64 SB)) := hR2.cell 1
       have c2 : wx.cell? ⟨g, 2, none⟩ = some (.int .u64 (v64 SC)) := hR2.cell 2
       have c3 : wx.cell? ⟨g, 3, none⟩ = some (.int .u64 (v64 SD)) := hR2.cell 3
       have c4 : wx.cell? ⟨g, 4, none⟩ = some (.int .u8 (zp.toNat : Int)) := hR2.cell 4
       have c5 : wx.cell? ⟨g, 5, none⟩ = some (.int .u8 (zq.toNat : Int)) := hR2.cell 5
       have c6 : wx.cell? ⟨g, 6, none⟩ = some (.int .u8 (zr.toNat : Int)) := hR2.cell 6
       have c7 : wx.cell? ⟨g, 7, none⟩ = some (.int .u8 (y.toNat : Int)) := hR2.cell 7
       obtain ⟨T, hT⟩ : ∃ T, T = (⟨SA, SB, SC, SD⟩ : Sum4).plus (word4 zp zq zr y) := ⟨_, rfl⟩
       have HP := Lib.hid (fun W => plus_any ⟨SA, SB, SC, SD⟩ zp zq zr y W)
       rw [← hT] at HP
       have HT := Lib.hid hT
       clear hT
       obtain ⟨TA, TB, TC, TD⟩ := T
       go_region_with (go_at_call 142; refine (HP.out _).mono ?_; rintro e w2 ⟨rfl, hKp⟩; have hR3 := (hR2.drew).non hKp; have hK3 := (hK2.drew).non hKp; have d0 := hR3.cell 0; have d1 := hR3.cell 1; have d2 := hR3.cell 2; have d3 := hR3.cell 3; have f0 := hR3.frozen 0; have f1 := hR3.frozen 1; have f2 := hR3.frozen 2; have f3 := hR3.frozen 3; simp only [Sum4.v, sv])
       all_goals
         obtain ⟨wz, hwz⟩ : ∃ W : World, W = ((((w2.setCell ⟨g, 0, none⟩ (.int .u64 (v64 TA))).setCell ⟨g, 1, none⟩ (.int .u64 (v64 TB))).setCell ⟨g, 2, none⟩ (.int .u64 (v64 TC))).setCell ⟨g, 3, none⟩ (.int .u64 (v64 TD))) := ⟨_, rfl⟩
         have hR4 : Blk wz g 260 #[.int .u64 (v64 TA), .int .u64 (v64 TB), .int .u64 (v64 TC), .int .u64 (v64 TD), .int .u8 (zp.toNat : Int), .int .u8 (zq.toNat : Int), .int .u8 (zr.toNat : Int), .int .u8 (y.toNat : Int), .int .i64 4] := by
           rw [hwz]; exact (((hR3.set 0 (.int .u64 (v64 TA))).set 1 (.int .u64 (v64 TB))).set 2 (.int .u64 (v64 TC))).set 3 (.int .u64 (v64 TD))
         have hK4 : Keeps (Only g) w wz := by
           rw [hwz]; exact (((hK3.set (p := ⟨g, 0, none⟩) rfl _).set (p := ⟨g, 1, none⟩) rfl _).set (p := ⟨g, 2, none⟩) rfl _).set (p := ⟨g, 3, none⟩) rfl _
         rw [← hwz]
         clear hwz hR3 hK3 hKp hR2 hK2 d0 d1 d2 d3 f0 f1 f2 f3 c0 c1 c2 c3 c4 c5 c6 c7
         have e4 := hR4.cell 4
         have e5 := hR4.cell 5
         have e6 := hR4.cell 6
         have e7 := hR4.cell 7
         have e8 := hR4.cell 8
         have f0 := fun i => hR4.frozen i
         go_wp2_with fail
         go_roundw
         case rel =>
           refine ⟨j + 1, by omega, by go_num, ?_, ?_⟩
           · rw [← HZ.out]
             have h5 := ((((hR4.set 4 (bv 0)).set 5 (bv 0)).set 6 (bv 0)).set 7 (bv 0)).set 8 (.int .i64 0)
             have h6 : (⟨⟨SA, SB, SC, SD⟩, zp, zq, zr, zt, 3⟩ : Rn).step y = ⟨⟨TA, TB, TC, TD⟩, 0, 0, 0, 0, 0⟩ := by rw [HT.out]; rfl
             rw [h6]
             exact h5
           · exact ((((hK4.set (p := ⟨g, 4, none⟩) rfl _).set (p := ⟨g, 5, none⟩) rfl _).set (p := ⟨g, 6, none⟩) rfl _).set (p := ⟨g, 7, none⟩) rfl _).set (p := ⟨g, 8, none⟩) rfl _
         case measure => simp [intOf]; omega
   · obtain rfl : j = bs.length := by omega
     rw [List.take_of_length_le (Nat.le_refl _)] at hR
     go_wp2_with fail
     go_end0
     exact ⟨rfl, hR, hK⟩
end Go.Proofs.YtolknnmaadkgiaaGreatDoor
namespace Go.Proofs.YtolknnmaadkgiaaGreatDoor
open Go.RowKit Go.Uc
set_option maxRecDepth 100000 in
set_option maxHeartbeats 1000000 in
theorem rnValue_any (g : Nat) (x : Rn) (hx : x.k < 4) (w : World) (hB : RnB w g x) :
   Calls Tryz.prog 93 #[.pointer (some ⟨g, 0, none⟩)] w fun e w' => e = .returned x.value.v ∧ Keeps Non w w' := by
 obtain ⟨⟨SA, SB, SC, SD⟩, p, q, r, t, k⟩ := x
 have hg := Blk.lt hB
 have hne : g ≠ w.heap.size := by omega
 have c0 : w.cell? ⟨g, 0, none⟩ = some (.int .u64 (v64 SA)) := Blk.cell hB 0
 have c1 : w.cell? ⟨g, 1, none⟩ = some (.int .u64 (v64 SB)) := Blk.cell hB 1
 have c2 : w.cell? ⟨g, 2, none⟩ = some (.int .u64 (v64 SC)) := Blk.cell hB 2
 have c3 : w.cell? ⟨g, 3, none⟩ = some (.int .u64 (v64 SD)) := Blk.cell hB 3
 have c4 : w.cell? ⟨g, 4, none⟩ = some (.int .u8 (p.toNat : Int)) := Blk.cell hB 4
 have c5 : w.cell? ⟨g, 5, none⟩ = some (.int .u8 (q.toNat : Int)) := Blk.cell hB 5
 have c6 : w.cell? ⟨g, 6, none⟩ = some (.int .u8 (r.toNat : Int)) := Blk.cell hB 6
 have c7 : w.cell? ⟨g, 7, none⟩ = some (.int .u8 (t.toNat : Int)) := Blk.cell hB 7
 have c8 : w.cell? ⟨g, 8, none⟩ = some (.int .i64 (k : Int)) := Blk.cell hB 8
 by_cases hk : k = 0
 · subst hk
   rw [show ((0 : Nat) : Int) = 0 from rfl] at c8
   go_enter Tryz.func93, Tryz.ntmps93
   go_wp2_with fail
   exact bodyPost_ret (v := (⟨SA, SB, SC, SD⟩ : Sum4).v) (results_cell_blk (ty := 56) rfl _ w.heap.size 56 _ _ rfl (Blk.new w 56 #[.int .u64 (v64 SA), .int .u64 (v64 SB), .int .u64 (v64 SC), .int .u64 (v64 SD)]) Tryz.underlying56 rfl (by kernel_rfl)) rfl ⟨rfl, (Keeps.refl _ _).alloc _⟩
 · have hk0 : ¬ (k : Int) = 0 := by omega
   obtain ⟨T, hT⟩ : ∃ T, T = (⟨SA, SB, SC, SD⟩ : Sum4).plus (word4 p q r t) := ⟨_, rfl⟩
   have HP := Lib.hid (fun W => plus_any ⟨SA, SB, SC, SD⟩ p q r t W)
   rw [← hT] at HP
   have HT : Hid ((⟨⟨SA, SB, SC, SD⟩, p, q, r, t, k⟩ : Rn).value = T) := by
     show _ = _
     rw [hT]; unfold Rn.value; rw [if_neg hk]
   clear hT
   obtain ⟨TA, TB, TC, TD⟩ := T
   go_enter Tryz.func93, Tryz.ntmps93
   go_wp2_with fail
   obtain ⟨wx, hwx⟩ : ∃ W : World, W = w.alloc (.cells #[.int .u64 0, .int .u64 0, .int .u64 0, .int .u64 0] 56) := ⟨_, rfl⟩
   have hR : Blk wx w.heap.size 56 #[.int .u64 0, .int .u64 0, .int .u64 0, .int .u64 0] := by rw [hwx]; exact Blk.new _ _ _
   have hK : Keeps Non w wx := by rw [hwx]; exact (Keeps.refl _ _).alloc _
   rw [← hwx]
   obtain ⟨b, hb⟩ : ∃ b, b = w.heap.size := ⟨_, rfl⟩
   rw [← hb] at hR hne ⊢
   have hbL : w.heap.size ≤ b := by omega
   have hB1 := Blk.non hB hK
   clear hwx hb c0 c1 c2 c3 c4 c5 c6 c7 c8 hB hg
   have c0 : wx.cell? ⟨g, 0, none⟩ = some (.int .u64 (v64 SA)) := Blk.cell hB1 0
   have c1 : wx.cell? ⟨g, 1, none⟩ = some (.int .u64 (v64 SB)) := Blk.cell hB1 1
   have c2 : wx.cell? ⟨g, 2, none⟩ = some (.int .u64 (v64 SC)) := Blk.cell hB1 2
   have c3 : wx.cell? ⟨g, 3, none⟩ = some (.int .u64 (v64 SD)) := Blk.cell hB1 3
   have c4 : wx.cell? ⟨g, 4, none⟩ = some (.int .u8 (p.toNat : Int)) := Blk.cell hB1 4
   have c5 : wx.cell? ⟨g, 5, none⟩ = some (.int .u8 (q.toNat : Int)) := Blk.cell hB1 5
   have c6 : wx.cell? ⟨g, 6, none⟩ = some (.int .u8 (r.toNat : Int)) := Blk.cell hB1 6
   have c7 : wx.cell? ⟨g, 7, none⟩ = some (.int .u8 (t.toNat : Int)) := Blk.cell hB1 7
   have c8 : wx.cell? ⟨g, 8, none⟩ = some (.int .i64 (k : Int)) := Blk.cell hB1 8
   go_region_with (go_at_call 142; refine (HP.out _).mono ?_; rintro e w2 ⟨rfl, hKp⟩; have hR3 := (hR.drew).non hKp; have hK3 := (hK.drew).non hKp; have d0 := hR3.cell 0; have d1 := hR3.cell 1; have d2 := hR3.cell 2; have d3 := hR3.cell 3; have f0 := hR3.frozen 0; have f1 := hR3.frozen 1; have f2 := hR3.frozen 2; have f3 := hR3.frozen 3; simp only [Sum4.v, sv])
   all_goals
     obtain ⟨wz, hwz⟩ : ∃ W : World, W = ((((w2.setCell ⟨b, 0, none⟩ (.int .u64 (v64 TA))).setCell ⟨b, 1, none⟩ (.int .u64 (v64 TB))).setCell ⟨b, 2, none⟩ (.int .u64 (v64 TC))).setCell ⟨b, 3, none⟩ (.int .u64 (v64 TD))) := ⟨_, rfl⟩
     have hR4 : Blk wz b 56 #[.int .u64 (v64 TA), .int .u64 (v64 TB), .int .u64 (v64 TC), .int .u64 (v64 TD)] := by
       rw [hwz]; exact (((hR3.set 0 (.int .u64 (v64 TA))).set 1 (.int .u64 (v64 TB))).set 2 (.int .u64 (v64 TC))).set 3 (.int .u64 (v64 TD))
     have hK4 : Keeps Non w wz := by
       rw [hwz]; exact (((hK3.setNew (p := ⟨b, 0, none⟩) hbL _).setNew (p := ⟨b, 1, none⟩) hbL _).setNew (p := ⟨b, 2, none⟩) hbL _).setNew (p := ⟨b, 3, none⟩) hbL _
     rw [← hwz]
     clear hwz hR3 hK3 hKp hR hK d0 d1 d2 d3 f0 f1 f2 f3 c0 c1 c2 c3 c4 c5 c6 c7
     go_wp2_with fail
     exact bodyPost_ret (v := (⟨TA, TB, TC, TD⟩ : Sum4).v) (results_cell_blk (ty := 56) rfl _ b 56 _ _ rfl hR4 Tryz.underlying56 rfl (by kernel_rfl)) rfl ⟨by rw [HT.out], hK4⟩
end Go.Proofs.YtolknnmaadkgiaaGreatDoor
namespace Go.Proofs.YtolknnmaadkgiaaGreatDoor
open Go.RowKit Go.Uc
theorem results_cell_tmp {P : Program} {w : World} {fn : Func} {p q : Tmp} {ty : TypeId} (h : fn.results = #[.cell p ty, .tmp q]) (tmps : Array Value) (g : Nat) (t : TypeId) (cs : Array Value) (d : TypeDesc)
   (hp : tmps.getD p undef = .pointer (Option.some ⟨g, 0, none⟩)) (hg : Blk w g t cs)
   (hu : P.underlying ty = Option.some d) (hd : (match d with | .struct _ | .array _ _ => true | _ => false) = true) (hi : (P.info? ty).map (·.size) = Option.some cs.size) :
   (results fn tmps).run P w = .ok (.tuple #[.agg cs, tmps.getD q undef]) w := by
 have hp' : tmps[p]?.getD undef = .pointer (some ⟨g, 0, none⟩) := by simpa using hp
 simp [results, h, hp', asAddr, run_loadVar_row w g t ty cs (0, 0) d hg hu hd hi]
def Sum4.eqv (s t : Sum4) : Bool := decide (v64 s.a = v64 t.a) && (decide (v64 s.b = v64 t.b) && (decide (v64 s.c = v64 t.c) && decide (v64 s.d = v64 t.d)))
theorem v64_inj {x y : BitVec 64} : v64 x = v64 y ↔ x = y := by
 unfold v64
 constructor
 · intro h; exact BitVec.eq_of_toNat_eq (by omega)
 · rintro rfl; rfl
theorem Sum4.eqv_iff (s t : Sum4) : s.eqv t = true ↔ s = t := by
 obtain ⟨a, b, c, d⟩ := s
 obtain ⟨a', b', c', d'⟩ := t
 simp [Sum4.eqv, v64_inj]
def Sum4.cells (s : Sum4) : Array Value := #[.int .u64 (v64 s.a), .int .u64 (v64 s.b), .int .u64 (v64 s.c), .int .u64 (v64 s.d)]
set_option maxRecDepth 100000 in
set_option maxHeartbeats 1000000 in
theorem of1_any (A : Option Addr) (c : Nat) (bs : List UInt8) (w : World) (hA : At w A bs) (hc : bs.length ≤ c) (hn : bs.length ≤ 140737488351240) :
   Calls Tryz.prog 52 #[.int .i64 1, .slice A bs.length c] w fun e w' => e = .returned (.tuple #[((rn0.add bs).value).v, .int .i64 0]) ∧ Keeps Non w w' := by
 go_enter Tryz.func52, Tryz.ntmps52
 go_wp2_with fail
 obtain ⟨wx, hwx⟩ : ∃ W : World, W = w.alloc (.cells #[.int .u64 0, .int .u64 0, .int .u64 0, .int .u64 0] 56) := ⟨_, rfl⟩
 have hR : Blk wx w.heap.size 56 sum0.cells := by rw [hwx]; exact Blk.new _ _ _
 have hK : Keeps Non w wx := by rw [hwx]; exact (Keeps.refl _ _).alloc _
 rw [← hwx]
 have hA1 := hA.non hK
 have hblt := hR.lt
 obtain ⟨b, hb⟩ : ∃ b, b = w.heap.size := ⟨_, rfl⟩
 rw [← hb] at hR hblt ⊢
 have hbL : w.heap.size ≤ b := by omega
 have hAb : ∀ ad, A = some ad → bs ≠ [] → ad.block < b := fun ad e h => by
   obtain ⟨ad', e', h'⟩ := hA.lt (List.length_pos_iff.2 h)
   rw [e] at e'; injection e' with e'; subst e'; omega
 clear hwx hb hA
 refine (new_any wx).mono ?_
 rintro e w2 ⟨rfl, hB2, hK2⟩
 have hg2 := hK2.size
 obtain ⟨g, hg⟩ : ∃ g, g = wx.heap.size := ⟨_, rfl⟩
 rw [← hg] at hB2 ⊢
 have hgb : b < g := by omega
 have hgx : wx.heap.size ≤ g := by omega
 clear hg
 have hA2 := hA1.non hK2
 have hR2 := hR.non hK2
 have hKa := hK.non hK2
 go_wp2_with fail
 refine (add_any g rn0 (by decide) A c bs w2 hB2 hA2 hc hn (fun hp ad e h => by have := hAb ad e (List.length_pos_iff.1 hp); omega)).mono ?_
 rintro e w3 ⟨rfl, hB3, hK3⟩
 have hR3 := hR2.one hK3 (by omega)
 have hKb : Keeps Non w w3 := hKa.then hK3 (fun i hi e => absurd e (by show ¬ i = g; omega))
 go_wp2_with fail
 refine (rnValue_any g _ (Rn.add_lt bs rn0 (by decide)) w3 hB3).mono ?_
 rintro e w4 ⟨rfl, hK4⟩
 have hRz := hR3.non hK4
 have hKz := hKb.non hK4
 clear hR hR2 hR3 hK hK2 hK3 hK4 hKa hKb hA1 hA2 hB2 hB3 hAb
 obtain ⟨S, hS⟩ : ∃ S, S = (rn0.add bs).value := ⟨_, rfl⟩
 have HF := Lib.hid hS
 rw [← hS]
 clear hS
 go_wp2_with ((with_reducible show wpList _ _ _ ({ dst := none, op := Op.store 56 _ _, type := _, pos := _, after := _, guard := _ } :: _) _ _); go_must (refine wpList_store_blk rfl 56 (.tmp 4) (.tmp 15) rfl b S.cells rfl rfl 56 _ hRz (by kernel_rfl) rfl (by kernel_rfl) ?_); intro w7 hR8 hK8; have hK9 : Keeps Non w w7 := hKz.then hK8 (fun i hi e => absurd e (by show ¬ i = b; omega)); clear hRz hKz hK8)
 refine bodyPost_ret (results_cell_tmp (ty := 56) rfl _ b 56 _ _ rfl hR8 Tryz.underlying56 rfl (by kernel_rfl)) rfl ⟨?_, hK9⟩
 rw [HF.out]
 rfl
set_option maxRecDepth 100000 in
set_option maxHeartbeats 1000000 in
theorem check1_any (s : Sum4) (A : Option Addr) (c : Nat) (bs : List UInt8) (w : World) (hA : At w A bs) (hc : bs.length ≤ c) (hn : bs.length ≤ 140737488351240) :
   Calls Tryz.prog 117 #[.int .i64 1, s.v, .slice A bs.length c] w fun e w' => e = .returned (.bool (s.eqv ((rn0.add bs).value))) ∧ Keeps Non w w' := by
 obtain ⟨o, ho⟩ : ∃ o, o = (rn0.add bs).value := ⟨_, rfl⟩
 have HC := fun W h1 => of1_any A c bs W h1 hc hn
 rw [← ho] at HC ⊢
 have HCh := Lib.hid HC
 clear HC ho
 obtain ⟨SA, SB, SC, SD⟩ := s
 obtain ⟨TA, TB, TC, TD⟩ := o
 rw [show (⟨SA, SB, SC, SD⟩ : Sum4).v = .agg #[.int .u64 (v64 SA), .int .u64 (v64 SB), .int .u64 (v64 SC), .int .u64 (v64 SD)] from rfl]
 go_enter Tryz.func117, Tryz.ntmps117
 go_wp2_with fail
 obtain ⟨wx, hwx⟩ : ∃ W : World, W = w.alloc (.cells #[.int .u64 (v64 SA), .int .u64 (v64 SB), .int .u64 (v64 SC), .int .u64 (v64 SD)] 56) := ⟨_, rfl⟩
 have hR : Blk wx w.heap.size 56 #[.int .u64 (v64 SA), .int .u64 (v64 SB), .int .u64 (v64 SC), .int .u64 (v64 SD)] := by rw [hwx]; exact Blk.new _ _ _
 have hK : Keeps Non w wx := by rw [hwx]; exact (Keeps.refl _ _).alloc _
 rw [← hwx]
 have hA1 := hA.non hK
 obtain ⟨b, hb⟩ : ∃ b, b = w.heap.size := ⟨_, rfl⟩
 rw [← hb] at hR ⊢
 clear hwx hb hA
 refine (HCh.out wx hA1).mono ?_
 rintro e w2 ⟨rfl, hK2⟩
 have hR2 := hR.non hK2
 have hK3 := hK.non hK2
 have hb2 := hR2.lt
 clear hR hK hK2 hA1
 have d0 := hR2.cell 0
 have d1 := hR2.cell 1
 have d2 := hR2.cell 2
 have d3 := hR2.cell 3
 simp only [Sum4.v, sv]
 go_wp2_with fail
 all_goals
   go_ret
   refine ⟨?_, hK3.alloc _⟩
   congr 2
   simp [Sum4.eqv, *]
end Go.Proofs.YtolknnmaadkgiaaGreatDoor
namespace Go.Proofs.YtolknnmaadkgiaaGreatDoor
set_option maxRecDepth 100000
open Go.RowKit Go.Uc
def fl (xs : List UInt8) : S4 := ⟨(rn0.add xs).value.a.toNat, (rn0.add xs).value.b.toNat, (rn0.add xs).value.c.toNat, (rn0.add xs).value.d.toNat⟩
theorem fl_ok (xs : List UInt8) : (fl xs).ok := ⟨BitVec.isLt _, BitVec.isLt _, BitVec.isLt _, BitVec.isLt _⟩
theorem S4.bytes_len (s : S4) : s.bytes.length = 32 := by simp [S4.bytes, le_length]
def withSum (xs : List UInt8) : List UInt8 := xs ++ (fl xs).bytes
set_option maxHeartbeats 4000000 in
theorem whole66_any {w : World} {b : Nat} {xs : List UInt8} (hb : Blk w b 5 (pc xs)) (hl : xs.length = 96) :
   Calls Tryz.prog 138 #[.slice (some ⟨b, 0, none⟩) 96 96, .int .i64 0] w fun e w' => ∃ b', e = .returned (.tuple #[.slice (some ⟨b', 0, none⟩) 128 128, .int .i64 0]) ∧ Blk w' b' 5 (pc (withSum xs)) ∧ w.heap.size ≤ b' ∧ Keeps Non w w' := by
 have HO : Hid (Calls Tryz.prog 52 #[.int .i64 1, .slice (some ⟨b, 0, none⟩) 96 96] w fun e w' => e = .returned (.tuple #[.agg (fl xs).cs, .int .i64 0]) ∧ Keeps Non w w') := Lib.hid (by
   have := of1_any (some ⟨b, 0, none⟩) 96 xs w (At.blk hb) (by omega) (by omega)
   rw [hl] at this
   exact this)
 have HNw := Lib.hid (fun V => newWriter_any 128 (by decide) V)
 have HB : Hid (∀ (V0 V : World) (g : Nat), Wr V0 V g 128 [] → Blk V b 5 (pc xs) → Calls Tryz.prog 70 #[.pointer (some ⟨g, 0, none⟩), .slice (some ⟨b, 0, none⟩) 96 96] V fun e w' => e = .returned (.tuple #[]) ∧ Wr V0 w' g 128 xs ∧ Oth V w') := Lib.hid (fun V0 V g hV hB => by
   have := bytes43_any hV (some ⟨b, 0, none⟩) 96 xs (At.blk hB) (by rw [hl]; decide) (by decide)
   rw [hl] at this
   exact this)
 have HS : Hid (∀ (V0 V : World) (g : Nat), Wr V0 V g 128 xs → Calls Tryz.prog 167 #[.pointer (some ⟨g, 0, none⟩), .agg (fl xs).cs] V fun e w' => e = .returned (.tuple #[]) ∧ Wr V0 w' g 128 (withSum xs) ∧ Oth V w') := Lib.hid (fun V0 V g hV => laySum_any hV (fl xs) (fl_ok xs) (by rw [hl]; decide) (by decide))
 have hwl : (withSum xs).length = 128 := by unfold withSum; rw [List.length_append, S4.bytes_len, hl]
 have HDn : Hid (∀ (V0 V : World) (g : Nat), Wr V0 V g 128 (withSum xs) → Calls Tryz.prog 71 #[.pointer (some ⟨g, 0, none⟩)] V fun e w' => ∃ b, e = .returned (.tuple #[.slice (some ⟨b, 0, none⟩) 128 128, .int .i64 0]) ∧ Blk w' b 5 (pc (withSum xs)) ∧ V.heap.size ≤ b ∧ Keeps Non V w') := Lib.hid (fun V0 V g hV => by
   have := done44_any hV (by rw [hwl]; decide)
   rw [hwl] at this
   exact this)
 generalize fl xs = F at HO HS
 obtain ⟨sa, sb, sc, sd⟩ := F
 unfold S4.cs at HO HS
 simp only at HO HS
 go_enter Tryz.func138, Tryz.ntmps138
 go_upto_region 4 with ((go_at_call 52; go_must (refine HO.out.mono ?_); rintro e w2 ⟨rfl, hK2⟩))
 have hBx := Blk.new w2 56 #[.int .u64 (sa : Int), .int .u64 (sb : Int), .int .u64 (sc : Int), .int .u64 (sd : Int)]
 have hka := (Keeps.refl Non w2).alloc (.cells #[.int .u64 (sa : Int), .int .u64 (sb : Int), .int .u64 (sc : Int), .int .u64 (sd : Int)] 56)
 obtain ⟨w3, hw3⟩ : ∃ V : World, V = w2.alloc (.cells #[.int .u64 (sa : Int), .int .u64 (sb : Int), .int .u64 (sc : Int), .int .u64 (sd : Int)] 56) := ⟨_, rfl⟩
 rw [← hw3] at hBx hka ⊢
 clear hw3
 obtain ⟨pb, hpb⟩ : ∃ z, z = w2.heap.size := ⟨_, rfl⟩
 rw [← hpb] at hBx ⊢
 clear hpb
 have hK3 := hK2.non hka
 have hb3 := hb.non hK3
 go_upto_region 7 with ((go_at_call 68; go_must (refine (HNw.out _).mono ?_); rintro e w4 ⟨g, rfl, hW4⟩))
 have HB4 := Lib.hid (HB.out _ _ _ hW4 (hb3.non hW4.keep))
 have hX4 := hBx.non hW4.keep
 go_upto_region 8 with ((go_at_call 70; go_must (refine HB4.out.mono ?_); rintro e w5 ⟨rfl, hW5, hY5⟩))
 have hX5 := hY5 _ _ _ hX4 (by decide) (by decide)
 have x0 : w5.cell? ⟨pb, 0, none⟩ = some (.int .u64 (sa : Int)) := hX5.cell 0
 have x1 : w5.cell? ⟨pb, 1, none⟩ = some (.int .u64 (sb : Int)) := hX5.cell 1
 have x2 : w5.cell? ⟨pb, 2, none⟩ = some (.int .u64 (sc : Int)) := hX5.cell 2
 have x3 : w5.cell? ⟨pb, 3, none⟩ = some (.int .u64 (sd : Int)) := hX5.cell 3
 have HS5 := Lib.hid (HS.out _ _ _ hW5)
 go_upto_region 9 with ((go_at_call 167; go_must (refine HS5.out.mono ?_); rintro e w6 ⟨rfl, hW6, -⟩))
 have HD6 := Lib.hid (HDn.out _ _ _ hW6)
 have hK6 := hK3.non hW6.keep
 go_wp2_with ((go_at_call 71; go_must (refine HD6.out.mono ?_); rintro e w7 ⟨b', rfl, hB7, hb7, hK7⟩))
 go_ret2
 exact ⟨b', rfl, hB7, Nat.le_trans hK6.size hb7, hK6.non hK7⟩
end Go.Proofs.YtolknnmaadkgiaaGreatDoor
