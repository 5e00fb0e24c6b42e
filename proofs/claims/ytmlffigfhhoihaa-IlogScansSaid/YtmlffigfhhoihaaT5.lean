import Derived.Test.YtmlffigfhhoihaaT3
import Derived.Test.YtmlffigfhhoihaaT4
namespace Go.Proofs.Ytmlffigfhhoihaa
open Go.RowKit Go.Uc

def recsTo (base next : Nat) (bs : List UInt8) : Nat → List UInt8
  | 0 => []
  | k + 1 => recsTo base next bs k ++ pieceB base next k bs
def recB (base next : Nat) (bs : List UInt8) : List UInt8 := recsTo base next bs (pieces bs.length)
theorem recsTo_length (base next : Nat) (bs : List UInt8) (k : Nat) : (recsTo base next bs k).length = 88 * k := by
  induction k with
  | zero => rfl
  | succ k ih => rw [recsTo, List.length_append, ih, pieceB_length]; omega
theorem recB_length (base next : Nat) (bs : List UInt8) : (recB base next bs).length = 88 * pieces bs.length := recsTo_length _ _ _ _

theorem append_long (g c : Nat) (bs : List UInt8) (A : Option Addr) (w : World) (hn : 4096 < bs.length) (h64 : bs.length ≤ 140737488351232) :
    Calls Try.prog 11 #[.pointer (some ⟨g, 0, none⟩), .slice A bs.length c] w fun e w' => e = .returned (.tuple #[.int .i64 0, .slice none 0 0, .int .i64 2]) ∧ w = w' := by
  go_enter Try.func11, Try.ntmps11
  go_wp2
  go_ret3
  exact ⟨rfl, rfl⟩
theorem append_full (g c base at_ next : Nat) (bs : List UInt8) (A : Option Addr) (w : World) (hb : LogB w g 53 base at_ next) (ha : at_ ≤ 22528) (hn : bs.length ≤ 4096) (hr : roomB at_ bs.length = false) :
    Calls Try.prog 11 #[.pointer (some ⟨g, 0, none⟩), .slice A bs.length c] w fun e w' => e = .returned (.tuple #[.int .i64 0, .slice none 0 0, .int .i64 161]) ∧ Keeps Non w w' := by
  go_enter Try.func11, Try.ntmps11
  go_wp2_with (go_at_call 24; refine (room_any _ _ _ _ _ _ hb ha).mono ?_; rintro e w' ⟨rfl, n1, rfl⟩)
  go_ret3
  exact ⟨rfl, (Keeps.refl _ _).drewN _⟩

theorem log_two {w : World} {g t base a n a' n' : Nat} {x y : Int} (h : LogB w g t base a n) (hx : x = a') (hy : y = n') :
    LogB ((w.setCell ⟨g, 1, none⟩ (.int .i64 x)).setCell ⟨g, 2, none⟩ (.int .i64 y)) g t base a' n' := by
  subst hx hy
  exact (Blk.set (Blk.set h 1 _) 2 _)
theorem set_two (w : World) (g : Nat) (u v : Value) : Keeps (Only g) w ((w.setCell ⟨g, 1, none⟩ u).setCell ⟨g, 2, none⟩ v) :=
  ((Keeps.refl (Only g) w).set (p := ⟨g, 1, none⟩) rfl _).set (p := ⟨g, 2, none⟩) rfl _
theorem append_step {w0 wr w1 w2 : World} {v : Value} {xs ys : List UInt8} {B : Nat} {o : Obj} (hO : OwnB wr B 5 v xs) (hK : Keeps Non w0 wr) (hK1 : Keeps Non wr w1) (hK2 : Keeps (Only w1.heap.size) (w1.alloc o) w2) (hB2 : Blk w2 w1.heap.size 59 (pc ys)) :
    OwnB w2 B 5 v xs ∧ At w2 (some ⟨w1.heap.size, 0, none⟩) ys ∧ Keeps Non w0 w2 := by
  have h1 : Keeps Non wr w2 := (hK1.alloc o).then hK2 fun i hi e => by have := hK1.size; unfold Only at e; omega
  exact ⟨hO.non h1, At.blk hB2, hK.trans h1⟩

set_option maxRecDepth 10000 in
set_option maxHeartbeats 1000000 in
theorem append_ok (g c base at_ next : Nat) (bs : List UInt8) (A : Option Addr) (w : World) (hb : LogB w g 53 base at_ next) (ha : at_ ≤ 22528) (hn : bs.length ≤ 4096) (hr : roomB at_ bs.length = true)
    (hA : At w A bs) (hc : bs.length ≤ c) (hbase : base ≤ 281474976710656) (hnext : next ≤ 100000) :
    Calls Try.prog 11 #[.pointer (some ⟨g, 0, none⟩), .slice A bs.length c] w fun e w' => ∃ v, e = .returned (.tuple #[.int .i64 at_, v, .int .i64 0]) ∧ OwnB w' w.heap.size 5 v (recB base next bs) ∧
      LogB w' g 53 base (at_ + 88 * pieces bs.length) (next + 1) ∧ Keeps (Only g) w w' := by
  have hp := pieces_le bs.length hn
  have hg := Blk.lt hb
  go_enter Try.func11, Try.ntmps11
  go_wp2_with (first
    | (go_at_call 24; refine (room_any _ _ _ _ _ _ hb ha).mono ?_; rintro e w' ⟨rfl, n1, rfl⟩)
    | (go_at_call 25; refine (pieces_any _ _ (by omega)).mono ?_; rintro e w' ⟨rfl, rfl⟩))
  obtain ⟨w0, hw0⟩ : ∃ w0, w0 = w.drewN n1 := ⟨_, rfl⟩
  have hK0 : Keeps Non w w0 := by rw [hw0]; exact (Keeps.refl _ _).drewN _
  rw [← hw0]
  clear hw0
  have hs0 := hK0.size
  have HA := Lib.hid (hA.non hK0)
  have hb0 := Blk.non hb hK0
  clear hA hb
  go_loopw [7, 24] (fun v i wr => ∃ k : Nat, k ≤ pieces bs.length ∧ i = .int .i64 k ∧ OwnB wr w0.heap.size 5 v (recsTo base next bs k) ∧ Keeps Non w0 wr) (fun _ i _ => pieces bs.length - (intOf i).toNat)
  case atStart => exact ⟨0, Nat.zero_le _, rfl, OwnB.nil _ _ _, Keeps.refl _ _⟩
  case round =>
    obtain ⟨k, hk, rfl, hO, hK⟩ := hrel
    have hz := zero59
    have hsz := hK.size
    by_cases hlt : k < pieces bs.length
    · have hbr := Blk.non hb0 hK
      have hAr := HA.out.non hK
      go_wp2_with (first
        | (go_at_call 26; refine (laid_any g base at_ next k c bs A _ hbr hn (by omega) hc hAr (by omega) (by omega)).mono ?_; rintro e w1 ⟨rfl, hK1⟩)
        | ((with_reducible show wpList _ _ _ ({ dst := none, op := Op.store 59 _ _, type := _, pos := _, after := _, guard := _ } :: _) _ _); refine wpList_store_blk rfl 59 (.tmp 9) (.tmp 30) rfl w1.heap.size (pc (pieceB base next k bs)) rfl rfl 59 (pc (zeros 88)) (Blk.new _ _ _) (by rw [pc_size, pieceB_length]; kernel_rfl) (by rw [pc_size, pc_size, pieceB_length, zeros_length]) (pc_all _) ?_; intro w2 hB2 hK2)
        | (at_builtin; obtain ⟨hO2, hA2, hK3⟩ := append_step hO hK hK1 hK2 hB2; refine wpList_append_bytes rfl (.tmp 31) (.tmp 32) 31 rfl w0.heap.size 5 Try.underlying31 info5 _ (recsTo base next bs k) rfl hO2 (some ⟨w1.heap.size, 0, none⟩) 88 88 (pieceB base next k bs) rfl (pieceB_length _ _ _ _).symm hA2 (by rw [recsTo_length, pieceB_length]; omega) (by have := hK3.size; omega) ?_; intro v' w3 hO3 hK4 hat))
      go_roundw
      case rel => exact ⟨k + 1, by omega, by go_num, hO3, hK3.then hK4 fun i hi e => by have := hO.new i e; omega⟩
      case measure => simp [intOf]; omega
    · obtain rfl : k = pieces bs.length := by omega
      obtain ⟨A2, c2, rfl, hc2, _, hA2⟩ := hO.open
      rw [recsTo_length] at *
      have hbr := Blk.non hb0 hK
      have c1 : wr.cell? ⟨g, 1, none⟩ = some (.int .i64 at_) := hbr.cell 1
      have c2 : wr.cell? ⟨g, 2, none⟩ = some (.int .i64 next) := hbr.cell 2
      have f1 := Blk.frozen hbr 1
      have f2 := Blk.frozen hbr 2
      go_wp2
      go_ret3
      refine ⟨_, rfl, OwnB.mono ?_ hs0, log_two hbr (by omega) (by omega), ((hK0.trans hK).of_non).trans (set_two _ _ _ _)⟩
      rw [← recsTo_length base next bs] at hO ⊢
      exact hO.keep (set_two _ _ _ _) fun i e => by have := hO.new i e; unfold Only; omega
end Go.Proofs.Ytmlffigfhhoihaa
