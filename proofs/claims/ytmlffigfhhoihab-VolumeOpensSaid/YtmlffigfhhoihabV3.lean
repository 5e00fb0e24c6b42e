import Derived.Test.YtmlffigfhhoihabV2
import Derived.WalkSpells
import Derived.Deep.DeepMust
namespace Go.Proofs.Ytmlffigfhhoihab
open Go.RowKit Go.Uc

/-- slices.Clone on bytes. -/
theorem clone_any (A : Option Addr) (c : Nat) (bs : List UInt8) (w : World) (hA : At w A bs) (hn : bs.length ≤ 140737488355328) :
    Calls Try.prog 26 #[.slice A bs.length c] w fun e w' => ∃ v, e = .returned v ∧ OwnB w' w.heap.size 5 v bs ∧ Keeps Non w w' := by
  have he := fun (w : World) (a : Option Addr) (n c : Nat) => Lib.run_eql_slice_nil (P := Try.prog) w 23 5 a n c 0 0 Try.underlying23
  cases A with
  | none =>
    obtain rfl : bs = [] := by
      cases bs with
      | nil => rfl
      | cons b bs => obtain ⟨ad, e, _⟩ := hA 0 (by simp); cases e
    go_enter Try.func26, Try.ntmps26
    go_wp2
    go_ret
    exact ⟨_, rfl, OwnB.nil _ _ _, Keeps.refl _ _⟩
  | some ad =>
    have hO : OwnB (w.alloc (.cells #[] 5)) w.heap.size 5 (.slice (some ⟨w.heap.size, 0, none⟩) 0 0) [] := OwnB.blk (bs := []) (xs := []) (Blk.new w 5 #[]) (Nat.le_refl _) (by simp)
    have hA2 : At (w.alloc (.cells #[] 5)) (some ad) bs := hA.non ((Keeps.refl Non w).alloc _)
    go_enter Try.func26, Try.ntmps26
    go_wp2_with (at_builtin; go_must (refine wpList_append_bytes rfl (.tmp 5) (.tmp 6) 23 rfl w.heap.size 5 Try.underlying23 info5 _ [] rfl hO (some ad) bs.length c bs rfl rfl hA2 (by simp; omega) (by simp) ?_); intro v w2 hO2 hK2 hat)
    go_ret
    exact ⟨_, rfl, by simpa using hO2, ((Keeps.refl Non w).alloc _).then hK2 fun i hi e => by have := hO.new i e; omega⟩

/-- bytes.Equal. -/
theorem equal_any (A B : Option Addr) (c d n m : Nat) (xs ys : List UInt8) (w : World) (hA : At w A xs) (hB : At w B ys) (hn : n = xs.length) (hm : m = ys.length) :
    Calls Try.prog 25 #[.slice A n c, .slice B m d] w fun e w' => e = .returned (.bool (decide (xs = ys))) ∧ w = w' := by
  subst hn hm
  have c1 := run_convert_at (P := Try.prog) (w := w) 23 9 5 Try.underlying23 Try.underlying5 Try.underlying9 A xs hA _ c rfl
  have c2 := run_convert_at (P := Try.prog) (w := w) 23 9 5 Try.underlying23 Try.underlying5 Try.underlying9 B ys hB _ d rfl
  go_enter Try.func25, Try.ntmps25
  go_wp2
  go_ret
  refine ⟨ret_bool (bool_iff ?_), rfl⟩
  simp [ByteArray.toList_eq, str]

theorem read_no (g gb : Nat) (xs : List UInt8) (at_ many : Int) (w : World) (hv : VolB w g gb 55 xs) (hl : xs.length ≤ 16384) (hw : wB xs.length at_ many = false) :
    Calls Try.prog 15 #[.pointer (some ⟨g, 0, none⟩), .int .i64 at_, .int .i64 many] w fun e w' => e = .returned (.tuple #[.slice none 0 0, .int .i64 186]) ∧ w = w' := by
  go_enter Try.func15, Try.ntmps15
  go_wp2_with (go_at_call 23; go_must (refine (within_any g gb xs _ _ _ hv hl).mono ?_; rw [hw]); rintro e w2 ⟨rfl, rfl⟩)
  go_ret2
  exact ⟨rfl, rfl⟩
theorem read_ok (g gb : Nat) (xs : List UInt8) (at_ many : Nat) (w : World) (hv : VolB w g gb 55 xs) (hl : xs.length ≤ 16384) (hw : at_ + many ≤ xs.length) :
    Calls Try.prog 15 #[.pointer (some ⟨g, 0, none⟩), .int .i64 at_, .int .i64 many] w fun e w' => ∃ v, e = .returned (.tuple #[v, .int .i64 0]) ∧ OwnB w' w.heap.size 5 v ((xs.drop at_).take many) ∧ Keeps Non w w' := by
  have hwb : wB xs.length (at_ : Int) (many : Nat) = true := by simp [wB]; omega
  have c0 : w.cell? ⟨g, 0, none⟩ = some (.slice (some ⟨gb, 0, none⟩) xs.length xs.length) := hv.1.cell 0
  have hlen : ((xs.drop at_).take many).length = many := by simp; omega
  by_cases he : xs.length = at_
  · subst he
    obtain rfl : many = 0 := by omega
    have hwb0 : wB xs.length (xs.length : Int) 0 = true := hwb
    have hcl := clone_any (some ⟨gb, 0, none⟩) 0 [] w (At.nil _ _) (by simp)
    have HC := Lib.hid hcl
    have hx : Hid ((xs.drop xs.length).take 0 = ([] : List UInt8)) := by show _ = _; simp
    clear hcl
    go_enter Try.func15, Try.ntmps15
    go_wp2_with (first
      | (go_at_call 23; go_must (refine (within_any g gb xs _ _ _ hv hl).mono ?_; rw [hwb0]); rintro e w2 ⟨rfl, rfl⟩)
      | (go_at_call 26; go_must (refine HC.out.mono ?_); rintro e w3 ⟨v, rfl, hO, hK⟩))
    go_ret2
    exact ⟨v, rfl, by rw [hx.out]; exact hO, hK⟩
  · have hcl := clone_any (some ⟨gb, at_, none⟩) (xs.length - at_) ((xs.drop at_).take many) w ((At.blkFrom hv.2.1 at_).take many) (by omega)
    rw [hlen] at hcl
    have HC := Lib.hid hcl
    clear hcl hlen
    have d1 : at_ + many ≤ xs.length := hw
    go_enter Try.func15, Try.ntmps15
    go_wp2_with (first
      | (go_at_call 23; go_must (refine (within_any g gb xs _ _ _ hv hl).mono ?_; rw [hwb]); rintro e w2 ⟨rfl, rfl⟩)
      | (go_at_call 26; go_must (refine HC.out.mono ?_); rintro e w3 ⟨v, rfl, hO, hK⟩))
    go_ret2
    exact ⟨v, rfl, hO, hK⟩
end Go.Proofs.Ytmlffigfhhoihab
