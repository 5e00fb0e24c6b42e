/- Replies; the small functions of the program: fails, Contains, goes, State, Clone. -/
import Derived.Test.YteigjlkgbpgkjaaR3
namespace Go.Proofs.Yteigjlkgbpgkjaa
open Go.RowKit Go.Uc

/-- Strings, wherever they lie. -/
def AtS (w : World) (A : Option Addr) (xs : List ByteArray) : Prop := ∀ i (h : i < xs.length), ∃ ad, A = some ad ∧ w.cell? (ad.add i) = some (.string xs[i])
section ats
variable {w w' : World} {A : Option Addr} {xs : List ByteArray}
theorem AtS.nil (w : World) (A : Option Addr) : AtS w A [] := fun i h => absurd h (by simp)
theorem AtS.keep {S : Nat → Prop} (h : AtS w A xs) (hk : Keeps S w w') (hb : ∀ ad, A = some ad → 0 < xs.length → ¬ S ad.block) : AtS w' A xs := fun i hi => by
  obtain ⟨ad, e, hc⟩ := h i hi
  exact ⟨ad, e, hk.cell hc (by rw [Addr.add_block]; exact hb ad e (by omega))⟩
theorem AtS.non (h : AtS w A xs) (hk : Keeps Non w w') : AtS w' A xs := h.keep hk fun _ _ _ e => e
theorem AtS.lt (h : AtS w A xs) (hp : 0 < xs.length) : ∃ ad, A = some ad ∧ ad.block < w.heap.size := by
  obtain ⟨ad, e, hc⟩ := h 0 hp
  have := World.block_lt_of_cell? w _ hc
  rw [Addr.add_block] at this
  exact ⟨ad, e, this⟩
theorem AtS.ats (h : AtS w A xs) : Ats w A (xs.map Value.string) := fun hp => by
  simp at hp
  have hp' : 0 < xs.length := by cases xs with
    | nil => exact absurd hp (by simp)
    | cons _ _ => simp
  obtain ⟨ad, e, _⟩ := h 0 hp'
  refine ⟨ad, e, fun j v hj => ?_⟩
  rw [List.getElem?_map] at hj
  rcases Nat.lt_or_ge j xs.length with hl | hl
  · obtain ⟨ad', e', hc⟩ := h j hl
    rw [e] at e'
    injection e' with e'
    subst e'
    rw [List.getElem?_eq_getElem hl] at hj
    simp at hj
    rw [← hj]; exact hc
  · rw [List.getElem?_eq_none hl] at hj; simp at hj
theorem AtS.at_ (h : AtS w A xs) {k : Nat} (hk : k < xs.length) : ∃ b off, A = some ⟨b, off, none⟩ ∧ w.cell? ⟨b, off + k, none⟩ = some (.string xs[k]) := by
  obtain ⟨ad, e, hc⟩ := h 0 (by omega)
  obtain ⟨ad', e', hc'⟩ := h k hk
  rw [e] at e'
  injection e' with e'
  subst e'
  obtain ⟨b, off, sp⟩ := ad
  have hs := World.cell?_spot hc
  simp [Addr.add] at hs
  subst hs
  refine ⟨b, off, e, ?_⟩
  rw [← hc']
  unfold Addr.add
  split <;> simp_all
end ats
theorem At.keep2 {S : Nat → Prop} {w w' : World} {A : Option Addr} {xs : List UInt8} (h : At w A xs) (hk : Keeps S w w') (hb : ∀ ad, A = some ad → 0 < xs.length → ¬ S ad.block) : At w' A xs := fun i hi => by
  obtain ⟨ad, e, hc⟩ := h i hi
  exact ⟨ad, e, hk.cell hc (by rw [Addr.add_block]; exact hb ad e (by omega))⟩

/-- A row of strings of the call's own. -/
def OwnS (w : World) (B : Nat) (v : Value) (xs : List ByteArray) : Prop := w.ownsRow B 9 1 v xs.length (xs.map Value.string)
theorem OwnS.nil (w : World) (B : Nat) : OwnS w B (.slice none 0 0) [] := World.ownsRow_nil _ _ _ _
theorem OwnS.keep {S : Nat → Prop} {w w' : World} {B : Nat} {v : Value} {xs : List ByteArray} (h : OwnS w B v xs) (hk : Keeps S w w') (hb : ∀ g, v.ownBlock = some g → ¬ S g) : OwnS w' B v xs := row_keep h hk hb
theorem OwnS.non {w w' : World} {B : Nat} {v : Value} {xs : List ByteArray} (h : OwnS w B v xs) (hk : Keeps Non w w') : OwnS w' B v xs := h.keep hk fun _ _ e => e
theorem row_mono {w : World} {B B' size n : Nat} {e : TypeId} {v : Value} {xs : List Value} (h : w.ownsRow B e size v n xs) (hB : B' ≤ B) : w.ownsRow B' e size v n xs := by
  rcases h.2 with h1 | ⟨g, cap, cur, rfl, h2, r⟩
  · exact ⟨h.1, .inl h1⟩
  · exact ⟨h.1, .inr ⟨g, cap, cur, rfl, Nat.le_trans hB h2, r⟩⟩
theorem OwnS.open {w : World} {B : Nat} {v : Value} {xs : List ByteArray} (h : OwnS w B v xs) : ∃ A c, v = .slice A xs.length c ∧ xs.length ≤ c ∧ AtS w A xs ∧ (∀ ad, A = some ad → B ≤ ad.block ∧ ad.block < w.heap.size ∧ v.ownBlock = some ad.block) := by
  rcases h.2 with ⟨h1, h2⟩ | ⟨g, cap, cur, rfl, h2, h3, h4, h5, h6, h7⟩
  · obtain rfl := List.eq_nil_of_length_eq_zero h2
    exact ⟨none, 0, h1, Nat.le_refl _, AtS.nil _ _, fun _ h => by cases h⟩
  · have h3' : Blk w g 9 cur := h3
    refine ⟨_, cap, rfl, h4, fun i hi => ⟨_, rfl, ?_⟩, fun ad had => ?_⟩
    · rw [show (⟨g, 0, none⟩ : Addr).add i = ⟨g, i, none⟩ from by unfold Addr.add; split <;> simp_all, h3'.cell]
      have e1 : (cur.toList.take (xs.length * 1))[i]? = some (.string xs[i]) := by rw [h7]; simp [hi]
      rw [List.getElem?_take, if_pos (by omega)] at e1
      simpa using e1
    · injection had with had
      subst had
      exact ⟨h2, h3'.lt, rfl⟩
theorem info9 : (Try.prog.info? 9).map (fun i => (i.zero, i.size, i.bytes)) = some (some (.string ByteArray.empty), 1, 16) := by kernel_rfl
theorem info5 : (Try.prog.info? 5).map (fun i => (i.zero, i.size, i.bytes)) = some (some (.int .u8 0), 1, 1) := by kernel_rfl

/-- slices.Clone on bytes. -/
theorem clone_b (A : Option Addr) (c : Nat) (bs : List UInt8) (w : World) (hA : At w A bs) (hn : bs.length ≤ 140737488355328) :
    Calls Try.prog 38 #[.slice A bs.length c] w fun e w' => ∃ v, e = .returned v ∧ OwnB w' w.heap.size 5 v bs ∧ Keeps Non w w' := by
  have he := fun (w : World) (a : Option Addr) (n c : Nat) => Lib.run_eql_slice_nil (P := Try.prog) w 35 5 a n c 0 0 Try.underlying35
  cases A with
  | none =>
    obtain rfl : bs = [] := by
      cases bs with
      | nil => rfl
      | cons b bs => obtain ⟨ad, e, _⟩ := hA 0 (by simp); cases e
    go_enter Try.func38, Try.ntmps38
    go_wp2
    go_ret
    exact ⟨_, rfl, OwnB.nil _ _ _, Keeps.refl _ _⟩
  | some ad =>
    have hO : OwnB (w.alloc (.cells #[] 5)) w.heap.size 5 (.slice (some ⟨w.heap.size, 0, none⟩) 0 0) [] := OwnB.blk (bs := []) (xs := []) (Blk.new w 5 #[]) (Nat.le_refl _) (by simp)
    have hA2 : At (w.alloc (.cells #[] 5)) (some ad) bs := hA.non ((Keeps.refl Non w).alloc _)
    go_enter Try.func38, Try.ntmps38
    go_wp2_with (at_builtin; refine wpList_append_bytes rfl (.tmp 5) (.tmp 6) 35 rfl w.heap.size 5 Try.underlying35 info5 _ [] rfl hO (some ad) bs.length c bs rfl rfl hA2 (by simp; omega) (by simp) ?_; intro v w2 hO2 hK2 hat)
    go_ret
    exact ⟨_, rfl, by simpa using hO2, ((Keeps.refl Non w).alloc _).then hK2 fun i hi e => by have := hO.new i e; omega⟩

/-- A reply, as plain data. -/
structure Rp where
  ses : Int
  id : Int
  err : Int
  num : Int
  text : ByteArray
  list : List ByteArray
  data : List UInt8
/-- No reply. -/
def Rp.none : Rp := ⟨0, 0, 0, 0, ByteArray.empty, [], []⟩
/-- Its seven cells. -/
def Rp.vals (r : Rp) (l d : Value) : List Value := [.int .i64 r.ses, .int .i64 r.id, .int .i64 r.err, .int .i64 r.num, .string r.text, l, d]
/-- It is not too long to be copied. -/
def RpB (r : Rp) : Prop := r.list.length * 16 ≤ 140737488355328 ∧ r.data.length ≤ 140737488355328
/-- Seven cells that read as a reply. -/
def RdR (w : World) (l d : Value) (r : Rp) : Prop := ∃ Al cl Ad cd, l = .slice Al r.list.length cl ∧ d = .slice Ad r.data.length cd ∧ AtS w Al r.list ∧ At w Ad r.data ∧ r.list.length ≤ cl ∧ r.data.length ≤ cd
/-- A reply in memory of the call's own. -/
def RpO (w : World) (B : Nat) (l d : Value) (r : Rp) : Prop := OwnS w B l r.list ∧ OwnB w B 5 d r.data
theorem RpO.rd {w : World} {B : Nat} {l d : Value} {r : Rp} (h : RpO w B l d r) : RdR w l d r := by
  obtain ⟨Al, cl, e1, h1, h2, _⟩ := h.1.open
  obtain ⟨Ad, cd, e2, h3, h4, _⟩ := h.2.open
  exact ⟨Al, cl, Ad, cd, e1, e2, h2, h4, h1, h3⟩
theorem RpO.non {w w' : World} {B : Nat} {l d : Value} {r : Rp} (h : RpO w B l d r) (hk : Keeps Non w w') : RpO w' B l d r := ⟨h.1.non hk, h.2.non hk⟩
theorem RpO.mono {w : World} {B B' : Nat} {l d : Value} {r : Rp} (h : RpO w B l d r) (hB : B' ≤ B) : RpO w B' l d r := ⟨row_mono h.1 hB, h.2.mono hB⟩
theorem RdR.non {w w' : World} {l d : Value} {r : Rp} (h : RdR w l d r) (hk : Keeps Non w w') : RdR w' l d r := by
  obtain ⟨Al, cl, Ad, cd, e1, e2, h1, h2, h3⟩ := h
  exact ⟨Al, cl, Ad, cd, e1, e2, h1.non hk, h2.non hk, h3⟩

theorem Blk.apart {w : World} {B size g n : Nat} {e t : TypeId} {u : Value} {vs : List Value} {cs : Array Value} (h : Blk w g t cs) (r : w.ownsRow B e size u n vs) (hne : t ≠ e) : ∀ k, u.ownBlock = some k → k ≠ g := by
  intro k hk hkg
  subst hkg
  rcases r.2 with ⟨rfl, _⟩ | ⟨g1, c1, cu1, rfl, _, hh1, _⟩
  · cases hk
  · simp [Value.ownBlock] at hk
    subst hk
    unfold Blk at h
    rw [h] at hh1
    injection hh1 with hh1
    injection hh1 with _ hh1
    exact hne hh1

/-- The block of a replica. -/
theorem RepS.blk {w : World} {g : Nat} {on : Option Nat} {j : Job} {x : St} {pv : Value} (h : RepS w g on j x pv) :
    ∃ d steps, Blk w g 62 (repC d 0 steps j x pv) ∧ ∀ w' x' pv', Keeps (Only g) w w' → Blk w' g 62 (repC d 0 steps j x' pv') → RepS w' g on j x' pv' := by
  rcases h with ⟨rfl, h⟩ | ⟨gs, rfl, h, h2⟩
  · exact ⟨0, _, h, fun w' x' pv' _ hb => .inl ⟨rfl, hb⟩⟩
  · exact ⟨1, _, h, fun w' x' pv' hk hb => .inr ⟨gs, rfl, hb, h2.one hk (h2.ne h (by decide))⟩⟩
theorem RepS.keep {w w' : World} {S : Nat → Prop} {g : Nat} {on : Option Nat} {j : Job} {x : St} {pv : Value} (h : RepS w g on j x pv) (hk : Keeps S w w') (hg : ¬ S g) (ho : ∀ gs, on = some gs → ¬ S gs) : RepS w' g on j x pv := by
  rcases h with ⟨h1, h⟩ | ⟨gs, h1, h, h2⟩
  · exact .inl ⟨h1, h.keep hk hg⟩
  · exact .inr ⟨gs, h1, h.keep hk hg, h2.keep hk (ho gs h1)⟩
theorem RepS.non {w w' : World} {g : Nat} {on : Option Nat} {j : Job} {x : St} {pv : Value} (h : RepS w g on j x pv) (hk : Keeps Non w w') : RepS w' g on j x pv := h.keep hk id fun _ _ e => e
theorem RepS.lt {w : World} {g : Nat} {on : Option Nat} {j : Job} {x : St} {pv : Value} (h : RepS w g on j x pv) : g < w.heap.size := by
  obtain ⟨d, steps, hb, -⟩ := h.blk
  exact hb.lt

section small
variable {g : Nat} {on : Option Nat} {j : Job} {x : St} {pv : Value}
theorem fails_any (e : Int) (w : World) (h : RepS w g on j x pv) :
    Calls Try.prog 15 #[.pointer (some ⟨g, 0, none⟩), .int .i64 e] w fun en w' => en = .returned (.tuple #[]) ∧ RepS w' g on j { x with how := 2, why := e } pv ∧ Keeps (Only g) w w' := by
  obtain ⟨d, steps, hb, hc⟩ := h.blk
  have c17 : w.cell? ⟨g, 17, none⟩ = some (.int .i64 x.how) := hb.cell 17
  have c18 : w.cell? ⟨g, 18, none⟩ = some (.int .i64 x.why) := hb.cell 18
  have f17 := hb.frozen 17
  have f18 := hb.frozen 18
  have hk : Keeps (Only g) w ((w.setCell ⟨g, 17, none⟩ (.int .i64 2)).setCell ⟨g, 18, none⟩ (.int .i64 e)) := ((Keeps.refl (Only g) w).set (p := ⟨g, 17, none⟩) rfl _).set (p := ⟨g, 18, none⟩) rfl _
  have FIN := Lib.hid (And.intro (hc _ { x with how := 2, why := e } pv hk ((hb.set 17 (.int .i64 2)).set 18 (.int .i64 e))) hk)
  clear hb h hc hk
  go_enter Try.func15, Try.ntmps15
  go_wp2
  go_end0
  exact ⟨rfl, FIN.out⟩
set_option maxHeartbeats 1000000 in
theorem state_any (w : World) (h : RepS w g on j x pv) :
    Calls Try.prog 12 #[.pointer (some ⟨g, 0, none⟩)] w fun en w' => en = .returned (.tuple #[.int .i64 x.how, .int .i64 x.has, .int .i64 x.why]) ∧ Keeps Non w w' := by
  obtain ⟨d, steps, hb, hc⟩ := h.blk
  have c17 : w.cell? ⟨g, 17, none⟩ = some (.int .i64 x.how) := hb.cell 17
  have c18 : w.cell? ⟨g, 18, none⟩ = some (.int .i64 x.why) := hb.cell 18
  have c14 : w.cell? ⟨g, 14, none⟩ = some (.int .i64 x.has) := hb.cell 14
  clear hb h hc
  go_enter Try.func12, Try.ntmps12
  go_wp2_with fail
  go_quiet (fail)
  go_wp2_with fail
  go_ret3
  exact ⟨rfl, (Keeps.refl _ _).drewN _⟩
theorem contains_nil (e : Int) (w : World) : Calls Try.prog 43 #[.slice none 0 0, .int .i64 e] w fun en w' => en = .returned (.bool false) ∧ w' = w := by
  have hi : Calls Try.prog 52 #[.slice none 0 0, .int .i64 e] w fun en w' => en = .returned (.int .i64 (-1)) ∧ w' = w := by
    go_enter Try.func52, Try.ntmps52
    go_wp2
    go_loopw [5, 8] (fun _ i wr => i = .int .i64 0 ∧ wr = w) (fun _ i _ => 0 - (intOf i).toNat)
    case atStart => exact ⟨rfl, rfl⟩
    case round =>
      obtain ⟨rfl, rfl⟩ := hrel
      go_wp2
      go_ret
      exact ⟨rfl, rfl⟩
  go_enter Try.func43, Try.ntmps43
  go_wp2_with fail
  refine hi.mono ?_
  rintro en w' ⟨rfl, rfl⟩
  go_wp2
  go_ret
  exact ⟨rfl, rfl⟩
theorem contains_one (v e : Int) (q : Nat) (w : World) (hq : w.cell? ⟨q, 0, none⟩ = some (.int .i64 v)) : Calls Try.prog 43 #[.slice (some ⟨q, 0, none⟩) 1 1, .int .i64 e] w fun en w' => en = .returned (.bool (decide (e = v))) ∧ w' = w := by
  by_cases hev : e = v
  · have hi : Calls Try.prog 52 #[.slice (some ⟨q, 0, none⟩) 1 1, .int .i64 e] w fun en w' => en = .returned (.int .i64 0) ∧ w' = w := by
      have hb : (e == v) = true := by rw [hev]; simp
      clear hev
      go_enter Try.func52, Try.ntmps52
      go_wp2
      go_loopw [5, 8] (fun _ i wr => i = .int .i64 0 ∧ wr = w) (fun _ i _ => 0 - (intOf i).toNat)
      case atStart => exact ⟨rfl, rfl⟩
      case round =>
        obtain ⟨rfl, rfl⟩ := hrel
        go_wp2
        go_ret
        exact ⟨rfl, rfl⟩
    have HE := Lib.hid hev
    clear hev
    go_enter Try.func43, Try.ntmps43
    go_wp2_with fail
    refine hi.mono ?_
    rintro en w' ⟨rfl, rfl⟩
    go_wp2
    go_ret
    exact ⟨ret_bool (by simp [HE.out]), rfl⟩
  · have hi : Calls Try.prog 52 #[.slice (some ⟨q, 0, none⟩) 1 1, .int .i64 e] w fun en w' => en = .returned (.int .i64 (-1)) ∧ w' = w := by
      have hb : (e == v) = false := by rw [beq_eq_false_iff_ne]; exact hev
      clear hev
      go_enter Try.func52, Try.ntmps52
      go_wp2
      go_loopw [5, 8] (fun _ i wr => (i = .int .i64 0 ∨ i = .int .i64 1) ∧ wr = w) (fun _ i _ => 1 - (intOf i).toNat)
      case atStart => exact ⟨.inl rfl, rfl⟩
      case round =>
        obtain ⟨rfl | rfl, rfl⟩ := hrel
        · go_wp2
          go_roundw
          case rel => exact ⟨.inr (by go_num), by first | rfl | trivial⟩
          case measure => simp [intOf]
        · go_wp2
          go_ret
          exact ⟨rfl, rfl⟩
    have HE := Lib.hid hev
    clear hev
    go_enter Try.func43, Try.ntmps43
    go_wp2_with fail
    refine hi.mono ?_
    rintro en w' ⟨rfl, rfl⟩
    go_wp2
    go_ret
    exact ⟨ret_bool (by simp [HE.out]), rfl⟩
end small
end Go.Proofs.Yteigjlkgbpgkjaa
