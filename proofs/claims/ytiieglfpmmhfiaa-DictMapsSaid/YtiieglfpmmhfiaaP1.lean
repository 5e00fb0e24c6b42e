/- Dictionaries, plainly: names in order, leaves, the table. -/
import Derived.Test.YtiieglfpmmhfiaaWd
import Derived.Sort.Walk0
import Derived.Lib.Bytealg
namespace Go.Proofs.Ytiieglfpmmhfiaa
open Go.Uc

/-- A name and its value. -/
structure Ent where
  name : List UInt8
  val : Int
theorem Ent.ext' {a b : Ent} (h1 : a.name = b.name) (h2 : a.val = b.val) : a = b := by cases a; cases b; simp_all
def encE (e : Ent) : List Value := [.string (str e.name), .int .i64 e.val]
theorem encE_len (e : Ent) : (encE e).length = 2 := rfl
theorem encE_one (e : Ent) : ∀ u ∈ encE e, u.oneCell' = true := by
  intro u hu
  simp [encE] at hu
  rcases hu with rfl | rfl <;> rfl
/-- A leaf. -/
structure Leaf where
  depth : Nat
  l : List Ent
structure Dic where
  small : Bool
  depth : Nat
  table : List Nat
  leaves : List Leaf

/-- Names by their bytes. -/
def lt (a b : List UInt8) : Bool := Op.bytesLess a b
theorem lt_iff (a b : List UInt8) : lt a b = true ↔ a < b := by unfold lt; rw [bytesLess_eq]; simp
theorem lt_irrefl (a : List UInt8) : lt a a = false := by
  rw [Bool.eq_false_iff]; intro h; exact List.lt_irrefl a ((lt_iff a a).1 h)
theorem lt_trans {a b c : List UInt8} (h1 : lt a b = true) (h2 : lt b c = true) : lt a c = true := by
  rw [lt_iff] at *; exact List.lt_trans h1 h2
theorem lt_asymm {a b : List UInt8} (h : lt a b = true) : lt b a = false := by
  rw [Bool.eq_false_iff]; intro h2
  have := lt_trans h h2
  rw [lt_irrefl] at this; cases this
theorem lt_tri (a b : List UInt8) (h1 : lt a b = false) (h2 : lt b a = false) : a = b := by
  rw [Bool.eq_false_iff, ne_eq, lt_iff] at h1 h2
  exact List.le_antisymm (List.not_lt.1 h2) (List.not_lt.1 h1)
theorem lt_ne {a b : List UInt8} (h : lt a b = true) : a ≠ b := by rintro rfl; rw [lt_irrefl] at h; cases h
theorem cmp_neg (a b : List UInt8) : Lib.compareBytes a b < 0 ↔ lt a b = true := by
  rw [lt_iff]
  induction a generalizing b with
  | nil => cases b <;> simp [Lib.compareBytes]
  | cons x a ih =>
    cases b with
    | nil => simp [Lib.compareBytes]
    | cons y b =>
      unfold Lib.compareBytes
      rw [List.cons_lt_cons_iff]
      by_cases h1 : x < y
      · simp [h1]
      · by_cases h2 : y < x
        · have : x ≠ y := fun e => by subst e; exact h1 h2
          simp [h1, h2, this]
        · have : x = y := UInt8.le_antisymm (UInt8.not_lt.1 h2) (UInt8.not_lt.1 h1)
          subst this
          simp [h1, ih]
theorem cmp_zero (a b : List UInt8) : Lib.compareBytes a b = 0 ↔ a = b := by
  induction a generalizing b with
  | nil => cases b <;> simp [Lib.compareBytes]
  | cons x a ih =>
    cases b with
    | nil => simp [Lib.compareBytes]
    | cons y b =>
      unfold Lib.compareBytes
      by_cases h1 : x < y
      · have : x ≠ y := fun e => by subst e; exact UInt8.lt_irrefl _ h1
        simp [h1, this]
      · by_cases h2 : y < x
        · have : x ≠ y := fun e => by subst e; exact h1 h2
          simp [h1, h2, this]
        · have : x = y := UInt8.le_antisymm (UInt8.not_lt.1 h2) (UInt8.not_lt.1 h1)
          subst this
          simp [h1, ih]

/-- By rising names. -/
def Srt (l : List Ent) : Prop := l.Pairwise fun a b => lt a.name b.name = true
def has (l : List Ent) (n : List UInt8) : Bool := l.any fun x => x.name == n
/-- Where a name is, or would be. -/
def lb (l : List Ent) (n : List UInt8) : Nat := (l.filter fun x => lt x.name n).length
/-- With one more, or another value. -/
def ins (l : List Ent) (e : Ent) : List Ent := (l.filter fun x => lt x.name e.name) ++ e :: l.filter fun x => lt e.name x.name
def drp (l : List Ent) (n : List UInt8) : List Ent := l.filter fun x => x.name != n
def getE (l : List Ent) (n : List UInt8) : Option Int := (l.find? fun x => x.name == n).map (·.val)
theorem lb_le (l : List Ent) (n : List UInt8) : lb l n ≤ l.length := List.length_filter_le _ _
/-- A row in order parts at a name. -/
theorem srt_split {l : List Ent} (hs : Srt l) (n : List UInt8) : l = (l.filter fun x => lt x.name n) ++ l.filter fun x => !lt x.name n := by
  induction l with
  | nil => rfl
  | cons x l ih =>
    have h1 := List.pairwise_cons.1 hs
    by_cases hx : lt x.name n = true
    · rw [List.filter_cons_of_pos (by simpa using hx), List.filter_cons_of_neg (by simpa using hx), List.cons_append, ← ih h1.2]
    · have hall : ∀ y ∈ l, lt y.name n = false := fun y hy => by
        rw [Bool.eq_false_iff]; intro h; exact hx (lt_trans (h1.1 y hy) h)
      rw [List.filter_cons_of_neg (by simpa using hx), List.filter_cons_of_pos (by simpa using hx), List.filter_eq_nil_iff.2 (fun y hy => by rw [hall y hy]; simp), List.filter_eq_self.2 (fun y hy => by rw [hall y hy]; rfl)]
      rfl
theorem srt_take {l : List Ent} (hs : Srt l) (n : List UInt8) : l.take (lb l n) = l.filter fun x => lt x.name n := by
  have h := srt_split hs n
  have h2 : ((l.filter fun x => lt x.name n) ++ l.filter fun x => !lt x.name n).take (lb l n) = l.filter fun x => lt x.name n := List.take_left' rfl
  rw [← h] at h2
  exact h2
theorem srt_drop {l : List Ent} (hs : Srt l) (n : List UInt8) : l.drop (lb l n) = l.filter fun x => !lt x.name n := by
  have h := srt_split hs n
  have h2 : ((l.filter fun x => lt x.name n) ++ l.filter fun x => !lt x.name n).drop (lb l n) = l.filter fun x => !lt x.name n := List.drop_left' rfl
  rw [← h] at h2
  exact h2
theorem lb_lt {l : List Ent} (hs : Srt l) (n : List UInt8) {k : Nat} (hk : k < l.length) : lt l[k].name n = true ↔ k < lb l n := by
  constructor
  · intro h
    rcases Nat.lt_or_ge k (lb l n) with h1 | h1
    · exact h1
    · exfalso
      have hm : l[k] ∈ l.drop (lb l n) := by
        rw [List.mem_drop_iff_getElem]
        exact ⟨k - lb l n, by omega, by congr 1; omega⟩
      rw [srt_drop hs] at hm
      have := (List.mem_filter.1 hm).2
      rw [h] at this; cases this
  · intro h
    have hm : l[k] ∈ l.take (lb l n) := by
      rw [List.mem_take_iff_getElem]
      exact ⟨k, by omega, rfl⟩
    rw [srt_take hs] at hm
    exact (List.mem_filter.1 hm).2
theorem has_lb {l : List Ent} (hs : Srt l) (n : List UInt8) : has l n = true ↔ ∃ h : lb l n < l.length, l[lb l n].name = n := by
  constructor
  · intro h
    obtain ⟨x, hx, he⟩ := List.any_eq_true.1 h
    have he : x.name = n := by simpa using he
    obtain ⟨k, hk, rfl⟩ := List.getElem_of_mem hx
    have h1 : ¬ k < lb l n := fun h => lt_ne ((lb_lt hs n hk).2 h) he
    have h2 : k ≤ lb l n := by
      rcases Nat.lt_or_ge (lb l n) k with h3 | h3
      · exfalso
        have hp := List.pairwise_iff_getElem.1 hs (lb l n) k (by omega) hk h3
        rw [he] at hp
        exact absurd ((lb_lt hs n (by omega)).1 hp) (by omega)
      · exact h3
    obtain rfl : lb l n = k := by omega
    exact ⟨hk, he⟩
  · rintro ⟨h, he⟩
    exact List.any_eq_true.2 ⟨_, List.getElem_mem h, by simpa using he⟩
/-- With the name there, its place is put anew. -/
theorem ins_set {l : List Ent} (hs : Srt l) (e : Ent) (h : has l e.name = true) : l.set (lb l e.name) e = ins l e := by
  obtain ⟨hl, he⟩ := (has_lb hs e.name).1 h
  have h1 : l.set (lb l e.name) e = l.take (lb l e.name) ++ e :: l.drop (lb l e.name + 1) := List.set_eq_take_append_cons_drop.trans (if_pos hl)
  rw [h1, srt_take hs]
  unfold ins
  congr 2
  have h2 : l.drop (lb l e.name) = l[lb l e.name] :: l.drop (lb l e.name + 1) := List.drop_eq_getElem_cons hl
  have h3 := srt_drop hs e.name
  rw [h2] at h3
  have hd : (l.drop (lb l e.name)).Pairwise fun a b => lt a.name b.name = true := List.Pairwise.sublist (List.drop_sublist _ _) hs
  rw [h2] at hd
  have hd2 := (List.pairwise_cons.1 hd).1
  rw [he] at hd2
  have h4 : (l.filter fun x => lt e.name x.name) = (l.filter fun x => !lt x.name e.name).filter fun x => lt e.name x.name := by
    rw [List.filter_filter]
    congr 1
    funext x
    cases h : lt e.name x.name
    · rfl
    · rw [lt_asymm h]; rfl
  rw [h4, ← h3, List.filter_cons_of_neg (by rw [he, lt_irrefl]; simp), List.filter_eq_self.2 hd2]
/-- Without it, it goes in between. -/
theorem ins_mid {l : List Ent} (hs : Srt l) (e : Ent) (h : has l e.name = false) : l.take (lb l e.name) ++ e :: l.drop (lb l e.name) = ins l e := by
  rw [srt_take hs, srt_drop hs]
  unfold ins
  congr 2
  apply List.filter_congr
  intro x hx
  cases h1 : lt x.name e.name
  · cases h2 : lt e.name x.name
    · have := lt_tri _ _ h1 h2
      have h3 : has l e.name = true := List.any_eq_true.2 ⟨x, hx, by simpa using this⟩
      rw [h3] at h; cases h
    · rfl
  · rw [lt_asymm h1]; rfl
theorem ins_srt {l : List Ent} (hs : Srt l) (e : Ent) : Srt (ins l e) := by
  unfold ins Srt
  rw [List.pairwise_append]
  refine ⟨List.Pairwise.sublist List.filter_sublist hs, ?_, ?_⟩
  · rw [List.pairwise_cons]
    exact ⟨fun x hx => (List.mem_filter.1 hx).2, List.Pairwise.sublist List.filter_sublist hs⟩
  · intro a ha b hb
    have h1 := (List.mem_filter.1 ha).2
    rcases List.mem_cons.1 hb with rfl | hb
    · exact h1
    · exact lt_trans h1 (List.mem_filter.1 hb).2
theorem drp_srt {l : List Ent} (hs : Srt l) (n : List UInt8) : Srt (drp l n) := List.Pairwise.sublist List.filter_sublist hs
theorem drp_lb {l : List Ent} (hs : Srt l) (n : List UInt8) (h : has l n = true) : l.take (lb l n) ++ l.drop (lb l n + 1) = drp l n := by
  obtain ⟨hl, he⟩ := (has_lb hs n).1 h
  have h2 : l.drop (lb l n) = l[lb l n] :: l.drop (lb l n + 1) := List.drop_eq_getElem_cons hl
  have hd : (l.drop (lb l n)).Pairwise fun a b => lt a.name b.name = true := List.Pairwise.sublist (List.drop_sublist _ _) hs
  rw [h2] at hd
  have hd2 := (List.pairwise_cons.1 hd).1
  rw [he] at hd2
  have h3 : drp l n = drp (l.take (lb l n)) n ++ drp (l.drop (lb l n)) n := by
    unfold drp; rw [← List.filter_append, List.take_append_drop]
  rw [h3, h2]
  congr 1
  · unfold drp
    rw [List.filter_eq_self.2]
    intro x hx
    rw [srt_take hs] at hx
    have := lt_ne (List.mem_filter.1 hx).2
    simpa using this
  · unfold drp
    rw [List.filter_cons_of_neg (by simp [he]), List.filter_eq_self.2]
    intro x hx
    have := lt_ne (hd2 x hx)
    simpa using fun h => this h.symm
/-- How many bytes entries take. -/
def roomE (l : List Ent) : Nat := (l.map fun x => 5 + x.name.length).sum
def fitE (l : List Ent) : Bool := decide (3 + roomE l ≤ 256)
theorem roomE_app (a b : List Ent) : roomE (a ++ b) = roomE a + roomE b := by simp [roomE]
/-- What a name is laid by. -/
def hashS (h : BitVec 32) (c : UInt8) : BitVec 32 := (h ^^^ BitVec.ofNat 32 c.toNat) * 16777619#32
def hash0 (n : List UInt8) : BitVec 32 := n.foldl hashS 2166136261#32
def hashB (n : List UInt8) : BitVec 32 := hash0 n ^^^ (hash0 n >>> 16)
def hash (n : List UInt8) : Nat := (hashB n).toNat
end Go.Proofs.Ytiieglfpmmhfiaa
