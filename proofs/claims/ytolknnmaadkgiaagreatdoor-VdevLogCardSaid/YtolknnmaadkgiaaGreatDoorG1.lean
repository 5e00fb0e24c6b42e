/- Words for memory that the walks of this seat use: a block that is known whole; what a call keeps; byte slices that read as a list. How arguments that came in are read: slices of bytes, slices of slices of bytes, with the form's own reach. How slices of numbers and of bytes among the arguments are read. Words of 32 and of 64 bits. -/
import Derived.WalkKit
import Derived.Handy
import Derived.Laws.CopyOwn
import Derived.Laws.AppendOwnNone
import Derived.Lib.Hide
import Derived.Maps.AppendAt
import Derived.Deep.RegionLaw
import Derived.BigQuiet
import Derived.Deep.QuietTactic
import Derived.ProofKit
import Derived.OpenShut
import Derived.ShutString
import Derived.ChangeOld
import Derived.SizedLaws
import Derived.Deep.Matrix
import Derived.Test.YtolknnmaadkgiaaGreatDoorRows
import Derived.Tactics
import Derived.Tactics2
import Derived.WalkSpells
import Derived.Laws.Rows
import Derived.StillTailTactics
set_option linter.unusedVariables false
set_option linter.unusedSimpArgs false
namespace Go.Uc
open Go.RowKit
def Blk (w : World) (g : Nat) (t : TypeId) (cs : Array Value) : Prop := w.heap[g]? = some (.cells cs t (0, 0))
structure Keeps (S : Nat → Prop) (w w' : World) : Prop where
 os : w'.os = w.os
 tape : w'.tape = w.tape
 output : w'.output = w.output
 size : w.heap.size ≤ w'.heap.size
 block : ∀ k, k < w.heap.size → ¬ S k → w'.heap[k]? = w.heap[k]?
def Non (_ : Nat) : Prop := False
def Only (g : Nat) (k : Nat) : Prop := k = g
section keeps
variable {S T : Nat → Prop} {w w1 w2 w3 : World}
theorem Keeps.refl (S : Nat → Prop) (w : World) : Keeps S w w := ⟨rfl, rfl, rfl, Nat.le_refl _, fun _ _ _ => rfl⟩
theorem Keeps.trans (h : Keeps S w1 w2) (k : Keeps S w2 w3) : Keeps S w1 w3 :=
 ⟨k.os.trans h.os, k.tape.trans h.tape, k.output.trans h.output, Nat.le_trans h.size k.size,
   fun i hi hs => (k.block i (Nat.lt_of_lt_of_le hi h.size) hs).trans (h.block i hi hs)⟩
theorem Keeps.mono (h : Keeps S w1 w2) (hs : ∀ k, S k → T k) : Keeps T w1 w2 :=
 ⟨h.os, h.tape, h.output, h.size, fun i hi ht => h.block i hi fun e => ht (hs i e)⟩
theorem Keeps.then (h : Keeps S w1 w2) (k : Keeps T w2 w3) (hs : ∀ i, i < w1.heap.size → T i → S i) : Keeps S w1 w3 :=
 ⟨k.os.trans h.os, k.tape.trans h.tape, k.output.trans h.output, Nat.le_trans h.size k.size,
   fun i hi hS => (k.block i (Nat.lt_of_lt_of_le hi h.size) fun e => hS (hs i hi e)).trans (h.block i hi hS)⟩
theorem Keeps.non (h : Keeps S w1 w2) (k : Keeps Non w2 w3) : Keeps S w1 w3 := h.then k fun _ _ e => e.elim
theorem Keeps.of_non (h : Keeps Non w1 w2) : Keeps S w1 w2 := h.mono fun _ e => e.elim
theorem Keeps.drew (h : Keeps S w w1) : Keeps S w w1.drew := ⟨h.os, h.tape, h.output, h.size, h.block⟩
theorem Keeps.drewN (h : Keeps S w w1) (n : Nat) : Keeps S w (w1.drewN n) := ⟨h.os, h.tape, h.output, h.size, h.block⟩
theorem Keeps.alloc (h : Keeps S w w1) (o : Obj) : Keeps S w (w1.alloc o) :=
 h.trans ⟨rfl, rfl, rfl, by simp, fun k hk _ => Below.heap_alloc _ _ _ hk⟩
theorem Keeps.set (h : Keeps S w w1) {p : Addr} (hp : S p.block) (u : Value) : Keeps S w (w1.setCell p u) :=
 h.trans ⟨rfl, rfl, rfl, by simp [World.setCell], fun k _ hk => Below.heap_setCell _ _ _ _ (fun e => hk (e ▸ hp))⟩
theorem Keeps.setNew (h : Keeps S w w1) {p : Addr} (hp : w.heap.size ≤ p.block) (u : Value) : Keeps S w (w1.setCell p u) :=
 h.then (T := Only p.block) ⟨rfl, rfl, rfl, by simp [World.setCell], fun k _ hk => Below.heap_setCell _ _ _ _ (fun e => hk e)⟩ fun i hi e => by unfold Only at e; omega
theorem Keeps.below (h : Keeps S w w1) {B : Nat} (hB : B ≤ w.heap.size) (hs : ∀ k, S k → B ≤ k) : Below B w w1 :=
 ⟨h.os, h.tape, h.output, h.size, fun k hk => h.block k (by omega) fun e => by have := hs k e; omega⟩
theorem Keeps.belowN (h : Keeps Non w w1) : Below w.heap.size w w1 := h.below (Nat.le_refl _) fun _ e => e.elim
theorem Keeps.cell (h : Keeps S w w1) {p : Addr} {v : Value} (hv : w.cell? p = some v) (hp : ¬ S p.block) : w1.cell? p = some v :=
 (World.cell?_of_block (w := w) (h.block p.block (World.block_lt_of_cell? w p hv) hp)).trans hv
end keeps
section blk
variable {w w' : World} {g : Nat} {t : TypeId} {cs : Array Value}
theorem Blk.lt (h : Blk w g t cs) : g < w.heap.size := by
 rcases Nat.lt_or_ge g w.heap.size with hlt | hge
 · exact hlt
 · unfold Blk at h; rw [Array.getElem?_eq_none hge] at h; cases h
theorem Blk.cell (h : Blk w g t cs) (i : Nat) : w.cell? ⟨g, i, none⟩ = cs[i]? := cell_of_row w g i cs t (0, 0) h
theorem Blk.frozen (h : Blk w g t cs) (i : Nat) : w.frozen? ⟨g, i, none⟩ = false := by
 unfold Blk at h
 simp [World.frozen?, h]
theorem Blk.new (w : World) (t : TypeId) (cs : Array Value) : Blk (w.alloc (.cells cs t)) w.heap.size t cs := heap_alloc_new w _
theorem Blk.drew (h : Blk w g t cs) : Blk w.drew g t cs := h
theorem Blk.drewN (h : Blk w g t cs) (n : Nat) : Blk (w.drewN n) g t cs := h
theorem Blk.alloc (h : Blk w g t cs) (o : Obj) : Blk (w.alloc o) g t cs := (Below.heap_alloc w o g h.lt).trans h
theorem Blk.set (h : Blk w g t cs) (i : Nat) (u : Value) : Blk (w.setCell ⟨g, i, none⟩ u) g t (cs.setIfInBounds i u) := by
 unfold Blk at h ⊢
 simp [World.setCell, Array.getElem?_modify, h]
theorem Blk.far (h : Blk w g t cs) {p : Addr} (hp : g ≠ p.block) (u : Value) : Blk (w.setCell p u) g t cs := (Below.heap_setCell w p u g hp).trans h
theorem Blk.keep {S : Nat → Prop} (h : Blk w g t cs) (hk : Keeps S w w') (hg : ¬ S g) : Blk w' g t cs := (hk.block g h.lt hg).trans h
theorem Blk.non (h : Blk w g t cs) (hk : Keeps Non w w') : Blk w' g t cs := h.keep hk id
theorem Blk.one {g' : Nat} (h : Blk w g t cs) (hk : Keeps (Only g') w w') (hg : g ≠ g') : Blk w' g t cs := h.keep hk hg
theorem Blk.ne {g' : Nat} {t' : TypeId} {cs' : Array Value} (h : Blk w g t cs) (h' : Blk w g' t' cs') (hne : t ≠ t') : g ≠ g' := by
 rintro rfl
 unfold Blk at h h'
 rw [h] at h'
 injection h' with h'
 injection h' with _ ht
 exact hne ht
end blk
theorem ret_int {k : IntKind} {a b : Int} (h : a = b) : Ending.returned (.int k a) = .returned (.int k b) := by rw [h]
theorem ret_bool {a b : Bool} (h : a = b) : Ending.returned (.bool a) = .returned (.bool b) := by rw [h]
theorem bool_iff {a b : Bool} (h : a = true ↔ b = true) : a = b := Bool.eq_iff_iff.2 h
def bv (x : UInt8) : Value := .int .u8 (x.toNat : Int)
def le : Nat → Nat → List UInt8
 | 0, _ => []
 | k + 1, n => UInt8.ofNat (n % 256) :: le k (n / 256)
theorem le_length (k n : Nat) : (le k n).length = k := by induction k generalizing n with
 | zero => rfl
 | succ k ih => simp [le, ih]
theorem le_snoc (k n : Nat) : le (k + 1) n = le k n ++ [UInt8.ofNat (n / 256 ^ k % 256)] := by
 induction k generalizing n with
 | zero => simp [le]
 | succ k ih =>
   rw [le, ih (n / 256), le, List.cons_append]
   rw [Nat.div_div_eq_div_mul, Nat.pow_succ, Nat.mul_comm 256]
def zeros (n : Nat) : List UInt8 := List.replicate n 0
theorem zeros_length (n : Nat) : (zeros n).length = n := by simp [zeros]
theorem zeros_drop (n m : Nat) : (zeros n).drop m = zeros (n - m) := by simp [zeros]
def pc (bs : List UInt8) : Array Value := (bs.map bv).toArray
theorem pc_size (bs : List UInt8) : (pc bs).size = bs.length := by simp [pc]
theorem pc_get (bs : List UInt8) (i : Nat) : (pc bs)[i]? = bs[i]?.map bv := by simp [pc]
theorem pc_one (bs : List UInt8) : ∀ v ∈ bs.map bv, v.oneCell' = true := by
 intro v hv
 obtain ⟨x, _, rfl⟩ := List.mem_map.1 hv
 rfl
theorem Blk.byte {w : World} {g : Nat} {t : TypeId} {bs : List UInt8} (h : Blk w g t (pc bs)) {i : Nat} (hi : i < bs.length) : w.cell? ⟨g, i, none⟩ = some (bv (bs[i]'hi)) := by
 rw [h.cell, pc_get, List.getElem?_eq_getElem hi]; rfl
theorem set_pc (L : List UInt8) (i : Nat) (c : UInt8) : (pc L).setIfInBounds i (bv c) = pc (L.set i c) := by
 simp [pc, List.map_set]
theorem Blk.row {w : World} {g : Nat} {t : TypeId} {cs : Array Value} (h : Blk w g t cs) (new : Array Value) : Blk (w.setRow g new) g t new := setRow_heap w g cs new t (0, 0) h
theorem Keeps.row (w : World) (g : Nat) (new : Array Value) : Keeps (Only g) w (w.setRow g new) :=
 ⟨rfl, rfl, rfl, by simp [World.setRow], fun k _ hk => setRow_other w g k new hk⟩
def At (w : World) (A : Option Addr) (xs : List UInt8) : Prop := ∀ i (h : i < xs.length), ∃ ad, A = some ad ∧ w.cell? (ad.add i) = some (bv xs[i])
theorem Addr.add_add (a : Addr) (i j : Nat) : (a.add i).add j = a.add (i + j) := by
 unfold Addr.add
 by_cases hi : i = 0 <;> by_cases hj : j = 0 <;> simp [hi, hj, Nat.add_assoc]
theorem Addr.add_block (a : Addr) (n : Nat) : (a.add n).block = a.block := by unfold Addr.add; split <;> rfl
section at_
variable {w w' : World} {A : Option Addr} {xs : List UInt8}
theorem At.nil (w : World) (A : Option Addr) : At w A [] := fun i h => absurd h (by simp)
theorem At.take (h : At w A xs) (n : Nat) : At w A (xs.take n) := fun i hi => by
 obtain ⟨ad, e, hc⟩ := h i (by simp at hi; omega)
 exact ⟨ad, e, by rw [List.getElem_take]; exact hc⟩
theorem At.drop (h : At w A xs) (n : Nat) : At w (A.map (·.add n)) (xs.drop n) := fun i hi => by
 simp at hi
 obtain ⟨ad, e, hc⟩ := h (n + i) (by omega)
 exact ⟨ad.add n, by rw [e]; rfl, by rw [Addr.add_add, List.getElem_drop]; exact hc⟩
theorem At.keep {S : Nat → Prop} (h : At w A xs) (hk : Keeps S w w') (hb : ∀ ad, A = some ad → ¬ S ad.block) : At w' A xs := fun i hi => by
 obtain ⟨ad, e, hc⟩ := h i hi
 exact ⟨ad, e, hk.cell hc (by rw [Addr.add_block]; exact hb ad e)⟩
theorem At.non (h : At w A xs) (hk : Keeps Non w w') : At w' A xs := h.keep hk fun _ _ e => e
theorem At.lt (h : At w A xs) (hp : 0 < xs.length) : ∃ ad, A = some ad ∧ ad.block < w.heap.size := by
 obtain ⟨ad, e, hc⟩ := h 0 hp
 have := World.block_lt_of_cell? w _ hc
 rw [Addr.add_block] at this
 exact ⟨ad, e, this⟩
theorem At.blk {g : Nat} {t : TypeId} {bs : List UInt8} (h : Blk w g t (pc bs)) : At w (some ⟨g, 0, none⟩) bs := fun i hi =>
 ⟨_, rfl, by rw [show (⟨g, 0, none⟩ : Addr).add i = ⟨g, i, none⟩ from by unfold Addr.add; split <;> simp_all]; exact h.byte hi⟩
theorem At.at_ (h : At w A xs) {k : Nat} (hk : k < xs.length) : ∃ b off, A = some ⟨b, off, none⟩ ∧ w.cell? ⟨b, off + k, none⟩ = some (bv xs[k]) := by
 obtain ⟨ad, e, hc⟩ := h 0 (by omega)
 obtain ⟨ad', e', hc'⟩ := h k hk
 rw [e] at e'
 injection e' with e'
 subst e'
 obtain ⟨b, off, sp⟩ := ad
 have hs := World.cell?_spot hc
 simp [Addr.add] at hs
 subst hs
 refine ⟨b, off, e, ?_⟩
 rw [← hc']
 unfold Addr.add
 split <;> simp_all
end at_
section copy
variable {P : Program} {ops : Array Oper} {rest : List Oper} {o : Oper} {a : Act} {w : World} {Q : Exit → Act → World → Prop}
theorem run_copy_one (dT sT ty elem : TypeId) (hu : P.underlying dT = some (.slice elem)) (hsz : (P.info? elem).map (·.size) = some 1)
   (dp sp : Option Addr) (dLen dCap sLen sCap : Nat) (g off : Nat) (cur : List Value) (t : TypeId) (hg : Blk w g t cur.toArray) (cs : List Value) (hn : cs.length = Nat.min sLen dLen)
   (hpos : 0 < cs.length → dp = some ⟨g, off, none⟩ ∧ ∃ ad, sp = some ad ∧ ∀ j v, cs[j]? = some v → w.cell? (ad.add j) = some v)
   (hfit : off + cs.length ≤ cur.length) (h1 : ∀ v ∈ cs, v.oneCell' = true) :
   ∃ w', (Builtin.copy_ #[dT, sT] ty #[.slice dp dLen dCap, .slice sp sLen sCap]).run P w = .ok (goInt cs.length) w' ∧
     Blk w' g t (cur.take off ++ (cs ++ cur.drop (off + cs.length))).toArray ∧ Keeps (Only g) w w' := by
 by_cases h0 : cs.length = 0
 · obtain rfl : cs = [] := List.eq_nil_of_length_eq_zero h0
   have hrun := run_copy_none (P := P) w dT sT ty elem dp sp dLen dCap sLen sCap hu hsz (by simpa using hn.symm)
   exact ⟨w, hrun, by simpa using hg, Keeps.refl _ _⟩
 · obtain ⟨rfl, ad, rfl, hsrc⟩ := hpos (by omega)
   have hrun := run_copy_row (P := P) w dT sT ty elem g off dLen dCap ad sLen sCap cur.toArray t cs hu hsz hg hn hsrc (by simpa using hfit) h1
   refine ⟨_, hrun, ?_, Keeps.row _ _ _⟩
   simpa using Blk.row hg _
theorem wpList_copy_one (hgd : o.guard = none) (d s : Operand) (dT sT : TypeId)
   (ho : o.op = .call { callee := .builtin .copy, args := #[d, s], argTypes := #[dT, sT] }) (elem : TypeId) (hu : P.underlying dT = some (.slice elem)) (hsz : (P.info? elem).map (·.size) = some 1)
   (dp sp : Option Addr) (dLen dCap sLen sCap : Nat) (hd : a.eval d = .slice dp dLen dCap) (hs : a.eval s = .slice sp sLen sCap)
   (g off : Nat) (cur : List Value) (t : TypeId) (hg : Blk w g t cur.toArray) (cs : List Value) (hn : cs.length = Nat.min sLen dLen)
   (hpos : 0 < cs.length → dp = some ⟨g, off, none⟩ ∧ ∃ ad, sp = some ad ∧ ∀ j v, cs[j]? = some v → w.cell? (ad.add j) = some v)
   (hfit : off + cs.length ≤ cur.length) (h1 : ∀ v ∈ cs, v.oneCell' = true)
   (h : ∀ w', Blk w' g t (cur.take off ++ (cs ++ cur.drop (off + cs.length))).toArray → Keeps (Only g) w w' → wpList P ops Q rest (a.put o.dst (goInt cs.length)) w') :
   wpList P ops Q (o :: rest) a w := by
 obtain ⟨w', hrun, hb, hk⟩ := run_copy_one (P := P) (w := w) dT sT o.type elem hu hsz dp sp dLen dCap sLen sCap g off cur t hg cs hn hpos hfit h1
 refine wpList_plain hgd fun K hK => ?_
 unfold Oper.wp
 simp [execOp, ho, resolve, invoke, builtin, hd, hs, hrun, Result.andThen]
 exact hK _ _ (h w' hb hk)
theorem step_copy_one {K : Act → World → Prop} {E : Prop} (hgd : o.guard = none) (d s : Operand) (dT sT : TypeId)
   (ho : o.op = .call { callee := .builtin .copy, args := #[d, s], argTypes := #[dT, sT] }) (elem : TypeId) (hu : P.underlying dT = some (.slice elem)) (hsz : (P.info? elem).map (·.size) = some 1)
   (dp sp : Option Addr) (dLen dCap sLen sCap : Nat) (hd : a.eval d = .slice dp dLen dCap) (hs : a.eval s = .slice sp sLen sCap)
   (g off : Nat) (cur : List Value) (t : TypeId) (hg : Blk w g t cur.toArray) (cs : List Value) (hn : cs.length = Nat.min sLen dLen)
   (hpos : 0 < cs.length → dp = some ⟨g, off, none⟩ ∧ ∃ ad, sp = some ad ∧ ∀ j v, cs[j]? = some v → w.cell? (ad.add j) = some v)
   (hfit : off + cs.length ≤ cur.length) (h1 : ∀ v ∈ cs, v.oneCell' = true)
   (h : ∀ w', Blk w' g t (cur.take off ++ (cs ++ cur.drop (off + cs.length))).toArray → Keeps (Only g) w w' → K (a.put o.dst (goInt cs.length)) w') :
   if Region.wanted o (yielded ops a.tmps) = true then Oper.wp P o a w K Q else E := by
 obtain ⟨w', hrun, hb, hk⟩ := run_copy_one (P := P) (w := w) dT sT o.type elem hu hsz dp sp dLen dCap sLen sCap g off cur t hg cs hn hpos hfit h1
 have hw : Region.wanted o (yielded ops a.tmps) = true := by simp [Region.wanted, hgd]
 rw [if_pos hw]
 unfold Oper.wp
 simp [execOp, ho, resolve, invoke, builtin, hd, hs, hrun, Result.andThen]
 exact h w' hb hk
theorem splice_pc (cur cs : List UInt8) (off : Nat) : ((cur.map bv).take off ++ (cs.map bv ++ (cur.map bv).drop (off + (cs.map bv).length))).toArray = pc (cur.take off ++ (cs ++ cur.drop (off + cs.length))) := by
 simp [pc]
theorem At.news {w : World} {A : Option Addr} {xs : List UInt8} (h : At w A xs) {ad : Addr} (hA : A = some ad) : ∀ j v, (xs.map bv)[j]? = some v → w.cell? (ad.add j) = some v := by
 intro j v hj
 simp only [List.getElem?_map, Option.map_eq_some_iff] at hj
 obtain ⟨x, hx, rfl⟩ := hj
 obtain ⟨hlt, rfl⟩ := List.getElem?_eq_some_iff.1 hx
 obtain ⟨ad', e, hc⟩ := h j hlt
 rw [hA] at e
 injection e with e
 rw [e]
 exact hc
theorem At.some {w : World} {A : Option Addr} {xs : List UInt8} (h : At w A xs) (hp : 0 < xs.length) : ∃ ad, A = some ad ∧ ∀ j v, (xs.map bv)[j]? = some v → w.cell? (ad.add j) = some v := by
 obtain ⟨ad, e, _⟩ := h 0 hp
 exact ⟨ad, e, h.news e⟩
theorem step_copy_bytes {K : Act → World → Prop} {E : Prop} (hgd : o.guard = none) (d s : Operand) (dT sT : TypeId)
   (ho : o.op = .call { callee := .builtin .copy, args := #[d, s], argTypes := #[dT, sT] }) (elem : TypeId) (hu : P.underlying dT = some (.slice elem)) (hsz : (P.info? elem).map (·.size) = some 1)
   (dp sp : Option Addr) (dLen dCap sLen sCap : Nat) (hd : a.eval d = .slice dp dLen dCap) (hs : a.eval s = .slice sp sLen sCap)
   (g off : Nat) (cur : List UInt8) (t : TypeId) (hg : Blk w g t (pc cur)) (cs : List UInt8) (hn : cs.length = Nat.min sLen dLen)
   (hdp : dp = Option.some ⟨g, off, none⟩) (hsp : At w sp cs) (hfit : off + cs.length ≤ cur.length)
   (h : ∀ w', Blk w' g t (pc (cur.take off ++ (cs ++ cur.drop (off + cs.length)))) → Keeps (Only g) w w' → K (a.put o.dst (.int .i64 cs.length)) w') :
   if Region.wanted o (yielded ops a.tmps) = true then Oper.wp P o a w K Q else E := by
 refine step_copy_one hgd d s dT sT ho elem hu hsz dp sp dLen dCap sLen sCap hd hs g off (cur.map bv) t hg (cs.map bv) (by simpa using hn) (fun hp => ⟨hdp, hsp.some (by simpa using hp)⟩) (by simpa using hfit) (pc_one _) ?_
 intro w' hb hk
 rw [splice_pc] at hb
 rw [List.length_map]
 exact h w' hb hk
theorem wpList_copy_bytes (hgd : o.guard = none) (d s : Operand) (dT sT : TypeId)
   (ho : o.op = .call { callee := .builtin .copy, args := #[d, s], argTypes := #[dT, sT] }) (elem : TypeId) (hu : P.underlying dT = some (.slice elem)) (hsz : (P.info? elem).map (·.size) = some 1)
   (dp sp : Option Addr) (dLen dCap sLen sCap : Nat) (hd : a.eval d = .slice dp dLen dCap) (hs : a.eval s = .slice sp sLen sCap)
   (g off : Nat) (cur : List UInt8) (t : TypeId) (hg : Blk w g t (pc cur)) (cs : List UInt8) (hn : cs.length = Nat.min sLen dLen)
   (hdp : 0 < cs.length → dp = Option.some ⟨g, off, none⟩) (hsp : At w sp cs) (hfit : off + cs.length ≤ cur.length)
   (h : ∀ w', Blk w' g t (pc (cur.take off ++ (cs ++ cur.drop (off + cs.length)))) → Keeps (Only g) w w' → wpList P ops Q rest (a.put o.dst (.int .i64 cs.length)) w') :
   wpList P ops Q (o :: rest) a w := by
 refine wpList_copy_one hgd d s dT sT ho elem hu hsz dp sp dLen dCap sLen sCap hd hs g off (cur.map bv) t hg (cs.map bv) (by simpa using hn) (fun hp => ⟨hdp (by simpa using hp), hsp.some (by simpa using hp)⟩) (by simpa using hfit) (pc_one _) ?_
 intro w' hb hk
 rw [splice_pc] at hb
 rw [List.length_map]
 exact h w' hb hk
theorem wpList_store_blk (hgd : o.guard = none) (ty : TypeId) (x y : Operand) (ho : o.op = .store ty x y)
   (g : Nat) (cells : Array Value) (hx : a.eval x = .pointer (Option.some ⟨g, 0, none⟩)) (hy : a.eval y = .agg cells)
   (t : TypeId) (old : Array Value) (hg : Blk w g t old) (hi : (P.info? ty).map (·.size) = Option.some cells.size)
   (hold : old.size = cells.size) (h1 : cells.all (·.oneCell') = true)
   (h : ∀ w', Blk w' g t cells → Keeps (Only g) w w' → wpList P ops Q rest (a.put o.dst undef) w') : wpList P ops Q (o :: rest) a w :=
 wpList_store_row hgd ty x y ho g cells hx hy t old hg hi hold h1 (h _ (hg.row _) (Keeps.row _ _ _))
theorem results_cell_blk {fn : Func} {p : Tmp} {ty : TypeId} (h : fn.results = #[.cell p ty]) (tmps : Array Value) (g : Nat) (t : TypeId) (cs : Array Value) (d : TypeDesc)
   (hp : tmps.getD p undef = .pointer (Option.some ⟨g, 0, none⟩)) (hg : Blk w g t cs)
   (hu : P.underlying ty = Option.some d) (hd : (match d with | .struct _ | .array _ _ => true | _ => false) = true) (hi : (P.info? ty).map (·.size) = Option.some cs.size) :
   (results fn tmps).run P w = .ok (.agg cs) w := results_cell_row h tmps w g t cs (0, 0) d hp hg hu hd hi
theorem run_append_of_nil (base : Nat) (t ty e : TypeId) (i : TypeInfo) (size : Nat) (ht : P.underlying t = Option.some (.slice e)) (hi : P.info? e = Option.some i)
   (v : Value) (n : Nat) (xs : List Value) (hown : w.ownsRow base e size v n xs) (c : Nat) : (Builtin.append_ #[t, t] ty #[v, .slice none 0 c]).run P w = .ok v w := by
 rcases hown.2 with ⟨rfl, rfl⟩ | ⟨g, cap, cur, rfl, _, _, hnc, _⟩
 · simp [Builtin.append_, run_underlying ht, sizeOf, typeInfo, hi, Builtin.lenOf, Builtin.firstCells]
 · simp [Builtin.append_, run_underlying ht, sizeOf, typeInfo, hi, Builtin.lenOf, Builtin.firstCells, hnc, storeCells]
def Owned (v : Value) (k : Nat) : Prop := v.ownBlock = Option.some k
def Ats (w : World) (A : Option Addr) (news : List Value) : Prop := 0 < news.length → ∃ ad, A = Option.some ad ∧ ∀ j v, news[j]? = Option.some v → w.cell? (ad.add j) = Option.some v
theorem At.ats {w : World} {A : Option Addr} {xs : List UInt8} (h : At w A xs) : Ats w A (xs.map bv) := fun hp => h.some (by simpa using hp)
theorem keeps_grown {w w' : World} {v : Value} (h : w.grownBy w' v.ownBlock) : Keeps (Owned v) w w' :=
 ⟨h.os, h.tape, h.output, h.size, fun k hk hn => h.block k hk fun e => hn e.symm⟩
theorem run_append_any (base : Nat) (t ty e : TypeId) (i : TypeInfo) (z : Value) (size bytes : Nat) (ht : P.underlying t = Option.some (.slice e)) (hi : P.info? e = Option.some i) (hz : i.zero = Option.some z)
   (hsize : i.size = size) (hby : i.bytes = bytes) (hzs : z.cells.size = size) (hsz : 0 < size)
   (v : Value) (n : Nat) (xs : List Value) (hown : w.ownsRow base e size v n xs)
   (A : Option Addr) (m c : Nat) (news : List Value) (hl : news.length = m * size) (hr : Ats w A news) (h1 : ∀ u ∈ news, u.oneCell' = true)
   (h63 : n + m ≤ maxLen) (hbytes : (n + m) * bytes ≤ 140737488355328) (hbase : base ≤ w.heap.size) :
   ∃ v' w', (Builtin.append_ #[t, t] ty #[v, .slice A m c]).run P w = .ok v' w' ∧ w'.ownsRow base e size v' (n + m) (xs ++ news) ∧ Keeps (Owned v) w w' ∧
     (v'.ownBlock = v.ownBlock ∨ v'.ownBlock = Option.some w.heap.size) := by
 by_cases hp : 0 < news.length
 · obtain ⟨ad, rfl, hcells⟩ := hr hp
   obtain ⟨v', w', hrun, h2, h3, _, h5⟩ := run_append_own_at (P := P) w base t ty e i z size bytes ht hi hz hsize hby hzs hsz v n xs hown ad m c news hl hcells h1 h63 hbytes hbase
   exact ⟨v', w', hrun, h2, keeps_grown h3, h5⟩
 · obtain rfl : news = [] := List.eq_nil_of_length_eq_zero (by omega)
   have hm : m = 0 := by
     rcases Nat.eq_zero_or_pos m with h | h
     · exact h
     · have := Nat.mul_pos h hsz; simp at hl; omega
   subst hm
   cases A with
   | none => exact ⟨v, w, run_append_of_nil base t ty e i size ht hi v n xs hown c, by simpa using hown, Keeps.refl _ _, .inl rfl⟩
   | some ad =>
     obtain ⟨v', w', hrun, h2, h3, _, h5⟩ := run_append_own_at (P := P) w base t ty e i z size bytes ht hi hz hsize hby hzs hsz v n xs hown ad 0 c [] (by simp) (by simp) (by simp) h63 hbytes hbase
     exact ⟨v', w', hrun, h2, keeps_grown h3, h5⟩
theorem wp_append_any {K : Act → World → Prop} (s x : Operand) (t : TypeId)
   (ho : o.op = .call { callee := .builtin .append, args := #[s, x], argTypes := #[t, t] })
   (base : Nat) (e : TypeId) (i : TypeInfo) (z : Value) (size bytes : Nat) (ht : P.underlying t = Option.some (.slice e)) (hi : P.info? e = Option.some i) (hz : i.zero = Option.some z)
   (hsize : i.size = size) (hby : i.bytes = bytes) (hzs : z.cells.size = size) (hsz : 0 < size)
   (v : Value) (n : Nat) (xs : List Value) (hs : a.eval s = v) (hown : w.ownsRow base e size v n xs)
   (A : Option Addr) (m c : Nat) (news : List Value) (hx : a.eval x = .slice A m c) (hl : news.length = m * size) (hr : Ats w A news) (h1 : ∀ u ∈ news, u.oneCell' = true)
   (h63 : n + m ≤ maxLen) (hbytes : (n + m) * bytes ≤ 140737488355328) (hbase : base ≤ w.heap.size)
   (h : ∀ v' w', w'.ownsRow base e size v' (n + m) (xs ++ news) → Keeps (Owned v) w w' → (v'.ownBlock = v.ownBlock ∨ v'.ownBlock = Option.some w.heap.size) → K (a.put o.dst v') w') : o.wp P a w K Q := by
 obtain ⟨v', w', hrun, h2, h3, h4⟩ := run_append_any (P := P) (w := w) base t o.type e i z size bytes ht hi hz hsize hby hzs hsz v n xs hown A m c news hl hr h1 h63 hbytes hbase
 unfold Oper.wp execOp
 simp only [ho, resolve, invoke, builtin, Sem.run_bind, Sem.run_pure, Result.andThen_ok, List.map_toArray, List.map_cons, List.map_nil, hs, hx, hrun]
 exact h v' w' h2 h3 h4
def OwnB (w : World) (base : Nat) (e : TypeId) (v : Value) (bs : List UInt8) : Prop := w.ownsRow base e 1 v bs.length (bs.map bv)
theorem wpList_append_bytes (hgd : o.guard = none) (s x : Operand) (t : TypeId)
   (ho : o.op = .call { callee := .builtin .append, args := #[s, x], argTypes := #[t, t] })
   (base : Nat) (e : TypeId) (ht : P.underlying t = Option.some (.slice e)) (hi : (P.info? e).map (fun i => (i.zero, i.size, i.bytes)) = Option.some (Option.some (.int .u8 0), 1, 1))
   (v : Value) (bs : List UInt8) (hs : a.eval s = v) (hown : OwnB w base e v bs)
   (A : Option Addr) (m c : Nat) (news : List UInt8) (hx : a.eval x = .slice A m c) (hm : m = news.length) (hr : At w A news)
   (hbytes : bs.length + news.length ≤ 140737488355328) (hbase : base ≤ w.heap.size)
   (h : ∀ v' w', OwnB w' base e v' (bs ++ news) → Keeps (Owned v) w w' → (v'.ownBlock = v.ownBlock ∨ v'.ownBlock = Option.some w.heap.size) → wpList P ops Q rest (a.put o.dst v') w') : wpList P ops Q (o :: rest) a w := by
 obtain ⟨i, hi0, hz0, hz1, hz2⟩ := info_parts hi
 subst hm
 refine wpList_plain hgd fun _ hK => wp_append_any s x t ho base e i (.int .u8 0) 1 1 ht hi0 hz0 hz1 hz2 rfl (by omega) v bs.length (bs.map bv) hs hown A news.length c (news.map bv) hx (by simp) hr.ats (pc_one _) (by unfold maxLen; omega) (by omega) hbase fun v' w' h2 h3 h4 => hK _ _ (h v' w' ?_ h3 h4)
 unfold OwnB
 rw [List.length_append, List.map_append]
 exact h2
theorem At.one (w : World) (v : Value) (t : TypeId) (c : UInt8) (h : v = bv c) : At (w.alloc (.cells #[v] t)) (Option.some ⟨w.heap.size, 0, none⟩) [c] := fun i hi => by
 simp at hi
 subst hi
 refine ⟨_, rfl, ?_⟩
 rw [show [c][0] = c from rfl, ← h]
 exact (Blk.new w t #[v]).cell 0
theorem wpList_make_bytes (hg : o.guard = none) (l c : Operand) (t : TypeId) (hop : o.op = Op.makeSlice t l c)
   (e : TypeId) (h1 : P.underlying t = Option.some (.slice e)) (hi : (P.info? e).map (fun i => (i.zero, i.size, i.bytes)) = Option.some (Option.some (.int .u8 0), 1, 1))
   (kl kc : IntKind) (L C : Int) (n : Nat) (hl : a.eval l = .int kl L) (hc : a.eval c = .int kc C) (hL : L = (n : Int)) (hC : C = (n : Int)) (b2 : n ≤ 281474976710656)
   (hK : ∀ w', Blk w' w.heap.size e (pc (zeros n)) → Keeps Non w w' → wpList P ops Q rest (a.put o.dst (.slice (Option.some ⟨w.heap.size, 0, none⟩) n n)) w') :
   wpList P ops Q (o :: rest) a w := by
 obtain ⟨i, hi0, hz0, hz1, hz2⟩ := info_parts hi
 refine wpList_plain hg fun K hK' => ?_
 subst hL
 subst hC
 have hrun := run_make (P := P) w t e i (.int .u8 0) h1 hi0 hz0 kl kc n n (by omega) (by omega) (by rw [hz2]; omega) (by omega)
 have e1 : madeCells (Value.int .u8 0).cells ((n : Int).toNat * i.size) = pc (zeros n) := by
   rw [hz1]
   apply Array.ext
   · simp [size_madeCells, pc_size, zeros_length]
   · intro j h1 h2
     simp [madeCells, Value.cells, pc, zeros, bv, Nat.mod_one]
 rw [e1] at hrun
 unfold Oper.wp
 simp [execOp, hop, hl, hc, hrun, Result.andThen]
 exact hK' _ _ (hK _ (Blk.new _ _ _) ((Keeps.refl _ _).alloc _))
end copy
section own
variable {w w' : World} {B : Nat} {e : TypeId} {v : Value} {bs : List UInt8}
theorem OwnB.nil (w : World) (B : Nat) (e : TypeId) : OwnB w B e (.slice none 0 0) [] := World.ownsRow_nil _ _ _ _
theorem row_form {size n : Nat} {xs : List Value} (h : w.ownsRow B e size v n xs) (hn : 0 < n) : ∃ g cap cur, v = .slice (some ⟨g, 0, none⟩) n cap ∧ B ≤ g ∧ Blk w g e cur ∧ n ≤ cap ∧ cap ≤ maxLen ∧ cur.size = cap * size ∧ cur.toList.take (n * size) = xs := by
 rcases h.2 with ⟨h1, h2⟩ | h
 · omega
 · exact h
theorem row_keep {size n : Nat} {xs : List Value} {S : Nat → Prop} (h : w.ownsRow B e size v n xs) (hk : Keeps S w w') (hb : ∀ g, v.ownBlock = some g → ¬ S g) : w'.ownsRow B e size v n xs := by
 rcases h.2 with h1 | ⟨g, cap, cur, rfl, h2, h3, r⟩
 · exact ⟨h.1, .inl h1⟩
 · exact ⟨h.1, .inr ⟨g, cap, cur, rfl, h2, (hk.block g (Blk.lt h3) (hb g rfl)).trans h3, r⟩⟩
theorem row_set {n k : Nat} {xs : List Value} {g cap : Nat} (h : w.ownsRow B e 1 (.slice (some ⟨g, 0, none⟩) n cap) n xs) (hk : k < n) (u : Value) : (w.setCell ⟨g, k, none⟩ u).ownsRow B e 1 (.slice (some ⟨g, 0, none⟩) n cap) n (xs.set k u) := by
 obtain ⟨g', cap', cur, e1, h2, h3, h4, h5, h6, h7⟩ := row_form h (by omega)
 injection e1 with e1 _ e2
 injection e1 with e1
 injection e1 with e1
 subst e1 e2
 refine ⟨by simpa using h.1, .inr ⟨g, cap, _, rfl, h2, h3.set k u, h4, h5, by simpa using h6, ?_⟩⟩
 rw [Array.toList_setIfInBounds, List.take_set, h7]
theorem OwnB.form (h : OwnB w B e v bs) : (v = .slice none 0 0 ∧ bs = []) ∨ ∃ g cap cur, v = .slice (some ⟨g, 0, none⟩) bs.length cap ∧ B ≤ g ∧ Blk w g e cur ∧ bs.length ≤ cap ∧ cap ≤ maxLen ∧ cur.size = cap ∧ cur.toList.take bs.length = bs.map bv := by
 rcases h.2 with ⟨h1, h2⟩ | ⟨g, cap, cur, h1, h2, h3, h4, h5, h6, h7⟩
 · exact .inl ⟨h1, List.eq_nil_of_length_eq_zero h2⟩
 · exact .inr ⟨g, cap, cur, h1, h2, h3, h4, h5, by simpa using h6, by simpa using h7⟩
theorem OwnB.open (h : OwnB w B e v bs) : ∃ A c, v = .slice A bs.length c ∧ bs.length ≤ c ∧ At w A bs ∧ (∀ ad, A = some ad → B ≤ ad.block ∧ ad.block < w.heap.size ∧ v.ownBlock = some ad.block) := by
 rcases h.form with ⟨rfl, rfl⟩ | ⟨g, cap, cur, rfl, h2, h3, h4, h5, h6, h7⟩
 · exact ⟨none, 0, rfl, Nat.le_refl _, At.nil _ _, fun _ h => by cases h⟩
 · refine ⟨_, cap, rfl, h4, fun i hi => ⟨_, rfl, ?_⟩, fun ad had => ?_⟩
   · rw [show (⟨g, 0, none⟩ : Addr).add i = ⟨g, i, none⟩ from by unfold Addr.add; split <;> simp_all, h3.cell]
     have e1 : (cur.toList.take bs.length)[i]? = some (bv bs[i]) := by rw [h7]; simp [hi]
     rw [List.getElem?_take, if_pos hi] at e1
     simpa using e1
   · injection had with had
     subst had
     exact ⟨h2, h3.lt, rfl⟩
theorem OwnB.keep {S : Nat → Prop} (h : OwnB w B e v bs) (hk : Keeps S w w') (hb : ∀ g, v.ownBlock = some g → ¬ S g) : OwnB w' B e v bs := by
 rcases h.2 with h1 | ⟨g, cap, cur, rfl, h2, h3, r⟩
 · exact ⟨h.1, .inl h1⟩
 · exact ⟨h.1, .inr ⟨g, cap, cur, rfl, h2, (hk.block g (Blk.lt h3) (hb g rfl)).trans h3, r⟩⟩
theorem OwnB.non (h : OwnB w B e v bs) (hk : Keeps Non w w') : OwnB w' B e v bs := h.keep hk fun _ _ e => e
theorem OwnB.new (h : OwnB w B e v bs) (k : Nat) (hk : v.ownBlock = some k) : B ≤ k := (World.ownsRow.lt h k hk).1
end own
def str (bs : List UInt8) : ByteArray := ⟨bs.toArray⟩
theorem foldl_str : ∀ (bs : List UInt8) (s : ByteArray), (bs.map fun x => (x.toNat : Int)).foldl (fun r n => r.push (UInt8.ofNat n.toNat)) s = ⟨s.data ++ bs.toArray⟩ := by
 intro bs
 induction bs with
 | nil => intro s; simp
 | cons b bs ih =>
   intro s
   rw [List.map_cons, List.foldl_cons, ih]
   congr 1
   simp [ByteArray.push]
theorem run_convert_at {P : Program} {w : World} (src dst e : TypeId) (hs : P.underlying src = some (.slice e)) (he : P.underlying e = some (.int .u8)) (hd : P.underlying dst = some .string)
   (A : Option Addr) (bs : List UInt8) (h : At w A bs) (n c : Nat) (hn : n = bs.length) : (convert src dst (.slice A n c)).run P w = .ok (.string (str bs)) w := by
 subst hn
 rw [run_convert_bytes_string w src dst e _ _ c hs he hd]
 cases A with
 | none =>
   obtain rfl : bs = [] := by
     cases bs with
     | nil => rfl
     | cons b bs => obtain ⟨ad, e, _⟩ := h 0 (by simp); cases e
   simp [Conv.bytesToString, str]
   rfl
 | some ad =>
   have hl := run_loadCells_list (P := P) w ad (bs.map bv) (h.news rfl)
   rw [List.length_map] at hl
   have e1 : (bs.map bv) = (bs.map fun x => (x.toNat : Int)).map (Value.int .u8) := by simp [bv]
   rw [e1] at hl
   rw [run_bytesToString w ad bs.length c _ hl, foldl_str]
   simp [str, ByteArray.empty, ByteArray.emptyWithCapacity]
   rfl
theorem ofNat_toNat (m : Nat) (h : m < 256) : (UInt8.ofNat m).toNat = m := by simp [UInt8.toNat_ofNat', Nat.mod_eq_of_lt h]
theorem bv_ofNat (m : Nat) (h : m < 256) : bv (UInt8.ofNat m) = .int .u8 (m : Int) := by unfold bv; rw [ofNat_toNat m h]
theorem shr_byte (n k : Nat) : Value.int .u8 ((n : Int) / 2 ^ (8 * k) % 256) = bv (UInt8.ofNat (n / 256 ^ k % 256)) := by
 rw [bv_ofNat _ (Nat.mod_lt _ (by decide))]
 have e : (2 : Int) ^ (8 * k) = ((256 ^ k : Nat) : Int) := by rw [Int.pow_mul]; simp
 rw [e, Int.natCast_emod, Int.natCast_ediv]
 rfl
theorem set_zeros (bs : List UInt8) (k m : Nat) (c : UInt8) (hk : k < m) : (bs ++ zeros (m - k)).set bs.length c = bs ++ [c] ++ zeros (m - (k + 1)) := by
 rw [List.set_append_right _ _ (Nat.le_refl _), Nat.sub_self, show m - k = (m - (k + 1)) + 1 by omega]
 simp [zeros, List.replicate_succ]
theorem take_snoc (bs : List UInt8) (k : Nat) (h : k < bs.length) : bs.take k ++ [bs[k]] = bs.take (k + 1) := by simp
end Go.Uc
namespace Go.Uc
open Go.RowKit Go.ChangeShapes Go.WideShapes
def Recs (w : World) (A : Option Addr) (rs : List (List UInt8)) : Prop := ∀ i (h : i < rs.length), ∃ b off Ai ci, A = some ⟨b, off, none⟩ ∧ w.cell? ⟨b, off + i, none⟩ = some (.slice Ai rs[i].length ci) ∧
 At w Ai rs[i] ∧ rs[i].length ≤ ci ∧ rs[i].length ≤ 140737488351232
def toBytes (zs : List Int) : List UInt8 := zs.map fun n => UInt8.ofNat n.toNat
theorem toBytes_length (zs : List Int) : (toBytes zs).length = zs.length := by simp [toBytes]
theorem bv_of_wf {n : Int} (h : (Lit.int .u8 n).wf = true) : bv (UInt8.ofNat n.toNat) = .int .u8 n := by
 have h' : 0 ≤ n ∧ n ≤ 255 := by
   simpa [Lit.wf, IntKind.min, IntKind.max, IntKind.bits, IntKind.signed] using h
 rw [bv_ofNat _ (by omega)]
 congr 1
 omega
theorem at_of_ints {w : World} {A : Option Addr} {L C : Nat} {zs : List Int} (hL : L ≤ C) (hz : zs.length = C) (hw : ∀ n ∈ zs, (Lit.int .u8 n).wf = true) (h0 : A = none → C = 0)
   (hc : ∀ a', A = some a' → ∀ c, c < C → w.cell? (a'.add c) = some (.int .u8 (zs.getD c 0))) : At w A (toBytes (zs.take L)) := by
 intro i hi
 simp [toBytes_length] at hi
 cases A with
 | none => have := h0 rfl; omega
 | some ad =>
   refine ⟨ad, rfl, ?_⟩
   rw [hc ad rfl i (by omega)]
   simp only [toBytes, List.getElem_map, List.getElem_take]
   rw [bv_of_wf (hw _ (List.getElem_mem _))]
   simp [List.getD, show i < zs.length by omega]
section
variable {H : Type} {enc : TypeId × Value → H} {P : Program} {w : World} {base : Nat} {held : Bool}
end
end Go.Uc
namespace Go.Uc
open Go.RowKit Go.ChangeShapes Go.WideShapes
def Nums (w : World) (A : Option Addr) (zs : List Int) : Prop := ∀ i (h : i < zs.length), ∃ b off, A = some ⟨b, off, none⟩ ∧ w.cell? ⟨b, off + i, none⟩ = some (.int .i64 zs[i]) ∧ -9223372036854775808 ≤ zs[i] ∧ zs[i] ≤ 9223372036854775807
section
variable {H : Type} {enc : TypeId × Value → H} {P : Program} {w : World} {base : Nat} {held : Bool}
theorem nums_open {t e : TypeId} {fuel n c : Nat} {A : Option Addr} {x : DataW H × List MemPlace} (ht : P.underlying t = some (.slice e)) (he : P.underlying e = some (.int .i64)) (ce : P.cellsOf e = 1) (be : P.bytesOf e = 8)
   (h : DataW.trod enc P w base (fun _ => true) held fuel t [.slice A n c] = some x) (hw : ∀ m ∈ x.1.weights P t, m ≤ reachBytes) :
   ∃ zs : List Int, zs.length = n ∧ Nums w A zs ∧ n ≤ c ∧ n ≤ 17592186043904 := by
 rcases open_ints ht he ce h with ⟨hcs, _⟩ | ⟨a, len, cap, zs, hcs, _, hl, hm, hz, hx, hcell, hwf⟩
 · simp at hcs
   obtain ⟨rfl, rfl, rfl⟩ := hcs
   exact ⟨[], rfl, fun i h => absurd h (by simp), Nat.le_refl _, by omega⟩
 · simp at hcs
   obtain ⟨rfl, rfl, rfl⟩ := hcs
   simp only [if_true] at hz
   have hcap : c * 8 ≤ reachBytes := by
     have hx1 : x.1 = .slice (lits .i64 (zs.take n)) (lits .i64 (zs.drop n)) := by rw [hx]
     rw [hx1] at hw
     have := hw (c * 8) (by simp [DataW.weights, ht, be, lits, hz]; left; omega)
     exact this
   refine ⟨zs.take n, by simp; omega, fun i hi => ?_, hl, by simp [reachBytes] at hcap; omega⟩
   simp at hi
   obtain ⟨b, off, rfl, hall⟩ := ints_at hcell (by omega)
   have hi2 : i < zs.length := by omega
   have b1 := bounds_i64 (hwf zs[i] (List.getElem_mem _))
   refine ⟨b, off, rfl, ?_, ?_, ?_⟩
   · rw [hall i hi2, List.getElem_take]
     simp [List.getD, hi2]
   · rw [List.getElem_take]; exact b1.1
   · rw [List.getElem_take]; exact b1.2
theorem bytes_open {t e : TypeId} {fuel n c : Nat} {A : Option Addr} {x : DataW H × List MemPlace} (ht : P.underlying t = some (.slice e)) (he : P.underlying e = some (.int .u8)) (ce : P.cellsOf e = 1) (be : P.bytesOf e = 1)
   (h : DataW.trod enc P w base (fun _ => true) held fuel t [.slice A n c] = some x) (hw : ∀ m ∈ x.1.weights P t, m ≤ reachBytes) :
   ∃ bs : List UInt8, bs.length = n ∧ At w A bs ∧ n ≤ c ∧ c ≤ 140737488351232 := by
 rcases open_ints ht he ce h with ⟨hcs, _⟩ | ⟨a, len, cap, zs, hcs, _, hl, hm, hz, hx, hcell, hwf⟩
 · simp at hcs
   obtain ⟨rfl, rfl, rfl⟩ := hcs
   exact ⟨[], rfl, At.nil _ _, Nat.le_refl _, by omega⟩
 · simp at hcs
   obtain ⟨rfl, rfl, rfl⟩ := hcs
   simp only [if_true] at hz
   have hcap : c ≤ reachBytes := by
     have hx1 : x.1 = .slice (lits .u8 (zs.take n)) (lits .u8 (zs.drop n)) := by rw [hx]
     rw [hx1] at hw
     have := hw c (by simp [DataW.weights, ht, be, lits, hz]; left; omega)
     exact this
   refine ⟨toBytes (zs.take n), by rw [toBytes_length]; simp; omega, at_of_ints hl hz hwf (fun h => by cases h) (fun a' ha' i hi => ?_), hl, by simpa [reachBytes] using hcap⟩
   injection ha' with ha'
   subst ha'
   exact hcell i (by omega)
end
end Go.Uc
namespace Go.Proofs.YtolknnmaadkgiaaGreatDoor
open Go.RowKit Go.Uc
def v32 (x : BitVec 32) : Int := x.toNat
def v64 (x : BitVec 64) : Int := x.toNat
theorem ofInt_v64 (x : BitVec 64) : BitVec.ofInt IntKind.u64.bits (v64 x) = x := by
 show BitVec.ofInt 64 (x.toNat : Int) = x
 rw [BitVec.ofInt_natCast, BitVec.ofNat_toNat, BitVec.setWidth_eq]
theorem v64_nonneg (x : BitVec 64) : 0 ≤ v64 x := by unfold v64; omega
theorem v64_le (x : BitVec 64) : v64 x ≤ 18446744073709551615 := by have := x.isLt; unfold v64; omega
theorem add64 (x y : BitVec 64) : IntKind.u64.wrap (v64 x + v64 y) = v64 (x + y) := by
 rw [IntKind.wrap_u64]; unfold v64; rw [BitVec.toNat_add]; omega
theorem wrap64_nat {n : Nat} (h : n < 18446744073709551616) : IntKind.u64.wrap (n : Int) = n := by rw [IntKind.wrap_u64]; omega
theorem or64 (x y : BitVec 64) : bits .or .u64 (v64 x) (v64 y) = v64 (x ||| y) := by
 unfold bits
 simp only [ofInt_v64]
 exact wrap64_nat (x ||| y).isLt
theorem shl64 (x : BitVec 64) (k : Nat) : IntKind.u64.wrap (v64 x * 2 ^ k) = v64 (x <<< k) := by
 rw [IntKind.wrap_u64]; unfold v64; rw [BitVec.toNat_shiftLeft, Nat.shiftLeft_eq, Int.natCast_emod, Int.natCast_mul, Int.natCast_pow, Int.natCast_pow]; rfl
end Go.Proofs.YtolknnmaadkgiaaGreatDoor
