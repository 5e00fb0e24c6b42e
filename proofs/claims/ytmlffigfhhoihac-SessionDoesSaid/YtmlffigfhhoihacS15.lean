/- Rows of replies of the call's own; spoil, lent. -/
import Derived.Test.YtmlffigfhhoihacS14
import Derived.Test.YtmlffigfhhoihacS12
namespace Go.Proofs.Ytmlffigfhhoihac
open Go.RowKit Go.Uc

/-- The seven cells of a reply, whose slices are as E says. -/
def RepV (E : Value → Value → Rp → Prop) (vs : List Value) (r : Rp) : Prop := ∃ l d, vs = r.vals l d ∧ (l.oneCell' = true ∧ d.oneCell' = true) ∧ E l d r
/-- A row of the call's own of such. -/
def RowR (w : World) (B : Nat) (E : Value → Value → Rp → Prop) (v : Value) (rs : List Rp) : Prop := ∃ vss : List (List Value), w.ownsRow B 31 7 v rs.length vss.flatten ∧ vss.length = rs.length ∧ ∀ i (h : i < rs.length) (h' : i < vss.length), RepV E vss[i] rs[i]
/-- Such in a slice, wherever it lies. -/
def RepsE (w : World) (E : Value → Value → Rp → Prop) (A : Option Addr) (rs : List Rp) : Prop := ∀ i (h : i < rs.length), ∃ b off l d, A = some ⟨b, off, none⟩ ∧ (∀ j, j < 7 → w.cell? ⟨b, off + i * 7 + j, none⟩ = (rs[i].vals l d)[j]?) ∧ (l.oneCell' = true ∧ d.oneCell' = true) ∧ E l d rs[i]

theorem RepV.len {E : Value → Value → Rp → Prop} {vs : List Value} {r : Rp} (h : RepV E vs r) : vs.length = 7 := by
  obtain ⟨l, d, rfl, -⟩ := h
  rfl
theorem RdR.one {w : World} {l d : Value} {r : Rp} (h : RdR w l d r) : l.oneCell' = true ∧ d.oneCell' = true := by
  obtain ⟨Al, cl, Ad, cd, rfl, rfl, -⟩ := h
  exact ⟨rfl, rfl⟩
theorem vals_one (r : Rp) {l d : Value} (h : l.oneCell' = true ∧ d.oneCell' = true) : ∀ u ∈ r.vals l d, u.oneCell' = true := by
  intro u hu
  simp [Rp.vals] at hu
  rcases hu with rfl | rfl | rfl | rfl | rfl | rfl | rfl
  · rfl
  · rfl
  · rfl
  · rfl
  · rfl
  · exact h.1
  · exact h.2
theorem flat7 : ∀ (vss : List (List Value)), (∀ vs ∈ vss, vs.length = 7) → ∀ (i j : Nat) (hi : i < vss.length), j < 7 → vss.flatten[i * 7 + j]? = (vss[i])[j]?
  | [], _, i, j, hi, _ => absurd hi (by simp)
  | vs :: vss, h, 0, j, _, hj => by
    have := h vs (by simp)
    rw [List.flatten_cons, List.getElem?_append_left (by omega), Nat.zero_mul, Nat.zero_add]
    rfl
  | vs :: vss, h, i + 1, j, hi, hj => by
    have := h vs (by simp)
    rw [List.flatten_cons, List.getElem?_append_right (by omega), show (i + 1) * 7 + j - vs.length = i * 7 + j by omega, flat7 vss (fun v hv => h v (by simp [hv])) i j (by simpa using hi) hj]
    rfl
theorem flat7_len : ∀ (vss : List (List Value)), (∀ vs ∈ vss, vs.length = 7) → vss.flatten.length = vss.length * 7
  | [], _ => rfl
  | vs :: vss, h => by
    have := h vs (by simp)
    rw [List.flatten_cons, List.length_append, flat7_len vss fun v hv => h v (by simp [hv]), List.length_cons]
    omega
section rows
variable {w w' : World} {S : Nat → Prop} {B : Nat} {E E' : Value → Value → Rp → Prop} {v : Value} {rs : List Rp}
theorem RowR.nil (w : World) (B : Nat) (E : Value → Value → Rp → Prop) : RowR w B E (.slice none 0 0) [] := ⟨[], World.ownsRow_nil _ _ _ _, rfl, fun i h => absurd h (by simp)⟩
theorem RowR.mono (h : RowR w B E v rs) (he : ∀ l d r, r ∈ rs → E l d r → E' l d r) : RowR w B E' v rs := by
  obtain ⟨vss, h1, h2, h3⟩ := h
  refine ⟨vss, h1, h2, fun i a b => ?_⟩
  obtain ⟨l, d, e, o, x⟩ := h3 i a b
  exact ⟨l, d, e, o, he _ _ _ (List.getElem_mem _) x⟩
theorem RowR.keep (h : RowR w B E v rs) (hk : Keeps S w w') (hb : ∀ g, v.ownBlock = some g → ¬ S g) : RowR w' B E v rs := by
  obtain ⟨vss, h1, h2, h3⟩ := h
  exact ⟨vss, row_keep h1 hk hb, h2, h3⟩
theorem RowR.non (h : RowR w B E v rs) (hk : Keeps Non w w') : RowR w' B E v rs := h.keep hk fun _ _ e => e
theorem RowR.down {B' : Nat} (h : RowR w B E v rs) (hB : B' ≤ B) : RowR w B' E v rs := by
  obtain ⟨vss, h1, h2, h3⟩ := h
  exact ⟨vss, row_mono h1 hB, h2, h3⟩
theorem RowR.snoc {r : Rp} {vss : List (List Value)} {vs : List Value} (h1 : w.ownsRow B 31 7 v (rs.length + 1) (vss.flatten ++ vs)) (h2 : vss.length = rs.length)
    (h3 : ∀ i (h : i < rs.length) (h' : i < vss.length), RepV E vss[i] rs[i]) (hc : RepV E vs r) : RowR w B E v (rs ++ [r]) := by
  refine ⟨vss ++ [vs], by simpa using h1, by simp [h2], fun i a b => ?_⟩
  rcases Nat.lt_or_ge i rs.length with hi | hi
  · rw [List.getElem_append_left (by omega), List.getElem_append_left hi]; exact h3 i hi (by omega)
  · simp at a
    obtain rfl : i = rs.length := by omega
    rw [List.getElem_append_right (by omega), List.getElem_append_right (by omega)]
    simpa [h2] using hc
theorem RowR.open (h : RowR w B E v rs) : ∃ A c, v = .slice A rs.length c ∧ rs.length ≤ c ∧ RepsE w E A rs ∧ (0 < rs.length → ∃ g cur, A = some ⟨g, 0, none⟩ ∧ Blk w g 31 cur ∧ rs.length * 7 ≤ cur.size ∧ B ≤ g ∧ v.ownBlock = some g) := by
  obtain ⟨vss, h1, h2, h3⟩ := h
  rcases h1.2 with ⟨rfl, h4⟩ | ⟨g, cap, cur, rfl, h4, h5, h6, h7, h8, h9⟩
  · obtain rfl := List.eq_nil_of_length_eq_zero h4
    exact ⟨none, 0, rfl, Nat.le_refl _, fun i h => absurd h (by simp), fun h => absurd h (by simp)⟩
  · have h5' : Blk w g 31 cur := h5
    have hall : ∀ vs ∈ vss, vs.length = 7 := fun vs hv => by
      obtain ⟨i, hi, rfl⟩ := List.getElem_of_mem hv
      exact (h3 i (by omega) hi).len
    have hln := flat7_len vss hall
    refine ⟨_, cap, rfl, h6, fun i hi => ?_, fun _ => ⟨g, cur, rfl, h5', by rw [h8]; exact Nat.mul_le_mul_right _ h6, h4, rfl⟩⟩
    obtain ⟨l, d, e, o, x⟩ := h3 i hi (by omega)
    refine ⟨g, 0, l, d, rfl, fun j hj => ?_, o, x⟩
    rw [h5'.cell, Nat.zero_add, ← e]
    have e1 := flat7 vss hall i j (by omega) hj
    rw [← h9, List.getElem?_take, if_pos (by omega)] at e1
    rw [← e1]
    simp
theorem RepsE.keep {A : Option Addr} (h : RepsE w E A rs) (hk : Keeps S w w') (hb : ∀ b off, A = some ⟨b, off, none⟩ → 0 < rs.length → ¬ S b) : RepsE w' E A rs := fun i hi => by
  obtain ⟨b, off, l, d, hA, hc, ho, hx⟩ := h i hi
  refine ⟨b, off, l, d, hA, fun j hj => ?_, ho, hx⟩
  have e := hc j hj
  have hlt : j < (rs[i].vals l d).length := hj
  rw [List.getElem?_eq_getElem hlt] at e ⊢
  exact hk.cell e (hb b off hA (by omega))
theorem RepsE.non {A : Option Addr} (h : RepsE w E A rs) (hk : Keeps Non w w') : RepsE w' E A rs := h.keep hk fun _ _ _ _ e => e
theorem RepsE.mono {A : Option Addr} (h : RepsE w E A rs) (he : ∀ l d r, r ∈ rs → E l d r → E' l d r) : RepsE w E' A rs := fun i hi => by
  obtain ⟨b, off, l, d, hA, hc, ho, hx⟩ := h i hi
  exact ⟨b, off, l, d, hA, hc, ho, he _ _ _ (List.getElem_mem _) hx⟩
/-- The seven cells, one by one. -/
theorem RepsE.get {A : Option Addr} (h : RepsE w E A rs) {i : Nat} (hi : i < rs.length) : ∃ b off l d, A = some ⟨b, off, none⟩ ∧ w.cell? ⟨b, off + i * 7, none⟩ = some (.int .i64 rs[i].ses) ∧ w.cell? ⟨b, off + i * 7 + 1, none⟩ = some (.int .i64 rs[i].id) ∧ w.cell? ⟨b, off + i * 7 + 2, none⟩ = some (.int .i64 rs[i].err) ∧
    w.cell? ⟨b, off + i * 7 + 3, none⟩ = some (.int .i64 rs[i].num) ∧ w.cell? ⟨b, off + i * 7 + 4, none⟩ = some (.string rs[i].text) ∧ w.cell? ⟨b, off + i * 7 + 5, none⟩ = some l ∧ w.cell? ⟨b, off + i * 7 + 6, none⟩ = some d ∧ E l d rs[i] := by
  obtain ⟨b, off, l, d, hA, hc, -, hx⟩ := h i hi
  exact ⟨b, off, l, d, hA, hc 0 (by omega), hc 1 (by omega), hc 2 (by omega), hc 3 (by omega), hc 4 (by omega), hc 5 (by omega), hc 6 (by omega), hx⟩
theorem RepsE.ats {A : Option Addr} (h : RepsE w E A rs) : ∃ vss : List (List Value), vss.length = rs.length ∧ (∀ i (h : i < rs.length) (h' : i < vss.length), RepV E vss[i] rs[i]) ∧ vss.flatten.length = rs.length * 7 ∧ Ats w A vss.flatten ∧ ∀ u ∈ vss.flatten, u.oneCell' = true := by
  obtain ⟨vss, hl, hv⟩ := gather (n := rs.length) (Q := fun i (vs : List Value) => ∃ h : i < rs.length, RepV E vs rs[i] ∧ (∀ u ∈ vs, u.oneCell' = true) ∧ ∃ b off, A = some ⟨b, off, none⟩ ∧ ∀ j, j < 7 → w.cell? ⟨b, off + i * 7 + j, none⟩ = vs[j]?) (fun i hi => by
    obtain ⟨b, off, l, d, hA, hc, ho, hx⟩ := h i hi
    exact ⟨rs[i].vals l d, hi, ⟨l, d, rfl, ho, hx⟩, vals_one _ ho, b, off, hA, hc⟩)
  have hall : ∀ vs ∈ vss, vs.length = 7 := fun vs hm => by
    obtain ⟨i, hi, rfl⟩ := List.getElem_of_mem hm
    obtain ⟨_, hx, -⟩ := hv i hi
    exact hx.len
  have hln := flat7_len vss hall
  refine ⟨vss, hl, fun i a b => (hv i b).2.1, by rw [hln, hl], fun hp => ?_, fun u hu => ?_⟩
  · obtain ⟨_, _, _, b, off, hA, _⟩ := hv 0 (by omega)
    refine ⟨⟨b, off, none⟩, hA, fun j u hj => ?_⟩
    have hjl : j < vss.length * 7 := by
      rcases Nat.lt_or_ge j vss.flatten.length with h | h
      · omega
      · rw [List.getElem?_eq_none h] at hj; cases hj
    obtain ⟨_, _, _, b', off', hA', hc⟩ := hv (j / 7) (by omega)
    rw [hA] at hA'
    injection hA' with hA'
    injection hA' with e1 e2
    subst e1 e2
    have e3 := hc (j % 7) (by omega)
    have e4 := flat7 vss hall (j / 7) (j % 7) (by omega) (by omega)
    rw [show j / 7 * 7 + j % 7 = j by omega, hj] at e4
    rw [addr_add_none, ← show off + j / 7 * 7 + j % 7 = off + j by omega, e3, ← e4]
  · rw [List.mem_flatten] at hu
    obtain ⟨vs, hm, hu⟩ := hu
    obtain ⟨i, hi, rfl⟩ := List.getElem_of_mem hm
    exact (hv i hi).2.2.1 u hu
end rows
theorem wpList_append_reps {ops : Array Oper} {rest : List Oper} {o : Oper} {a : Act} {w : World} {Q : Exit → Act → World → Prop} (hgd : o.guard = none) (s x : Operand)
    (ho : o.op = .call { callee := .builtin .append, args := #[s, x], argTypes := #[26, 26] })
    (base : Nat) (v : Value) (n : Nat) (xs : List Value) (hs : a.eval s = v) (hown : w.ownsRow base 31 7 v n xs)
    (A : Option Addr) (m c : Nat) (news : List Value) (hx : a.eval x = .slice A m c) (hm : news.length = m * 7) (hr : Ats w A news) (h1 : ∀ u ∈ news, u.oneCell' = true)
    (hmax : (n + m) * 96 ≤ 140737488355328) (hbase : base ≤ w.heap.size)
    (h : ∀ v' w', w'.ownsRow base 31 7 v' (n + m) (xs ++ news) → Keeps (Owned v) w w' → (v'.ownBlock = v.ownBlock ∨ v'.ownBlock = Option.some w.heap.size) → wpList Try.prog ops Q rest (a.put o.dst v') w') : wpList Try.prog ops Q (o :: rest) a w := by
  obtain ⟨i, hi0, hz0, hz1, hz2⟩ := info_parts info31
  exact wpList_plain hgd fun _ hK => wp_append_any s x 26 ho base 31 i _ 7 96 Try.underlying26 hi0 hz0 hz1 hz2 rfl (by omega) v n xs hs hown A m c news hx (by omega) hr h1 (by unfold maxLen; omega) (by omega) hbase fun v' w' h2 h3 h4 => hK _ _ (h v' w' h2 h3 h4)
theorem Ats.seven (w : World) (a0 a1 a2 a3 a4 a5 a6 : Value) (t : TypeId) : Ats (w.alloc (.cells #[a0, a1, a2, a3, a4, a5, a6] t)) (some ⟨w.heap.size, 0, none⟩) [a0, a1, a2, a3, a4, a5, a6] := fun _ => ⟨_, rfl, fun j u hj => by
  have hb := Blk.new w t #[a0, a1, a2, a3, a4, a5, a6]
  rw [addr_add_none, hb.cell]
  simpa using hj⟩

/-- Blocks keep their kinds and sizes. -/
def Sz (w w' : World) : Prop := ∀ g t cs, Blk w g t cs → ∃ cs', Blk w' g t cs' ∧ cs'.size = cs.size
theorem Sz.refl (w : World) : Sz w w := fun g t cs h => ⟨cs, h, rfl⟩
theorem Sz.trans {w1 w2 w3 : World} (h : Sz w1 w2) (k : Sz w2 w3) : Sz w1 w3 := fun g t cs hb => by
  obtain ⟨cs', hb', e⟩ := h g t cs hb
  obtain ⟨cs2, hb2, e2⟩ := k g t cs' hb'
  exact ⟨cs2, hb2, by omega⟩
theorem Sz.non {w w' : World} (h : Keeps Non w w') : Sz w w' := fun g t cs hb => ⟨cs, hb.non h, rfl⟩
theorem Sz.set {w : World} {g i : Nat} {t : TypeId} {cs : Array Value} (h : Blk w g t cs) (u : Value) : Sz w (w.setCell ⟨g, i, none⟩ u) := fun g' t' cs' hb => by
  by_cases e : g' = g
  · subst e
    unfold Blk at h hb
    rw [h] at hb
    injection hb with hb
    injection hb with h1 h2 _
    subst h1 h2
    exact ⟨_, Blk.set (show Blk w g' t cs from h) i u, by simp⟩
  · exact ⟨cs', hb.far e u, rfl⟩
/-- A slice that may be written into. -/
def Wr (w : World) (t : TypeId) (v : Value) : Prop := ∃ A n c, v = .slice A n c ∧ (n ≤ c ∧ n ≤ maxLen) ∧ (0 < n → ∃ g cs, A = some ⟨g, 0, none⟩ ∧ Blk w g t cs ∧ n ≤ cs.size)
theorem Wr.sz {w w' : World} {t : TypeId} {v : Value} (h : Wr w t v) (k : Sz w w') : Wr w' t v := by
  obtain ⟨A, n, c, rfl, hc, h⟩ := h
  refine ⟨A, n, c, rfl, hc, fun hn => ?_⟩
  obtain ⟨g, cs, hA, hb, hl⟩ := h hn
  obtain ⟨cs', hb', e⟩ := k g t cs hb
  exact ⟨g, cs', hA, hb', by omega⟩
theorem row_wr {w : World} {B n : Nat} {t : TypeId} {v : Value} {xs : List Value} (h : w.ownsRow B t 1 v n xs) : Wr w t v := by
  rcases h.2 with ⟨rfl, h4⟩ | ⟨g, cap, cur, rfl, h4, h5, h6, h7, h8, h9⟩
  · exact ⟨_, _, _, rfl, ⟨Nat.le_refl _, by unfold maxLen; omega⟩, fun h => by omega⟩
  · exact ⟨_, _, _, rfl, ⟨h6, by omega⟩, fun _ => ⟨g, cur, rfl, h5, by omega⟩⟩
theorem RpO.wr {w : World} {B : Nat} {l d : Value} {r : Rp} (h : RpO w B l d r) : Wr w 9 l ∧ Wr w 5 d := ⟨row_wr h.1, row_wr h.2⟩

set_option maxRecDepth 100000 in
set_option maxHeartbeats 1000000 in
theorem spoil_any (n0 n1 n2 n3 : Int) (s : ByteArray) (l d : Value) (w : World) (hl : Wr w 9 l) (hd : Wr w 5 d) :
    Calls Try.prog 27 #[.agg #[.int .i64 n0, .int .i64 n1, .int .i64 n2, .int .i64 n3, .string s, l, d]] w fun e w' => e = .returned (.tuple #[]) ∧ Sz w w' ∧ Keeps (fun k => l.ownBlock = some k ∨ d.ownBlock = some k) w w' := by
  obtain ⟨Al, nl, cl, rfl, ⟨hlc, hlm⟩, hlb⟩ := id hl
  obtain ⟨Ad, nd, cd, rfl, ⟨hdc, hdm⟩, hdb⟩ := id hd
  unfold maxLen at hlm hdm
  obtain ⟨w1, hw1⟩ : ∃ w1, w1 = w.alloc (.cells #[.int .i64 n0, .int .i64 n1, .int .i64 n2, .int .i64 n3, .string s, .slice Al nl cl, .slice Ad nd cd] 31) := ⟨_, rfl⟩
  obtain ⟨q, hq⟩ : ∃ q, q = w.heap.size := ⟨_, rfl⟩
  have hk1 : Keeps Non w w1 := by rw [hw1]; exact (Keeps.refl _ _).alloc _
  have hQ1 : Blk w1 q 31 #[.int .i64 n0, .int .i64 n1, .int .i64 n2, .int .i64 n3, .string s, .slice Al nl cl, .slice Ad nd cd] := by rw [hw1, hq]; exact Blk.new _ _ _
  have HL := Lib.hid (hl.sz (Sz.non hk1))
  have HD := Lib.hid (hd.sz (Sz.non hk1))
  clear hl hd hlb hdb
  go_enter Try.func27, Try.ntmps27
  go_upto_region 2 with fail
  rw [← hw1, ← hq]
  clear hw1 hq
  go_loopw [2] (fun i wr => ∃ k : Nat, k ≤ nl ∧ i = .int .i64 k ∧ Sz w1 wr ∧ Keeps (fun k => (Value.slice Al nl cl).ownBlock = some k) w1 wr ∧ Blk wr q 31 #[.int .i64 n0, .int .i64 n1, .int .i64 n2, .int .i64 n3, .string s, .slice Al nl cl, .slice Ad nd cd]) (fun i _ => nl - (intOf i).toNat)
  case atStart => exact ⟨0, Nat.zero_le _, rfl, Sz.refl _, Keeps.refl _ _, hQ1⟩
  case round =>
    clear hQ1
    obtain ⟨k, hk, rfl, hS, hK, hQ⟩ := hrel
    have q5 : wr.cell? ⟨q, 5, none⟩ = some (.slice Al nl cl) := hQ.cell 5
    by_cases hlt : k < nl
    · obtain ⟨A', n', c', e, -, hb⟩ := HL.out.sz hS
      injection e with e1 e2 e3
      subst e1 e2 e3
      obtain ⟨g, cs, rfl, hb, hn⟩ := hb (by omega)
      have c0 : ∃ v, wr.cell? ⟨g, k, none⟩ = some v := ⟨_, by rw [hb.cell, Array.getElem?_eq_getElem (by omega)]⟩
      obtain ⟨v, c0⟩ := c0
      have f0 := hb.frozen k
      have hS2 := Lib.hid (hS.trans (Sz.set (i := k) hb (.string { data := #[63] })))
      have hK2 := Lib.hid (hK.set (p := ⟨g, k, none⟩) rfl (.string { data := #[63] }))
      have hQ2 := Lib.hid (hQ.far (p := ⟨g, k, none⟩) (hQ.ne hb (by decide)) (.string { data := #[63] }))
      clear hS hK hQ hb
      go_wp2_with fail
      go_roundw
      case rel => exact ⟨k + 1, by omega, by go_num, hS2.out, hK2.out, hQ2.out⟩
      case measure => simp [intOf]; omega
    · obtain rfl : k = nl := by omega
      obtain ⟨w2, rfl⟩ : ∃ w2 : World, w2 = wr := ⟨_, rfl⟩
      go_upto_region 6 with fail
      go_loopw [3] (fun i wr => ∃ j : Nat, j ≤ nd ∧ i = .int .i64 j ∧ Sz w2 wr ∧ Keeps (fun k => (Value.slice Ad nd cd).ownBlock = some k) w2 wr ∧ Blk wr q 31 #[.int .i64 n0, .int .i64 n1, .int .i64 n2, .int .i64 n3, .string s, .slice Al k cl, .slice Ad nd cd]) (fun i _ => nd - (intOf i).toNat)
      case atStart => exact ⟨0, Nat.zero_le _, rfl, Sz.refl _, Keeps.refl _ _, hQ⟩
      case round =>
        clear hQ q5
        obtain ⟨j, hj, rfl, hS', hK', hQ⟩ := hrel
        have q6 : wr.cell? ⟨q, 6, none⟩ = some (.slice Ad nd cd) := hQ.cell 6
        by_cases hlt2 : j < nd
        · obtain ⟨A', n', c', e, -, hb⟩ := HD.out.sz (hS.trans hS')
          injection e with e1 e2 e3
          subst e1 e2 e3
          obtain ⟨g, cs, rfl, hb, hn⟩ := hb (by omega)
          have c0 : ∃ v, wr.cell? ⟨g, j, none⟩ = some v := ⟨_, by rw [hb.cell, Array.getElem?_eq_getElem (by omega)]⟩
          obtain ⟨v, c0⟩ := c0
          have f0 := hb.frozen j
          have hS2 := Lib.hid (hS'.trans (Sz.set (i := j) hb (.int .u8 99)))
          have hK2 := Lib.hid (hK'.set (p := ⟨g, j, none⟩) rfl (.int .u8 99))
          have hQ2 := Lib.hid (hQ.far (p := ⟨g, j, none⟩) (hQ.ne hb (by decide)) (.int .u8 99))
          clear hS' hK' hQ hb
          go_wp2_with fail
          go_roundw
          case rel => exact ⟨j + 1, by omega, by go_num, hS2.out, hK2.out, hQ2.out⟩
          case measure => simp [intOf]; omega
        · go_wp2_with fail
          go_end0
          exact ⟨rfl, ((Sz.non hk1).trans hS).trans hS', (hk1.of_non.trans (hK.mono fun k e => .inl e)).trans (hK'.mono fun k e => .inr e)⟩
end Go.Proofs.Ytmlffigfhhoihac
