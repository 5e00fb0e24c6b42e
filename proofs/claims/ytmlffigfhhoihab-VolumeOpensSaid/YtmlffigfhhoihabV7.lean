import Derived.Test.YtmlffigfhhoihabV6
namespace Go.Proofs.Ytmlffigfhhoihab
open Go.RowKit Go.Uc

/-- pick's number. -/
def pk (c n : Int) : Int := if c < 0 then (-(c + 1)).tmod n else c % n
theorem pk_bounds (c n : Int) (h : 0 < n) : 0 ≤ pk c n ∧ pk c n < n := by
  unfold pk
  split
  · exact ⟨Int.tmod_nonneg n (by omega), Int.tmod_lt_of_pos _ h⟩
  · exact ⟨Int.emod_nonneg c (by omega), Int.emod_lt_of_pos c h⟩
theorem pick_pk (c n : Int) (w : World) (h1 : 0 < n) (h2 : n ≤ 1000000) (h3 : -9223372036854775808 ≤ c) (h4 : c ≤ 9223372036854775807) :
    Calls Try.prog 8 #[.int .i64 c, .int .i64 n] w fun e w' => e = .returned (.int .i64 (pk c n)) ∧ w = w' := pick_any c n w h1 h2 h3 h4

/-- A call of a script, as plain data. -/
structure Opr where
  kind : Int
  at_ : Int
  many : Int
  b : List UInt8
def I64 (n : Int) : Prop := -9223372036854775808 ≤ n ∧ n ≤ 9223372036854775807
/-- A script that came in. -/
def Oprs (w : World) (A : Option Addr) (os : List Opr) : Prop := ∀ i (h : i < os.length), ∃ b off Ai ci, A = some ⟨b, off, none⟩ ∧ w.cell? ⟨b, off + i * 4, none⟩ = some (.int .i64 os[i].kind) ∧ w.cell? ⟨b, off + i * 4 + 1, none⟩ = some (.int .i64 os[i].at_) ∧
  w.cell? ⟨b, off + i * 4 + 2, none⟩ = some (.int .i64 os[i].many) ∧ w.cell? ⟨b, off + i * 4 + 3, none⟩ = some (.slice Ai os[i].b.length ci) ∧ At w Ai os[i].b ∧ os[i].b.length ≤ ci ∧ os[i].b.length ≤ 140737488351232 ∧
  I64 os[i].kind ∧ I64 os[i].at_ ∧ I64 os[i].many

def opX (xs : List UInt8) (o : Opr) : List UInt8 := if pk o.kind 2 = 0 then wrX xs o.at_ o.b else dsX xs o.at_ o.many
theorem opX_length (xs : List UInt8) (o : Opr) : (opX xs o).length = xs.length := by
  unfold opX
  split
  · exact wrX_length _ _ _
  · exact dsX_length _ _ _
def scX (xs : List UInt8) (os : List Opr) : List UInt8 := os.foldl opX xs
theorem scX_take (xs : List UInt8) (os : List Opr) (k : Nat) (h : k < os.length) : scX xs (os.take (k + 1)) = opX (scX xs (os.take k)) os[k] := by
  unfold scX
  rw [← List.take_append_getElem h, List.foldl_append]
  rfl
theorem scX_length (xs : List UInt8) (os : List Opr) : (scX xs os).length = xs.length := by
  unfold scX
  induction os generalizing xs with
  | nil => rfl
  | cons o os ih => rw [List.foldl_cons, ih, opX_length]

theorem lay_get (xs : List UInt8) (i : Nat) (a : List UInt8) (h : i + a.length ≤ xs.length) (k : Nat) : (lay xs i a)[k]? = if i ≤ k ∧ k < i + a.length then a[k - i]? else xs[k]? := by
  have e : (xs.take i).length = i := by simp; omega
  unfold lay
  rcases Nat.lt_or_ge k i with h1 | h1
  · rw [List.getElem?_append_left (by omega), if_neg (by omega), List.getElem?_take, if_pos h1]
  · rw [List.getElem?_append_right (by omega), e]
    rcases Nat.lt_or_ge k (i + a.length) with h2 | h2
    · rw [List.getElem?_append_left (by omega), if_pos ⟨h1, h2⟩]
    · rw [List.getElem?_append_right (by omega), if_neg (by omega), List.getElem?_drop]
      congr 1
      omega
theorem lay_comm (xs : List UInt8) (i j : Nat) (a b : List UInt8) (hi : i + a.length ≤ xs.length) (hj : j + b.length ≤ xs.length) (h : j + b.length ≤ i ∨ i + a.length ≤ j) : lay (lay xs i a) j b = lay (lay xs j b) i a := by
  apply List.ext_getElem?
  intro k
  rw [lay_get _ _ _ (by rw [lay_length _ _ _ hi]; omega), lay_get _ _ _ hi, lay_get _ _ _ (by rw [lay_length _ _ _ hj]; omega), lay_get _ _ _ hj]
  by_cases h1 : i ≤ k ∧ k < i + a.length
  · rw [if_neg (show ¬ (j ≤ k ∧ k < j + b.length) by omega), if_pos h1, if_pos h1]
  · rw [if_neg h1]
    split <;> rfl
theorem wrX_comm (xs : List UInt8) (x y : Nat) (a b : List UInt8) (h : ¬ (x < y + b.length ∧ y < x + a.length)) : wrX (wrX xs x a) y b = wrX (wrX xs y b) x a := by
  have e1 : ∀ zs : List UInt8, zs.length = xs.length → ∀ (p : Nat) (c : List UInt8), wrX zs p c = if p + c.length ≤ xs.length then lay zs p c else zs := by
    intro zs hz p c
    unfold wrX
    by_cases hp : p + c.length ≤ xs.length
    · rw [if_pos (by simp [wB]; omega), if_pos hp]; rfl
    · rw [if_neg (by simp [wB]; omega), if_neg hp]
  have l1 := wrX_length xs x a
  have l2 := wrX_length xs y b
  rw [e1 _ l1, e1 _ l2, e1 _ rfl, e1 _ rfl]
  split
  · split
    · exact lay_comm xs x y a b (by omega) (by omega) (by omega)
    · rfl
  · split <;> rfl

set_option maxRecDepth 100000 in
set_option maxHeartbeats 4000000 in
theorem volumeApart_any (chunks : Int) (A : Option Addr) (c : Nat) (os : List Opr) (oa ob : Opr) (Aa Ab : Option Addr) (ca cb : Nat) (w : World) (hO : Oprs w A os) (hn : os.length ≤ 140737488351232) (hch : I64 chunks)
    (ha1 : At w Aa oa.b) (ha2 : oa.b.length ≤ ca) (ha3 : oa.b.length ≤ 140737488351232) (ha4 : I64 oa.at_) (hb1 : At w Ab ob.b) (hb2 : ob.b.length ≤ cb) (hb3 : ob.b.length ≤ 140737488351232) (hb4 : I64 ob.at_) :
    Calls Try.prog 3 #[.int .i64 chunks, .slice A os.length c, .agg #[.int .i64 oa.kind, .int .i64 oa.at_, .int .i64 oa.many, .slice Aa oa.b.length ca], .agg #[.int .i64 ob.kind, .int .i64 ob.at_, .int .i64 ob.many, .slice Ab ob.b.length cb]] w
      fun e w' => e = .returned (.bool true) ∧ Keeps Non w w' := by
  have HO := Lib.hid hO
  have HA1 := Lib.hid ha1
  have HB1 := Lib.hid hb1
  clear hO ha1 hb1
  unfold I64 at hch ha4 hb4
  obtain ⟨r, hr⟩ : ∃ r : Nat, pk chunks 64 = r := ⟨(pk chunks 64).toNat, by have := pk_bounds chunks 64 (by omega); omega⟩
  have hr64 : r < 64 := by have := pk_bounds chunks 64 (by omega); omega
  have HR := Lib.hid hr
  obtain ⟨N, hN⟩ : ∃ N : Nat, N = 256 * (1 + r) := ⟨_, rfl⟩
  have hNi : 256 * (1 + (r : Int)) = (N : Int) := by omega
  have hNb : 256 ≤ N ∧ N ≤ 16384 := by omega
  have hNs : Hid (szB (N : Int) = true) := by show _ = _; simp [szB]; omega
  have hNm : Hid (N % 256 = 0) := by show _ = _; omega
  have HN := Lib.hid hNi
  clear hr hN hNi
  go_enter Try.func3, Try.ntmps3
  go_wp2_with fail
  refine (awake_any _).mono ?_
  rintro e w1 ⟨rfl, hK1⟩
  have hBa1 : Blk w1 w.heap.size 25 #[.int .i64 oa.kind, .int .i64 oa.at_, .int .i64 oa.many, .slice Aa oa.b.length ca] := Blk.non ((Blk.new w 25 _).alloc _) hK1
  have hBb1 : Blk w1 (w.heap.size + 1) 25 #[.int .i64 ob.kind, .int .i64 ob.at_, .int .i64 ob.many, .slice Ab ob.b.length cb] := by
    have := Blk.non (Blk.new (w.alloc (.cells #[.int .i64 oa.kind, .int .i64 oa.at_, .int .i64 oa.many, .slice Aa oa.b.length ca] 25)) 25 #[.int .i64 ob.kind, .int .i64 ob.at_, .int .i64 ob.many, .slice Ab ob.b.length cb]) hK1
    simpa using this
  have hk1 : Keeps Non w w1 := (((Keeps.refl _ _).alloc _).alloc _).trans hK1
  obtain ⟨pA, hpA⟩ : ∃ p, p = w.heap.size := ⟨_, rfl⟩
  obtain ⟨pB, hpB⟩ : ∃ p, p = w.heap.size + 1 := ⟨_, rfl⟩
  have hpw : w.heap.size ≤ pA ∧ pA < pB := by omega
  rw [← hpB] at hBb1 ⊢
  rw [← hpA] at hBa1 ⊢
  clear hpA hpB hK1
  go_wp2_with (go_at_call 8; go_must (refine (pick_pk chunks 64 _ (by omega) (by omega) hch.1 hch.2).mono ?_); rw [HR.out]; rintro e w2 ⟨rfl, rfl⟩)
  rw [HN.out]
  refine (new_ok N _ hNs.out).mono ?_
  rintro e w2 ⟨g1, gb1, rfl, hv1, hgb1, hg1, hK2⟩
  go_wp2_with fail
  refine (new_ok N _ hNs.out).mono ?_
  rintro e w3 ⟨g2, gb2, rfl, hv2, hgb2, hg2, hK3⟩
  have hl11 := hv1.1.lt
  have hl12 := hv1.2.1.lt
  have hv13 := hv1.non hK3
  have hk3 := (hk1.trans hK2).trans hK3
  have hBa3 := (hBa1.non hK2).non hK3
  have hBb3 := (hBb1.non hK2).non hK3
  have hzl : (zeros N).length = N := zeros_length N
  have HZL := Lib.hid hzl
  have hpl := hBb1.lt
  have hdis : g1 ≠ g2 ∧ g1 ≠ gb2 ∧ gb1 ≠ g2 ∧ gb1 ≠ gb2 ∧ pA ≠ gb1 ∧ pA ≠ gb2 ∧ pB ≠ gb1 ∧ pB ≠ gb2 ∧ w.heap.size ≤ gb1 ∧ w.heap.size ≤ gb2 := by have := hk1.size; omega
  obtain ⟨d1, d2, d3, d4, d5, d6, d7, d8, d9, d10⟩ := hdis
  clear hBa1 hBb1 hv1 hk1 hK2 hK3 hzl
  go_wp2_with fail
  have H0 : scX (zeros N) (os.take 0) = zeros N := rfl
  have H0' := Lib.hid H0
  clear H0
  go_loopw [15, 16] (fun iv _ wr => ∃ k : Nat, k ≤ os.length ∧ iv = .int .i64 k ∧ VolB wr g1 gb1 55 (scX (zeros N) (os.take k)) ∧ VolB wr g2 gb2 55 (scX (zeros N) (os.take k)) ∧
    Blk wr pA 25 #[.int .i64 oa.kind, .int .i64 oa.at_, .int .i64 oa.many, .slice Aa oa.b.length ca] ∧ Blk wr pB 25 #[.int .i64 ob.kind, .int .i64 ob.at_, .int .i64 ob.many, .slice Ab ob.b.length cb] ∧ Keeps Non w wr) (fun iv _ _ => os.length - (intOf iv).toNat)
  case atStart => exact ⟨0, Nat.zero_le _, rfl, hv13, hv2, hBa3, hBb3, hk3⟩
  case round =>
    obtain ⟨k, hk, rfl, hx, hy, hBa, hBb, hK⟩ := hrel
    have hXl : (scX (zeros N) (os.take k)).length = N := by rw [scX_length]; exact HZL.out
    have hst := fun h => scX_take (zeros N) os k h
    obtain ⟨X, hX⟩ : ∃ X, X = scX (zeros N) (os.take k) := ⟨_, rfl⟩
    rw [← hX] at hx hy hXl
    have HX := Lib.hid hX
    have HXl := Lib.hid hXl
    have HST := Lib.hid hst
    clear hX hXl hst
    by_cases hlt : k < os.length
    · obtain ⟨b, off, Ai, ci, rfl, q1, q2, q3, q4, q5, q6, q7, i1, i2, i3⟩ := HO.out k hlt
      have hst := HST.out hlt
      rw [← HX.out] at hst
      obtain ⟨o, ho⟩ : ∃ o, o = os[k] := ⟨_, rfl⟩
      rw [← ho] at q1 q2 q3 q4 q5 q6 q7 i1 i2 i3 hst
      have HS2 := Lib.hid hst
      clear ho hst
      unfold I64 at i1 i2 i3
      have p1 := hK.cell q1 id
      have p2 := hK.cell q2 id
      have p3 := hK.cell q3 id
      have p4 := hK.cell q4 id
      have q5' := Lib.hid q5
      clear q1 q2 q3 q4 q5
      have hkb := pk_bounds o.kind 2 (by omega)
      have hgl1 := hx.1.lt
      have hgl2 := hx.2.1.lt
      have hgl3 := hy.1.lt
      have hgl4 := hy.2.1.lt
      have hpl1 := hBa.lt
      have hpl2 := hBb.lt
      have hwl := hK.size
      go_wp2_with fail
      obtain ⟨w5, hw5⟩ : ∃ w5, w5 = wr.alloc (.cells #[.int .i64 o.kind, .int .i64 o.at_, .int .i64 o.many, .slice Ai o.b.length ci] 25) := ⟨_, rfl⟩
      have hka : Keeps Non wr w5 := by rw [hw5]; exact (Keeps.refl _ _).alloc _
      have hB5 : Blk w5 wr.heap.size 25 #[.int .i64 o.kind, .int .i64 o.at_, .int .i64 o.many, .slice Ai o.b.length ci] := by rw [hw5]; exact Blk.new _ _ _
      rw [← hw5]
      obtain ⟨gO, hgO⟩ : ∃ g, g = wr.heap.size := ⟨_, rfl⟩
      rw [← hgO] at hB5 ⊢
      have hgo : gO ≠ gb1 ∧ gO ≠ gb2 ∧ gO ≠ g1 ∧ gO ≠ g2 := by omega
      have hk5 := hK.trans hka
      have hx5 := hx.non hka
      have hy5 := hy.non hka
      have hBa5 := hBa.non hka
      have hBb5 := hBb.non hka
      have hA5 := q5'.out.non hk5
      clear hw5 hka hgO hK hx hy hBa hBb p1 p2 p3 p4
      have k1 : w5.cell? ⟨gO, 1, none⟩ = some (.int .i64 o.at_) := hB5.cell 1
      have k2 : w5.cell? ⟨gO, 2, none⟩ = some (.int .i64 o.many) := hB5.cell 2
      have k3 : w5.cell? ⟨gO, 3, none⟩ = some (.slice Ai o.b.length ci) := hB5.cell 3
      refine (pick_pk o.kind 2 _ (by omega) (by omega) i1.1 i1.2).mono ?_
      by_cases hkz : pk o.kind 2 = 0
      · rw [hkz]
        have hox : opX X o = wrX X o.at_ o.b := by unfold opX; rw [if_pos hkz]
        have HOX := Lib.hid hox
        clear hkz hox hkb
        rintro e w6 ⟨rfl, rfl⟩
        go_wp2_with fail
        refine (write_all g1 gb1 ci X o.b o.at_ Ai _ hx5 (by have := HXl.out; omega) hA5 q6 q7).mono ?_
        rintro e w6 ⟨rfl, hx6, hK6⟩
        have hB6 := hB5.one hK6 hgo.1
        have k1' : w6.cell? ⟨gO, 1, none⟩ = some (.int .i64 o.at_) := hB6.cell 1
        have k3' : w6.cell? ⟨gO, 3, none⟩ = some (.slice Ai o.b.length ci) := hB6.cell 3
        have hy6 := hy5.keep hK6 (fun e => d3 e.symm) (fun e => d4 e.symm)
        have hk6 : Keeps Non w w6 := hk5.then hK6 (fun i hi e => by unfold Only at e; omega)
        have hA6 := q5'.out.non hk6
        have hBa6 := hBa5.one hK6 d5
        have hBb6 := hBb5.one hK6 d7
        clear hx5 hy5 hBa5 hBb5 hA5 hK6 k1 k2 k3 hB5 hk5 hB6
        go_wp2_with fail
        refine (write_all g2 gb2 ci X o.b o.at_ Ai _ hy6 (by have := HXl.out; omega) hA6 q6 q7).mono ?_
        rintro e w7 ⟨rfl, hy7, hK7⟩
        have hx7 := hx6.keep hK7 (fun e => d2 e) (fun e => d4 e)
        have hk7 : Keeps Non w w7 := hk6.then hK7 (fun i hi e => by unfold Only at e; omega)
        have hBa7 := hBa6.one hK7 d6
        have hBb7 := hBb6.one hK7 d8
        go_wp2_with fail
        go_roundw
        case rel => exact ⟨k + 1, by omega, by go_num, by rw [HS2.out, HOX.out]; exact hx7, by rw [HS2.out, HOX.out]; exact hy7, hBa7, hBb7, hk7⟩
        case measure => simp [intOf]; omega
      · have hkz1 : pk o.kind 2 = 1 := by omega
        rw [hkz1]
        have hox : opX X o = dsX X o.at_ o.many := by unfold opX; rw [if_neg hkz]
        have HOX := Lib.hid hox
        clear hkz hkz1 hox hkb
        rintro e w6 ⟨rfl, rfl⟩
        go_wp2_with fail
        refine (discard_all g1 gb1 X o.at_ o.many _ hx5 (by have := HXl.out; omega)).mono ?_
        rintro e w6 ⟨rfl, hx6, hK6⟩
        have hB6 := hB5.one hK6 hgo.1
        have k1' : w6.cell? ⟨gO, 1, none⟩ = some (.int .i64 o.at_) := hB6.cell 1
        have k2' : w6.cell? ⟨gO, 2, none⟩ = some (.int .i64 o.many) := hB6.cell 2
        have hy6 := hy5.keep hK6 (fun e => d3 e.symm) (fun e => d4 e.symm)
        have hk6 : Keeps Non w w6 := hk5.then hK6 (fun i hi e => by unfold Only at e; omega)
        have hBa6 := hBa5.one hK6 d5
        have hBb6 := hBb5.one hK6 d7
        clear hx5 hy5 hBa5 hBb5 hA5 hK6 k1 k2 k3 hB5 hk5 hB6
        go_wp2_with fail
        refine (discard_all g2 gb2 X o.at_ o.many _ hy6 (by have := HXl.out; omega)).mono ?_
        rintro e w7 ⟨rfl, hy7, hK7⟩
        have hx7 := hx6.keep hK7 (fun e => d2 e) (fun e => d4 e)
        have hk7 : Keeps Non w w7 := hk6.then hK7 (fun i hi e => by unfold Only at e; omega)
        have hBa7 := hBa6.one hK7 d6
        have hBb7 := hBb6.one hK7 d8
        go_wp2_with fail
        go_roundw
        case rel => exact ⟨k + 1, by omega, by go_num, by rw [HS2.out, HOX.out]; exact hx7, by rw [HS2.out, HOX.out]; exact hy7, hBa7, hBb7, hk7⟩
        case measure => simp [intOf]; omega
    · obtain rfl : k = os.length := by omega
      have a1 : wr.cell? ⟨pA, 1, none⟩ = some (.int .i64 oa.at_) := hBa.cell 1
      have a3 : wr.cell? ⟨pA, 3, none⟩ = some (.slice Aa oa.b.length ca) := hBa.cell 3
      have b1 : wr.cell? ⟨pB, 1, none⟩ = some (.int .i64 ob.at_) := hBb.cell 1
      have b3 : wr.cell? ⟨pB, 3, none⟩ = some (.slice Ab ob.b.length cb) := hBb.cell 3
      rw [List.take_length] at HX
      obtain ⟨x, hx0⟩ : ∃ x : Nat, pk oa.at_ (N : Int) = x := ⟨(pk oa.at_ N).toNat, by have := pk_bounds oa.at_ N (by omega); omega⟩
      obtain ⟨y, hy0⟩ : ∃ y : Nat, pk ob.at_ (N : Int) = y := ⟨(pk ob.at_ N).toNat, by have := pk_bounds ob.at_ N (by omega); omega⟩
      have hxN : x < N := by have := pk_bounds oa.at_ N (by omega); omega
      have hyN : y < N := by have := pk_bounds ob.at_ N (by omega); omega
      have HX0 := Lib.hid hx0
      have HY0 := Lib.hid hy0
      obtain ⟨la, hla⟩ : ∃ l, l = oa.b.length := ⟨_, rfl⟩
      obtain ⟨lb, hlb⟩ : ∃ l, l = ob.b.length := ⟨_, rfl⟩
      rw [← hla] at ha2 ha3 a3
      rw [← hlb] at hb2 hb3 b3
      have HLA := Lib.hid hla
      have HLB := Lib.hid hlb
      clear hx0 hy0 hla hlb
      rw [← HLA.out, ← HLB.out]
      go_wp2_with fail
      refine (pick_pk oa.at_ (N : Int) _ (by omega) (by omega) ha4.1 ha4.2).mono ?_
      rw [HX0.out]
      rintro e w5 ⟨rfl, rfl⟩
      go_wp2_with fail
      refine (pick_pk ob.at_ (N : Int) _ (by omega) (by omega) hb4.1 hb4.2).mono ?_
      rw [HY0.out]
      rintro e w5 ⟨rfl, rfl⟩
      by_cases h1 : N < la
      · go_wp2_with fail
        go_ret
        exact ⟨rfl, hK⟩
      by_cases h2 : N < lb
      · go_wp2_with fail
        go_ret
        exact ⟨rfl, hK⟩
      by_cases h3 : x < y + lb
      case' pos =>
        by_cases h4 : y < x + la
        case' pos =>
          go_wp2_with fail
          go_ret
          exact ⟨rfl, hK⟩
      all_goals
        have hno : ¬ (x < y + ob.b.length ∧ y < x + oa.b.length) := by rw [← HLA.out, ← HLB.out]; omega
        have hcm := Lib.hid (wrX_comm X x y oa.b ob.b hno)
        have l1 : (wrX X (x : Int) oa.b).length = N := by rw [wrX_length]; exact HXl.out
        have l2 : (wrX X (y : Int) ob.b).length = N := by rw [wrX_length]; exact HXl.out
        have l3 : (wrX (wrX X (x : Int) oa.b) (y : Int) ob.b).length = N := by rw [wrX_length]; exact l1
        have L1 := Lib.hid l1
        have L2 := Lib.hid l2
        have L3 := Lib.hid l3
        have hgl1 := hx.1.lt
        have hgl2 := hx.2.1.lt
        have hgl3 := hy.1.lt
        have hgl4 := hy.2.1.lt
        clear hno l1 l2 l3
        go_wp2_with fail
        have W1 := write_all g1 gb1 ca X oa.b x Aa _ hx (by have := HXl.out; omega) (HA1.out.non hK) (by rw [← HLA.out]; exact ha2) (by rw [← HLA.out]; exact ha3)
        rw [HXl.out, ← HLA.out] at W1
        refine W1.mono ?_
        rintro e w5 ⟨rfl, hx5, hK5⟩
        have hk5 : Keeps Non w w5 := hK.then hK5 (fun i hi e => by unfold Only at e; omega)
        have hy5 := hy.keep hK5 (fun e => d3 e.symm) (fun e => d4 e.symm)
        have hBa5 := hBa.one hK5 d5
        have hBb5 := hBb.one hK5 d7
        have b3' : w5.cell? ⟨pB, 3, none⟩ = some (.slice Ab lb cb) := by have := hBb5.cell 3; rw [← HLB.out] at this; exact this
        clear W1 hx hy hBa hBb hK5 hK a1 a3 b1 b3
        go_wp2_with fail
        have W2 := write_all g1 gb1 cb (wrX X x oa.b) ob.b y Ab _ hx5 (by rw [L1.out]; omega) (HB1.out.non hk5) (by rw [← HLB.out]; exact hb2) (by rw [← HLB.out]; exact hb3)
        rw [L1.out, ← HLB.out] at W2
        refine W2.mono ?_
        rintro e w6 ⟨rfl, hx6, hK6⟩
        have hk6 : Keeps Non w w6 := hk5.then hK6 (fun i hi e => by unfold Only at e; omega)
        have hy6 := hy5.keep hK6 (fun e => d3 e.symm) (fun e => d4 e.symm)
        have hBa6 := hBa5.one hK6 d5
        have hBb6 := hBb5.one hK6 d7
        have b3' : w6.cell? ⟨pB, 3, none⟩ = some (.slice Ab lb cb) := by have := hBb6.cell 3; rw [← HLB.out] at this; exact this
        clear W2 hx5 hy5 hBa5 hBb5 hK6 hk5
        go_wp2_with fail
        have W3 := write_all g2 gb2 cb X ob.b y Ab _ hy6 (by have := HXl.out; omega) (HB1.out.non hk6) (by rw [← HLB.out]; exact hb2) (by rw [← HLB.out]; exact hb3)
        rw [HXl.out, ← HLB.out] at W3
        refine W3.mono ?_
        rintro e w7 ⟨rfl, hy7, hK7⟩
        have hk7 : Keeps Non w w7 := hk6.then hK7 (fun i hi e => by unfold Only at e; omega)
        have hx7 := hx6.keep hK7 d2 d4
        have hBa7 := hBa6.one hK7 d6
        have a3' : w7.cell? ⟨pA, 3, none⟩ = some (.slice Aa la ca) := by have := hBa7.cell 3; rw [← HLA.out] at this; exact this
        clear W3 hx6 hy6 hBa6 hBb6 hK7 hk6
        go_wp2_with fail
        have W4 := write_all g2 gb2 ca (wrX X y ob.b) oa.b x Aa _ hy7 (by rw [L2.out]; omega) (HA1.out.non hk7) (by rw [← HLA.out]; exact ha2) (by rw [← HLA.out]; exact ha3)
        rw [L2.out, ← HLA.out] at W4
        refine W4.mono ?_
        rintro e w8 ⟨rfl, hy8, hK8⟩
        have hk8 : Keeps Non w w8 := hk7.then hK8 (fun i hi e => by unfold Only at e; omega)
        have hx8 := hx7.keep hK8 d2 d4
        rw [← hcm.out] at hy8
        obtain ⟨Z, hZ⟩ : ∃ Z, Z = wrX (wrX X x oa.b) y ob.b := ⟨_, rfl⟩
        have hLZ : Z.length = N := by rw [hZ]; exact L3.out
        rw [← hZ] at hx8 hy8
        have HLZ := Lib.hid hLZ
        clear W4 hx7 hy7 hBa7 hK8 hk7 hZ hLZ
        have C1 := cells_any g1 gb1 Z w8 hx8 (by rw [HLZ.out]; omega) (by rw [HLZ.out]; exact hNm.out)
        have hcl := cellsTo_length Z (Z.length / 256)
        rw [HLZ.out] at C1 hcl
        obtain ⟨cs, hcs⟩ : ∃ cs, cs = cellsTo Z (N / 256) := ⟨_, rfl⟩
        rw [← hcs] at C1 hcl
        have HCS := Lib.hid hcs
        have HC1 := Lib.hid C1
        clear C1 hcs
        go_wp2_with fail
        refine HC1.out.mono ?_
        rintro e w9 ⟨v9, rfl, hR9, hK9⟩
        obtain ⟨A9, c9, hv9, hC9, -, -⟩ := hR9.open
        subst hv9
        have C2 := cells_any g2 gb2 Z w9 (hy8.non hK9) (by rw [HLZ.out]; omega) (by rw [HLZ.out]; exact hNm.out)
        rw [HLZ.out, ← HCS.out] at C2
        have HC2 := Lib.hid C2
        have hk9 := hk8.trans hK9
        clear C2 HC1 hR9 hx8 hy8 hk8
        go_wp2_with fail
        refine HC2.out.mono ?_
        rintro e w10 ⟨v10, rfl, hR10, hK10⟩
        obtain ⟨A10, c10, hv10, hC10, -, -⟩ := hR10.open
        subst hv10
        have hk10 := hk9.trans hK10
        have hC9' := hC9.non hK10
        clear HC2 hR10 hC9
        go_wp2_with fail
        refine (same_any A9 A10 c9 c10 cs w10 hC9' hC10 (by omega)).mono ?_
        rintro e w11 ⟨rfl, hK11⟩
        go_wp2_with fail
        go_ret
        exact ⟨rfl, hk10.trans hK11⟩
end Go.Proofs.Ytmlffigfhhoihab
