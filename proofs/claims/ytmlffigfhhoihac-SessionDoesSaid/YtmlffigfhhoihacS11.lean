/- Scripts in memory; the walk of SessionOnce. -/
import Derived.Test.YtmlffigfhhoihacS10
import Derived.StillTailTactics
import Derived.Deep.Cut
import Derived.Deep.CutRange
namespace Go.Proofs.Ytmlffigfhhoihac
open Go.RowKit Go.Uc

/-- Replies in a slice, wherever it lies. -/
def Reps (w : World) (A : Option Addr) (rs : List Rp) : Prop := ∀ i (h : i < rs.length), ∃ b off l d, A = some ⟨b, off, none⟩ ∧ w.cell? ⟨b, off + i * 7, none⟩ = some (.int .i64 rs[i].ses) ∧ w.cell? ⟨b, off + i * 7 + 1, none⟩ = some (.int .i64 rs[i].id) ∧ w.cell? ⟨b, off + i * 7 + 2, none⟩ = some (.int .i64 rs[i].err) ∧
  w.cell? ⟨b, off + i * 7 + 3, none⟩ = some (.int .i64 rs[i].num) ∧ w.cell? ⟨b, off + i * 7 + 4, none⟩ = some (.string rs[i].text) ∧ w.cell? ⟨b, off + i * 7 + 5, none⟩ = some l ∧ w.cell? ⟨b, off + i * 7 + 6, none⟩ = some d ∧ RdR w l d rs[i] ∧ RpB rs[i] ∧ I64 rs[i].ses ∧ I64 rs[i].id
theorem Reps.non {w w' : World} {A : Option Addr} {rs : List Rp} (h : Reps w A rs) (hk : Keeps Non w w') : Reps w' A rs := fun i hi => by
  obtain ⟨b, off, l, d, h0, h1, h2, h3, h4, h5, h6, h7, h8, h9⟩ := h i hi
  exact ⟨b, off, l, d, h0, hk.cell h1 id, hk.cell h2 id, hk.cell h3 id, hk.cell h4 id, hk.cell h5 id, hk.cell h6 id, hk.cell h7 id, h8.non hk, h9⟩
/-- A call of a script, as plain data. -/
structure Opn where
  kind : Int
  which : Int
  r : Rp
  l : List Rp
/-- A script that came in. -/
def Opns (w : World) (A : Option Addr) (os : List Opn) : Prop := ∀ i (h : i < os.length), ∃ b off l d AL cL, A = some ⟨b, off, none⟩ ∧ w.cell? ⟨b, off + i * 10, none⟩ = some (.int .i64 os[i].kind) ∧ w.cell? ⟨b, off + i * 10 + 1, none⟩ = some (.int .i64 os[i].which) ∧
  w.cell? ⟨b, off + i * 10 + 2, none⟩ = some (.int .i64 os[i].r.ses) ∧ w.cell? ⟨b, off + i * 10 + 3, none⟩ = some (.int .i64 os[i].r.id) ∧ w.cell? ⟨b, off + i * 10 + 4, none⟩ = some (.int .i64 os[i].r.err) ∧ w.cell? ⟨b, off + i * 10 + 5, none⟩ = some (.int .i64 os[i].r.num) ∧
  w.cell? ⟨b, off + i * 10 + 6, none⟩ = some (.string os[i].r.text) ∧ w.cell? ⟨b, off + i * 10 + 7, none⟩ = some l ∧ w.cell? ⟨b, off + i * 10 + 8, none⟩ = some d ∧ w.cell? ⟨b, off + i * 10 + 9, none⟩ = some (.slice AL os[i].l.length cL) ∧
  RdR w l d os[i].r ∧ RpB os[i].r ∧ I64 os[i].kind ∧ I64 os[i].which ∧ I64 os[i].r.ses ∧ I64 os[i].r.id ∧ Reps w AL os[i].l ∧ os[i].l.length ≤ cL ∧ (os[i].l.length + 1) * 96 ≤ 140737488355328

/-- A row of nine replies of the law's own, that read as they did when the law was called. -/
def RowQ (w0 w : World) (gq : Nat) (K : Nat → Rp) : Prop := ∃ cur, Blk w gq 31 cur ∧ cur.size = 63 ∧ ∀ i, i < 9 → ∃ l d, cur[i * 7]? = some (.int .i64 (K i).ses) ∧ cur[i * 7 + 1]? = some (.int .i64 (K i).id) ∧ cur[i * 7 + 2]? = some (.int .i64 (K i).err) ∧ cur[i * 7 + 3]? = some (.int .i64 (K i).num) ∧ cur[i * 7 + 4]? = some (.string (K i).text) ∧ cur[i * 7 + 5]? = some l ∧ cur[i * 7 + 6]? = some d ∧ RdR w0 l d (K i)
theorem RowQ.keep {w0 w w' : World} {gq : Nat} {K : Nat → Rp} {S : Nat → Prop} (h : RowQ w0 w gq K) (hk : Keeps S w w') (hS : ¬ S gq) : RowQ w0 w' gq K := by
  obtain ⟨cur, h1, h2⟩ := h
  exact ⟨cur, h1.keep hk hS, h2⟩
theorem RowQ.new (w0 w : World) (gq : Nat) (h : Blk w gq 31 zeroRow) : RowQ w0 w gq (fun _ => Rp.none) := by
  refine ⟨zeroRow, h, zeroRow_size, fun i hi => ?_⟩
  exact ⟨.slice none 0 0, .slice none 0 0, zeroAt i 0 _ hi (by omega) rfl, zeroAt i 1 _ hi (by omega) rfl, zeroAt i 2 _ hi (by omega) rfl, zeroAt i 3 _ hi (by omega) rfl, zeroAt i 4 _ hi (by omega) rfl, zeroAt i 5 _ hi (by omega) rfl, zeroAt i 6 _ hi (by omega) rfl, RdR.empty w0 Rp.none rfl rfl⟩
theorem RowQ.put {w0 w w' : World} {gq sn : Nat} {K : Nat → Rp} {cur : Array Value} {l d : Value} {p : Rp} (h : RowQ w0 w gq K) (hc : Blk w gq 31 cur)
    (hb : Blk w' gq 31 (set7 cur (sn * 7) (.int .i64 p.ses) (.int .i64 p.id) (.int .i64 p.err) (.int .i64 p.num) (.string p.text) l d)) (hs : sn < 9) (ho : RdR w0 l d p) : RowQ w0 w' gq (upd K sn p) := by
  obtain ⟨cur', h1, h2, h3⟩ := h
  have hcc : cur' = cur := by
    unfold Blk at h1 hc
    rw [h1] at hc
    injection hc with hc
    injection hc
  subst hcc
  refine ⟨_, hb, by rw [set7_size]; exact h2, fun i hi => ?_⟩
  by_cases e : i = sn
  · subst e
    rw [upd_same]
    obtain ⟨x0, x1, x2, x3, x4, x5, x6⟩ := set7_at (cur := cur') (o := i * 7) (by omega) (.int .i64 p.ses) (.int .i64 p.id) (.int .i64 p.err) (.int .i64 p.num) (.string p.text) l d
    exact ⟨l, d, x0, x1, x2, x3, x4, x5, x6, ho⟩
  · rw [upd_other _ e]
    obtain ⟨l', d', x0, x1, x2, x3, x4, x5, x6, h7⟩ := h3 i hi
    refine ⟨l', d', ?_, ?_, ?_, ?_, ?_, ?_, ?_, h7⟩
    all_goals
      rw [set7_far _ _ _ _ _ _ _ _ _ _ (by omega)]
      assumption
/-- The numbers in a table are numbers. -/
def VK (K : Nat → Rp) : Prop := ∀ i, i < 9 → (K i).id = 0 ∨ (1 ≤ (K i).id ∧ (K i).id ≤ 1073741824)
theorem VK.upd {K : Nat → Rp} (h : VK K) (s : Nat) (p : Rp) (hp : 1 ≤ p.id ∧ p.id ≤ 1073741824) : VK (upd K s p) := fun i hi => by
  by_cases e : i = s
  · rw [e, upd_same]; exact .inr hp
  · rw [upd_other _ e]; exact h i hi
theorem pk_small (c n : Int) (h0 : 0 ≤ c) (h1 : c < n) : pk c n = c := by
  unfold pk
  rw [if_neg (by omega)]
  exact Int.emod_eq_of_lt h0 h1

theorem Tab.ne {w : World} {B g q t : Nat} {ok : Option Nat} {A : Nat → Prop} {K : Nat → Rp} {f a r : Int} {cs : Array Value} (h : Tab w B A g ok K f a r) (hb : Blk w q t cs) (h1 : t ≠ 71) (h2 : t ≠ 31) : q ≠ g ∧ ∀ gk, ok = some gk → gk ≠ q := by
  rcases h with ⟨rfl, -, h, -⟩ | ⟨gk, rfl, h⟩
  · exact ⟨hb.ne h h1, fun gk e => by cases e⟩
  · obtain ⟨cur, hc, -⟩ := h.row
    exact ⟨hb.ne h.tb h1, fun gk' e => by injection e with e; rw [← e]; exact hc.ne hb h2.symm⟩
theorem KeepV.zero {K K' : Nat → Rp} {p : Rp} {f r f' r' : Int} (h : KeepV K p f r 0 K' f' r') : isB p.ses p.id = true ∧ (K p.ses.toNat).id < p.id ∧ K' = upd K p.ses.toNat p ∧ f' = wrap64 (f + 1) ∧ r' = r := by
  cases h with
  | ok h1 h2 => exact ⟨h1, h2, rfl, rfl, rfl⟩
theorem lastV_in (K : Nat → Rp) (s : Nat) (h1 : 1 ≤ s) (h2 : s ≤ 8) : lastV K s = (K s).id := by
  unfold lastV
  rw [if_pos (by simp [isB]; omega)]
  simp

set_option maxRecDepth 100000 in
set_option maxHeartbeats 8000000 in
theorem sessionOnce_any (A : Option Addr) (c : Nat) (os : List Opn) (w : World) (hO : Opns w A os) (hn : os.length ≤ 140737488351232) :
    Calls Try.prog 3 #[.slice A os.length c] w fun e w' => e = .returned (.bool true) ∧ Keeps Non w w' := by
  have HO := Lib.hid hO
  obtain ⟨B, hB⟩ : ∃ B, B = w.heap.size := ⟨_, rfl⟩
  have HB : Hid (B = w.heap.size) := hB
  have HM := Lib.hid run_make_row
  have hmk := run_make_row
  clear hO hB
  go_enter Try.func3, Try.ntmps3
  go_wp2_with fail
  refine (awake_any _).mono ?_
  rintro e w1 ⟨rfl, hK1⟩
  go_wp2_with fail
  have HN := Lib.hid (new_any B (fun _ => True) w1 (by have := HB.out; have := hK1.size; omega))
  refine HN.out.mono ?_
  rintro e w2 ⟨rfl, h2, hK2⟩
  have hk2 := hK1.trans hK2
  obtain ⟨g, hg⟩ : ∃ g, g = w1.heap.size := ⟨_, rfl⟩
  rw [← hg] at h2 ⊢
  clear hg HN hK1 hK2
  obtain ⟨w3, hw3⟩ : ∃ w3, w3 = w2.alloc (.cells zeroRow 31) := ⟨_, rfl⟩
  obtain ⟨gq, hgq⟩ : ∃ gq, gq = w2.heap.size := ⟨_, rfl⟩
  have hk3 : Keeps Non w w3 := by rw [hw3]; exact hk2.alloc _
  have h3 : Tab w3 B (fun _ => True) g none (fun _ => Rp.none) 0 0 0 := h2.non (show Keeps Non w2 w3 by rw [hw3]; exact (Keeps.refl _ _).alloc _)
  have hQ3 : RowQ w w3 gq (fun _ => Rp.none) := RowQ.new w w3 gq (by rw [hw3, hgq]; exact Blk.new _ _ _)
  have hgqB : B ≤ gq := by have := HB.out; have := hk2.size; omega
  go_wp2_with fail
  rw [← hw3, ← hgq]
  clear hw3 hgq h2 hk2
  have hgg : gq ≠ g := by
    obtain ⟨cur, hc, -⟩ := hQ3
    exact h3.box hc
  go_loopw [6, 7, 8, 9, 10, 11, 12, 13, 14] (fun i _ _ _ _ _ _ _ _ wr => ∃ (k : Nat) (K : Nat → Rp) (ok : Option Nat) (f a r : Int), k ≤ os.length ∧ i = .int .i64 k ∧ Tab wr B (fun _ => True) g ok K f a r ∧ RowQ w wr gq K ∧ Hid (∀ gk, ok = some gk → gk ≠ gq) ∧ Hid (VK K) ∧ Keeps Non w wr) (fun i _ _ _ _ _ _ _ _ _ => os.length - (intOf i).toNat)
  case atStart => exact ⟨0, _, none, 0, 0, 0, Nat.zero_le _, rfl, h3, hQ3, (fun gk e => by cases e), (fun i _ => .inl rfl), hk3⟩
  case round =>
    clear h3 hQ3 hk3 w3 w2 w1 hmk
    obtain ⟨k, K, ok, f, a, r, hk, rfl, hT, hQ, HNE, HVK, hK⟩ := hrel
    by_cases hlt : k < os.length
    · obtain ⟨b, off, l, d, AL, cL, rfl, q0, q1, q2, q3, q4, q5, q6, q7, q8, q9, hrd, hrb, i1, i2, i3, i4, -⟩ := HO.out k hlt
      obtain ⟨o, ho⟩ : ∃ o, o = os[k] := ⟨_, rfl⟩
      rw [← ho] at q0 q1 q2 q3 q4 q5 q6 q9 hrd hrb i1 i2 i3 i4
      clear ho
      obtain ⟨Al, cl, Ad, cd, rfl, rfl, -⟩ := id hrd
      have p0 := hK.cell q0 id
      have p1 := hK.cell q1 id
      have p2 := hK.cell q2 id
      have p3 := hK.cell q3 id
      have p4 := hK.cell q4 id
      have p5 := hK.cell q5 id
      have p6 := hK.cell q6 id
      have p7 := hK.cell q7 id
      have p8 := hK.cell q8 id
      have p9 := hK.cell q9 id
      clear q0 q1 q2 q3 q4 q5 q6 q7 q8 q9
      have HRD := Lib.hid hrd
      have HRB := Lib.hid hrb
      clear hrd hrb
      go_wp2_with fail
      obtain ⟨w5, hw5⟩ : ∃ w5, w5 = wr.alloc (.cells #[.int .i64 o.kind, .int .i64 o.which, .int .i64 o.r.ses, .int .i64 o.r.id, .int .i64 o.r.err, .int .i64 o.r.num, .string o.r.text, .slice Al o.r.list.length cl, .slice Ad o.r.data.length cd, .slice AL o.l.length cL] 33) := ⟨_, rfl⟩
      rw [← hw5]
      obtain ⟨gO, hgO⟩ : ∃ g, g = wr.heap.size := ⟨_, rfl⟩
      rw [← hgO]
      have hka : Keeps Non wr w5 := by rw [hw5]; exact (Keeps.refl _ _).alloc _
      have hB5 : Blk w5 gO 33 #[.int .i64 o.kind, .int .i64 o.which, .int .i64 o.r.ses, .int .i64 o.r.id, .int .i64 o.r.err, .int .i64 o.r.num, .string o.r.text, .slice Al o.r.list.length cl, .slice Ad o.r.data.length cd, .slice AL o.l.length cL] := by rw [hw5, hgO]; exact Blk.new _ _ _
      have hT5 := hT.non hka
      have hQ5 := hQ.keep hka id
      have hk5 := hK.trans hka
      clear p0 p1 p2 p3 p4 p5 p6 p7 p8 p9 hT hQ hK hw5 hgO hka
      obtain ⟨rn, hrn⟩ : ∃ rn : Nat, pk o.r.ses 9 = rn := ⟨(pk o.r.ses 9).toNat, by have := pk_bounds o.r.ses 9 (by omega); omega⟩
      have hrn9 : rn < 9 := by have := pk_bounds o.r.ses 9 (by omega); omega
      have hrni : (rn : Int) < 9 := by omega
      have hrn0 : (0 : Int) ≤ (rn : Int) := by omega
      have HRN := Lib.hid hrn
      clear hrn
      refine (pick_pk o.r.ses 9 _ (by omega) (by omega) i3).mono ?_
      rw [HRN.out]
      rintro e w6 ⟨rfl, hw6⟩
      subst w6
      obtain ⟨cur, hcb, hcz, hcv⟩ := id hQ5
      obtain ⟨lq, dq, -, e1, -⟩ := hcv rn hrn9
      have c1 : w5.cell? ⟨gq, rn * 7 + 1, none⟩ = some (.int .i64 (K rn).id) := by rw [hcb.cell]; exact e1
      have k0 : w5.cell? ⟨gO, 0, none⟩ = some (.int .i64 o.kind) := hB5.cell 0
      clear hcb hcv e1 cur hcz
      go_wp2_with fail
      obtain ⟨tn, htn⟩ : ∃ tn : Nat, pk o.kind 2 = tn := ⟨(pk o.kind 2).toNat, by have := pk_bounds o.kind 2 (by omega); omega⟩
      have htn2 : tn < 2 := by have := pk_bounds o.kind 2 (by omega); omega
      refine (pick_pk o.kind 2 _ (by omega) (by omega) i1).mono ?_
      rw [htn]
      rintro e w6 ⟨rfl, hw6⟩
      subst w6
      clear htn c1 k0
      have hz5 : B ≤ w5.heap.size := by have := HB.out; have := hk5.size; omega
      have hlow5 := hT5.lowk
      have hgql : gq < w5.heap.size := by obtain ⟨cur, hcb, -⟩ := hQ5; exact hcb.lt
      by_cases htz : tn = 0
      · subst htz
        have k2 : w5.cell? ⟨gO, 2, none⟩ = some (.int .i64 o.r.ses) := hB5.cell 2
        have k3 : w5.cell? ⟨gO, 3, none⟩ = some (.int .i64 o.r.id) := hB5.cell 3
        have HLk := Lib.hid (look_any o.r.ses o.r.id w5 hT5 hz5)
        clear hT5
        go_wp2_with fail
        refine HLk.out.mono ?_
        rintro e w6 ⟨v1, v2, v3, ok6, a6, r6, rfl, -, h6, hE6, hK6⟩
        have hQ6 := hQ5.keep hK6 hgg
        have HNE6 : Hid (∀ gk, ok6 = some gk → gk ≠ gq) := hE6.ne hgql HNE.out
        have hk6 : Keeps Non w w6 := hk5.then hK6 fun i hi e => by unfold Only at e; have := HB.out; omega
        obtain ⟨K6, hK6e⟩ : ∃ K6, K6 = K := ⟨_, rfl⟩
        obtain ⟨f6, hf6e⟩ : ∃ f6, f6 = f := ⟨_, rfl⟩
        rw [← hK6e] at hQ6 h6 HVK
        rw [← hf6e] at h6
        have HVK6 := HVK
        clear hK6 hE6 HLk hB5 hQ5 hk5 k2 k3 hK6e hf6e
        go_wp2_with fail
        go_loopw [10, 11, 12, 13, 14] (fun i _ _ _ _ wi => ∃ (s : Nat) (ok : Option Nat) (a : Int), 1 ≤ s ∧ s ≤ 9 ∧ i = .int .i64 s ∧ Tab wi B (fun _ => True) g ok K6 f6 a r6 ∧ RowQ w wi gq K6 ∧ Hid (∀ gk, ok = some gk → gk ≠ gq) ∧ Keeps Non w wi) (fun i _ _ _ _ _ => 9 - (intOf i).toNat)
        case atStart => exact ⟨1, ok6, a6, by omega, by omega, rfl, h6, hQ6, HNE6, hk6⟩
        case round =>
          clear h6 hQ6 hk6 HNE6
          obtain ⟨s, oki, ai, hs1, hs9, rfl, hT, hQ, HNEi, hK⟩ := hrel
          by_cases hs8 : s ≤ 8
          · have HLV := Lib.hid (lastV_in K6 s hs1 hs8)
            have hBw : B ≤ wr.heap.size := by have := HB.out; have := hK.size; omega
            have HLa := Lib.hid (last_any s wr.drew (hT.non ((Keeps.refl _ _).drew)) (by simpa using hBw))
            obtain ⟨cur, hcb, hcz, hcv⟩ := id hQ
            obtain ⟨lq, dq, e0, e1, e2, e3, e4, e5, e6, hrq⟩ := hcv s (by omega)
            have c1 : wr.cell? ⟨gq, s * 7 + 1, none⟩ = some (.int .i64 (K6 s).id) := by rw [hcb.cell]; exact e1
            have hsi0 : (0 : Int) ≤ (s : Int) := by omega
            have hsi9 : (s : Int) < 9 := by omega
            have HF := Lib.hid (hT.fine s)
            clear hcb hcv hcz e0 e1 e2 e3 e4 e5 e6 hrq
            go_wp2_with fail
            go_region_held3 (fun w' => w'.cell? ⟨gq, s * 7 + 1, none⟩ = some (.int .i64 (K6 s).id)) (first | go_keep | exact hK7.cell c1 hgg)
              (first | (go_at_call 11; go_must (refine HLa.out.mono ?_); rw [HLV.out]; rintro e w7 ⟨ok7, rfl, h7, hE7, hK7⟩; have c7 := hK7.cell c1 hgg))
            have hk7 : Keeps Non w w7 := hK.drew.then hK7 fun i hi e => by unfold Only at e; have := HB.out; have := hT.lowk.1; omega
            have hQ7 := (hQ.keep ((Keeps.refl Non wr).drew) id).keep hK7 hgg
            have HNE7 : Hid (∀ gk, ok7 = some gk → gk ≠ gq) := hE7.ne (by obtain ⟨cur, hcb, -⟩ := hQ; exact hcb.lt) HNEi.out
            clear hK7 hE7 hQ hK HLa c1 hT
            by_cases hz : (K6 s).id = 0
            · have hzb : ((K6 s).id == 0) = true := by rw [hz]; rfl
              have hzn : ((K6 s).id != (K6 s).id) = false := by simp
              have HZ := Lib.hid hz
              clear hz
              go_wp2_with fail
              go_roundw
              case rel => exact ⟨s + 1, ok7, ai, by omega, by omega, by go_num, h7, hQ7, HNE7, hk7⟩
              case measure => simp [intOf]; omega
            · have hzb : ((K6 s).id == 0) = false := by rw [beq_eq_false_iff_ne]; exact hz
              have hzn : ((K6 s).id != (K6 s).id) = false := by simp
              have hvk := HVK6.out s (by omega)
              have his : isB s (K6 s).id = true := by simp [isB]; omega
              have HIS := Lib.hid his
              have HLo := Lib.hid (look_any s (K6 s).id w7 h7 (by have := HB.out; have := hk7.size; omega))
              have hlow7 := h7.lowk.1
              clear hz his hvk h7
              go_wp2_with fail
              refine HLo.out.mono ?_
              rintro e w8 ⟨v1, v2, v3, ok8, a8, r8, rfl, hv, h8, hE8, hK8⟩
              obtain ⟨l8, d8, e8, rfl, rfl, rfl, rfl, hRo⟩ := hv.isSame HIS.out (by simp)
              rw [Int.toNat_natCast] at e8 hRo
              obtain ⟨Al8, cl8, Ad8, cd8, el, ed, -⟩ := hRo.rd
              subst el ed
              subst e8
              obtain ⟨x8, hx8⟩ : ∃ x, x = w8.alloc (.cells #[.int .i64 (K6 s).ses, .int .i64 (K6 s).id, .int .i64 (K6 s).err, .int .i64 (K6 s).num, .string (K6 s).text, (.slice Al8 (K6 s).list.length cl8), (.slice Ad8 (K6 s).data.length cd8)] 31) := ⟨_, rfl⟩
              obtain ⟨gB, hgB⟩ : ∃ g, g = w8.heap.size := ⟨_, rfl⟩
              have hka8 : Keeps Non w8 x8 := by rw [hx8]; exact (Keeps.refl _ _).alloc _
              have hX8 : Blk x8 gB 31 #[.int .i64 (K6 s).ses, .int .i64 (K6 s).id, .int .i64 (K6 s).err, .int .i64 (K6 s).num, .string (K6 s).text, (.slice Al8 (K6 s).list.length cl8), (.slice Ad8 (K6 s).data.length cd8)] := by rw [hx8, hgB]; exact Blk.new _ _ _
              have hk8 : Keeps Non w x8 := (hk7.then hK8 fun i hi e => by unfold Only at e; have := HB.out; omega).trans hka8
              have h8' := h8.non hka8
              have hQ8 := (hQ7.keep hK8 hgg).keep hka8 id
              have HNE8 : Hid (∀ gk, ok8 = some gk → gk ≠ gq) := hE8.ne (by obtain ⟨cur, hcb, -⟩ := hQ7; exact hcb.lt) HNE7.out
              obtain ⟨cur, hcb, hcz, hcv⟩ := id hQ8
              obtain ⟨lq, dq, e0, e1, e2, e3, e4, e5, e6, hrq⟩ := hcv s (by omega)
              obtain ⟨Aq, cq, Adq, cdq, rfl, rfl, -⟩ := id hrq
              have z0 : x8.cell? ⟨gq, s * 7, none⟩ = some (.int .i64 (K6 s).ses) := by rw [hcb.cell]; exact e0
              have z1 : x8.cell? ⟨gq, s * 7 + 1, none⟩ = some (.int .i64 (K6 s).id) := by rw [hcb.cell]; exact e1
              have z2 : x8.cell? ⟨gq, s * 7 + 2, none⟩ = some (.int .i64 (K6 s).err) := by rw [hcb.cell]; exact e2
              have z3 : x8.cell? ⟨gq, s * 7 + 3, none⟩ = some (.int .i64 (K6 s).num) := by rw [hcb.cell]; exact e3
              have z4 : x8.cell? ⟨gq, s * 7 + 4, none⟩ = some (.string (K6 s).text) := by rw [hcb.cell]; exact e4
              have z5 : x8.cell? ⟨gq, s * 7 + 5, none⟩ = some (.slice Aq (K6 s).list.length cq) := by rw [hcb.cell]; exact e5
              have z6 : x8.cell? ⟨gq, s * 7 + 6, none⟩ = some (.slice Adq (K6 s).data.length cdq) := by rw [hcb.cell]; exact e6
              have y0 : x8.cell? ⟨gB, 0, none⟩ = some (.int .i64 (K6 s).ses) := hX8.cell 0
              have y1 : x8.cell? ⟨gB, 1, none⟩ = some (.int .i64 (K6 s).id) := hX8.cell 1
              have y2 : x8.cell? ⟨gB, 2, none⟩ = some (.int .i64 (K6 s).err) := hX8.cell 2
              have y3 : x8.cell? ⟨gB, 3, none⟩ = some (.int .i64 (K6 s).num) := hX8.cell 3
              have y4 : x8.cell? ⟨gB, 4, none⟩ = some (.string (K6 s).text) := hX8.cell 4
              have y5 : x8.cell? ⟨gB, 5, none⟩ = some (.slice Al8 (K6 s).list.length cl8) := hX8.cell 5
              have y6 : x8.cell? ⟨gB, 6, none⟩ = some (.slice Ad8 (K6 s).data.length cd8) := hX8.cell 6
              have HSm := Lib.hid (same_any (K6 s) _ _ _ _ x8.drew ((hRo.rd.non hka8).non (Keeps.refl _ _).drew) ((hrq.non hk8).non (Keeps.refl _ _).drew) HF.out)
              clear hcb hcv hcz e0 e1 e2 e3 e4 e5 e6 hrq hRo hv h8 hK8 hE8 hQ7 hk7 HLo hX8 hka8
              go_wp2_with fail
              rw [← hx8, ← hgB]
              clear hx8 hgB
              go_still_tail 5, (by kernel_rfl)
              clear z0 z1 z2 z3 z4 z5 z6 y0 y1 y2 y3 y4 y5 y6
              go_wp2_with fail
              refine HSm.out.mono ?_
              rintro e w9 ⟨rfl, hK9⟩
              have hd9 : Keeps Non x8 w9 := ((Keeps.refl Non x8).drew).trans hK9
              have h9 := h8'.non hd9
              have hQ9 := hQ8.keep hd9 id
              have hk9 := hk8.trans hd9
              clear h8' hQ8 hk8 hK9 hd9 HSm
              go_wp2_with fail
              go_roundw
              case rel => exact ⟨s + 1, ok8, _, by omega, by omega, by go_num, h9, hQ9, HNE8, hk9⟩
              case measure => simp [intOf]; omega
          · obtain rfl : s = 9 := by omega
            go_wp2_with fail
            go_roundw
            case rel => exact ⟨k + 1, K6, oki, f6, ai, r6, by omega, by go_num, hT, hQ, HNEi, HVK6, hK⟩
            case measure => simp [intOf]; omega
      · have htz1 : tn = 1 := by omega
        subst htz1
        have k2 : w5.cell? ⟨gO, 2, none⟩ = some (.int .i64 o.r.ses) := hB5.cell 2
        have k3 : w5.cell? ⟨gO, 3, none⟩ = some (.int .i64 o.r.id) := hB5.cell 3
        have k4 : w5.cell? ⟨gO, 4, none⟩ = some (.int .i64 o.r.err) := hB5.cell 4
        have k5 : w5.cell? ⟨gO, 5, none⟩ = some (.int .i64 o.r.num) := hB5.cell 5
        have k6 : w5.cell? ⟨gO, 6, none⟩ = some (.string o.r.text) := hB5.cell 6
        have k7 : w5.cell? ⟨gO, 7, none⟩ = some (.slice Al o.r.list.length cl) := hB5.cell 7
        have k8 : w5.cell? ⟨gO, 8, none⟩ = some (.slice Ad o.r.data.length cd) := hB5.cell 8
        have HKp := Lib.hid (keep_any o.r _ _ w5 hT5 hz5 (fun w' hk => HRD.out.non (hk5.then hk fun i hi e => by unfold Only at e; have := HB.out; omega)) HRB.out)
        have hne33 := hT5.ne hB5 (by decide) (by decide)
        clear hT5
        go_wp2_with fail
        refine HKp.out.mono ?_
        rintro e w6 ⟨c6, K6, ok6, f6, r6, rfl, hv, h6m, hE6, hK6⟩
        obtain ⟨a6, ha6⟩ : ∃ a6, a6 = a := ⟨_, rfl⟩
        have h6 : Tab w6 B (fun _ => True) g ok6 K6 f6 a6 r6 := by rw [ha6]; exact h6m.mono fun _ _ => trivial
        have HNE6 : Hid (∀ gk, ok6 = some gk → gk ≠ gq) := hE6.ne hgql HNE.out
        have hk6 : Keeps Non w w6 := hk5.then hK6 fun i hi e => by
          have hb := HB.out
          rcases e with e | e
          · omega
          · exact absurd (hlow5.2 i e) (by omega)
        have hQ6o := hQ5.keep hK6 fun e => by
          rcases e with e | e
          · exact hgg e
          · exact HNE.out _ e rfl
        have hB6 := hB5.keep hK6 fun e => by
          rcases e with e | e
          · exact hne33.1 e
          · exact hne33.2 _ e rfl
        clear h6m ha6 hE6 hK6 HKp hB5 hQ5 hk5 k2 k3 k4 k5 k6 k7 k8 hne33
        by_cases hc : c6 = 0
        · subst hc
          obtain ⟨hz1, hz2, hz3, -, -⟩ := hv.zero
          have hzb := isB_of hz1
          have hse : o.r.ses = (rn : Int) := by have := HRN.out; rw [pk_small o.r.ses 9 (by omega) (by omega)] at this; exact this
          have hsn : o.r.ses.toNat = rn := by omega
          rw [hsn] at hz2 hz3
          have k2 : w6.cell? ⟨gO, 2, none⟩ = some (.int .i64 rn) := by rw [← hse]; exact hB6.cell 2
          have k3 : w6.cell? ⟨gO, 3, none⟩ = some (.int .i64 o.r.id) := hB6.cell 3
          have k4 : w6.cell? ⟨gO, 4, none⟩ = some (.int .i64 o.r.err) := hB6.cell 4
          have k5 : w6.cell? ⟨gO, 5, none⟩ = some (.int .i64 o.r.num) := hB6.cell 5
          have k6 : w6.cell? ⟨gO, 6, none⟩ = some (.string o.r.text) := hB6.cell 6
          have k7 : w6.cell? ⟨gO, 7, none⟩ = some (.slice Al o.r.list.length cl) := hB6.cell 7
          have k8 : w6.cell? ⟨gO, 8, none⟩ = some (.slice Ad o.r.data.length cd) := hB6.cell 8
          have m1 : ¬ (rn : Int) < 1 := by omega
          have m2 : ¬ (8 : Int) < (rn : Int) := by omega
          have m3 : ¬ o.r.id ≤ (K rn).id := by omega
          go_upto_region 17 with fail
          clear m1 m2 m3 k3
          have k3 : w6.cell? ⟨gO, 3, none⟩ = some (.int .i64 o.r.id) := hB6.cell 3
          obtain ⟨cur, hcb6, hcz6, hcv6⟩ := id hQ6o
          obtain ⟨⟨va0, sa0⟩, fa0, ⟨va1, sa1⟩, fa1, ⟨va2, sa2⟩, fa2, ⟨va3, sa3⟩, fa3, ⟨va4, sa4⟩, fa4, ⟨va5, sa5⟩, fa5, ⟨va6, sa6⟩, fa6, hBa, hKa⟩ := store_seven hcb6 (rn * 7) (by omega) (.int .i64 rn) (.int .i64 o.r.id) (.int .i64 o.r.err) (.int .i64 o.r.num) (.string o.r.text) (.slice Al o.r.list.length cl) (.slice Ad o.r.data.length cd)
          obtain ⟨w7, hw7⟩ : ∃ w7, w7 = (((((((w6.setCell ⟨gq, rn * 7, none⟩ (.int .i64 rn)).setCell ⟨gq, rn * 7 + 1, none⟩ (.int .i64 o.r.id)).setCell ⟨gq, rn * 7 + 2, none⟩ (.int .i64 o.r.err)).setCell ⟨gq, rn * 7 + 3, none⟩ (.int .i64 o.r.num)).setCell ⟨gq, rn * 7 + 4, none⟩ (.string o.r.text)).setCell ⟨gq, rn * 7 + 5, none⟩ (.slice Al o.r.list.length cl)).setCell ⟨gq, rn * 7 + 6, none⟩ (.slice Ad o.r.data.length cd)) := ⟨_, rfl⟩
          have H7 := Lib.hid (h6.boxed hcb6 HNE6.out hKa)
          have HQ7 := Lib.hid (hQ6o.put (p := o.r) (w' := (((((((w6.setCell ⟨gq, rn * 7, none⟩ (.int .i64 rn)).setCell ⟨gq, rn * 7 + 1, none⟩ (.int .i64 o.r.id)).setCell ⟨gq, rn * 7 + 2, none⟩ (.int .i64 o.r.err)).setCell ⟨gq, rn * 7 + 3, none⟩ (.int .i64 o.r.num)).setCell ⟨gq, rn * 7 + 4, none⟩ (.string o.r.text)).setCell ⟨gq, rn * 7 + 5, none⟩ (.slice Al o.r.list.length cl)).setCell ⟨gq, rn * 7 + 6, none⟩ (.slice Ad o.r.data.length cd))) (sn := rn) hcb6 (by rw [hse]; exact hBa) hrn9 HRD.out)
          have HK7 := Lib.hid (hk6.then hKa fun i hi e => by unfold Only at e; have := HB.out; omega)
          have HVK6 : Hid (VK K6) := by rw [hz3]; exact VK.upd HVK.out rn o.r (by omega)
          have HKE := Lib.hid hz3
          rw [← hw7] at H7 HQ7 HK7
          have HW7 := Lib.hid hw7
          clear hw7 hcb6 hcz6 hcv6 hBa hKa h6 hk6 hQ6o hv hz1 hz2 hz3 hzb hse hsn hB6
          go_wp2_with fail
          rw [← HW7.out]
          have h6 := H7.out
          have hQ6 : RowQ w w7 gq K6 := by rw [HKE.out]; exact HQ7.out
          have hk6 := HK7.out
          clear k2 k3 k4 k5 k6 k7 k8 H7 HQ7 HK7 HW7 HKE
          clear sa0 fa0 sa1 fa1 sa2 fa2 sa3 fa3 sa4 fa4 sa5 fa5 sa6 fa6
          go_loopw [10, 11, 12, 13, 14] (fun i _ _ _ _ wi => ∃ (s : Nat) (ok : Option Nat) (a : Int), 1 ≤ s ∧ s ≤ 9 ∧ i = .int .i64 s ∧ Tab wi B (fun _ => True) g ok K6 f6 a r6 ∧ RowQ w wi gq K6 ∧ Hid (∀ gk, ok = some gk → gk ≠ gq) ∧ Keeps Non w wi) (fun i _ _ _ _ _ => 9 - (intOf i).toNat)
          case atStart => exact ⟨1, ok6, a6, by omega, by omega, rfl, h6, hQ6, HNE6, hk6⟩
          case round =>
            clear h6 hQ6 hk6 HNE6
            obtain ⟨s, oki, ai, hs1, hs9, rfl, hT, hQ, HNEi, hK⟩ := hrel
            by_cases hs8 : s ≤ 8
            · have HLV := Lib.hid (lastV_in K6 s hs1 hs8)
              have hBw : B ≤ wr.heap.size := by have := HB.out; have := hK.size; omega
              have HLa := Lib.hid (last_any s wr.drew (hT.non ((Keeps.refl _ _).drew)) (by simpa using hBw))
              obtain ⟨cur, hcb, hcz, hcv⟩ := id hQ
              obtain ⟨lq, dq, e0, e1, e2, e3, e4, e5, e6, hrq⟩ := hcv s (by omega)
              have c1 : wr.cell? ⟨gq, s * 7 + 1, none⟩ = some (.int .i64 (K6 s).id) := by rw [hcb.cell]; exact e1
              have hsi0 : (0 : Int) ≤ (s : Int) := by omega
              have hsi9 : (s : Int) < 9 := by omega
              have HF := Lib.hid (hT.fine s)
              clear hcb hcv hcz e0 e1 e2 e3 e4 e5 e6 hrq
              go_wp2_with fail
              go_region_held3 (fun w' => w'.cell? ⟨gq, s * 7 + 1, none⟩ = some (.int .i64 (K6 s).id)) (first | go_keep | exact hK7.cell c1 hgg)
                (first | (go_at_call 11; go_must (refine HLa.out.mono ?_); rw [HLV.out]; rintro e w7 ⟨ok7, rfl, h7, hE7, hK7⟩; have c7 := hK7.cell c1 hgg))
              have hk7 : Keeps Non w w7 := hK.drew.then hK7 fun i hi e => by unfold Only at e; have := HB.out; have := hT.lowk.1; omega
              have hQ7 := (hQ.keep ((Keeps.refl Non wr).drew) id).keep hK7 hgg
              have HNE7 : Hid (∀ gk, ok7 = some gk → gk ≠ gq) := hE7.ne (by obtain ⟨cur, hcb, -⟩ := hQ; exact hcb.lt) HNEi.out
              clear hK7 hE7 hQ hK HLa c1 hT
              by_cases hz : (K6 s).id = 0
              · have hzb : ((K6 s).id == 0) = true := by rw [hz]; rfl
                have hzn : ((K6 s).id != (K6 s).id) = false := by simp
                have HZ := Lib.hid hz
                clear hz
                go_wp2_with fail
                go_roundw
                case rel => exact ⟨s + 1, ok7, ai, by omega, by omega, by go_num, h7, hQ7, HNE7, hk7⟩
                case measure => simp [intOf]; omega
              · have hzb : ((K6 s).id == 0) = false := by rw [beq_eq_false_iff_ne]; exact hz
                have hzn : ((K6 s).id != (K6 s).id) = false := by simp
                have hvk := HVK6.out s (by omega)
                have his : isB s (K6 s).id = true := by simp [isB]; omega
                have HIS := Lib.hid his
                have HLo := Lib.hid (look_any s (K6 s).id w7 h7 (by have := HB.out; have := hk7.size; omega))
                have hlow7 := h7.lowk.1
                clear hz his hvk h7
                go_wp2_with fail
                refine HLo.out.mono ?_
                rintro e w8 ⟨v1, v2, v3, ok8, a8, r8, rfl, hv, h8, hE8, hK8⟩
                obtain ⟨l8, d8, e8, rfl, rfl, rfl, rfl, hRo⟩ := hv.isSame HIS.out (by simp)
                rw [Int.toNat_natCast] at e8 hRo
                obtain ⟨Al8, cl8, Ad8, cd8, el, ed, -⟩ := hRo.rd
                subst el ed
                subst e8
                obtain ⟨x8, hx8⟩ : ∃ x, x = w8.alloc (.cells #[.int .i64 (K6 s).ses, .int .i64 (K6 s).id, .int .i64 (K6 s).err, .int .i64 (K6 s).num, .string (K6 s).text, (.slice Al8 (K6 s).list.length cl8), (.slice Ad8 (K6 s).data.length cd8)] 31) := ⟨_, rfl⟩
                obtain ⟨gB, hgB⟩ : ∃ g, g = w8.heap.size := ⟨_, rfl⟩
                have hka8 : Keeps Non w8 x8 := by rw [hx8]; exact (Keeps.refl _ _).alloc _
                have hX8 : Blk x8 gB 31 #[.int .i64 (K6 s).ses, .int .i64 (K6 s).id, .int .i64 (K6 s).err, .int .i64 (K6 s).num, .string (K6 s).text, (.slice Al8 (K6 s).list.length cl8), (.slice Ad8 (K6 s).data.length cd8)] := by rw [hx8, hgB]; exact Blk.new _ _ _
                have hk8 : Keeps Non w x8 := (hk7.then hK8 fun i hi e => by unfold Only at e; have := HB.out; omega).trans hka8
                have h8' := h8.non hka8
                have hQ8 := (hQ7.keep hK8 hgg).keep hka8 id
                have HNE8 : Hid (∀ gk, ok8 = some gk → gk ≠ gq) := hE8.ne (by obtain ⟨cur, hcb, -⟩ := hQ7; exact hcb.lt) HNE7.out
                obtain ⟨cur, hcb, hcz, hcv⟩ := id hQ8
                obtain ⟨lq, dq, e0, e1, e2, e3, e4, e5, e6, hrq⟩ := hcv s (by omega)
                obtain ⟨Aq, cq, Adq, cdq, rfl, rfl, -⟩ := id hrq
                have z0 : x8.cell? ⟨gq, s * 7, none⟩ = some (.int .i64 (K6 s).ses) := by rw [hcb.cell]; exact e0
                have z1 : x8.cell? ⟨gq, s * 7 + 1, none⟩ = some (.int .i64 (K6 s).id) := by rw [hcb.cell]; exact e1
                have z2 : x8.cell? ⟨gq, s * 7 + 2, none⟩ = some (.int .i64 (K6 s).err) := by rw [hcb.cell]; exact e2
                have z3 : x8.cell? ⟨gq, s * 7 + 3, none⟩ = some (.int .i64 (K6 s).num) := by rw [hcb.cell]; exact e3
                have z4 : x8.cell? ⟨gq, s * 7 + 4, none⟩ = some (.string (K6 s).text) := by rw [hcb.cell]; exact e4
                have z5 : x8.cell? ⟨gq, s * 7 + 5, none⟩ = some (.slice Aq (K6 s).list.length cq) := by rw [hcb.cell]; exact e5
                have z6 : x8.cell? ⟨gq, s * 7 + 6, none⟩ = some (.slice Adq (K6 s).data.length cdq) := by rw [hcb.cell]; exact e6
                have y0 : x8.cell? ⟨gB, 0, none⟩ = some (.int .i64 (K6 s).ses) := hX8.cell 0
                have y1 : x8.cell? ⟨gB, 1, none⟩ = some (.int .i64 (K6 s).id) := hX8.cell 1
                have y2 : x8.cell? ⟨gB, 2, none⟩ = some (.int .i64 (K6 s).err) := hX8.cell 2
                have y3 : x8.cell? ⟨gB, 3, none⟩ = some (.int .i64 (K6 s).num) := hX8.cell 3
                have y4 : x8.cell? ⟨gB, 4, none⟩ = some (.string (K6 s).text) := hX8.cell 4
                have y5 : x8.cell? ⟨gB, 5, none⟩ = some (.slice Al8 (K6 s).list.length cl8) := hX8.cell 5
                have y6 : x8.cell? ⟨gB, 6, none⟩ = some (.slice Ad8 (K6 s).data.length cd8) := hX8.cell 6
                have HSm := Lib.hid (same_any (K6 s) _ _ _ _ x8.drew ((hRo.rd.non hka8).non (Keeps.refl _ _).drew) ((hrq.non hk8).non (Keeps.refl _ _).drew) HF.out)
                clear hcb hcv hcz e0 e1 e2 e3 e4 e5 e6 hrq hRo hv h8 hK8 hE8 hQ7 hk7 HLo hX8 hka8
                go_wp2_with fail
                rw [← hx8, ← hgB]
                clear hx8 hgB
                go_still_tail 5, (by kernel_rfl)
                clear z0 z1 z2 z3 z4 z5 z6 y0 y1 y2 y3 y4 y5 y6
                go_wp2_with fail
                refine HSm.out.mono ?_
                rintro e w9 ⟨rfl, hK9⟩
                have hd9 : Keeps Non x8 w9 := ((Keeps.refl Non x8).drew).trans hK9
                have h9 := h8'.non hd9
                have hQ9 := hQ8.keep hd9 id
                have hk9 := hk8.trans hd9
                clear h8' hQ8 hk8 hK9 hd9 HSm
                go_wp2_with fail
                go_roundw
                case rel => exact ⟨s + 1, ok8, _, by omega, by omega, by go_num, h9, hQ9, HNE8, hk9⟩
                case measure => simp [intOf]; omega
            · obtain rfl : s = 9 := by omega
              go_wp2_with fail
              go_roundw
              case rel => exact ⟨k + 1, K6, oki, f6, ai, r6, by omega, by go_num, hT, hQ, HNEi, HVK6, hK⟩
              case measure => simp [intOf]; omega
        · have hK6e : K6 = K := by cases hv <;> first | rfl | exact absurd rfl hc
          have hcb : (c6 == 0) = false := by rw [beq_eq_false_iff_ne]; exact hc
          have HVK6 : Hid (VK K6) := by rw [hK6e]; exact HVK
          have hQ6 : RowQ w w6 gq K6 := by rw [hK6e]; exact hQ6o
          clear hv hQ6o hB6 hK6e hc
          go_wp2_with fail
          go_loopw [10, 11, 12, 13, 14] (fun i _ _ _ _ wi => ∃ (s : Nat) (ok : Option Nat) (a : Int), 1 ≤ s ∧ s ≤ 9 ∧ i = .int .i64 s ∧ Tab wi B (fun _ => True) g ok K6 f6 a r6 ∧ RowQ w wi gq K6 ∧ Hid (∀ gk, ok = some gk → gk ≠ gq) ∧ Keeps Non w wi) (fun i _ _ _ _ _ => 9 - (intOf i).toNat)
          case atStart => exact ⟨1, ok6, a6, by omega, by omega, rfl, h6, hQ6, HNE6, hk6⟩
          case round =>
            clear h6 hQ6 hk6 HNE6
            obtain ⟨s, oki, ai, hs1, hs9, rfl, hT, hQ, HNEi, hK⟩ := hrel
            by_cases hs8 : s ≤ 8
            · have HLV := Lib.hid (lastV_in K6 s hs1 hs8)
              have hBw : B ≤ wr.heap.size := by have := HB.out; have := hK.size; omega
              have HLa := Lib.hid (last_any s wr.drew (hT.non ((Keeps.refl _ _).drew)) (by simpa using hBw))
              obtain ⟨cur, hcb, hcz, hcv⟩ := id hQ
              obtain ⟨lq, dq, e0, e1, e2, e3, e4, e5, e6, hrq⟩ := hcv s (by omega)
              have c1 : wr.cell? ⟨gq, s * 7 + 1, none⟩ = some (.int .i64 (K6 s).id) := by rw [hcb.cell]; exact e1
              have hsi0 : (0 : Int) ≤ (s : Int) := by omega
              have hsi9 : (s : Int) < 9 := by omega
              have HF := Lib.hid (hT.fine s)
              clear hcb hcv hcz e0 e1 e2 e3 e4 e5 e6 hrq
              go_wp2_with fail
              go_region_held3 (fun w' => w'.cell? ⟨gq, s * 7 + 1, none⟩ = some (.int .i64 (K6 s).id)) (first | go_keep | exact hK7.cell c1 hgg)
                (first | (go_at_call 11; go_must (refine HLa.out.mono ?_); rw [HLV.out]; rintro e w7 ⟨ok7, rfl, h7, hE7, hK7⟩; have c7 := hK7.cell c1 hgg))
              have hk7 : Keeps Non w w7 := hK.drew.then hK7 fun i hi e => by unfold Only at e; have := HB.out; have := hT.lowk.1; omega
              have hQ7 := (hQ.keep ((Keeps.refl Non wr).drew) id).keep hK7 hgg
              have HNE7 : Hid (∀ gk, ok7 = some gk → gk ≠ gq) := hE7.ne (by obtain ⟨cur, hcb, -⟩ := hQ; exact hcb.lt) HNEi.out
              clear hK7 hE7 hQ hK HLa c1 hT
              by_cases hz : (K6 s).id = 0
              · have hzb : ((K6 s).id == 0) = true := by rw [hz]; rfl
                have hzn : ((K6 s).id != (K6 s).id) = false := by simp
                have HZ := Lib.hid hz
                clear hz
                go_wp2_with fail
                go_roundw
                case rel => exact ⟨s + 1, ok7, ai, by omega, by omega, by go_num, h7, hQ7, HNE7, hk7⟩
                case measure => simp [intOf]; omega
              · have hzb : ((K6 s).id == 0) = false := by rw [beq_eq_false_iff_ne]; exact hz
                have hzn : ((K6 s).id != (K6 s).id) = false := by simp
                have hvk := HVK6.out s (by omega)
                have his : isB s (K6 s).id = true := by simp [isB]; omega
                have HIS := Lib.hid his
                have HLo := Lib.hid (look_any s (K6 s).id w7 h7 (by have := HB.out; have := hk7.size; omega))
                have hlow7 := h7.lowk.1
                clear hz his hvk h7
                go_wp2_with fail
                refine HLo.out.mono ?_
                rintro e w8 ⟨v1, v2, v3, ok8, a8, r8, rfl, hv, h8, hE8, hK8⟩
                obtain ⟨l8, d8, e8, rfl, rfl, rfl, rfl, hRo⟩ := hv.isSame HIS.out (by simp)
                rw [Int.toNat_natCast] at e8 hRo
                obtain ⟨Al8, cl8, Ad8, cd8, el, ed, -⟩ := hRo.rd
                subst el ed
                subst e8
                obtain ⟨x8, hx8⟩ : ∃ x, x = w8.alloc (.cells #[.int .i64 (K6 s).ses, .int .i64 (K6 s).id, .int .i64 (K6 s).err, .int .i64 (K6 s).num, .string (K6 s).text, (.slice Al8 (K6 s).list.length cl8), (.slice Ad8 (K6 s).data.length cd8)] 31) := ⟨_, rfl⟩
                obtain ⟨gB, hgB⟩ : ∃ g, g = w8.heap.size := ⟨_, rfl⟩
                have hka8 : Keeps Non w8 x8 := by rw [hx8]; exact (Keeps.refl _ _).alloc _
                have hX8 : Blk x8 gB 31 #[.int .i64 (K6 s).ses, .int .i64 (K6 s).id, .int .i64 (K6 s).err, .int .i64 (K6 s).num, .string (K6 s).text, (.slice Al8 (K6 s).list.length cl8), (.slice Ad8 (K6 s).data.length cd8)] := by rw [hx8, hgB]; exact Blk.new _ _ _
                have hk8 : Keeps Non w x8 := (hk7.then hK8 fun i hi e => by unfold Only at e; have := HB.out; omega).trans hka8
                have h8' := h8.non hka8
                have hQ8 := (hQ7.keep hK8 hgg).keep hka8 id
                have HNE8 : Hid (∀ gk, ok8 = some gk → gk ≠ gq) := hE8.ne (by obtain ⟨cur, hcb, -⟩ := hQ7; exact hcb.lt) HNE7.out
                obtain ⟨cur, hcb, hcz, hcv⟩ := id hQ8
                obtain ⟨lq, dq, e0, e1, e2, e3, e4, e5, e6, hrq⟩ := hcv s (by omega)
                obtain ⟨Aq, cq, Adq, cdq, rfl, rfl, -⟩ := id hrq
                have z0 : x8.cell? ⟨gq, s * 7, none⟩ = some (.int .i64 (K6 s).ses) := by rw [hcb.cell]; exact e0
                have z1 : x8.cell? ⟨gq, s * 7 + 1, none⟩ = some (.int .i64 (K6 s).id) := by rw [hcb.cell]; exact e1
                have z2 : x8.cell? ⟨gq, s * 7 + 2, none⟩ = some (.int .i64 (K6 s).err) := by rw [hcb.cell]; exact e2
                have z3 : x8.cell? ⟨gq, s * 7 + 3, none⟩ = some (.int .i64 (K6 s).num) := by rw [hcb.cell]; exact e3
                have z4 : x8.cell? ⟨gq, s * 7 + 4, none⟩ = some (.string (K6 s).text) := by rw [hcb.cell]; exact e4
                have z5 : x8.cell? ⟨gq, s * 7 + 5, none⟩ = some (.slice Aq (K6 s).list.length cq) := by rw [hcb.cell]; exact e5
                have z6 : x8.cell? ⟨gq, s * 7 + 6, none⟩ = some (.slice Adq (K6 s).data.length cdq) := by rw [hcb.cell]; exact e6
                have y0 : x8.cell? ⟨gB, 0, none⟩ = some (.int .i64 (K6 s).ses) := hX8.cell 0
                have y1 : x8.cell? ⟨gB, 1, none⟩ = some (.int .i64 (K6 s).id) := hX8.cell 1
                have y2 : x8.cell? ⟨gB, 2, none⟩ = some (.int .i64 (K6 s).err) := hX8.cell 2
                have y3 : x8.cell? ⟨gB, 3, none⟩ = some (.int .i64 (K6 s).num) := hX8.cell 3
                have y4 : x8.cell? ⟨gB, 4, none⟩ = some (.string (K6 s).text) := hX8.cell 4
                have y5 : x8.cell? ⟨gB, 5, none⟩ = some (.slice Al8 (K6 s).list.length cl8) := hX8.cell 5
                have y6 : x8.cell? ⟨gB, 6, none⟩ = some (.slice Ad8 (K6 s).data.length cd8) := hX8.cell 6
                have HSm := Lib.hid (same_any (K6 s) _ _ _ _ x8.drew ((hRo.rd.non hka8).non (Keeps.refl _ _).drew) ((hrq.non hk8).non (Keeps.refl _ _).drew) HF.out)
                clear hcb hcv hcz e0 e1 e2 e3 e4 e5 e6 hrq hRo hv h8 hK8 hE8 hQ7 hk7 HLo hX8 hka8
                go_wp2_with fail
                rw [← hx8, ← hgB]
                clear hx8 hgB
                go_still_tail 5, (by kernel_rfl)
                clear z0 z1 z2 z3 z4 z5 z6 y0 y1 y2 y3 y4 y5 y6
                go_wp2_with fail
                refine HSm.out.mono ?_
                rintro e w9 ⟨rfl, hK9⟩
                have hd9 : Keeps Non x8 w9 := ((Keeps.refl Non x8).drew).trans hK9
                have h9 := h8'.non hd9
                have hQ9 := hQ8.keep hd9 id
                have hk9 := hk8.trans hd9
                clear h8' hQ8 hk8 hK9 hd9 HSm
                go_wp2_with fail
                go_roundw
                case rel => exact ⟨s + 1, ok8, _, by omega, by omega, by go_num, h9, hQ9, HNE8, hk9⟩
                case measure => simp [intOf]; omega
            · obtain rfl : s = 9 := by omega
              go_wp2_with fail
              go_roundw
              case rel => exact ⟨k + 1, K6, oki, f6, ai, r6, by omega, by go_num, hT, hQ, HNEi, HVK6, hK⟩
              case measure => simp [intOf]; omega
    · obtain rfl : k = os.length := by omega
      go_wp2_with fail
      go_ret
      exact ⟨rfl, hK⟩
end Go.Proofs.Ytmlffigfhhoihac
