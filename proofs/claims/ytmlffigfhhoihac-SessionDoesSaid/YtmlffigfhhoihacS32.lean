/- The walk of SessionDoes. -/
import Derived.Test.YtmlffigfhhoihacS31
namespace Go.Proofs.Ytmlffigfhhoihac
open Go.RowKit Go.Uc

theorem info42 : (Try.prog.info? 42).map (fun i => (i.zero, i.size, i.bytes)) = some (some (.pointer none), 1, 8) := by kernel_rfl
def ptrV (g : Nat) : Value := .pointer (some ⟨g, 0, none⟩)
/-- A row of pointers of the call's own. -/
def OwnP (w : World) (B : Nat) (v : Value) (gps : List Nat) : Prop := w.ownsRow B 42 1 v gps.length (gps.map ptrV)
theorem OwnP.open {w : World} {B : Nat} {v : Value} {gps : List Nat} (h : OwnP w B v gps) : ∃ A c, v = .slice A gps.length c ∧ gps.length ≤ c ∧ ∀ i (hi : i < gps.length), ∃ g, A = some ⟨g, 0, none⟩ ∧ w.cell? ⟨g, i, none⟩ = some (.pointer (some ⟨gps[i], 0, none⟩)) := by
  rcases h.2 with ⟨rfl, h4⟩ | ⟨g, cap, cur, rfl, h4, h5, h6, h7, h8, h9⟩
  · obtain rfl := List.eq_nil_of_length_eq_zero h4
    exact ⟨none, 0, rfl, Nat.le_refl _, fun i h => absurd h (by simp)⟩
  · refine ⟨_, cap, rfl, h6, fun i hi => ⟨g, rfl, ?_⟩⟩
    rw [cell_of_row w g i cur 42 (0, 0) h5]
    have e1 : (cur.toList.take (gps.length * 1))[i]? = some (ptrV gps[i]) := by rw [h9]; simp [hi]
    rw [List.getElem?_take, if_pos (by omega)] at e1
    simpa [ptrV] using e1
theorem OwnP.keep {w w' : World} {S : Nat → Prop} {B : Nat} {v : Value} {gps : List Nat} (h : OwnP w B v gps) (hk : Keeps S w w') (hb : ∀ g, v.ownBlock = some g → ¬ S g) : OwnP w' B v gps := row_keep h hk hb
theorem OwnP.non {w w' : World} {B : Nat} {v : Value} {gps : List Nat} (h : OwnP w B v gps) (hk : Keeps Non w w') : OwnP w' B v gps := h.keep hk fun _ _ e => e
theorem OwnP.foot {w w' : World} {w0 : World} {B gp : Nat} {v : Value} {gps : List Nat} {x : PD} (h : OwnP w B v gps) (hx : PairAt w0 w B gp x) (hk : Keeps (Foot x) w w') : OwnP w' B v gps := h.keep hk fun g hg hf => by
  obtain ⟨⟨t, cs, hb, ht⟩, -⟩ := hx.foot hf
  exact Blk.apart hb h (by rcases ht with rfl | rfl | rfl <;> decide) g hg rfl
theorem OwnP.low {w : World} {B : Nat} {v : Value} {gps : List Nat} (h : OwnP w B v gps) : ∀ k, v.ownBlock = some k → B ≤ k := fun k hk => (World.ownsRow.lt h k hk).1

/-- The row of pointers grows: the pairs stand. -/
theorem PairsAt.row {w0 w w' : World} {B B' : Nat} {v : Value} {gps gps' : List Nat} {xs : Nat → PD} (h : PairsAt w0 w B gps xs) (hr : OwnP w B' v gps') (hk : Keeps (Owned v) w w') : PairsAt w0 w' B gps xs := by
  have no : ∀ k t cs, Blk w k t cs → t ≠ 42 → ¬ Owned v k := fun k t cs hb ht e => Blk.apart hb hr ht k e rfl
  have key : ∀ i (hi : i < gps.length), PairAt w0 w' B gps[i] (xs i) ∧ w'.cell? ⟨(xs i).q, 0, none⟩ = w.cell? ⟨(xs i).q, 0, none⟩ := fun i hi => by
    have hx := h.at_ i hi
    have nf : ∀ k, Foot (xs i) k → ¬ Owned v k := fun k hf => by
      obtain ⟨⟨t, cs, hb, ht⟩, -⟩ := hx.foot hf
      exact no k t cs hb (by rcases ht with rfl | rfl | rfl <;> decide)
    have hc := hx.doc.same hk (nf _ (.inr (.inr rfl)))
    refine ⟨⟨hx.tab.keep hk (nf _ (.inl rfl)) (fun gk e => nf gk (.inr (.inl e))) fun k hlt e => .inr ?_, ?_, hx.good, hx.ptr.keep hk (no _ _ _ hx.ptr (by decide)), hx.sep.non hc⟩, hc⟩
    · rcases hr.2 with ⟨rfl, h4⟩ | ⟨g', cap, cur, rfl, h4, h5, -⟩
      · cases e
      · simp [Owned, Value.ownBlock] at e
        subst e
        exact ⟨42, cur, h5, by decide, by decide⟩
    · obtain ⟨vq, h1, h2, h3⟩ := hx.doc
      refine ⟨vq, h1, h2.keep hk (nf _ (.inr (.inr rfl))), h3.keep hk fun k hk' => ?_⟩
      obtain ⟨v', hv', hkk⟩ := hx.doc.cell0
      have e2 : w.cell? ⟨(xs i).q, 0, none⟩ = some vq := h2.cell 0
      rw [hv'] at e2
      injection e2 with e2
      subst e2
      obtain ⟨-, cs, hb⟩ := hkk k hk'
      exact no k _ cs hb (by decide)
  exact ⟨fun i hi => (key i hi).1, h.apart, fun i j hi hj => (h.sep i j hi hj).non (key i hi).2⟩

set_option maxRecDepth 100000 in
set_option maxHeartbeats 8000000 in
theorem sessionDoes_any (A : Option Addr) (c : Nat) (os : List Opn) (w : World) (hO : Opns w A os) (hn : (os.length + 1) * 96 ≤ 140737488355328) :
    Calls Try.prog 5 #[.slice A os.length c] w fun e w' => e = .returned (.bool true) ∧ Keeps Non w w' := by
  have HO := Lib.hid hO
  obtain ⟨B, hB⟩ : ∃ B, B = w.heap.size := ⟨_, rfl⟩
  have HB : Hid (B = w.heap.size) := hB
  clear hO hB
  go_enter Try.func5, Try.ntmps5
  go_wp2_with fail
  refine (awake_any _).mono ?_
  rintro e w1 ⟨rfl, hK1⟩
  go_wp2_with fail
  have HN := Lib.hid (new_any B (fun _ => True) w1 (by have := HB.out; have := hK1.size; omega))
  refine HN.out.mono ?_
  rintro e w2 ⟨rfl, h2, hK2⟩
  have hk2 := hK1.trans hK2
  obtain ⟨g, hg⟩ : ∃ g, g = w1.heap.size := ⟨_, rfl⟩
  rw [← hg] at h2 ⊢
  clear hg HN hK1 hK2
  go_upto_region 6 with fail
  obtain ⟨q, hq⟩ : ∃ q, q = w2.heap.size := ⟨_, rfl⟩
  obtain ⟨wA, hwA⟩ : ∃ W, W = w2.alloc (.cells #[.slice none 0 0, .int .i64 0, .int .i64 0, .int .i64 0] 45) := ⟨_, rfl⟩
  have hqB : Blk wA q 45 #[.slice none 0 0, .int .i64 0, .int .i64 0, .int .i64 0] := by rw [hwA, hq]; exact Blk.new _ _ _
  have hkA : Keeps Non w2 wA := by rw [hwA]; exact (Keeps.refl _ _).alloc _
  have hzA : wA.heap.size = w2.heap.size + 1 := by rw [hwA]; simp
  rw [← hwA, ← hzA, ← hq]
  obtain ⟨gp, hgp⟩ : ∃ gp, gp = wA.heap.size := ⟨_, rfl⟩
  obtain ⟨wB, hwB⟩ : ∃ W, W = wA.alloc (.cells #[.pointer (some ⟨g, 0, none⟩), .pointer (some ⟨q, 0, none⟩)] 47) := ⟨_, rfl⟩
  have hpB : Blk wB gp 47 #[.pointer (some ⟨g, 0, none⟩), .pointer (some ⟨q, 0, none⟩)] := by rw [hwB, hgp]; exact Blk.new _ _ _
  have hkB : Keeps Non wA wB := by rw [hwB]; exact (Keeps.refl _ _).alloc _
  have hzB : wB.heap.size = wA.heap.size + 1 := by rw [hwB]; simp
  rw [← hwB, ← hzB, ← hgp]
  obtain ⟨gr, hgr⟩ : ∃ gr, gr = wB.heap.size := ⟨_, rfl⟩
  obtain ⟨wC, hwC⟩ : ∃ W, W = wB.alloc (.cells #[.pointer (some ⟨gp, 0, none⟩)] 42) := ⟨_, rfl⟩
  have hrC : Blk wC gr 42 #[.pointer (some ⟨gp, 0, none⟩)] := by rw [hwC, hgr]; exact Blk.new _ _ _
  have hkC : Keeps Non wB wC := by rw [hwC]; exact (Keeps.refl _ _).alloc _
  rw [← hwC, ← hgr]
  have hk2C : Keeps Non w2 wC := (hkA.trans hkB).trans hkC
  have hBw : B ≤ w2.heap.size := by have := HB.out; have := hk2.size; omega
  have hPC : PairsAt w wC B [gp] (fun _ => ⟨g, none, fun _ => Rp.none, 0, 0, 0, q⟩) := by
    have hD : Doc w wC B q (fun _ => Rp.none) 0 0 0 := ⟨_, by omega, (hqB.non hkB).non hkC, by rw [listTo_none (fun _ _ => rfl)]; exact RowR.nil _ _ _⟩
    refine ⟨fun i hi => ?_, fun i j hi hj hne => absurd hne (by simp at hi hj; omega), fun i j _ _ v k _ _ e => by cases e⟩
    have : i = 0 := by simpa using hi
    subst this
    exact ⟨h2.non hk2C, hD, Good.none, hpB.non hkC, fun v k _ _ e => by cases e⟩
  have hRC : OwnP wC B (.slice (some ⟨gr, 0, none⟩) 1 1) [gp] := ⟨rfl, .inr ⟨gr, 1, #[.pointer (some ⟨gp, 0, none⟩)], rfl, by omega, hrC, Nat.le_refl _, by unfold maxLen; omega, rfl, rfl⟩⟩
  have hkwC : Keeps Non w wC := hk2.trans hk2C
  clear hq hwA hqB hkA hzA hgp hwB hpB hkB hzB hgr hwC hrC hkC hk2C h2 hk2 w1
  go_upto_region 7 with fail
  go_loopw [5, 6, 7, 8, 9, 10, 11, 12] (fun v i _ _ _ _ _ _ wr => ∃ (k : Nat) (gps : List Nat) (xs : Nat → PD), k ≤ os.length ∧ i = .int .i64 k ∧ gps.length ≤ k + 1 ∧ 0 < gps.length ∧ OwnP wr B v gps ∧ PairsAt w wr B gps xs ∧ Keeps Non w wr) (fun _ i _ _ _ _ _ _ _ => os.length - (intOf i).toNat)
  case atStart => exact ⟨0, [gp], _, Nat.zero_le _, rfl, by simp, by simp, hRC, hPC, hkwC⟩
  case round =>
    clear hPC hRC hkwC hBw
    obtain ⟨k, gps, xs, hk, rfl, hgl, hgp0, hRow, hPs, hK⟩ := hrel
    have hBw : B ≤ wr.heap.size := by have := HB.out; have := hK.size; omega
    by_cases hlt : k < os.length
    · obtain ⟨b, off, l, d, AL, cL, rfl, q0, q1, q2, q3, q4, q5, q6, q7, q8, q9, hrd, hrb, i1, i2, i3, i4, hRs, hLc, hLn⟩ := HO.out k hlt
      obtain ⟨o, ho⟩ : ∃ o, o = os[k] := ⟨_, rfl⟩
      rw [← ho] at q0 q1 q2 q3 q4 q5 q6 q9 hrd hrb i1 i2 i3 i4 hRs hLc hLn
      clear ho
      obtain ⟨Al, cl, Ad, cd, rfl, rfl, -⟩ := id hrd
      have p0 := hK.cell q0 id
      have p1 := hK.cell q1 id
      have p2 := hK.cell q2 id
      have p3 := hK.cell q3 id
      have p4 := hK.cell q4 id
      have p5 := hK.cell q5 id
      have p6 := hK.cell q6 id
      have p7 := hK.cell q7 id
      have p8 := hK.cell q8 id
      have p9 := hK.cell q9 id
      clear q0 q1 q2 q3 q4 q5 q6 q7 q8 q9
      have HRD : Hid (RdE w (.slice Al o.r.list.length cl) (.slice Ad o.r.data.length cd) o.r) := ⟨hrd, hrb⟩
      have HRS := Lib.hid hRs
      clear hrd hrb hRs
      go_upto_region 10 with fail
      obtain ⟨w5, hw5⟩ : ∃ w5, w5 = wr.alloc (.cells #[.int .i64 o.kind, .int .i64 o.which, .int .i64 o.r.ses, .int .i64 o.r.id, .int .i64 o.r.err, .int .i64 o.r.num, .string o.r.text, (.slice Al o.r.list.length cl), (.slice Ad o.r.data.length cd), (.slice AL o.l.length cL)] 33) := ⟨_, rfl⟩
      rw [← hw5]
      obtain ⟨gO, hgO⟩ : ∃ g, g = wr.heap.size := ⟨_, rfl⟩
      rw [← hgO]
      have hka : Keeps Non wr w5 := by rw [hw5]; exact (Keeps.refl _ _).alloc _
      have hB5 : Blk w5 gO 33 #[.int .i64 o.kind, .int .i64 o.which, .int .i64 o.r.ses, .int .i64 o.r.id, .int .i64 o.r.err, .int .i64 o.r.num, .string o.r.text, (.slice Al o.r.list.length cl), (.slice Ad o.r.data.length cd), (.slice AL o.l.length cL)] := by rw [hw5, hgO]; exact Blk.new _ _ _
      have hRow5 := hRow.non hka
      have hP5 := hPs.non hka
      have hk5 := hK.trans hka
      have hB5w : B ≤ w5.heap.size := by have := hka.size; omega
      clear p0 p1 p2 p3 p4 p5 p6 p7 p8 p9 hRow hPs hK hw5 hgO hka hBw
      obtain ⟨m, hm⟩ : ∃ m : Nat, pk o.which gps.length = m := ⟨(pk o.which gps.length).toNat, by have := pk_bounds o.which gps.length (by omega); omega⟩
      have hmn : m < gps.length := by have := pk_bounds o.which gps.length (by omega); omega
      have hm0 : (0 : Int) ≤ (m : Int) := by omega
      have hmi : (m : Int) < (gps.length : Int) := by omega
      have HM := Lib.hid hm
      clear hm
      obtain ⟨Ar, cr, rfl, hcr, hat⟩ := id hRow5.open
      obtain ⟨gr, rfl, hcell⟩ := hat m hmn
      have k1 : w5.cell? ⟨gO, 1, none⟩ = some (.int .i64 o.which) := hB5.cell 1
      have k0 : w5.cell? ⟨gO, 0, none⟩ = some (.int .i64 o.kind) := hB5.cell 0
      obtain ⟨gpm, hgpm⟩ : ∃ gpm, gpm = gps[m] := ⟨_, rfl⟩
      rw [← hgpm] at hcell
      have hPm := hP5.at_ m hmn
      rw [← hgpm] at hPm
      have HGM := Lib.hid hgpm
      clear hgpm hat
      have hlen64 : (gps.length : Int) ≤ 9223372036854775807 := by omega
      have HPW := Lib.hid (pick_pk o.which gps.length w5 (by omega) (by omega) i2)
      rw [HM.out] at HPW
      obtain ⟨tn, htn⟩ : ∃ tn : Nat, pk o.kind 6 = tn := ⟨(pk o.kind 6).toNat, by have := pk_bounds o.kind 6 (by omega); omega⟩
      have HPK := Lib.hid (pick_pk o.kind 6 w5 (by omega) (by omega) i1)
      rw [htn] at HPK
      clear htn
      go_upto_region 11 with (go_at_call 8; go_must (refine HPW.out.mono ?_); rintro e w6 ⟨rfl, hw6⟩; subst w6)
      go_upto_region 12 with (go_at_call 8; go_must (refine HPK.out.mono ?_); rintro e w6 ⟨rfl, hw6⟩; subst w6)
      by_cases h4 : tn = 4
      · subst h4
        have c0 : w5.cell? ⟨gpm, 0, none⟩ = some (.pointer (some ⟨(xs m).g, 0, none⟩)) := hPm.ptr.cell 0
        have HCl := Lib.hid (clone_tab w5 hPm.tab hB5w hPm.good)
        clear hcell k1 k0
        go_upto_region 14 with (go_at_call 13; go_must (refine HCl.out.mono ?_); rintro e w6 ⟨g6, ok6, ok62, rfl, hT6, hE6, hN6, hdis6, hK6⟩)
        have hP6 := hP5.cloned1 hmn hT6 hE6 hK6
        have hPm6 := hP6.at_ m hmn
        rw [updX_same, ← HGM.out] at hPm6
        have c1 : w6.cell? ⟨gpm, 1, none⟩ = some (.pointer (some ⟨(xs m).q, 0, none⟩)) := hPm6.ptr.cell 1
        have HRC := Lib.hid (refclone_any w w6 hPm6.doc)
        have hRow6 := hRow5.foot hPm (hK6.mono fun k e => .inl e)
        have hk6 : Keeps Non w w6 := hk5.then hK6 fun i hi e => by unfold Only at e; have := HB.out; have := hPm.tab.lowk.1; omega
        clear c0 HCl hPm hPm6 hP6 hRow5 hk5
        go_upto_region 16 with fail
        go_wp2_with (first
          | (go_at_call 14; go_must (refine HRC.out.mono ?_); rintro e w7 ⟨q7, rfl, hD7, hK7⟩; go_must (have hk7 := hk6.trans hK7; have hka := (Keeps.refl Non w7).alloc (.cells #[.pointer (some ⟨g6, 0, none⟩), .pointer (some ⟨q7, 0, none⟩)] 47); have hkb := ((Keeps.refl Non w7).alloc (.cells #[.pointer (some ⟨g6, 0, none⟩), .pointer (some ⟨q7, 0, none⟩)] 47)).alloc (.cells #[.pointer (some ⟨w7.heap.size, 0, none⟩)] 42); have hRow9 : OwnP ((w7.alloc (.cells #[.pointer (some ⟨g6, 0, none⟩), .pointer (some ⟨q7, 0, none⟩)] 47)).alloc (.cells #[.pointer (some ⟨w7.heap.size, 0, none⟩)] 42)) B (.slice (some ⟨gr, 0, none⟩) gps.length cr) gps := (hRow6.non hK7).non hkb; have hz9 : B ≤ ((w7.alloc (.cells #[.pointer (some ⟨g6, 0, none⟩), .pointer (some ⟨q7, 0, none⟩)] 47)).alloc (.cells #[.pointer (some ⟨w7.heap.size, 0, none⟩)] 42)).heap.size := (by have := hk7.size; have := HB.out; simp; omega); have hAt : Ats ((w7.alloc (.cells #[.pointer (some ⟨g6, 0, none⟩), .pointer (some ⟨q7, 0, none⟩)] 47)).alloc (.cells #[.pointer (some ⟨w7.heap.size, 0, none⟩)] 42)) (some ⟨w7.heap.size + 1, 0, none⟩) [ptrV w7.heap.size] := (by have h := Ats.one (w7.alloc (.cells #[.pointer (some ⟨g6, 0, none⟩), .pointer (some ⟨q7, 0, none⟩)] 47)) (ptrV w7.heap.size) 42; rw [show (w7.alloc (.cells #[.pointer (some ⟨g6, 0, none⟩), .pointer (some ⟨q7, 0, none⟩)] 47)).heap.size = w7.heap.size + 1 from by simp] at h; exact h); have hP9 := hP5.cloned hmn hB5w hT6 hE6 hK6 hN6 hdis6 hD7 hK7 hkb ((Blk.new w7 47 #[.pointer (some ⟨g6, 0, none⟩), .pointer (some ⟨q7, 0, none⟩)]).alloc _)))
          | (at_builtin; go_must (refine wpList_append_vals rfl (.tmp 60) (.tmp 69) 48 rfl B 42 (.pointer none) 8 Try.underlying48 info42 rfl (.slice (some ⟨gr, 0, none⟩) gps.length cr) gps.length (gps.map ptrV) rfl hRow9 (some ⟨w7.heap.size + 1, 0, none⟩) 1 1 [ptrV w7.heap.size] rfl rfl hAt (by intro u hu; simp at hu; subst hu; rfl) (by unfold maxLen; omega) (by omega) hz9 ?_); intro v10 w10 hO10 hK10 hat; clear hat; go_must (have hR10 : OwnP w10 B v10 (gps ++ [w7.heap.size]) := (by simpa [OwnP] using hO10); have hP10 := hP9.row hRow9 hK10; have hk10 : Keeps Non w w10 := (hk7.trans hkb).then hK10 (fun i hi e => by have := hRow9.low i e; have := HB.out; omega)); clear hO10 hK10))
        have FIN := Lib.hid (And.intro hR10 (And.intro hP10 hk10))
        clear hAt hR10 hP10 hk10 hRow9 hP9 hk7 hka hkb hD7 hK7 hP5 hRow6 hk6 hT6 hE6 hN6 hdis6 hK6 hB5 c1
        go_roundw
        case rel => exact ⟨k + 1, gps ++ [w7.heap.size], _, by omega, by go_num, by simp; omega, by simp, FIN.out.1, FIN.out.2.1, FIN.out.2.2⟩
        case measure => simp [intOf]; omega
      · have n4 : ((tn : Int) == 4) = false := by rw [beq_eq_false_iff_ne]; omega
        by_cases h5 : tn = 5
        · subst h5
          have c9 : w5.cell? ⟨gO, 9, none⟩ = some (.slice AL o.l.length cL) := hB5.cell 9
          have HLd := Lib.hid (loads_any w AL cL o.l w5 (HRS.out.repsE) hk5 (by omega) hLc)
          clear hcell k1 k0 n4
          go_upto_region 19 with (go_at_call 15; go_must (refine HLd.out.mono ?_); rintro e w7 hLP; obtain ⟨hK7, v10, rfl, hL7⟩ := hLP.split)
          have hk7 := hk5.trans hK7
          have hRow7 := hRow5.non hK7
          rcases hL7 with ⟨gpn, xn, rfl, hPn⟩ | rfl
          · have hP7 := hP5.newer hK7 hPn (Nat.le_refl _) hB5w
            have hz7 : B ≤ (w7.alloc (.cells #[.pointer (some ⟨gpn, 0, none⟩)] 42)).heap.size := by have := hk7.size; have := HB.out; simp; omega
            have hka := (Keeps.refl Non w7).alloc (.cells #[.pointer (some ⟨gpn, 0, none⟩)] 42)
            have hRow8 := hRow7.non hka
            have hP8 := hP7.non hka
            have hk8 := hk7.trans hka
            have hAt := Ats.one w7 (ptrV gpn) 42
            clear HLd hK7 hPn hP7 hRow7 hP5 hRow5 hPm hB5 c9 hk7 hka
            go_wp2_with (at_builtin; go_must (refine wpList_append_vals rfl (.tmp 83) (.tmp 85) 48 rfl B 42 (.pointer none) 8 Try.underlying48 info42 rfl (.slice (some ⟨gr, 0, none⟩) gps.length cr) gps.length (gps.map ptrV) rfl hRow8 (some ⟨w7.heap.size, 0, none⟩) 1 1 [ptrV gpn] rfl rfl hAt (by intro u hu; simp at hu; subst hu; rfl) (by unfold maxLen; omega) (by omega) hz7 ?_); intro v10 w10 hO10 hK10 hat; clear hat; go_must (have hR10 : OwnP w10 B v10 (gps ++ [gpn]) := (by simpa [OwnP] using hO10); have hP10 := hP8.row hRow8 hK10; have hk10 : Keeps Non w w10 := hk8.then hK10 (fun i hi e => by have := hRow8.low i e; have := HB.out; omega)); clear hO10 hK10)
            have FIN := Lib.hid (And.intro hR10 (And.intro hP10 hk10))
            clear hR10 hP10 hk10 hRow8 hP8 hk8 hAt
            go_roundw
            case rel => exact ⟨k + 1, gps ++ [gpn], _, by omega, by go_num, by simp; omega, by simp, FIN.out.1, FIN.out.2.1, FIN.out.2.2⟩
            case measure => simp [intOf]; omega
          · have FIN := Lib.hid (And.intro hRow7 (And.intro (hP5.non hK7) hk7))
            clear HLd hK7 hRow7 hP5 hRow5 hPm hB5 c9 hk7
            go_wp2_with fail
            go_roundw
            case rel => exact ⟨k + 1, gps, xs, by omega, by go_num, by omega, hgp0, FIN.out.1, FIN.out.2.1, FIN.out.2.2⟩
            case measure => simp [intOf]; omega
        · have n5 : ((tn : Int) == 5) = false := by rw [beq_eq_false_iff_ne]; omega
          have HDo := Lib.hid (does_any w o Al cl Ad cd AL o.l.length cL w5 hPm hk5 (Nat.le_of_eq HB.out.symm) hB5w i1 HRD.out)
          have b1 : w5.cell? ⟨gO, 1, none⟩ = some (.int .i64 o.which) := hB5.cell 1
          have b2 : w5.cell? ⟨gO, 2, none⟩ = some (.int .i64 o.r.ses) := hB5.cell 2
          have b3 : w5.cell? ⟨gO, 3, none⟩ = some (.int .i64 o.r.id) := hB5.cell 3
          have b4 : w5.cell? ⟨gO, 4, none⟩ = some (.int .i64 o.r.err) := hB5.cell 4
          have b5 : w5.cell? ⟨gO, 5, none⟩ = some (.int .i64 o.r.num) := hB5.cell 5
          have b6 : w5.cell? ⟨gO, 6, none⟩ = some (.string o.r.text) := hB5.cell 6
          have b7 : w5.cell? ⟨gO, 7, none⟩ = some (.slice Al o.r.list.length cl) := hB5.cell 7
          have b8 : w5.cell? ⟨gO, 8, none⟩ = some (.slice Ad o.r.data.length cd) := hB5.cell 8
          have b9 : w5.cell? ⟨gO, 9, none⟩ = some (.slice AL o.l.length cL) := hB5.cell 9
          clear hcell k1
          go_upto_region 23 with fail
          go_wp2_with fail
          refine HDo.out.mono ?_
          rintro e w7 ⟨x', rfl, hxg, hxq, hx', hxE, hxV, hxK⟩
          have hP7 := hP5.done hmn hxg hxq (by rw [← HGM.out]; exact hx') hxE hxV hxK
          have hRow7 := hRow5.foot hPm hxK
          have hk7 : Keeps Non w w7 := hk5.then hxK fun i hi e => by have := (hPm.foot e).2; have := HB.out; omega
          have FIN := Lib.hid (And.intro hRow7 (And.intro hP7 hk7))
          clear HDo hx' hxE hxV hxK hP7 hRow7 hk7 hP5 hRow5 hPm hB5 b1 b2 b3 b4 b5 b6 b7 b8 b9 k0
          go_wp2_with fail
          go_roundw
          case rel => exact ⟨k + 1, gps, _, by omega, by go_num, by omega, hgp0, FIN.out.1, FIN.out.2.1, FIN.out.2.2⟩
          case measure => simp [intOf]; omega
    · obtain rfl : k = os.length := by omega
      obtain ⟨w3, rfl⟩ : ∃ W : World, W = wr := ⟨_, rfl⟩
      go_upto_region 27 with fail
      obtain ⟨Av, cv, rfl, hcv, hat⟩ := id hRow.open
      have hgm : gps.length ≤ 140737488355328 := by omega
      go_loopw [13, 14, 15] (fun i _ _ wr => ∃ (j : Nat) (xs' : Nat → PD), j ≤ gps.length ∧ i = .int .i64 j ∧ OwnP wr B (.slice Av gps.length cv) gps ∧ PairsAt w wr B gps xs' ∧ Keeps Non w wr) (fun i _ _ _ => gps.length - (intOf i).toNat)
      case atStart => exact ⟨0, xs, Nat.zero_le _, rfl, hRow, hPs, hK⟩
      case round =>
        clear hRow hPs hK hat
        obtain ⟨j, xs', hj, rfl, hRow, hPs, hK⟩ := hrel
        by_cases hlt2 : j < gps.length
        · obtain ⟨Av', cv', e, -, hat⟩ := hRow.open
          injection e with e1 e2 e3
          subst e1 e3
          obtain ⟨gr, rfl, hcell⟩ := hat j hlt2
          have hPm := hPs.at_ j hlt2
          obtain ⟨gpm, hgpm⟩ : ∃ gpm, gpm = gps[j] := ⟨_, rfl⟩
          rw [← hgpm] at hcell hPm
          have HGM := Lib.hid hgpm
          clear hgpm hat
          have hBr : B ≤ wr.heap.size := by have := HB.out; have := hK.size; omega
          have hd1 : Calls Try.prog 16 #[.pointer (some ⟨gpm, 0, none⟩), .agg #[.int .i64 3, .int .i64 0, .int .i64 0, .int .i64 0, .int .i64 0, .int .i64 0, .string { data := #[] }, .slice none 0 0, .slice none 0 0, .slice none 0 0]] wr (DoneP w B gpm (xs' j) wr) := does_any w ⟨3, 0, Rp.none, []⟩ none 0 none 0 none 0 0 wr hPm hK (Nat.le_of_eq HB.out.symm) hBr (show I64 3 by unfold I64; omega) (RdE.zero w)
          have HD1 := Lib.hid hd1
          clear hd1
          go_upto_region 30 with (go_at_call 16; go_must (refine HD1.out.mono ?_); rintro e w5 ⟨x', rfl, hxg, hxq, hx', hxE, hxV, hxK⟩)
          have hP5 := hPs.done hlt2 hxg hxq (by rw [← HGM.out]; exact hx') hxE hxV hxK
          have hRow5 := hRow.foot hPm hxK
          have hk5 : Keeps Non w w5 := hK.then hxK fun i hi e => by have := (hPm.foot e).2; have := HB.out; omega
          clear HD1 hx' hxE hxV hxK hPs hRow hPm hcell hK
          obtain ⟨Av', cv', e, -, hat⟩ := hRow5.open
          injection e with e1 e2 e3
          subst e3
          obtain ⟨gr', e4, hcell⟩ := hat j hlt2
          rw [← e1] at e4
          injection e4 with e4
          injection e4 with e4
          subst e4
          have hPm := hP5.at_ j hlt2
          rw [← HGM.out] at hcell hPm
          clear hat e1
          have hB5 : B ≤ w5.heap.size := by have := HB.out; have := hk5.size; omega
          have hd2 : Calls Try.prog 16 #[.pointer (some ⟨gpm, 0, none⟩), .agg #[.int .i64 2, .int .i64 0, .int .i64 1, .int .i64 0, .int .i64 0, .int .i64 0, .string { data := #[] }, .slice none 0 0, .slice none 0 0, .slice none 0 0]] w5 (DoneP w B gpm (updX xs' j x' j) w5) := does_any w ⟨2, 0, ⟨1, 0, 0, 0, ByteArray.empty, [], []⟩, []⟩ none 0 none 0 none 0 0 w5 hPm hk5 (Nat.le_of_eq HB.out.symm) hB5 (show I64 2 by unfold I64; omega) ⟨RdR.empty w _ rfl rfl, by simp [RpB]⟩
          have HD2 := Lib.hid hd2
          clear hd2
          go_upto_region 31 with (go_at_call 16; go_must (refine HD2.out.mono ?_); rintro e w6 ⟨x6, rfl, hxg, hxq, hx', hxE, hxV, hxK⟩)
          have hP6 := hP5.done hlt2 hxg hxq (by rw [← HGM.out]; exact hx') hxE hxV hxK
          have hRow6 := hRow5.foot hPm hxK
          have hk6 : Keeps Non w w6 := hk5.then hxK fun i hi e => by have := (hPm.foot e).2; have := HB.out; omega
          have FIN := Lib.hid (And.intro hRow6 (And.intro hP6 hk6))
          clear HD2 hx' hxE hxV hxK hP5 hRow5 hPm hcell hk5 hP6 hRow6 hk6
          go_wp2_with fail
          go_roundw
          case rel => exact ⟨j + 1, _, by omega, by go_num, FIN.out.1, FIN.out.2.1, FIN.out.2.2⟩
          case measure => simp [intOf]; omega
        · have FIN := Lib.hid hK
          clear hK hRow hPs
          go_wp2_with fail
          go_ret
          exact ⟨rfl, FIN.out⟩
end Go.Proofs.Ytmlffigfhhoihac
