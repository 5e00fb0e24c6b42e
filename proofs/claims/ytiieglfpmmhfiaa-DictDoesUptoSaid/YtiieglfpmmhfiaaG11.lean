/- The document's entries. What the document reads out of pages, plainly. The document's told: one page. -/
import Derived.Test.YtiieglfpmmhfiaaG10
namespace Go.Proofs.Ytiieglfpmmhfiaa
set_option maxRecDepth 100000
open Go.RowKit Go.Uc

/-- So many entries from a place on, in whatever order. -/
def entH (p : List UInt8) : Nat → Nat → List Ent → Option (Nat × List Ent)
  | 0, at_, l => some (at_, l)
  | m + 1, at_, l =>
    if 256 ≤ at_ then none
    else if (p.getD at_ 0).toNat < 1 ∨ 24 < (p.getD at_ 0).toNat ∨ 256 < at_ + (p.getD at_ 0).toNat + 5 then none
    else if 2147483647 < rd4 p (at_ + 1 + (p.getD at_ 0).toNat) then none
    else entH p m (at_ + (p.getD at_ 0).toNat + 5) (l ++ [⟨(p.drop (at_ + 1)).take (p.getD at_ 0).toNat, (rd4 p (at_ + 1 + (p.getD at_ 0).toNat) : Int)⟩])
theorem entH_of_G : ∀ (m : Nat) (p : List UInt8) (a : Nat) (l : List Ent) (x : Nat × List Ent), entG p m a l = some x → entH p m a l = some x := by
  intro m
  induction m with
  | zero => intro p a l x h; exact h
  | succ m ih =>
    intro p a l x h
    by_cases h1 : 256 ≤ a
    · rw [entG_big h1] at h; cases h
    by_cases h2 : (p.getD a 0).toNat < 1 ∨ 24 < (p.getD a 0).toNat ∨ 256 < a + (p.getD a 0).toNat + 5
    · rw [entG_bad h1 h2] at h; cases h
    obtain ⟨e, he⟩ : ∃ e : Ent, e = ⟨(p.drop (a + 1)).take (p.getD a 0).toNat, (rd4 p (a + 1 + (p.getD a 0).toNat) : Int)⟩ := ⟨_, rfl⟩
    by_cases h3 : 2147483647 < e.val ∨ (l.getLast?.map fun x => lt x.name e.name) = some false
    · rw [entG_val h1 rfl h2 he h3] at h; cases h
    rw [entG_ok h1 rfl h2 he h3] at h
    have := ih p _ _ x h
    unfold entH
    rw [if_neg h1, if_neg h2, if_neg (by intro hh; exact h3 (.inl (by rw [he]; show (2147483647 : Int) < (rd4 p _ : Int); omega))), ← he]
    exact this
theorem entH_some : ∀ (m : Nat) (p : List UInt8) (at_ : Nat) (l : List Ent) (at' : Nat) (l' : List Ent), p.length = 256 → entH p m at_ l = some (at', l') → at_ ≤ 256 →
    ∃ r, l' = l ++ r ∧ r.length = m ∧ at' = at_ + roomE r ∧ at' ≤ 256 ∧ (∀ e ∈ r, GoodE e) := by
  intro m
  induction m with
  | zero =>
    intro p at_ l at' l' _ h ha
    simp only [entH, Option.some.injEq, Prod.mk.injEq] at h
    obtain ⟨rfl, rfl⟩ := h
    exact ⟨[], by simp, rfl, by simp [roomE], ha, by simp⟩
  | succ m ih =>
    intro p at_ l at' l' hp h ha
    unfold entH at h
    by_cases h1 : 256 ≤ at_
    · rw [if_pos h1] at h; cases h
    rw [if_neg h1] at h
    by_cases h2 : (p.getD at_ 0).toNat < 1 ∨ 24 < (p.getD at_ 0).toNat ∨ 256 < at_ + (p.getD at_ 0).toNat + 5
    · rw [if_pos h2] at h; cases h
    rw [if_neg h2] at h
    by_cases h3 : 2147483647 < rd4 p (at_ + 1 + (p.getD at_ 0).toNat)
    · rw [if_pos h3] at h; cases h
    rw [if_neg h3] at h
    generalize (p.getD at_ 0).toNat = n at h h2 h3
    obtain ⟨r, e1, e2, e3, e4, e5⟩ := ih p _ _ at' l' hp h (by omega)
    have hnl : ((p.drop (at_ + 1)).take n).length = n := by rw [List.length_take, List.length_drop]; omega
    refine ⟨⟨(p.drop (at_ + 1)).take n, (rd4 p (at_ + 1 + n) : Int)⟩ :: r, by rw [e1]; simp, by simp [e2], ?_, e4, ?_⟩
    · have : roomE (⟨(p.drop (at_ + 1)).take n, (rd4 p (at_ + 1 + n) : Int)⟩ :: r) = 5 + n + roomE r := by simp only [roomE, List.map_cons, List.sum_cons, hnl]
      rw [this, e3]; omega
    · intro x hx
      rcases List.mem_cons.1 hx with rfl | hx
      · exact ⟨by show 1 ≤ _; rw [hnl]; omega, by show _ ≤ 24; rw [hnl]; omega, by show (0 : Int) ≤ (rd4 p _ : Int); omega, by show (rd4 p _ : Int) ≤ 2147483647; omega⟩
      · exact e5 x hx
/-- What the document's entries answers. -/
def EntD (w : World) (o : Option (Nat × List Ent)) (e : Ending) (w' : World) : Prop :=
  match o with
  | none => e = .returned (.tuple #[.slice none 0 0, .bool false]) ∧ Keeps Non w w'
  | some (_, l) => ∃ s : Sl, e = .returned (.tuple #[s.v, .bool true]) ∧ RowE w' s.v l ∧ New w s ∧ Keeps Non w w'
set_option maxHeartbeats 8000000 in
theorem entries83_any (A : Option Addr) (c : Nat) (hc : 256 ≤ c) (p : List UInt8) (hp : p.length = 256) (m : Nat) (hm : m ≤ 255) (w : World) (hA : At w A p) :
    Calls Try.prog 83 #[.slice A 256 c, .int .i64 (m : Int)] w (EntD w (entH p m 3 [])) := by
  obtain ⟨o, ho⟩ : ∃ o, o = entH p m 3 [] := ⟨_, rfl⟩
  rw [← ho]
  have HO := Lib.hid ho
  clear ho
  obtain ⟨pb, off, rfl, -⟩ := hA.at_ (k := 0) (by omega)
  have HC : Hid (∀ W, Keeps Non w W → ∀ a, a < 256 → W.cell? ⟨pb, off + a, none⟩ = some (.int .u8 ((p.getD a 0).toNat : Int))) := Lib.hid (fun W hk a ha => by
    obtain ⟨b2, o2, e, h2⟩ := (hA.non hk).at_ (k := a) (by omega)
    injection e with e
    injection e with e1 e2
    subst e1 e2
    rw [h2, List.getD_eq_getElem?_getD, List.getElem?_eq_getElem (by omega)]
    rfl)
  go_enter Try.func83, Try.ntmps83
  go_upto_region 4 with fail
  go_loopw [6, 7, 8] (fun l_ at_ i wr => ∃ (a : Nat) (l : List Ent) (sA : Option Addr) (sc : Nat), l.length ≤ m ∧ i = .int .i64 (l.length : Int) ∧ at_ = .int .i64 (a : Int) ∧ l_ = .slice sA l.length sc ∧ a ≤ 256 ∧ RowE wr (.slice sA l.length sc) l ∧ (∀ q ∈ own (.slice sA l.length sc), w.heap.size ≤ q) ∧ Keeps Non w wr ∧ Hid (o = entH p (m - l.length) a l)) (fun _ _ i _ => m - (intOf i).toNat)
  case atStart => exact ⟨3, [], none, 0, Nat.zero_le _, rfl, rfl, rfl, by omega, RowP.nil _ _ _ _, fun q hq => (List.not_mem_nil hq).elim, Keeps.refl _ _, HO⟩
  case round =>
    obtain ⟨a, l, sA, sc, hk, rfl, rfl, rfl, ha, hR, hN, hK, HG⟩ := hrel
    obtain ⟨wx, rfl⟩ : ∃ W : World, W = wr := ⟨_, rfl⟩
    by_cases hlt : l.length < m
    · obtain ⟨j0, hj⟩ : ∃ j, m - l.length = j + 1 := ⟨m - l.length - 1, by omega⟩
      have HG1 : Hid (o = entH p (j0 + 1) a l) := Lib.hid (by rw [HG.out, hj])
      have HJ : Hid (m - (l.length + 1) = j0) := Lib.hid (by omega)
      clear HG hj
      by_cases h256 : 256 ≤ a
      · have HNone : Hid (o = none) := Lib.hid (by rw [HG1.out]; unfold entH; rw [if_pos h256])
        go_wp2_with fail
        go_ret2
        rw [HNone.out]
        exact ⟨rfl, hK⟩
      · have c0 := HC.out wx hK a (by omega)
        have HU : Hid (entH p (j0 + 1) a l = if (p.getD a 0).toNat < 1 ∨ 24 < (p.getD a 0).toNat ∨ 256 < a + (p.getD a 0).toNat + 5 then none else if 2147483647 < rd4 p (a + 1 + (p.getD a 0).toNat) then none else entH p j0 (a + (p.getD a 0).toNat + 5) (l ++ [⟨(p.drop (a + 1)).take (p.getD a 0).toNat, (rd4 p (a + 1 + (p.getD a 0).toNat) : Int)⟩])) := Lib.hid (by
          conv => lhs; unfold entH
          rw [if_neg h256])
        have hn255 : (p.getD a 0).toNat < 256 := UInt8.toNat_lt _
        generalize (p.getD a 0).toNat = n at c0 HU hn255
        have ha2 : (a : Int) < 256 := by omega
        by_cases hbad : n < 1 ∨ 24 < n ∨ 256 < a + n + 5
        · have HNone : Hid (o = none) := Lib.hid (by rw [HG1.out, HU.out, if_pos hbad])
          by_cases hb1 : n < 1
          · go_wp2_with fail
            go_ret2
            rw [HNone.out]
            exact ⟨rfl, hK⟩
          · by_cases hb2 : 24 < n
            · go_wp2_with fail
              go_ret2
              rw [HNone.out]
              exact ⟨rfl, hK⟩
            · have hb3 : (256 : Int) < (a : Int) + 5 + (n : Int) := by omega
              go_wp2_with fail
              go_ret2
              rw [HNone.out]
              exact ⟨rfl, hK⟩
        · have hb1 : ¬ n < 1 := by omega
          have hb2 : ¬ 24 < n := by omega
          have hb3 : (a : Int) + 5 + (n : Int) ≤ 256 := by omega
          have HU2 := Lib.hid (HU.out.trans (if_neg hbad))
          clear HU
          go_upto_region 9 with fail
          obtain ⟨nm, hnm⟩ : ∃ nm, nm = (p.drop (a + 1)).take n := ⟨_, rfl⟩
          have hnl : n = nm.length := by rw [hnm, List.length_take, List.length_drop]; omega
          have hAt : At wx (some ⟨pb, off + (a + 1), none⟩) nm := by
            have := ((hA.non hK).drop (a + 1)).take n
            rw [hnm]
            simpa [Addr.add] using this
          have cv : ∀ c', (convert 53 9 (.slice (some ⟨pb, off + (a + 1), none⟩) n c')).run Try.prog wx = .ok (.string (str nm)) wx := fun c' => run_convert_at 53 9 5 Try.underlying53 Try.underlying5 Try.underlying9 _ _ hAt n c' hnl
          rw [← hnm] at HU2
          have HNL := Lib.hid hnl
          clear hnm hnl hAt
          have hca : ¬ c = a + 1 := by omega
          have hs1 : (0 : Int) ≤ (a : Int) + 1 := by omega
          have hs2 : (a : Int) + 1 ≤ (a : Int) + 1 + (n : Int) := by omega
          have hs3 : (a : Int) + 1 + (n : Int) ≤ (c : Int) := by omega
          have hs4 : ((a : Int) + 1).toNat = a + 1 := by omega
          have hs5 : ((a : Int) + 1 + (n : Int)).toNat - (a + 1) = n := by omega
          go_upto_region 10 with fail
          have hE := Blk.new wx 56 #[.string (str nm), .int .i64 0]
          have hK2 := (Keeps.refl Non wx).alloc (.cells #[.string (str nm), .int .i64 0] 56)
          obtain ⟨w2, hw2⟩ : ∃ W : World, W = wx.alloc (.cells #[.string (str nm), .int .i64 0] 56) := ⟨_, rfl⟩
          rw [← hw2] at hE hK2 ⊢
          clear hw2 cv hs1 hs2 hs3 hs4 hs5 c0
          have hR2 := hR.non hK2
          have hK02 := hK.non hK2
          have hebN : ∀ q ∈ own (.slice sA l.length sc), q ≠ wx.heap.size := fun q hq => by have := hR.lt q hq; omega
          have hebW : w.heap.size ≤ wx.heap.size := hK.size
          obtain ⟨eb, hebe⟩ : ∃ b, b = wx.heap.size := ⟨_, rfl⟩
          rw [← hebe] at hE hebN hebW ⊢
          clear hebe
          obtain ⟨a2, ha2e⟩ : ∃ a2, a2 = a + 1 + n := ⟨_, rfl⟩
          have ha2l : a2 + 4 ≤ 256 := by omega
          go_upto_region 11 with fail
          rw [show (a : Int) + 1 + (n : Int) = (a2 : Int) by omega]
          rw [← ha2e] at HU2
          have HA2 := Lib.hid ha2e
          clear ha2e hb3 ha2
          have d0 := HC.out w2 hK02 a2 (by omega)
          have d1 := HC.out w2 hK02 (a2 + 1) (by omega)
          have d2 := HC.out w2 hK02 (a2 + 2) (by omega)
          have d3 := HC.out w2 hK02 (a2 + 3) (by omega)
          have HRd : Hid (rd4 p a2 = (p.getD a2 0).toNat + 256 * ((p.getD (a2 + 1) 0).toNat + 256 * ((p.getD (a2 + 2) 0).toNat + 256 * (p.getD (a2 + 3) 0).toNat))) := Lib.hid (by unfold rd4; omega)
          have q0 : (p.getD a2 0).toNat < 256 := UInt8.toNat_lt _
          have q1 : (p.getD (a2 + 1) 0).toNat < 256 := UInt8.toNat_lt _
          have q2 : (p.getD (a2 + 2) 0).toNat < 256 := UInt8.toNat_lt _
          have q3 : (p.getD (a2 + 3) 0).toNat < 256 := UInt8.toNat_lt _
          generalize (p.getD a2 0).toNat = y0 at d0 HRd q0
          generalize (p.getD (a2 + 1) 0).toNat = y1 at d1 HRd q1
          generalize (p.getD (a2 + 2) 0).toNat = y2 at d2 HRd q2
          generalize (p.getD (a2 + 3) 0).toNat = y3 at d3 HRd q3
          have r1 : (a2 : Int) + 1 < 256 := by omega
          have r2 : (a2 : Int) + 2 < 256 := by omega
          have r3 : (a2 : Int) + 3 < 256 := by omega
          have r0 : (a2 : Int) < 256 := by omega
          have xf := hE.frozen 1
          have xc : w2.cell? ⟨eb, 1, none⟩ = some (.int .i64 0) := hE.cell 1
          have hES := hE.set 1 (.int .i64 (rd4 p a2 : Int))
          have hKS : Keeps (Only eb) w2 (w2.setCell ⟨eb, 1, none⟩ (.int .i64 (rd4 p a2 : Int))) := (Keeps.refl (Only eb) _).set (p := ⟨eb, 1, none⟩) rfl _
          have hVV : ((y0 : Int) + 256 * ((y1 : Int) + 256 * ((y2 : Int) + 256 * (y3 : Int)))) = (rd4 p a2 : Int) := by rw [HRd.out]; omega
          go_region
          go_upto_region 12 with fail
          obtain ⟨w5, hw5⟩ : ∃ W : World, W = (w2.setCell ⟨eb, 1, none⟩ (.int .i64 (rd4 p a2 : Int))).drew := ⟨_, rfl⟩
          have hE5 : Blk w5 eb 56 #[.string (str nm), .int .i64 (rd4 p a2 : Int)] := by rw [hw5]; exact hES.drew
          have hK5 : Keeps (Only eb) w2 w5 := by rw [hw5]; exact hKS.drew
          rw [← hw5]
          clear hw5 hES hKS hVV xc xf d0 d1 d2 d3 r0 r1 r2 r3 q0 q1 q2 q3 HRd hE
          have hR5 : RowE w5 (.slice sA l.length sc) l := hR2.keep hK5 fun q hq e => hebN q hq e
          have hK05 : Keeps Non w w5 := hK02.then hK5 fun i hi e => by unfold Only at e; omega
          clear hR2 hK02 hK5 hK2 hR hK
          obtain ⟨V, hV⟩ : ∃ V, V = rd4 p a2 := ⟨_, rfl⟩
          rw [← hV] at hE5 HU2
          clear hV
          have z0 : w5.cell? ⟨eb, 0, none⟩ = some (.string (str nm)) := hE5.cell 0
          have z1 : w5.cell? ⟨eb, 1, none⟩ = some (.int .i64 (V : Int)) := hE5.cell 1
          by_cases hv : 2147483647 < V
          · have HNone : Hid (o = none) := Lib.hid (by rw [HG1.out, HU2.out, if_pos hv])
            have hvi : (2147483647 : Int) < (V : Int) := by omega
            go_wp2_with fail
            go_ret2
            rw [HNone.out]
            exact ⟨rfl, hK05⟩
          · have HOK : Hid (o = entH p j0 (a + n + 5) (l ++ [⟨nm, (V : Int)⟩])) := Lib.hid (by rw [HG1.out, HU2.out, if_neg hv])
            have hvi : (V : Int) ≤ 2147483647 := by omega
            have HLa : Hid (l.length + 1 ≤ maxLen ∧ (l.length + 1) * 24 ≤ 140737488355328) := Lib.hid (by unfold maxLen; omega)
            have hka := (Keeps.refl Non w5).alloc (.cells #[.string (str nm), .int .i64 (V : Int)] 56)
            have hR6 := hR5.non hka
            have hK06 := hK05.non hka
            clear hR5
            go_wp2_with (at_builtin; go_must (refine wpList_append_row (o := ⟨some 100, _, _, _, _, _⟩) rfl (.tmp 97) (.tmp 99) 32 rfl 56 2 encE _ 24 Try.underlying32 info56 rfl (by decide) encE_len encE_one (.slice sA l.length sc) l rfl hR6 (some ⟨w5.heap.size, 0, none⟩) 1 1 [(⟨nm, (V : Int)⟩ : Ent)] rfl rfl (Ats.lit w5 #[.string (str nm), .int .i64 (V : Int)] 56 _ rfl) HLa.out.1 HLa.out.2 ?_); intro u8 w8 hO8 hK8 hat; obtain ⟨⟨A8, n8, c8⟩, rfl, h8⟩ := RowP.sl hO8; have hn8 : n8 = (l ++ [(⟨nm, (V : Int)⟩ : Ent)]).length := h8; clear h8; subst hn8)
            go_roundw
            case rel => exact ⟨a + n + 5, l ++ [(⟨nm, (V : Int)⟩ : Ent)], A8, c8, by simp; omega, by simp, by have := HA2.out; go_num, by show Value.slice A8 _ c8 = Value.slice A8 _ c8; simp, by have := HA2.out; omega, hO8, ownE_new hN hK06.size hat, hK06.then hK8 (fun i hi hq => by have := hN i hq; omega), by rw [List.length_append, List.length_singleton, HJ.out]; exact HOK⟩
            case measure => simp [intOf]; omega
    · have hlm : l.length = m := by omega
      have HON : Hid (o = some (a, l)) := Lib.hid (by rw [HG.out, hlm, Nat.sub_self]; rfl)
      clear hlm HG
      go_wp2_with fail
      go_ret2
      rw [HON.out]
      exact ⟨⟨sA, l.length, sc⟩, rfl, hR, fun q hq => hN q hq, hK⟩
end Go.Proofs.Ytiieglfpmmhfiaa
namespace Go.Proofs.Ytiieglfpmmhfiaa
open Go.Uc

theorem entH_of_F {p : List UInt8} {m : Nat} {l : List Ent} (h : entF p m = some l) : ∃ a, entH p m 3 [] = some (a, l) := by
  unfold entF at h
  cases hg : entG p m 3 [] with
  | none => rw [hg] at h; cases h
  | some x =>
    obtain ⟨a, l'⟩ := x
    rw [hg] at h
    simp only at h
    by_cases hz : ((p.drop a).all (· == 0)) = true
    · rw [if_pos hz] at h
      injection h with h
      subst h
      exact ⟨a, entH_of_G m p 3 [] _ hg⟩
    · rw [if_neg hz] at h; cases h
/-- What pages say, right or not, as far as it must be known. -/
structure Told (rs : List (List UInt8)) (d : Dic) : Prop where
  d5 : d.depth ≤ 5
  tl : d.table.length = 2 ^ d.depth
  rng : ∀ x ∈ d.table, x < d.leaves.length
  many : d.leaves.length ≤ 32
  low : ∀ x ∈ d.leaves, x.depth ≤ 255
  fit : ∀ x ∈ d.leaves, fitE x.l = true
  good : ∀ x ∈ d.leaves, ∀ e ∈ x.l, GoodE e
  sm : d.small = true → d.depth = 0 ∧ d.leaves.length = 1
  uniq : ∀ d', Opens rs d' → d' = d
theorem entH_fit {p : List UInt8} {m a : Nat} {l : List Ent} (hp : p.length = 256) (h : entH p m 3 [] = some (a, l)) : fitE l = true ∧ ∀ e ∈ l, GoodE e := by
  obtain ⟨r, e1, -, e3, e4, e5⟩ := entH_some m p 3 [] a l hp h (by omega)
  rw [List.nil_append] at e1
  subst e1
  exact ⟨by unfold fitE; exact decide_eq_true (by omega), e5⟩
theorem told_one {p : List UInt8} {a : Nat} {l : List Ent} (hp : p.length = 256) (h : entH p (p.getD 1 0).toNat 3 [] = some (a, l)) : Told [p] (oneL l) := by
  obtain ⟨h1, h2⟩ := entH_fit hp h
  have hm : ∀ x ∈ (oneL l).leaves, x = ⟨0, l⟩ := fun x hx => by simpa [oneL] using hx
  refine ⟨by show 0 ≤ 5; omega, rfl, fun x hx => ?_, by show 1 ≤ 32; omega, fun x hx => ?_, fun x hx => ?_, fun x hx => ?_, fun _ => ⟨rfl, rfl⟩, fun d' hd' => ?_⟩
  · have : x = 0 := by simpa [oneL] using hx
    subst this; show 0 < 1; omega
  · rw [hm x hx]; show 0 ≤ 255; omega
  · rw [hm x hx]; exact h1
  · rw [hm x hx]; exact h2
  · obtain ⟨l', rfl, e, -⟩ := page_of_opens hd'
    obtain ⟨a', e'⟩ := entH_of_F e
    rw [h] at e'
    injection e' with e'
    injection e' with _ e'
    rw [e']
theorem one_no {p : List UInt8} (h : entH p (p.getD 1 0).toNat 3 [] = none) (d' : Dic) (hd : Opens [p] d') : False := by
  obtain ⟨l', rfl, e, -⟩ := page_of_opens hd
  obtain ⟨a', e'⟩ := entH_of_F e
  rw [h] at e'
  cases e'
def lfH (p : List UInt8) : Leaf :=
  match entH p (p.getD 2 0).toNat 3 [] with
  | some (_, l) => ⟨(p.getD 1 0).toNat, l⟩
  | none => ⟨0, []⟩
theorem lfH_some {p : List UInt8} {a : Nat} {l : List Ent} (h : entH p (p.getD 2 0).toNat 3 [] = some (a, l)) : lfH p = ⟨(p.getD 1 0).toNat, l⟩ := by unfold lfH; rw [h]
def dH (r : List UInt8) (ps : List (List UInt8)) : Dic := ⟨false, (r.getD 1 0).toNat, tabK r (2 ^ (r.getD 1 0).toNat), ps.map lfH⟩
theorem told_many {r : List UInt8} {ps : List (List UInt8)} (hps : ∀ p ∈ ps, p.length = 256) (hm : ps.length ≤ 32) (hne : ps ≠ []) (h5 : (r.getD 1 0).toNat ≤ 5)
    (ht : ∀ i, i < 2 ^ (r.getD 1 0).toNat → 1 ≤ (r.getD (2 + i) 0).toNat ∧ (r.getD (2 + i) 0).toNat ≤ ps.length)
    (hl : ∀ k, k < ps.length → ∃ x, entH (ps.getD k []) ((ps.getD k []).getD 2 0).toNat 3 [] = some x) : Told (r :: ps) (dH r ps) := by
  have hmem : ∀ x ∈ (dH r ps).leaves, ∃ k, k < ps.length ∧ x = lfH (ps.getD k []) := fun x hx => by
    have hx' : x ∈ ps.map lfH := hx
    obtain ⟨p, hp, rfl⟩ := List.mem_map.1 hx'
    obtain ⟨k, hk, rfl⟩ := List.getElem_of_mem hp
    exact ⟨k, hk, by rw [List.getD_eq_getElem?_getD, List.getElem?_eq_getElem hk]; rfl⟩
  have hleaf : ∀ x ∈ (dH r ps).leaves, x.depth ≤ 255 ∧ fitE x.l = true ∧ ∀ e ∈ x.l, GoodE e := fun x hx => by
    obtain ⟨k, hk, rfl⟩ := hmem x hx
    obtain ⟨⟨a, l⟩, e⟩ := hl k hk
    have hp : (ps.getD k []).length = 256 := hps _ (by rw [List.getD_eq_getElem?_getD, List.getElem?_eq_getElem hk]; exact List.getElem_mem _)
    rw [lfH_some e]
    have := ((ps.getD k []).getD 1 0).toNat_lt
    exact ⟨by show ((ps.getD k []).getD 1 0).toNat ≤ 255; omega, entH_fit hp e⟩
  refine ⟨h5, tabK_len _ _, fun x hx => ?_, by show (ps.map lfH).length ≤ 32; simpa using hm, fun x hx => (hleaf x hx).1, fun x hx => (hleaf x hx).2.1, fun x hx => (hleaf x hx).2.2, (fun e => by cases e), fun d' hd' => ?_⟩
  · have hx' : x ∈ tabK r (2 ^ (r.getD 1 0).toNat) := hx
    unfold tabK at hx'
    obtain ⟨i, hi, rfl⟩ := List.mem_map.1 hx'
    have := ht i (List.mem_range.1 hi)
    show _ < (ps.map lfH).length
    rw [List.length_map]
    omega
  · obtain ⟨hR, -⟩ := read_of_opens hd' hne
    have hd : d'.depth = (r.getD 1 0).toNat := hR.dep.symm
    have e1 : d'.table = tabK r (2 ^ (r.getD 1 0).toNat) := tab_ext (by rw [hR.tl, tabK_len, hd]) fun i hi => by
      rw [hR.tl, hd] at hi
      rw [tabK_get r _ i hi]
      have := hR.tb i (by rw [hd]; exact hi)
      show tAt d' i = _
      omega
    have e2 : d'.leaves = ps.map lfH := leaves_ext (by rw [hR.ll]; simp) fun k hk => by
      rw [hR.ll] at hk
      obtain ⟨-, a2, -, a4⟩ := hR.lf k hk
      obtain ⟨a, e⟩ := entH_of_F a4
      rw [getD_map lfH ps k [] ⟨0, []⟩ hk, lfH_some e]
      exact leaf_eq (by rw [a2]; rfl) rfl
    have e3 := hR.sm
    obtain ⟨s, dp, tb, lv⟩ := d'
    simp only at e1 e2 e3 hd
    rw [e1, e2, e3, hd]
    rfl
end Go.Proofs.Ytiieglfpmmhfiaa
namespace Go.Proofs.Ytiieglfpmmhfiaa
set_option maxRecDepth 100000
open Go.RowKit Go.Uc

/-- Pages as they are read, with room for what they hold. -/
def PgQ (w : World) (A : Option Addr) (rs : List (List UInt8)) : Prop := ∀ i (h : i < rs.length), ∃ b off Ai ci, A = some ⟨b, off, none⟩ ∧ w.cell? ⟨b, off + i, none⟩ = some (.slice Ai rs[i].length ci) ∧ At w Ai rs[i] ∧ rs[i].length ≤ ci
theorem PgQ.read {w : World} {A : Option Addr} {rs : List (List UInt8)} (h : PgQ w A rs) : PgR w A rs := fun i hi => by
  obtain ⟨b, off, Ai, ci, e, hc, ha, -⟩ := h i hi
  exact ⟨b, off, Ai, ci, e, hc, ha⟩
theorem PgQ.non {w w' : World} {A : Option Addr} {rs : List (List UInt8)} (h : PgQ w A rs) (hk : Keeps Non w w') : PgQ w' A rs := fun i hi => by
  obtain ⟨b, off, Ai, ci, e, hc, ha, hl⟩ := h i hi
  exact ⟨b, off, Ai, ci, e, hk.cell hc id, ha.non hk, hl⟩
/-- What told answers. -/
def ToldR (w : World) (rs : List (List UInt8)) (e : Ending) (w' : World) : Prop :=
  ((∃ (d : Dic) (g : Nat) (t l : Sl) (qs : List (Nat × Sl)), Told rs d ∧ e = .returned (.tuple #[.pointer (some ⟨g, 0, none⟩), .bool true]) ∧ Grown 84 86 w w' g d t l qs) ∨ ((¬ ∃ d, Opens rs d) ∧ (∃ v, e = .returned (.tuple #[v, .bool false])) ∧ Keeps Non w w'))
theorem ToldR.no {w w' : World} {rs : List (List UInt8)} {v : Value} (h : ∀ d, Opens rs d → False) (hk : Keeps Non w w') : ToldR w rs (.returned (.tuple #[v, .bool false])) w' := .inr ⟨fun ⟨d, h1⟩ => h d h1, ⟨v, rfl⟩, hk⟩
set_option maxHeartbeats 8000000 in
theorem told67_one {w : World} {A : Option Addr} {c : Nat} {p : List UInt8} (h : PgQ w A [p]) (hp : p.length = 256) :
    Calls Try.prog 67 #[.slice A 1 c] w (ToldR w [p]) := by
  obtain ⟨b, off, Ai, ci, rfl, x0, hAi, hci⟩ := h 0 (by simp)
  simp only [List.getElem_cons_zero, Nat.add_zero] at x0 hAi hci
  rw [hp] at x0 hci
  obtain ⟨pb, po, rfl, -⟩ := hAi.at_ (k := 0) (by omega)
  have hbyte : w.cell? ⟨pb, po + 1, none⟩ = some (.int .u8 ((p.getD 1 0).toNat : Int)) := by
    obtain ⟨b2, o2, e, h2⟩ := hAi.at_ (k := 1) (by omega)
    injection e with e
    injection e with e1 e2
    subst e1 e2
    rw [h2, List.getD_eq_getElem?_getD, List.getElem?_eq_getElem (by omega)]
    rfl
  have x0d : w.drew.cell? ⟨b, off, none⟩ = some (.slice (some ⟨pb, po, none⟩) 256 ci) := x0
  have hbd : w.drew.cell? ⟨pb, po + 1, none⟩ = some (.int .u8 ((p.getD 1 0).toNat : Int)) := hbyte
  have hm255 : (p.getD 1 0).toNat < 256 := UInt8.toNat_lt _
  have HEN := Lib.hid (entries83_any (some ⟨pb, po, none⟩) ci hci p hp (p.getD 1 0).toNat (by omega) w.drew (hAi.non (Keeps.refl Non w).drew))
  have HY : Hid (∀ a l, entH p (p.getD 1 0).toNat 3 [] = some (a, l) → Told [p] (oneL l)) := Lib.hid (fun a l e => told_one hp e)
  have HN : Hid (entH p (p.getD 1 0).toNat 3 [] = none → ∀ d, Opens [p] d → False) := Lib.hid (fun e d hd => one_no e d hd)
  obtain ⟨eo, heo⟩ : ∃ eo, eo = entH p (p.getD 1 0).toNat 3 [] := ⟨_, rfl⟩
  rw [← heo] at HEN HY HN
  clear heo
  generalize (p.getD 1 0).toNat = m at hbyte hbd hm255 HEN
  have hwm : IntKind.i64.wrap (m : Int) = (m : Int) := by rw [IntKind.wrap_i64]; omega
  clear hAi h hci
  cases eo with
  | none =>
    have HNX := Lib.hid (HN.out rfl)
    go_enter Try.func67, Try.ntmps67
    go_upto_region 2 with fail
    go_region_law (first
      | (go_simp; go_at_call 83; refine HEN.out.mono ?_; rintro en w6 ⟨rfl, hK6⟩))
    all_goals
      have hG1 := Grown.one (T := 84) (L := 86) (s := ⟨none, 0, 0⟩) ((Keeps.refl Non w).drew.non hK6) (RowP.nil _ _ _ _) (fun q hq => (List.not_mem_nil hq).elim)
      have HK1 := Lib.hid hG1.k
      clear hG1
      go_wp2_with fail
      go_ret2
      exact ToldR.no HNX.out HK1.out
  | some x =>
    obtain ⟨a, L⟩ := x
    have HTX := Lib.hid (HY.out a L rfl)
    go_enter Try.func67, Try.ntmps67
    go_upto_region 2 with fail
    go_region_law (first
      | (go_simp; go_at_call 83; refine HEN.out.mono ?_; rintro en w6 ⟨⟨sA, sn, sc⟩, he, hR6, hN6, hK6⟩; go_must (change en = .returned (.tuple #[.slice sA sn sc, .bool true]) at he; subst he)))
    all_goals
      have hG1 := Lib.hid (Grown.one (T := 84) (L := 86) (s := ⟨sA, sn, sc⟩) ((Keeps.refl Non w).drew.non hK6) hR6 (fun q hq => by have h1 : w.drew.heap.size ≤ q := hN6 q hq; exact h1))
      go_wp2_with fail
      go_ret2
      exact .inl ⟨_, _, _, _, _, HTX.out, rfl, hG1.out⟩
end Go.Proofs.Ytiieglfpmmhfiaa
