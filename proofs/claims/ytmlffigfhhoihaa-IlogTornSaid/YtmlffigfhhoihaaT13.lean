import Derived.Test.YtmlffigfhhoihaaT12
namespace Go.Proofs.Ytmlffigfhhoihaa
open Go.RowKit Go.Uc

/-- Bytes laid into others at a place. -/
def lay (xs : List UInt8) (at_ : Nat) (bs : List UInt8) : List UInt8 := xs.take at_ ++ (bs ++ xs.drop (at_ + bs.length))
theorem lay_length (xs : List UInt8) (at_ : Nat) (bs : List UInt8) (h : at_ + bs.length ≤ xs.length) : (lay xs at_ bs).length = xs.length := by
  simp [lay]; omega
theorem lay_nil (xs : List UInt8) (at_ : Nat) : lay xs at_ [] = xs := by simp [lay]
theorem lay_step (xs : List UInt8) (at_ k : Nat) (R : List UInt8) (hk : k < R.length) (h : at_ + R.length ≤ xs.length) : (lay xs at_ (R.take k)).set (at_ + k) R[k] = lay xs at_ (R.take (k + 1)) := by
  have e1 : (R.take k).length = k := by simp; omega
  have e2 : (R.take (k + 1)).length = k + 1 := by simp; omega
  unfold lay
  rw [e1, e2, List.drop_eq_getElem_cons (show at_ + k < xs.length by omega), ← List.append_assoc]
  have := set_mid (xs.take at_) (R.take k) R[k] xs[at_ + k] (xs.drop (at_ + k + 1))
  rw [List.length_take, Nat.min_eq_left (by omega), e1] at this
  rw [this, take_snoc _ _ hk]
  simp [Nat.add_assoc]

structure WS where
  reg : List UInt8
  at_ : Nat
  next : Nat
  ls : List (List UInt8)
  frm : Nat
  to : Nat
def wrStep (base : Nat) (s : WS) (bs : List UInt8) : WS :=
  if okB s.at_ bs then { reg := lay s.reg s.at_ (recB base s.next bs), at_ := s.at_ + 88 * pieces bs.length, next := s.next + 1, ls := s.ls ++ [bs], frm := s.at_, to := s.at_ + 88 * pieces bs.length } else s
def wr0 (reg : List UInt8) : WS := { reg := reg, at_ := 0, next := 1, ls := [], frm := 0, to := 0 }
def wrF (base : Nat) (reg : List UInt8) (rs : List (List UInt8)) : WS := rs.foldl (wrStep base) (wr0 reg)
/-- What holds of it all along. -/
structure WOk (s : WS) : Prop where
  len : s.reg.length = 22528
  at_ : s.at_ ≤ 22528
  next : s.next = s.ls.length + 1
  room : 88 * s.ls.length ≤ s.at_
  to : s.to = s.at_
  frm : s.frm ≤ s.to
theorem WOk.step {s : WS} (h : WOk s) (base : Nat) (bs : List UInt8) : WOk (wrStep base s bs) := by
  unfold wrStep
  split
  · rename_i h1
    simp only [okB, Bool.and_eq_true, decide_eq_true_eq] at h1
    have h2 := room_of h1.2
    have h3 := pieces_le bs.length h1.1
    refine ⟨?_, h2, ?_, ?_, rfl, by simp⟩
    · show (lay _ _ _).length = _
      rw [lay_length _ _ _ (by rw [recB_length, h.len]; exact h2), h.len]
    · show s.next + 1 = (s.ls ++ [bs]).length + 1
      rw [List.length_append, h.next]; rfl
    · show 88 * (s.ls ++ [bs]).length ≤ s.at_ + 88 * pieces bs.length
      rw [List.length_append]
      have := h.room
      simp; omega
  · exact h
theorem WOk.zero {reg : List UInt8} (h : reg.length = 22528) : WOk (wr0 reg) := ⟨h, Nat.zero_le _, rfl, Nat.le_refl _, rfl, Nat.le_refl _⟩
theorem wrF_ok {reg : List UInt8} (h : reg.length = 22528) (base : Nat) : ∀ rs, WOk (wrF base reg rs) := by
  have : ∀ (rs : List (List UInt8)) (s : WS), WOk s → WOk (rs.foldl (wrStep base) s) := by
    intro rs
    induction rs with
    | nil => intro s h; exact h
    | cons b rs ih => intro s h; exact ih _ (h.step base b)
  exact fun rs => this rs _ (WOk.zero h)
theorem wrF_take (base : Nat) (reg : List UInt8) (rs : List (List UInt8)) (k : Nat) (h : k < rs.length) : wrF base reg (rs.take (k + 1)) = wrStep base (wrF base reg (rs.take k)) rs[k] := by
  unfold wrF
  rw [← List.take_append_getElem h, List.foldl_append]
  rfl

theorem append_bad (g c base at_ next : Nat) (bs : List UInt8) (A : Option Addr) (w : World) (hb : LogB w g 53 base at_ next) (ha : at_ ≤ 22528) (h64 : bs.length ≤ 140737488351232) (hok : okB at_ bs = false) :
    roomB at_ bs.length = false ∧ Calls Try.prog 11 #[.pointer (some ⟨g, 0, none⟩), .slice A bs.length c] w fun e w' => ∃ er : Int, (er = 2 ∨ er = 161) ∧ e = .returned (.tuple #[.int .i64 0, .slice none 0 0, .int .i64 er]) ∧ Keeps Non w w' := by
  by_cases h1 : 4096 < bs.length
  · refine ⟨by simp [roomB]; omega, (append_long g c bs A w h1 h64).mono ?_⟩
    rintro e w' ⟨rfl, rfl⟩
    exact ⟨2, .inl rfl, rfl, Keeps.refl _ _⟩
  · have h2 : roomB at_ bs.length = false := by
      simp only [okB, Bool.and_eq_false_iff] at hok
      rcases hok with h | h
      · simp at h; omega
      · exact h
    refine ⟨h2, (append_full g c base at_ next bs A w hb ha (by omega) h2).mono ?_⟩
    rintro e w' ⟨rfl, hK⟩
    exact ⟨161, .inr rfl, rfl, hK⟩

set_option maxRecDepth 100000 in
set_option maxHeartbeats 4000000 in
theorem written_any (base go c : Nat) (A : Option Addr) (rs : List (List UInt8)) (reg : List UInt8) (W0 w : World) (hR : Recs W0 A rs) (hW : Keeps Non W0 w) (hn : rs.length ≤ 140737488351232) (hbase : base ≤ 281474976710656)
    (hB : Blk w go 5 (pc reg)) (hgo : W0.heap.size ≤ go) (hl : reg.length = 22528) :
    Calls Try.prog 16 #[.int .i64 base, .slice A rs.length c, .slice (some ⟨go, 0, none⟩) 22528 22528] w fun e w' => ∃ v, e = .returned (.tuple #[v, .int .i64 (wrF base reg rs).frm, .int .i64 (wrF base reg rs).to, .bool true]) ∧
      Blk w' go 5 (pc (wrF base reg rs).reg) ∧ RowB w' w.heap.size (SlB W0) v (wrF base reg rs).ls ∧ Keeps (Only go) w w' := by
  have HR := Lib.hid hR
  clear hR
  have hgl := hB.lt
  go_enter Try.func16, Try.ntmps16
  go_wp2_with (go_at_call 8; go_must (refine (new_ok base _ hbase).mono ?_); rintro e w1 ⟨rfl, hx, hK1⟩)
  obtain ⟨gx, hgx⟩ : ∃ gx, gx = w.heap.size := ⟨_, rfl⟩
  have hw1 := hx.lt
  have hB1 := hB.non hK1
  rw [← hgx] at hx hw1 hgl ⊢
  have HGX := Lib.hid hgx
  clear hgx
  have H0 : wrF base reg (rs.take 0) = wr0 reg := rfl
  go_loopw [12, 13, 14, 15] (fun v fr to iv wr => ∃ k : Nat, k ≤ rs.length ∧ iv = .int .i64 k ∧ fr = .int .i64 (wrF base reg (rs.take k)).frm ∧ to = .int .i64 (wrF base reg (rs.take k)).to ∧
    Blk wr go 5 (pc (wrF base reg (rs.take k)).reg) ∧ LogB wr gx 53 base (wrF base reg (rs.take k)).at_ (wrF base reg (rs.take k)).next ∧ RowB wr w1.heap.size (SlB W0) v (wrF base reg (rs.take k)).ls ∧
    Keeps (Only go) w wr ∧ w1.heap.size ≤ wr.heap.size) (fun _ _ _ iv _ => rs.length - (intOf iv).toNat)
  case atStart => exact ⟨0, Nat.zero_le _, rfl, rfl, rfl, hB1, hx, RowB.nil _ _ _, hK1.of_non, Nat.le_refl _⟩
  case round =>
    obtain ⟨k, hk, rfl, rfl, rfl, hBr, hb, hRow, hK, hsz⟩ := hrel
    have hok0 := wrF_ok hl base (rs.take k)
    by_cases hlt : k < rs.length
    · obtain ⟨b, off, Ai, ci, rfl, hc0, hAt, hci, h64⟩ := HR.out k hlt
      have hst := wrF_take base reg rs k hlt
      obtain ⟨bs, hbs⟩ : ∃ bs, bs = rs[k] := ⟨_, rfl⟩
      rw [← hbs] at hc0 hAt hci h64 hst
      have HST := Lib.hid hst
      clear hbs hst
      obtain ⟨s, hs⟩ : ∃ s, s = wrF base reg (rs.take k) := ⟨_, rfl⟩
      rw [← hs] at hBr hb hRow hok0 ⊢
      have HS := Lib.hid hs
      clear hs
      obtain ⟨reg1, at1, next1, ls1, frm1, to1⟩ := s
      simp only at hBr hb hRow ⊢
      have o1 : at1 ≤ 22528 := hok0.at_
      have o2 : reg1.length = 22528 := hok0.len
      have o3 : next1 ≤ 100000 := by have h1 := hok0.next; have h2 := hok0.room; simp at h1 h2; omega
      have o4 : ls1.length ≤ 256 := by have h2 : 88 * ls1.length ≤ at1 := hok0.room; omega
      have O2 := Lib.hid o2
      clear o2
      have hcell : ∀ w', Keeps (Only go) w w' → w'.cell? ⟨b, off + k, none⟩ = some (.slice Ai bs.length ci) ∧ At w' Ai bs := fun w' hk' => by
        have hk2 : Keeps Non W0 w' := hW.then hk' fun i hi e => by unfold Only at e; omega
        exact ⟨hk2.cell hc0 id, hAt.non hk2⟩
      obtain ⟨q0, a0⟩ := hcell wr hK
      have HC := Lib.hid hcell
      have HSl : Hid (SlB W0 (.slice Ai bs.length ci) bs) := ⟨Ai, ci, rfl, hAt, hci, h64⟩
      clear hcell hc0 hAt
      by_cases hok : okB at1 bs = true
      · have hok2 := hok
        simp only [okB, Bool.and_eq_true, decide_eq_true_eq] at hok2
        have hroom := room_of hok2.2
        go_wp2_with (first
          | (go_at_call 19; go_must (refine (at_any _ _ _ _ _ hb).mono ?_); rintro e w2 ⟨rfl, rfl⟩)
          | (go_at_call 24; go_must (refine (room_any _ _ _ _ _ _ hb o1).mono ?_; rw [hok2.2]); rintro e w3 ⟨rfl, n3, rfl⟩))
        have hn3 : Keeps Non w2 (w2.drewN n3) := (Keeps.refl _ _).drewN _
        refine (append_ok gx ci base at1 next1 bs Ai _ (Blk.drewN hb n3) o1 hok2.1 hok2.2 (a0.non hn3) hci hbase o3).mono ?_
        rintro e w4 ⟨v4, rfl, hO4, hb4, hK4⟩
        have hp := pieces_le bs.length hok2.1
        have hRl := recB_length base next1 bs
        obtain ⟨R, hR⟩ : ∃ R, R = recB base next1 bs := ⟨_, rfl⟩
        obtain ⟨L, hL⟩ : ∃ L, L = 88 * pieces bs.length := ⟨_, rfl⟩
        rw [← hR] at hO4 hRl
        rw [← hL] at hb4 hRl hroom
        have hL1 : 88 ≤ L := by omega
        have hL2 : (((L : Int) % 88) != 0) = false := by simp; omega
        have HRR := Lib.hid hR
        have HLL := Lib.hid hL
        have HRl := Lib.hid hRl
        obtain ⟨A4, c4, hv4, hc4, hA4, hblk4⟩ := hO4.open
        rw [hRl] at hv4 hc4
        subst hv4
        have hsz4 : w2.heap.size ≤ w4.heap.size := hK4.size
        have hn4 := hO4.new
        have hgo4 : go ≠ gx := by omega
        have hB4 : Blk w4 go 5 (pc reg1) := (hBr.drewN n3).one hK4 hgo4
        have hs3 : gx < w2.heap.size := Blk.lt hb
        have hRow4 : RowB w4 w1.heap.size (SlB W0) u12 ls1 := (hRow.keep hn3 fun _ _ e => e).keep hK4 fun g' e => by
          obtain ⟨vs, q1, _⟩ := hRow
          have := (World.ownsRow.lt q1 g' e).1
          unfold Only; omega
        have hkk4 : Keeps (Only go) w w4 := (hK.trans (hn3.of_non)).then hK4 fun i hi e => by have := HGX.out; unfold Only at e; omega
        obtain ⟨q4, -⟩ := HC.out w4 hkk4
        have hA4' := Lib.hid hA4
        have hblk4' : Hid (∀ ad, A4 = some ad → ad.block ≠ go) := fun ad e => by have := (hblk4 ad e).1; simp at this; have := hBr.lt; omega
        clear hR hL hRl hO4 hA4 hblk4 hK4 hRow hBr a0 q0 hn3
        go_wp2_with (go_at_call 19; go_must (refine (at_any _ _ _ _ _ hb4).mono ?_); rintro e w5 ⟨rfl, rfl⟩)
        obtain ⟨wo, rfl⟩ : ∃ wo : World, wo = w5 := ⟨_, rfl⟩
        have hroom2 : at1 + L ≤ 22528 := hroom
        go_loopw [21] (fun i wi => ∃ j : Nat, j ≤ L ∧ i = .int .i64 j ∧ Blk wi go 5 (pc (lay reg1 at1 (R.take j))) ∧ Keeps (Only go) wo wi) (fun i _ => L - (intOf i).toNat)
        case atStart => exact ⟨0, Nat.zero_le _, rfl, by rw [List.take_zero, lay_nil]; exact hB4, Keeps.refl _ _⟩
        case round =>
          obtain ⟨j, hj, rfl, hBj, hKj⟩ := hrel
          by_cases hjl : j < L
          · obtain ⟨b4, off4, rfl, hc4'⟩ := hA4'.out.at_ (k := j) (by have := HRl.out; omega)
            have hne : b4 ≠ go := hblk4'.out _ rfl
            have hcj : wr.cell? ⟨b4, off4 + j, none⟩ = some (.int .u8 (R[j]'(by have := HRl.out; omega)).toNat) := hKj.cell hc4' hne
            have hlen : (lay reg1 at1 (R.take j)).length = 22528 := by rw [lay_length _ _ _ (by have := O2.out; simp; omega)]; exact O2.out
            obtain ⟨v7, hv7⟩ : ∃ v7, wr.cell? ⟨go, at1 + j, none⟩ = some v7 := ⟨_, hBj.byte (i := at1 + j) (by omega)⟩
            have hf := hBj.frozen (at1 + j)
            have hnew := hBj.set (at1 + j) (bv (R[j]'(by have := HRl.out; omega)))
            rw [set_pc, lay_step reg1 at1 j R (by have := HRl.out; omega) (by have := HRl.out; have := O2.out; omega)] at hnew
            have HN := Lib.hid hnew
            have hknew := hKj.set (p := ⟨go, at1 + j, none⟩) rfl (bv (R[j]'(by have := HRl.out; omega)))
            have HKN := Lib.hid hknew
            clear hc4' hlen hnew hknew hBj hKj
            go_wp2
            go_roundw
            case rel => exact ⟨j + 1, by omega, by go_num, HN.out, HKN.out⟩
            case measure => simp [intOf]; omega
          · obtain rfl : j = L := by omega
            rw [List.take_of_length_le (by have := HRl.out; omega)] at hBj
            have hkk5 := hkk4.trans hKj
            obtain ⟨q5, -⟩ := HC.out wr hkk5
            have hb5 := Blk.one hb4 hKj (fun e => hgo4 e.symm)
            have hRow5 := hRow4.keep hKj fun g' e => by
              obtain ⟨vs, q1, _⟩ := hRow4
              have := (World.ownsRow.lt q1 g' e).1
              unfold Only; omega
            obtain ⟨vs, r1, r2, r3⟩ := hRow5
            have R2 := Lib.hid r2
            have R3 := Lib.hid r3
            have hsz5 := hKj.size
            clear r2 r3 hRow4 hKj hb4 hB4 q4
            go_wp2_with (at_builtin; go_must (refine wpList_append_vals rfl (.tmp 135) (.tmp 140) 22 rfl w1.heap.size 31 (.slice none 0 0) 24 Try.underlying22 info31 rfl u12 ls1.length vs rfl (row_keep r1 ((Keeps.refl Non _).alloc _) fun _ _ e => e) (some ⟨wr.heap.size, 0, none⟩) 1 1 [.slice Ai bs.length ci] rfl rfl (Ats.one _ _ _) (by intro u hu; simp at hu; subst hu; rfl) (by unfold maxLen; omega) (by omega) (by simp; omega) ?_); intro v8 w8 hR8 hK8 hat8)
            go_roundw
            case rel =>
              have hlow : ∀ k, Owned u12 k → w1.heap.size ≤ k := fun k hk => (World.ownsRow.lt r1 k hk).1
              have hka := ((Keeps.refl Non wr).alloc (.cells #[.slice Ai bs.length ci] 31))
              have e1 : wrF base reg (rs.take (k + 1)) = { reg := lay reg1 at1 R, at_ := at1 + j, next := next1 + 1, ls := ls1 ++ [bs], frm := at1, to := at1 + j } := by
                rw [HST.out, ← HS.out, wrStep, if_pos hok, HRR.out, HLL.out]
              have g1 := Blk.keep (hBj.alloc (.cells #[.slice Ai bs.length ci] 31)) hK8 fun e => by have := hlow _ e; omega
              have g2 := Blk.keep (Blk.alloc hb5 (.cells #[.slice Ai bs.length ci] 31)) hK8 fun e => by have := hlow _ e; omega
              have g3 := RowB.snoc hR8 R2.out R3.out HSl.out
              have g4 := (hkk5.alloc (.cells #[.slice Ai bs.length ci] 31)).then hK8 fun i hi e => by have := hlow _ e; have := HGX.out; omega
              have g5 : w1.heap.size ≤ w8.heap.size := by have := hK8.size; simp at this; omega
              exact ⟨k + 1, by omega, by go_num, by rw [e1], by rw [e1]; go_num, by rw [e1]; exact g1, by rw [e1]; exact g2, by rw [e1]; exact g3, g4, g5⟩
            case measure => simp [intOf]; omega
      · have hok' : okB at1 bs = false := by simpa using hok
        obtain ⟨hrm, hbad⟩ := append_bad gx ci base at1 next1 bs Ai wr hb o1 h64 hok'
        clear hbad
        go_wp2_with (first
          | (go_at_call 19; go_must (refine (at_any _ _ _ _ _ hb).mono ?_); rintro e w2 ⟨rfl, rfl⟩)
          | (go_at_call 24; go_must (refine (room_any _ _ _ _ _ _ hb o1).mono ?_; rw [hrm]); rintro e w3 ⟨rfl, n3, rfl⟩))
        have hn3 : Keeps Non w2 (w2.drewN n3) := (Keeps.refl _ _).drewN _
        refine (append_bad gx ci base at1 next1 bs Ai _ (Blk.drewN hb n3) o1 h64 hok').2.mono ?_
        rintro e w4 ⟨er, her, rfl, hK4⟩
        have hk4 := hn3.trans hK4
        have hb4 := Blk.non hb hk4
        have hE : wrF base reg (rs.take (k + 1)) = wrF base reg (rs.take k) := by rw [HST.out, ← HS.out, wrStep, if_neg (by rw [hok']; simp)]
        have HE := Lib.hid hE
        have hRow4 := hRow.keep hk4 fun _ _ e => e
        have hB4 := hBr.non hk4
        have hkk4 := hK.trans hk4.of_non
        have hs4 : w1.heap.size ≤ w4.heap.size := by have := hk4.size; omega
        obtain ⟨q4, -⟩ := HC.out w4 hkk4
        clear hE hRow hBr hK hK4 hn3 hk4 q0 a0
        rcases her with rfl | rfl
        all_goals
          go_wp2_with (go_at_call 19; go_must (refine (at_any _ _ _ _ _ hb4).mono ?_); rintro e w5 ⟨rfl, rfl⟩)
          go_roundw
        case rel => exact ⟨k + 1, by omega, by go_num, by rw [HE.out, ← HS.out], by rw [HE.out, ← HS.out], by rw [HE.out, ← HS.out]; exact hB4, by rw [HE.out, ← HS.out]; exact hb4, by rw [HE.out, ← HS.out]; exact hRow4, hkk4, hs4⟩
        case rel => exact ⟨k + 1, by omega, by go_num, by rw [HE.out, ← HS.out], by rw [HE.out, ← HS.out], by rw [HE.out, ← HS.out]; exact hB4, by rw [HE.out, ← HS.out]; exact hb4, by rw [HE.out, ← HS.out]; exact hRow4, hkk4, hs4⟩
        case measure => simp [intOf]; omega
        case measure => simp [intOf]; omega
    · obtain rfl : k = rs.length := by omega
      rw [List.take_length] at *
      go_wp2
      refine bodyPost_ret (v := .tuple #[u12, .int .i64 (wrF base reg rs).frm, .int .i64 (wrF base reg rs).to, .bool true]) (by simp [results, Try.results16, go_sem]) rfl ?_
      refine ⟨_, rfl, hBr, ?_, hK⟩
      obtain ⟨vs, r1, r2, r3⟩ := hRow
      refine ⟨vs, ⟨r1.1, ?_⟩, r2, r3⟩
      rcases r1.2 with q | ⟨g, cap, cur, e, q, r⟩
      · exact .inl q
      · exact .inr ⟨g, cap, cur, e, by have := HGX.out; omega, r⟩
end Go.Proofs.Ytmlffigfhhoihaa
