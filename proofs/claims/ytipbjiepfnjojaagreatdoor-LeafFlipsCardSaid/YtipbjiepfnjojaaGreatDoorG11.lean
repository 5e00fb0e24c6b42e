/- A disk is flushed; a power is cut. A disk is flushed. A power goes on again. A power, and a disk upon it, made. -/
import Derived.Test.YtipbjiepfnjojaaGreatDoorL29
import Derived.Lib.Builder
namespace Go.Proofs.YtipbjiepfnjojaaGreatDoor
set_option maxRecDepth 100000
open Go.RowKit Go.Uc

set_option maxHeartbeats 1000000 in
theorem write30_off {w0 w : World} {K : Kb} {s : Dsk} {wv : Sl} (h : Dm w0 w K s wv) (ho : s.off = true) (a b : Value) :
    Calls Tryz.prog 30 #[.pointer (some ⟨K.d, 0, none⟩), a, b] w fun e w' => e = .returned (.int .i64 5) ∧ w' = w := by
  have HD : Hid (Calls Tryz.prog 70 #[.pointer (some ⟨K.d, 0, none⟩)] w fun e w' => e = .returned (.int .i64 5) ∧ w' = w) := Lib.hid (by have := down70_any h; rw [ho] at this; exact this)
  go_enter Tryz.func30, Tryz.ntmps30
  go_wp2_with (go_at_call 70; go_must (refine HD.out.mono ?_); rintro e w9 ⟨rfl, hw9⟩; subst w9)
  go_ret
  exact ⟨rfl, rfl⟩
theorem RowP.range {α : Type} {w : World} {e : TypeId} {k : Nat} {enc : α → List Value} {v : Value} {xs : List α} (henc : ∀ x, (enc x).length = k) (h : RowP w e k enc v xs) {i : Nat} (hi : i < xs.length) : ∃ g cap, v = .slice (some ⟨g, 0, none⟩) xs.length cap ∧ xs.length ≤ cap ∧ w.rangeAt g (i * k) (enc xs[i]) := by
  obtain ⟨g, cap, e1, h1, h2, h3, -, -⟩ := h.at_ henc hi
  refine ⟨g, cap, e1, h1, fun j v hj => ?_⟩
  have hlt : j < k := by
    have := (List.getElem?_eq_some_iff.1 hj).1
    rw [henc] at this
    exact this
  rw [h3 j hlt, hj]
/-- What waits is let go. -/
def Dsk.idle (s : Dsk) : Dsk := { s with waits := [] }
theorem Dsk.idle_ok {s : Dsk} (h : s.ok) : s.idle.ok := ⟨h.n1, h.n2, h.pl, h.nw, fun x hx => absurd hx (by simp [Dsk.idle]), h.l1, h.l2⟩
theorem info100 : ∃ j, Tryz.prog.info? 100 = some j := Option.isSome_iff_exists.1 (by kernel_rfl)
theorem neq35 (d : Nat) (w : World) : (binOp .neq 35 (.pointer (some ⟨d, 0, none⟩)) (.pointer (some ⟨d, 0, none⟩))).run Tryz.prog w = .ok (.bool false) w := by
  obtain ⟨j, hj⟩ := info100
  exact Lib.run_neq_ptr_same w ⟨d, 0, none⟩ Tryz.underlying35 hj
theorem eql35 (d : Nat) (w : World) : (binOp .eql 35 (.pointer (some ⟨d, 0, none⟩)) (.pointer (some ⟨d, 0, none⟩))).run Tryz.prog w = .ok (.bool true) w := by
  obtain ⟨j, hj⟩ := info100
  exact run_eql_ptr_same w ⟨d, 0, none⟩ Tryz.underlying35 hj
set_option maxHeartbeats 4000000 in
theorem drop73_any {w0 w : World} {K : Kb} {s : Dsk} {wv : Sl} (h : Dm w0 w K s wv) (hW : s.waits.length ≤ 1099511627776) :
    Calls Tryz.prog 73 #[.pointer (some ⟨K.p, 0, none⟩), .pointer (some ⟨K.d, 0, none⟩)] w fun e w' => e = .returned (.tuple #[]) ∧ Dm w0 w' K s.idle ⟨wv.A, 0, wv.c⟩ ∧ Keeps (Only K.p) w w' := by
  obtain ⟨z, hp⟩ := h.pw
  have hwn := h.wn
  obtain ⟨wA, wn, wc⟩ := wv
  simp only at hwn
  subst hwn
  have p0 : w.cell? ⟨K.p, 0, none⟩ = some (.slice wA s.waits.length wc) := hp.cell 0
  have hle : s.waits.length ≤ wc := by
    obtain ⟨A, c, e, h1, -⟩ := h.wt.val
    injection e with e1 e2 e3
    have h1' : s.waits.length ≤ c := h1
    have e3' : wc = c := e3
    omega
  have HR := Lib.hid (fun V (hV : Keeps Non w V) => h.wt.non hV)
  have HP := Lib.hid (fun V (hV : Keeps Non w V) => hp.non hV)
  have HD := Lib.hid (fun V (hV : Keeps Non w V) => h.non hV)
  clear h hp
  obtain ⟨L, hL⟩ : ∃ L, L = s.waits := ⟨_, rfl⟩
  rw [← hL] at p0 hle HR hW HP
  have HL := Lib.hid hL
  clear hL
  go_enter Tryz.func73, Tryz.ntmps73
  go_upto_region 2 with fail
  go_loopw [4, 17] (fun l i wr => ∃ j : Nat, j ≤ L.length ∧ i = .int .i64 (j : Int) ∧ l = .slice wA 0 wc ∧ Keeps Non w wr) (fun _ i _ => L.length - (intOf i).toNat)
  case atStart => exact ⟨0, Nat.zero_le _, rfl, rfl, Keeps.refl _ _⟩
  case round =>
    obtain ⟨j, hj, rfl, rfl, hK⟩ := hrel
    obtain ⟨wx, rfl⟩ : ∃ V : World, V = wr := ⟨_, rfl⟩
    by_cases hlt : j < L.length
    · obtain ⟨g, cap, e1, h2, hra⟩ := RowP.range (encW_len K.d) (HR.out wx hK) hlt
      injection e1 with e1 _ e2
      subst e1 e2
      have hji : (j : Int) < (L.length : Int) := by omega
      have hB := Blk.new wx 97 Tryz.zeroCells97
      have hkb := (Keeps.refl Non wx).alloc (.cells Tryz.zeroCells97 97)
      obtain ⟨X, hX⟩ : ∃ X, X = L[j] := ⟨_, rfl⟩
      rw [← hX] at hra
      clear hX
      have hin : (Tryz.prog.info? 97).map (·.size) = some (encW K.d X).toArray.size := by rw [List.size_toArray, encW_len]; kernel_rfl
      have hzs : Tryz.zeroCells97.size = (encW K.d X).toArray.size := by rw [zsize97, List.size_toArray, encW_len]
      have hone : (encW K.d X).toArray.all (·.oneCell') = true := all_oneCell_toArray (encW_one K.d X)
      go_upto_region 4 with (first
        | ((with_reducible show wpList _ _ _ ({ dst := some 20, op := _, type := _, pos := _, after := _, guard := _ } :: _) _ _); go_must (refine wpList_load_mid rfl 97 (.tmp 19) rfl g (j * 130) (by kernel_rfl) (encW K.d X) _ hra Tryz.underlying97 rfl (by rw [encW_len]; kernel_rfl) ?_))
        | ((with_reducible show wpList _ _ _ ({ dst := none, op := Op.store 97 _ _, type := _, pos := _, after := _, guard := _ } :: _) _ _); go_must (refine wpList_store_blk rfl 97 (.tmp 6) (.tmp 20) rfl wx.heap.size (encW K.d X).toArray (by kernel_rfl) (by kernel_rfl) 97 _ hB hin hzs hone ?_); intro w4 hB4 hK4))
      have hk4 : Keeps Non wx w4 := hkb.then hK4 fun i hi e => by unfold Only at e; omega
      have hnq := neq35 K.d w4
      have c0 : w4.cell? ⟨wx.heap.size, 0, none⟩ = some (.pointer (some ⟨K.d, 0, none⟩)) := hB4.cell 0
      go_wp2_with fail
      go_roundw
      case rel => exact ⟨j + 1, by omega, by go_num, rfl, hK.non hk4⟩
      case measure => simp [intOf]; omega
    · obtain rfl : j = L.length := by omega
      obtain hpx := HP.out wx hK
      have f0 := hpx.frozen 0
      have p0x : wx.cell? ⟨K.p, 0, none⟩ = some (.slice wA L.length wc) := hpx.cell 0
      have HDx := Lib.hid (HD.out wx hK)
      go_wp2_with fail
      go_end0
      have hk9 : Keeps (Only K.p) wx (wx.setCell ⟨K.p, 0, none⟩ (.slice wA 0 wc)) := (Keeps.refl (Only K.p) _).set (p := ⟨K.p, 0, none⟩) rfl _
      refine ⟨rfl, ?_, (hK.of_non).trans hk9⟩
      have hD := HDx.out
      have hk9F : Keeps (Fr K ⟨wA, s.waits.length, wc⟩) wx (wx.setCell ⟨K.p, 0, none⟩ (.slice wA 0 wc)) := hk9.mono fun k e => .inl e
      refine hD.next hk9F ⟨z, hpx.set 0 _⟩ (hD.pl.one hk9 (hD.pl.ne hpx (by decide))) (hD.nw.one hk9 (hD.nw.ne hpx (by decide))) ?_ rfl ?_ (Dsk.idle_ok hD.ok) rfl
      · have hWx := hD.wt.keep hk9 fun q hq e => by unfold Only at e; exact own_type hD.wt hpx (by decide) (e ▸ hq)
        rcases hWx.form with ⟨e, -⟩ | ⟨g, cap, cur, e, h3, h4, h5, h6, h7⟩
        · injection e with e1 e2 e3
          subst e1 e3
          exact RowP.nil _ _ _ _
        · injection e with e1 e2 e3
          subst e1 e3
          exact RowP.mk (encW_len K.d) h3 (Nat.zero_le _) h5 h6 (by simp [Dsk.idle])
      · intro q hq
        left
        cases wA <;> exact hq
set_option maxHeartbeats 1000000 in
theorem cut10_any {w0 w : World} {K : Kb} {s : Dsk} {wv : Sl} (h : Dm w0 w K s wv) (a : Int) (h1 : -9223372036854775808 ≤ a) (h2 : a ≤ 9223372036854775807) :
    Calls Tryz.prog 10 #[.pointer (some ⟨K.p, 0, none⟩), .int .i64 a] w fun e w' => e = .returned (.tuple #[]) ∧ Dm w0 w' K { s with left := if a < 0 then -1 else a } wv ∧ Keeps (Only K.p) w w' := by
  obtain ⟨z, hp⟩ := h.pw
  obtain ⟨lv, hlv⟩ : ∃ lv, lv = if a < 0 then -1 else a := ⟨_, rfl⟩
  rw [← hlv]
  have p1 : w.cell? ⟨K.p, 1, none⟩ = some (.int .i64 s.left) := hp.cell 1
  have f1 := hp.frozen 1
  have HX : Hid (∀ v : Int, v = lv → Dm w0 (w.setCell ⟨K.p, 1, none⟩ (.int .i64 v)) K { s with left := lv } wv ∧ Keeps (Only K.p) w (w.setCell ⟨K.p, 1, none⟩ (.int .i64 v))) := Lib.hid (fun v hv => by
    subst hv
    have hk : Keeps (Only K.p) w (w.setCell ⟨K.p, 1, none⟩ (.int .i64 v)) := (Keeps.refl (Only K.p) _).set (p := ⟨K.p, 1, none⟩) rfl _
    refine ⟨h.power (s' := { s with left := v }) hk ⟨z, hp.set 1 _⟩ rfl ⟨h.ok.n1, h.ok.n2, h.ok.pl, h.ok.nw, h.ok.wt, ?_, ?_⟩, hk⟩
    · show -1 ≤ v
      rw [hlv]
      split <;> omega
    · show v ≤ _
      rw [hlv]
      split <;> omega)
  have HV := Lib.hid hlv
  clear h hp hlv
  go_enter Tryz.func10, Tryz.ntmps10
  go_wp2_with fail
  all_goals
    go_end0
    first
      | exact ⟨rfl, HX.out (-1) (by rw [HV.out]; split <;> omega)⟩
      | exact ⟨rfl, HX.out a (by rw [HV.out]; split <;> omega)⟩
end Go.Proofs.YtipbjiepfnjojaaGreatDoor
namespace Go.Proofs.YtipbjiepfnjojaaGreatDoor
set_option maxRecDepth 100000
open Go.RowKit Go.Uc

def Dsk.flush (s : Dsk) : Dsk := { s with plat := s.now, waits := [] }
theorem Dsk.flush_ok {s : Dsk} (h : s.ok) : s.flush.ok := ⟨h.n1, h.n2, h.nw, h.nw, fun x hx => absurd hx (by simp [Dsk.flush]), h.l1, h.l2⟩
def Dsk.laid (s : Dsk) : Dsk := { s with plat := s.now }
theorem Dsk.laid_ok {s : Dsk} (h : s.ok) : s.laid.ok := ⟨h.n1, h.n2, h.nw, h.nw, h.wt, h.l1, h.l2⟩
set_option maxHeartbeats 4000000 in
theorem flush33_any {w0 w : World} {K : Kb} {s : Dsk} {wv : Sl} (h : Dm w0 w K s wv) (ho : s.off = false) (hW : s.waits.length ≤ 1099511627776) :
    Calls Tryz.prog 33 #[.pointer (some ⟨K.d, 0, none⟩)] w fun e w' => e = .returned (.int .i64 0) ∧ Dm w0 w' K s.flush ⟨wv.A, 0, wv.c⟩ ∧ Keeps (Fr K wv) w w' := by
  have HD : Hid (Calls Tryz.prog 70 #[.pointer (some ⟨K.d, 0, none⟩)] w fun e w' => e = .returned (.int .i64 0) ∧ w' = w) := Lib.hid (by have := down70_any h; rw [ho] at this; exact this)
  have hkd : Keeps Non w w.drew := (Keeps.refl Non w).drew
  have hd := h.dk.non hkd
  have d0 : w.cell? ⟨K.d, 0, none⟩ = some (.pointer (some ⟨K.p, 0, none⟩)) := h.dk.cell 0
  have d1 : w.drew.cell? ⟨K.d, 1, none⟩ = some (.slice (some ⟨K.pl, 0, none⟩) (128 * s.n) (128 * s.n)) := hd.cell 1
  have d2 : w.drew.cell? ⟨K.d, 2, none⟩ = some (.slice (some ⟨K.nw, 0, none⟩) (128 * s.n) (128 * s.n)) := hd.cell 2
  have hpl := h.pl.non hkd
  have hA : At w.drew (some ⟨K.nw, 0, none⟩) s.now := At.blk (h.nw.non hkd)
  have hl1 := h.ok.pl
  have hl2 := h.ok.nw
  have hm : Hid (s.now.length = Nat.min (128 * s.n) (128 * s.n)) := Lib.hid (by rw [hl2]; exact (Nat.min_self _).symm)
  have hf : Hid (0 + s.now.length ≤ s.plat.length) := Lib.hid (by rw [hl1, hl2]; omega)
  have HE : Hid (s.plat.take 0 ++ (s.now ++ s.plat.drop (0 + s.now.length)) = s.now) := Lib.hid (by rw [List.drop_eq_nil_of_le (by rw [hl1, hl2]; omega)]; simp)
  have HL := Lib.hid (fun V (hV : Blk V K.pl 5 (pc s.now)) (hk : Keeps (Only K.pl) w V) => show Dm w0 V K s.laid wv from by
    obtain ⟨z, hp⟩ := h.pw
    exact h.next (hk.mono fun k e => .inr (.inl e)) ⟨z, hp.one hk (hp.ne h.pl (by decide))⟩ hV (h.nw.one hk (Ne.symm h.ne)) (h.wt.keep hk fun q hq e => by unfold Only at e; exact own_type h.wt h.pl (by decide) (e ▸ hq)) h.wn (fun q hq => .inl hq) (Dsk.laid_ok h.ok) rfl)
  have hW' : s.laid.waits.length ≤ 1099511627776 := hW
  have hdn := h.dk
  have hdp : K.d ≠ K.pl := h.dk.ne h.pl (by decide)
  clear h hl1 hl2 hW
  go_enter Tryz.func33, Tryz.ntmps33
  go_upto_region 4 with (go_at_call 70; go_must (refine HD.out.mono ?_); rintro e w9 ⟨rfl, hw9⟩; subst w9)
  go_region_law ((with_reducible show (if Region.wanted ({ dst := some 17, op := _, type := _, pos := _, after := _, guard := _ } : Oper) _ = true then _ else _)); go_must (refine step_copy_bytes (o := ⟨some 17, _, _, _, _, _⟩) rfl (.tmp 12) (.tmp 16) 55 55 rfl 5 Tryz.underlying55 infoS5 (some ⟨K.pl, 0, none⟩) (some ⟨K.nw, 0, none⟩) (128 * s.n) (128 * s.n) (128 * s.n) (128 * s.n) (by kernel_rfl) (by kernel_rfl) K.pl 0 s.plat 5 hpl s.now hm.out rfl hA hf.out ?_); intro w11 hB11 hK11; rw [HE.out] at hB11)
  all_goals
    have hk1 : Keeps (Only K.pl) w w11 := ((Keeps.refl (Only K.pl) w).drew).trans hK11
    have hL1 := HL.out w11 hB11 hk1
    have HDr := Lib.hid (drop73_any hL1 hW')
    have e0 : w11.cell? ⟨K.d, 0, none⟩ = some (.pointer (some ⟨K.p, 0, none⟩)) := (hdn.one hk1 hdp).cell 0
    clear d0 d1 d2 hL1
    go_wp2_with (go_at_call 73; go_must (refine HDr.out.mono ?_); rintro e w12 ⟨rfl, hD12, hK12⟩)
    go_ret
    exact ⟨rfl, hD12, (hk1.mono fun k e => .inr (.inl e)).trans (hK12.mono fun k e => .inl e)⟩
set_option maxHeartbeats 1000000 in
theorem flush33_off {w0 w : World} {K : Kb} {s : Dsk} {wv : Sl} (h : Dm w0 w K s wv) (ho : s.off = true) :
    Calls Tryz.prog 33 #[.pointer (some ⟨K.d, 0, none⟩)] w fun e w' => e = .returned (.int .i64 5) ∧ w' = w := by
  have HD : Hid (Calls Tryz.prog 70 #[.pointer (some ⟨K.d, 0, none⟩)] w fun e w' => e = .returned (.int .i64 5) ∧ w' = w) := Lib.hid (by have := down70_any h; rw [ho] at this; exact this)
  go_enter Tryz.func33, Tryz.ntmps33
  go_wp2_with (go_at_call 70; go_must (refine HD.out.mono ?_); rintro e w9 ⟨rfl, hw9⟩; subst w9)
  go_ret
  exact ⟨rfl, rfl⟩
end Go.Proofs.YtipbjiepfnjojaaGreatDoor
namespace Go.Proofs.YtipbjiepfnjojaaGreatDoor
set_option maxRecDepth 100000
open Go.RowKit Go.Uc

/-- A slice of truths, wherever it lies. -/
def AtB (w : World) (A : Option Addr) (bs : List Bool) : Prop := ∀ i (h : i < bs.length), ∃ b off, A = some ⟨b, off, none⟩ ∧ w.cell? ⟨b, off + i, none⟩ = some (.bool bs[i])
theorem AtB.nil (w : World) (A : Option Addr) : AtB w A [] := fun i h => absurd h (by simp)
theorem AtB.keep {S : Nat → Prop} {w w' : World} {A : Option Addr} {bs : List Bool} (h : AtB w A bs) (hk : Keeps S w w') (hb : ∀ ad, A = some ad → ¬ S ad.block) : AtB w' A bs := fun i hi => by
  obtain ⟨b, off, e, hc⟩ := h i hi
  exact ⟨b, off, e, hk.cell hc (hb ⟨b, off, none⟩ e)⟩
/-- What stays of the writes that waited. -/
def ups : List Wt → List Bool → List UInt8 → List UInt8
  | x :: r, b :: st, P => ups r st (if b then put P x.at_ x.b else P)
  | _, _, P => P
theorem ups_nil (st : List Bool) (P : List UInt8) : ups [] st P = P := by cases st <;> rfl
theorem ups_no (r : List Wt) (P : List UInt8) : ups r [] P = P := by cases r <;> rfl
theorem ups_len {n : Nat} : ∀ (r : List Wt) (st : List Bool) (P : List UInt8), P.length = 128 * n → (∀ x ∈ r, x.at_ < n) → (ups r st P).length = 128 * n
  | [], st, P, h, _ => by rw [ups_nil]; exact h
  | x :: r, [], P, h, _ => by rw [ups_no]; exact h
  | x :: r, b :: st, P, h, hx => by
    rw [ups]
    refine ups_len r st _ ?_ fun y hy => hx y (List.mem_cons_of_mem _ hy)
    cases b
    · exact h
    · exact put_len h x.hb (hx x (List.mem_cons_self ..))
def Dsk.up (s : Dsk) (st : List Bool) : Dsk := { s with plat := ups s.waits st s.plat, now := ups s.waits st s.plat, waits := [], left := -1, off := false }
theorem Dsk.up_ok {s : Dsk} (h : s.ok) (st : List Bool) : (s.up st).ok := by
  have := ups_len s.waits st s.plat h.pl h.wt
  exact ⟨h.n1, h.n2, this, this, fun x hx => absurd hx (by simp [Dsk.up]), by simp [Dsk.up], by simp [Dsk.up]⟩
set_option maxHeartbeats 8000000 in
theorem up11_any {w0 w : World} {K : Kb} {s : Dsk} {wv : Sl} (h : Dm w0 w K s wv) (hW : s.waits.length ≤ 1099511627776) (st : List Bool) (sA : Option Addr) (sc : Nat) (hS : AtB w sA st) (hSF : ∀ ad, sA = some ad → ad.block ≠ K.pl) (hst : st.length ≤ 1099511627776000) :
    Calls Tryz.prog 11 #[.pointer (some ⟨K.p, 0, none⟩), .slice sA st.length sc] w fun e w' => e = .returned (.tuple #[]) ∧ Dm w0 w' K (s.up st) ⟨none, 0, 0⟩ ∧ Keeps (Fr K wv) w w' := by
  obtain ⟨z, hp⟩ := h.pw
  have hwn := h.wn
  obtain ⟨wA, wn, wc⟩ := wv
  simp only at hwn
  subst hwn
  have p0 : w.cell? ⟨K.p, 0, none⟩ = some (.slice wA s.waits.length wc) := hp.cell 0
  have hppl : K.p ≠ K.pl := hp.ne h.pl (by decide)
  have hdpl : K.d ≠ K.pl := h.dk.ne h.pl (by decide)
  obtain ⟨L, hL⟩ : ∃ L, L = s.waits := ⟨_, rfl⟩
  obtain ⟨R, hR⟩ : ∃ R, R = ups s.waits st s.plat := ⟨_, rfl⟩
  have HW := Lib.hid (fun V (hV : Keeps (Only K.pl) w V) => show RowP V 97 130 (encW K.d) (.slice wA L.length wc) L from by rw [hL]; exact h.wt.keep hV fun q hq e => by unfold Only at e; exact own_type h.wt h.pl (by decide) (e ▸ hq))
  have HDk := Lib.hid (fun V (hV : Keeps (Only K.pl) w V) => h.dk.one hV hdpl)
  have HSt := Lib.hid (fun V (hV : Keeps (Only K.pl) w V) => hS.keep hV hSF)
  have hLt : Hid (∀ i (hi : i < L.length), (L[i]).at_ < s.n) := Lib.hid (fun i hi => h.ok.wt _ (by rw [← hL]; exact List.getElem_mem hi))
  have hn8 := h.ok.n2
  have HP0 := Lib.hid h.pl
  have HPl := Lib.hid h.ok.pl
  rw [← hL] at p0 hW
  have HL := Lib.hid hL
  have HR := Lib.hid hR
  have H := Lib.hid h
  have Hp := Lib.hid hp
  clear hL hR h hp hS
  go_enter Tryz.func11, Tryz.ntmps11
  go_upto_region 1 with fail
  go_loopw [13] (fun i wr => ∃ (j : Nat) (P : List UInt8), j ≤ L.length ∧ i = .int .i64 (j : Int) ∧ Blk wr K.pl 5 (pc P) ∧ P.length = 128 * s.n ∧ ups (L.drop j) (st.drop j) P = R ∧ Keeps (Only K.pl) w wr) (fun i _ => L.length - (intOf i).toNat)
  case atStart => exact ⟨0, s.plat, Nat.zero_le _, rfl, HP0.out, HPl.out, by rw [HR.out, HL.out]; rfl, Keeps.refl _ _⟩
  case round =>
    obtain ⟨j, P, hj, rfl, hP, hPl, hU, hK⟩ := hrel
    obtain ⟨wx, rfl⟩ : ∃ V : World, V = wr := ⟨_, rfl⟩
    have HPL := Lib.hid hPl
    clear hPl
    by_cases hlt : j < L.length
    · obtain ⟨g, cap, e1, h2, hra⟩ := RowP.range (encW_len K.d) (HW.out wx hK) hlt
      injection e1 with e1 _ e2
      subst e1 e2
      have hji : (j : Int) < (L.length : Int) := by omega
      have hB := Blk.new wx 97 Tryz.zeroCells97
      have hkb := (Keeps.refl Non wx).alloc (.cells Tryz.zeroCells97 97)
      obtain ⟨X, hX⟩ : ∃ X, X = L[j] := ⟨_, rfl⟩
      have hXn : Hid (X.at_ < s.n) := Lib.hid (by rw [hX]; exact hLt.out j hlt)
      rw [← hX] at hra
      have HDr : Hid (L.drop j = X :: L.drop (j + 1)) := Lib.hid (by rw [List.drop_eq_getElem_cons hlt, hX])
      clear hX
      have hin : (Tryz.prog.info? 97).map (·.size) = some (encW K.d X).toArray.size := by rw [List.size_toArray, encW_len]; kernel_rfl
      have hzs : Tryz.zeroCells97.size = (encW K.d X).toArray.size := by rw [zsize97, List.size_toArray, encW_len]
      have hone : (encW K.d X).toArray.all (·.oneCell') = true := all_oneCell_toArray (encW_one K.d X)
      have hsl := Lib.hid (HSt.out wx hK)
      go_upto_region 3 with (first
        | ((with_reducible show wpList _ _ _ ({ dst := some 17, op := _, type := _, pos := _, after := _, guard := _ } :: _) _ _); go_must (refine wpList_load_mid rfl 97 (.tmp 16) rfl g (j * 130) (by kernel_rfl) (encW K.d X) _ hra Tryz.underlying97 rfl (by rw [encW_len]; kernel_rfl) ?_))
        | ((with_reducible show wpList _ _ _ ({ dst := none, op := Op.store 97 _ _, type := _, pos := _, after := _, guard := _ } :: _) _ _); go_must (refine wpList_store_blk rfl 97 (.tmp 5) (.tmp 17) rfl wx.heap.size (encW K.d X).toArray (by kernel_rfl) (by kernel_rfl) 97 _ hB hin hzs hone ?_); intro w4 hB4 hK4))
      have hk4 : Keeps Non wx w4 := hkb.then hK4 fun i hi e => by unfold Only at e; omega
      obtain ⟨pw, hpw⟩ : ∃ z, z = wx.heap.size := ⟨_, rfl⟩
      rw [← hpw] at hB4 hK4 ⊢
      have hpwp : pw ≠ K.pl := by have := hP.lt; omega
      clear hpw
      have hP4 := hP.non hk4
      have hK4' := hK.non hk4
      have hS4 := HSt.out w4 hK4'
      clear hra hB hkb hin hzs hone
      by_cases hjs : j < st.length
      · have HDs : Hid (st.drop j = st[j] :: st.drop (j + 1)) := Lib.hid (List.drop_eq_getElem_cons hjs)
        obtain ⟨sb, so, e2, hcs⟩ := hS4 j hjs
        subst e2
        have hjd : decide ((j : Int) < (st.length : Int)) = true := decide_eq_true (by omega)
        obtain ⟨B, hBv⟩ : ∃ B, B = st[j] := ⟨_, rfl⟩
        rw [← hBv] at hcs HDs
        clear hBv hS4 hsl
        cases B
        · go_wp2_with fail
          go_roundw
          case rel =>
            refine ⟨j + 1, P, by omega, by go_num, hP4, HPL.out, ?_, hK4'⟩
            rw [← hU, HDr.out, HDs.out, ups]
            rfl
          case measure => simp [intOf]; omega
        · have hk4d : Keeps Non w4 w4.drew := (Keeps.refl Non w4).drew
          have c0 : w4.drew.cell? ⟨pw, 0, none⟩ = some (.pointer (some ⟨K.d, 0, none⟩)) := (hB4.non hk4d).cell 0
          have c1 : w4.drew.cell? ⟨pw, 1, none⟩ = some (.int .i64 (X.at_ : Int)) := (hB4.non hk4d).cell 1
          have d1 : w4.drew.cell? ⟨K.d, 1, none⟩ = some (.slice (some ⟨K.pl, 0, none⟩) (128 * s.n) (128 * s.n)) := ((HDk.out w4 hK4').non hk4d).cell 1
          have hA4 : At w4.drew (some ⟨pw, 2, none⟩) X.b := fun i hi => by
            refine ⟨_, rfl, ?_⟩
            rw [addr_add_none, (hB4.non hk4d).cell]
            simp [encW, show 2 + i = i + 1 + 1 by omega, hi]
          obtain ⟨Q, hQ⟩ : ∃ Q : Nat, Q = X.at_ := ⟨_, rfl⟩
          rw [← hQ] at c1
          have HQ := Lib.hid hQ
          have hQn : Q < s.n := by rw [hQ]; exact hXn.out
          clear hQ
          have HSc := Lib.hid (fun V => sector34_any (.pointer (some ⟨K.d, 0, none⟩)) K.pl s.n Q V hQn hn8)
          have hP4d := hP4.non hk4d
          have hmn : Hid (X.b.length = Nat.min 128 128) := Lib.hid X.hb
          have hft : Hid (128 * Q + X.b.length ≤ P.length) := Lib.hid (by rw [X.hb, HPL.out]; omega)
          go_upto_region 4 with fail
          go_region_law (first
            | ((with_reducible show (if Region.wanted ({ dst := some 37, op := _, type := _, pos := _, after := _, guard := _ } : Oper) _ = true then _ else _)); go_simp; go_at_call 34; refine (HSc.out _).mono ?_; rintro e w10 ⟨rfl, hw10⟩; subst w10; go_must (skip))
            | ((with_reducible show (if Region.wanted ({ dst := some 40, op := _, type := _, pos := _, after := _, guard := _ } : Oper) _ = true then _ else _)); go_must (refine step_copy_bytes (o := ⟨some 40, _, _, _, _, _⟩) rfl (.tmp 37) (.tmp 39) 55 55 rfl 5 Tryz.underlying55 infoS5 (some ⟨K.pl, 128 * Q, none⟩) (some ⟨pw, 2, none⟩) 128 (128 * s.n - 128 * Q) 128 128 (by kernel_rfl) (by kernel_rfl) K.pl (128 * Q) P 5 hP4d X.b hmn.out rfl hA4 hft.out ?_); intro w11 hB11 hK11))
          all_goals
            go_wp2_with fail
            go_roundw
            case rel =>
              refine ⟨j + 1, put P X.at_ X.b, by omega, by go_num, ?_, ?_, ?_, ?_⟩
              · unfold put
                rw [← HQ.out]
                exact hB11
              · exact put_len HPL.out X.hb hXn.out
              · rw [← hU, HDr.out, HDs.out, ups]
                rfl
              · exact hK4'.trans (((Keeps.refl (Only K.pl) w4).drew).trans hK11)
            case measure => simp [intOf]; omega
      · have hjd : decide ((j : Int) < (st.length : Int)) = false := decide_eq_false (by omega)
        have hle : st.length ≤ j := by omega
        clear hS4 hsl
        go_wp2_with fail
        go_roundw
        case rel =>
          refine ⟨j + 1, P, by omega, by go_num, hP4, HPL.out, ?_, hK4'⟩
          have a1 : st.drop j = [] := List.drop_eq_nil_of_le hle
          have a2 : st.drop (j + 1) = [] := List.drop_eq_nil_of_le (by omega)
          rw [← hU, HDr.out, a1, a2, ups_no, ups_no]
        case measure => simp [intOf]; omega
    · obtain rfl : j = L.length := by omega
      have hPR : P = R := by rw [← hU, List.drop_eq_nil_of_le (Nat.le_refl _), ups_nil]
      subst hPR
      clear hU
      have hpx := Hp.out.one hK hppl
      have hkp : Keeps (Only K.pl) w wx := hK
      have f0 := hpx.frozen 0
      have f1 := hpx.frozen 1
      have f2 := hpx.frozen 2
      have q0 : wx.cell? ⟨K.p, 0, none⟩ = some (.slice wA s.waits.length wc) := hpx.cell 0
      have q1 : wx.cell? ⟨K.p, 1, none⟩ = some (.int .i64 s.left) := hpx.cell 1
      have q2 : wx.cell? ⟨K.p, 2, none⟩ = some (.bool s.off) := hpx.cell 2
      obtain ⟨cs, hdb, hd0, hdc⟩ := H.out.db
      have hdbpl : K.db ≠ K.pl := hdb.ne H.out.pl (by decide)
      have hdbp : K.db ≠ K.p := hdb.ne Hp.out (by decide)
      have hnwp : K.nw ≠ K.p := H.out.nw.ne Hp.out (by decide)
      have hplp : K.pl ≠ K.p := Ne.symm hppl
      have hdp : K.d ≠ K.p := H.out.dk.ne Hp.out (by decide)
      have hdn : K.d ≠ K.nw := H.out.dk.ne H.out.nw (by decide)
      have hdbn : K.db ≠ K.nw := hdb.ne H.out.nw (by decide)
      have hne := H.out.ne
      have b5 := ((hpx.set 0 (.slice none 0 0)).set 1 (.int .i64 (-1))).set 2 (.bool false)
      have k5 : Keeps (Only K.p) wx (((wx.setCell ⟨K.p, 0, none⟩ (.slice none 0 0)).setCell ⟨K.p, 1, none⟩ (.int .i64 (-1))).setCell ⟨K.p, 2, none⟩ (.bool false)) := (((Keeps.refl (Only K.p) wx).set (p := ⟨K.p, 0, none⟩) rfl _).set (p := ⟨K.p, 1, none⟩) rfl _).set (p := ⟨K.p, 2, none⟩) rfl _
      go_upto_region 7 with fail
      obtain ⟨w5, hw5⟩ : ∃ V : World, V = ((wx.setCell ⟨K.p, 0, none⟩ (.slice none 0 0)).setCell ⟨K.p, 1, none⟩ (.int .i64 (-1))).setCell ⟨K.p, 2, none⟩ (.bool false) := ⟨_, rfl⟩
      rw [← hw5] at b5 k5 ⊢
      clear hw5 q0 q1 q2 f0 f1 f2
      have hp5 : Blk w5 K.p 94 #[.slice none 0 0, .int .i64 (-1), .bool false, .int .i64 z, .slice (some ⟨K.db, 0, none⟩) 1 K.dc] := b5
      have r4 : w5.cell? ⟨K.p, 4, none⟩ = some (.slice (some ⟨K.db, 0, none⟩) 1 K.dc) := hp5.cell 4
      have hnw5 : Blk w5 K.nw 5 (pc s.now) := (H.out.nw.one hK (Ne.symm hne)).one k5 hnwp
      have hpl5 : Blk w5 K.pl 5 (pc P) := hP.one k5 hplp
      have hdk5 := (HDk.out wx hK).one k5 hdp
      have hdb5 := (hdb.one hK hdbpl).one k5 hdbp
      have hPl := HPL.out
      have hnl : s.now.length = 128 * s.n := H.out.ok.nw
      have hmm : Hid (P.length = Nat.min (128 * s.n) (128 * s.n)) := Lib.hid (by rw [hPl]; exact (Nat.min_self _).symm)
      have hff : Hid (0 + P.length ≤ s.now.length) := Lib.hid (by rw [hPl, hnl]; omega)
      have HEE : Hid (s.now.take 0 ++ (P ++ s.now.drop (0 + P.length)) = P) := Lib.hid (by rw [List.drop_eq_nil_of_le (by rw [hPl, hnl]; omega)]; simp)
      have HBase := Lib.hid b5
      clear hPl hnl b5 hpx
      go_upto_region 8 with fail
      go_loopw [56] (fun i wr => ∃ j : Nat, j ≤ 1 ∧ i = .int .i64 (j : Int) ∧ (j = 0 → wr = w5) ∧ (j = 1 → Blk wr K.nw 5 (pc P)) ∧ Keeps (Only K.nw) w5 wr) (fun i _ => 1 - (intOf i).toNat)
      case atStart => exact ⟨0, by omega, rfl, fun _ => rfl, fun e => by omega, Keeps.refl _ _⟩
      case round =>
        obtain ⟨j, hj1, rfl, hj0, hjd, hKn⟩ := hrel
        by_cases hj0' : j = 0
        · obtain rfl := hj0 hj0'
          subst hj0'
          clear hj0 hjd hKn
          have d0 : wr.cell? ⟨K.db, 0, none⟩ = some (.pointer (some ⟨K.d, 0, none⟩)) := by rw [hdb5.cell]; exact hd0
          have hkd : Keeps Non wr wr.drew := (Keeps.refl Non wr).drew
          have d1 : wr.drew.cell? ⟨K.d, 1, none⟩ = some (.slice (some ⟨K.pl, 0, none⟩) (128 * s.n) (128 * s.n)) := (hdk5.non hkd).cell 1
          have d2 : wr.drew.cell? ⟨K.d, 2, none⟩ = some (.slice (some ⟨K.nw, 0, none⟩) (128 * s.n) (128 * s.n)) := (hdk5.non hkd).cell 2
          have hA5 : At wr.drew (some ⟨K.pl, 0, none⟩) P := At.blk (hpl5.non hkd)
          have hnwd := hnw5.non hkd
          go_upto_region 10 with fail
          go_region_law ((with_reducible show (if Region.wanted ({ dst := some 68, op := _, type := _, pos := _, after := _, guard := _ } : Oper) _ = true then _ else _)); go_must (refine step_copy_bytes (o := ⟨some 68, _, _, _, _, _⟩) rfl (.tmp 63) (.tmp 67) 55 55 rfl 5 Tryz.underlying55 infoS5 (some ⟨K.nw, 0, none⟩) (some ⟨K.pl, 0, none⟩) (128 * s.n) (128 * s.n) (128 * s.n) (128 * s.n) (by kernel_rfl) (by kernel_rfl) K.nw 0 s.now 5 hnwd P hmm.out rfl hA5 hff.out ?_); intro w11 hB11 hK11; rw [HEE.out] at hB11)
          all_goals
            go_wp2_with fail
            go_roundw
            case rel => exact ⟨1, by omega, by go_num, fun e => by omega, fun _ => hB11, ((Keeps.refl (Only K.nw) wr).drew).trans hK11⟩
            case measure => simp [intOf]
        · obtain rfl : j = 1 := by omega
          have hBn := hjd rfl
          clear hj0 hjd
          go_wp2_with fail
          go_end0
          have hk6 : Keeps (fun g => g = K.p ∨ g = K.pl ∨ g = K.nw) w wr := ((hK.mono fun k e => .inr (.inl e)).trans (k5.mono fun k e => .inl e)).trans (hKn.mono fun k e => .inr (.inr e))
          have hkF : Keeps (Fr K ⟨wA, s.waits.length, wc⟩) w wr := hk6.mono fun k e => by
            rcases e with e | e | e
            · exact .inl e
            · exact .inr (.inl e)
            · exact .inr (.inr (.inl e))
          refine ⟨rfl, ?_, hkF⟩
          have hupR : (s.up st).plat = P := HR.out.symm
          refine H.out.next hkF ⟨z, hp5.one hKn (Ne.symm hnwp)⟩ (by rw [hupR]; exact hpl5.one hKn hne) (by rw [show (s.up st).now = P from hupR]; exact hBn) (RowP.nil _ _ _ _) rfl (fun q hq => (List.not_mem_nil hq).elim) (Dsk.up_ok H.out.ok st) rfl
end Go.Proofs.YtipbjiepfnjojaaGreatDoor
namespace Go.Proofs.YtipbjiepfnjojaaGreatDoor
set_option maxRecDepth 100000
open Go.RowKit Go.Uc

set_option maxHeartbeats 1000000 in
theorem newPower22_any (w : World) : Calls Tryz.prog 22 #[] w fun e w' => ∃ p, e = .returned (.pointer (some ⟨p, 0, none⟩)) ∧ Blk w' p 94 #[.slice none 0 0, .int .i64 (-1), .bool false, .int .i64 0, .slice none 0 0] ∧ w.heap.size ≤ p ∧ Keeps Non w w' := by
  go_enter Tryz.func22, Tryz.ntmps22
  go_wp2_with fail
  go_ret
  exact ⟨_, rfl, Blk.new _ _ _, Nat.le_refl _, (Keeps.refl Non w).alloc _⟩
/-- A disk of noughts. -/
def Dsk.fresh (n : Nat) : Dsk := ⟨n, zeros (128 * n), zeros (128 * n), [], -1, false⟩
theorem Dsk.fresh_ok {n : Nat} (h1 : 1 ≤ n) (h2 : n ≤ 8192) : (Dsk.fresh n).ok := ⟨h1, h2, by simp [Dsk.fresh, zeros_length], by simp [Dsk.fresh, zeros_length], fun x hx => absurd hx (by simp [Dsk.fresh]), by simp [Dsk.fresh], by simp [Dsk.fresh]⟩
def encP (d : Nat) : List Value := [.pointer (some ⟨d, 0, none⟩)]
theorem encP_len (d : Nat) : (encP d).length = 1 := rfl
theorem encP_one (d : Nat) : ∀ u ∈ encP d, u.oneCell' = true := by intro u hu; simp [encP] at hu; subst hu; rfl
theorem info35 : (Tryz.prog.info? 35).map (fun i => (i.zero, i.size, i.bytes)) = some (some (.pointer none), 1, 8) := by kernel_rfl
theorem three_new (w : World) (Z C : Array Value) : Blk (((w.alloc (.cells Z 5)).alloc (.cells Z 5)).alloc (.cells C 100)).drew w.heap.size 5 Z ∧ Blk (((w.alloc (.cells Z 5)).alloc (.cells Z 5)).alloc (.cells C 100)).drew (w.heap.size + 1) 5 Z ∧ Blk (((w.alloc (.cells Z 5)).alloc (.cells Z 5)).alloc (.cells C 100)).drew (w.heap.size + 1 + 1) 100 C ∧ Keeps Non w (((w.alloc (.cells Z 5)).alloc (.cells Z 5)).alloc (.cells C 100)).drew := by
  obtain ⟨h1, h2, hk⟩ := two_new w Z Z 5 5
  obtain ⟨w1, hw1⟩ : ∃ V : World, V = (w.alloc (.cells Z 5)).alloc (.cells Z 5) := ⟨_, rfl⟩
  have z1 : w1.heap.size = w.heap.size + 1 + 1 := by rw [hw1]; simp
  rw [← hw1] at h1 h2 hk ⊢
  have h3 := Blk.new w1 100 C
  have k3 := ((Keeps.refl Non w1).alloc (.cells C 100)).drew
  rw [z1] at h3
  exact ⟨h1.non k3, h2.non k3, h3, hk.non k3⟩
set_option maxHeartbeats 4000000 in
theorem new24_any {w0 w : World} (p n : Nat) (h1 : 1 ≤ n) (h2 : n ≤ 8192) (hp : Blk w p 94 #[.slice none 0 0, .int .i64 (-1), .bool false, .int .i64 0, .slice none 0 0]) (hp0 : w0.heap.size ≤ p) (hk0 : Keeps Non w0 w) :
    Calls Tryz.prog 24 #[.pointer (some ⟨p, 0, none⟩), .int .i64 (n : Int)] w fun e w' => ∃ K : Kb, K.p = p ∧ e = .returned (.tuple #[.pointer (some ⟨K.d, 0, none⟩), .int .i64 0]) ∧ Dm w0 w' K (Dsk.fresh n) ⟨none, 0, 0⟩ ∧ w.heap.size ≤ K.d ∧ Keeps (Only p) w w' := by
  obtain ⟨N, hN⟩ : ∃ N : Nat, N = 128 * n := ⟨_, rfl⟩
  have hmk := made_bytes N (by omega)
  have d1 : ¬ (n : Int) < 1 := by omega
  have d2 : ¬ (8192 : Int) < (n : Int) := by omega
  go_enter Tryz.func24, Tryz.ntmps24
  go_upto_region 3 with fail
  have hw1 : IntKind.i64.wrap ((n : Int) * 128) = (N : Int) := by rw [IntKind.wrap_i64]; omega
  have HN := Lib.hid hN
  clear hN
  go_region
  all_goals
    go_upto_region 4 with fail
    first
      | (obtain ⟨w3, hw3⟩ : ∃ V : World, V = (((w.alloc (.cells (pc (zeros N)) 5)).alloc (.cells (pc (zeros N)) 5)).alloc (.cells #[.pointer (some ⟨p, 0, none⟩), .slice (some ⟨w.heap.size, 0, none⟩) N N, .slice (some ⟨w.heap.size + 1, 0, none⟩) N N, .bool false] 100)).drew := ⟨_, rfl⟩; rw [← hw3]; obtain ⟨pl, nw, h3⟩ : ∃ pl nw, Blk w3 pl 5 (pc (zeros N)) ∧ Blk w3 nw 5 (pc (zeros N)) ∧ pl ≠ nw ∧ w.heap.size ≤ pl ∧ w.heap.size ≤ nw ∧ Blk w3 (w.heap.size + 1 + 1) 100 #[.pointer (some ⟨p, 0, none⟩), .slice (some ⟨pl, 0, none⟩) N N, .slice (some ⟨nw, 0, none⟩) N N, .bool false] ∧ Keeps Non w w3 := (by rw [hw3]; obtain ⟨hA, hB, hD, hK⟩ := three_new w (pc (zeros N)) _; exact ⟨_, _, hA, hB, by omega, by omega, by omega, hD, hK⟩); clear hw3)
      | (obtain ⟨w3, hw3⟩ : ∃ V : World, V = (((w.alloc (.cells (pc (zeros N)) 5)).alloc (.cells (pc (zeros N)) 5)).alloc (.cells #[.pointer (some ⟨p, 0, none⟩), .slice (some ⟨w.heap.size + 1, 0, none⟩) N N, .slice (some ⟨w.heap.size, 0, none⟩) N N, .bool false] 100)).drew := ⟨_, rfl⟩; rw [← hw3]; obtain ⟨pl, nw, h3⟩ : ∃ pl nw, Blk w3 pl 5 (pc (zeros N)) ∧ Blk w3 nw 5 (pc (zeros N)) ∧ pl ≠ nw ∧ w.heap.size ≤ pl ∧ w.heap.size ≤ nw ∧ Blk w3 (w.heap.size + 1 + 1) 100 #[.pointer (some ⟨p, 0, none⟩), .slice (some ⟨pl, 0, none⟩) N N, .slice (some ⟨nw, 0, none⟩) N N, .bool false] ∧ Keeps Non w w3 := (by rw [hw3]; obtain ⟨hA, hB, hD, hK⟩ := three_new w (pc (zeros N)) _; exact ⟨_, _, hB, hA, by omega, by omega, by omega, hD, hK⟩); clear hw3)
    obtain ⟨hpl, hnw, hne, hplw, hnww, hdk, hK3⟩ := h3
    obtain ⟨d, hd⟩ : ∃ z, z = w.heap.size + 1 + 1 := ⟨_, rfl⟩
    rw [← hd] at hdk ⊢
    have hdw : w.heap.size ≤ d := by omega
    clear hd
    have hp3 := hp.non hK3
    have p4 : w3.cell? ⟨p, 4, none⟩ = some (.slice none 0 0) := hp3.cell 4
    have ka := (Keeps.refl Non w3).alloc (.cells #[.pointer (some ⟨d, 0, none⟩)] 35)
    have hpa := hp3.non ka
    have hAt : Ats (w3.alloc (.cells #[.pointer (some ⟨d, 0, none⟩)] 35)) (some ⟨w3.heap.size, 0, none⟩) ([d].flatMap encP) := Ats.lit w3 _ 35 _ rfl
    have HB : Hid (([] : List Nat).length + [d].length ≤ maxLen ∧ (([] : List Nat).length + [d].length) * 8 ≤ 140737488355328) := Lib.hid (by show 1 ≤ maxLen ∧ 1 * 8 ≤ _; decide)
    go_wp2_with (at_builtin; go_must (refine wpList_append_row (o := ⟨some 33, _, _, _, _, _⟩) rfl (.tmp 30) (.tmp 32) 92 rfl 35 1 encP _ 8 Tryz.underlying92 info35 rfl (by decide) encP_len encP_one (.slice none 0 0) [] (by kernel_rfl) (RowP.nil _ _ _ _) (some ⟨w3.heap.size, 0, none⟩) 1 1 [d] (by kernel_rfl) rfl hAt HB.out.1 HB.out.2 ?_); intro u8 w8 hO8 hK8 hat; obtain ⟨db, dc, cur, hue, hBd, hl1, hl2, hsz, htk⟩ := row_form hO8 (by simp); subst hue; have hK8' : Keeps Non (w3.alloc (.cells #[.pointer (some ⟨d, 0, none⟩)] 35)) w8 := hK8.mono fun k e => (List.not_mem_nil e).elim; have hB8 := hpa.non hK8'; have z8 := hB8.cell 4; have f8 := hB8.frozen 4)
    go_ret2
    obtain ⟨hsz, htk⟩ := htk
    obtain rfl := HN.out
    have hk9 : Keeps (Only p) w8 (w8.setCell ⟨p, 4, none⟩ (.slice (some ⟨db, 0, none⟩) 1 dc)) := (Keeps.refl (Only p) _).set (p := ⟨p, 4, none⟩) rfl _
    have hka : Keeps Non w w8 := (hK3.non ka).non hK8'
    have hkz : Keeps (Only p) w (w8.setCell ⟨p, 4, none⟩ (.slice (some ⟨db, 0, none⟩) 1 dc)) := (hka.of_non).trans hk9
    have hplp : pl ≠ p := by have := hp.lt; omega
    have hnwp : nw ≠ p := by have := hp.lt; omega
    have hdp : d ≠ p := by have := hp.lt; omega
    have hdbw : w.heap.size ≤ db := by
      rcases hat with e | e
      · cases e
      · have e' : some db = some (w3.alloc (.cells #[.pointer (some ⟨d, 0, none⟩)] 35)).heap.size := e
        injection e' with e'
        have := hK3.size
        rw [e']
        simp
        omega
    have hdbp : db ≠ p := by have := hp.lt; omega
    have hz := hk0.size
    have hc0 : cur[0]? = some (.pointer (some ⟨d, 0, none⟩)) := by
      have := congrArg (fun l => l[0]?) htk
      simpa [encP] using this
    refine ⟨⟨p, d, pl, nw, db, dc⟩, rfl, rfl, ⟨Dsk.fresh_ok h1 h2, ⟨0, hB8.set 4 _⟩, ?_, ?_, ?_, ⟨cur, hl1.one hk9 hdbp, hc0, hl2⟩, RowP.nil _ _ _ _, rfl, hne, ⟨hp0, by show w0.heap.size ≤ d; omega, by show w0.heap.size ≤ pl; omega, by show w0.heap.size ≤ nw; omega, by show w0.heap.size ≤ db; omega, fun q hq => (List.not_mem_nil hq).elim⟩, hk0.then hkz fun i hi e => by unfold Only at e; omega⟩, hdw, hkz⟩
    · exact ((hdk.non ka).non hK8').one hk9 hdp
    · exact ((hpl.non ka).non hK8').one hk9 hplp
    · exact ((hnw.non ka).non hK8').one hk9 hnwp
end Go.Proofs.YtipbjiepfnjojaaGreatDoor
