/- A power goes on again: of what waited that stays of which it is told so, on each disk. Places of a label; what Format does, step by step. Tops copied; the steps of Format. Format: a label written; the leaf in memory. -/
import Derived.Test.YtolknnmaadkgiaaGreatDoorG10
import Derived.Lib.SliceRun
set_option linter.unusedVariables false
set_option linter.unusedSimpArgs false
namespace Go.Proofs.YtolknnmaadkgiaaGreatDoor
set_option maxRecDepth 100000
open Go.RowKit Go.Uc
def AtB (w : World) (A : Option Addr) (bs : List Bool) : Prop := ∀ i (h : i < bs.length), ∃ b off, A = some ⟨b, off, none⟩ ∧ w.cell? ⟨b, off + i, none⟩ = some (.bool bs[i])
theorem AtB.nil (w : World) (A : Option Addr) : AtB w A [] := fun i h => absurd h (by simp)
theorem AtB.keep {S : Nat → Prop} {w w' : World} {A : Option Addr} {bs : List Bool} (h : AtB w A bs) (hk : Keeps S w w') (hb : ∀ ad, A = some ad → ¬ S ad.block) : AtB w' A bs := fun i hi => by
 obtain ⟨b, off, e, hc⟩ := h i hi
 exact ⟨b, off, e, hk.cell hc (hb ⟨b, off, none⟩ e)⟩
def ups (d : Nat) : List Wt → List Bool → List UInt8 → List UInt8
 | x :: r, b :: st, P => ups d r st (if b = true ∧ x.d = d then put P x.at_ x.b else P)
 | _, _, P => P
theorem ups_nil (d : Nat) (st : List Bool) (P : List UInt8) : ups d [] st P = P := by cases st <;> rfl
theorem ups_no (d : Nat) (r : List Wt) (P : List UInt8) : ups d r [] P = P := by cases r <;> rfl
theorem ups_len {d n : Nat} : ∀ (r : List Wt) (st : List Bool) (P : List UInt8), P.length = 128 * n → (∀ x ∈ r, x.d = d → x.at_ < n) → (ups d r st P).length = 128 * n
 | [], st, P, h, _ => by rw [ups_nil]; exact h
 | x :: r, [], P, h, _ => by rw [ups_no]; exact h
 | x :: r, b :: st, P, h, hx => by
   rw [ups]
   refine ups_len r st _ ?_ fun y hy => hx y (List.mem_cons_of_mem _ hy)
   by_cases e : b = true ∧ x.d = d
   · rw [if_pos e]; exact put_len h x.hb (hx x (List.mem_cons_self ..) e.2)
   · rw [if_neg e]; exact h
def Dsk.up (s : Dsk) (st : List Bool) : Dsk := { s with plat := ups s.d s.waits st s.plat, now := ups s.d s.waits st s.plat, waits := [], left := -1, off := false }
def Fu (p : Nat) (m : Nat) (K : Nat → Kb) (g : Nat) : Prop := g = p ∨ ∃ i, i < m ∧ (g = (K i).pl ∨ g = (K i).nw)
set_option maxHeartbeats 8000000 in
theorem up11_any {w0 w : World} {p m : Nat} {dv wv : Sl} {P : Pow} {K : Nat → Kb} {S : Nat → Dsk} (h : Gm w0 w p dv wv P m K S) (hW : P.waits.length ≤ 1099511627776) (hm : m ≤ 1000000) (st : List Bool) (sA : Option Addr) (sc : Nat) (hS : AtB w sA st) (hSF : ∀ ad, sA = some ad → ¬ Fu p m K ad.block) (hst : st.length ≤ 1099511627776000) :
   Calls Tryz.prog 11 #[.pointer (some ⟨p, 0, none⟩), .slice sA st.length sc] w fun e w' => e = .returned (.tuple #[]) ∧ Gm w0 w' p dv ⟨none, 0, 0⟩ ⟨[], -1, false⟩ m K (fun i => (S i).up st) ∧ Keeps (Fu p m K) w w' := by
 obtain ⟨z, hp⟩ := h.pb
 have hwn := h.wn
 obtain ⟨wA, wn, wc⟩ := wv
 simp only at hwn
 subst hwn
 have p0 : w.cell? ⟨p, 0, none⟩ = some (.slice wA P.waits.length wc) := hp.cell 0
 have hppl : ∀ i, i < m → (K i).pl ≠ p ∧ (K i).nw ≠ p ∧ (K i).d ≠ (K i).pl ∧ (K i).d ≠ (K i).nw := fun i hi => ⟨(h.dm i hi).pl.ne hp (by decide), (h.dm i hi).nw.ne hp (by decide), (h.dm i hi).dk.ne (h.dm i hi).pl (by decide), (h.dm i hi).dk.ne (h.dm i hi).nw (by decide)⟩
 obtain ⟨L, hL⟩ : ∃ L, L = P.waits := ⟨_, rfl⟩
 obtain ⟨R, hR⟩ : ∃ R : Nat → List UInt8, R = fun i => ups (S i).d P.waits st (S i).plat := ⟨_, rfl⟩
 have HKP : Hid (∀ g, (∃ i, i < m ∧ g = (K i).pl) → ∀ {t : Nat} {cs : Array Value}, t ≠ 5 → ¬ Blk w g t cs) := Lib.hid (by
   rintro g ⟨i, hi, rfl⟩ t cs ht hb
   exact hb.ne (h.dm i hi).pl ht rfl)
 have HW := Lib.hid (fun V (hV : Keeps (fun g => ∃ i, i < m ∧ g = (K i).pl) w V) => show RowP V 107 130 encW (.slice wA L.length wc) L from by
   rw [hL]
   refine h.wt.keep hV fun q hq e => ?_
   obtain ⟨i, hi, rfl⟩ := e
   exact own_type h.wt (h.dm i hi).pl (by decide) hq)
 have HDk := Lib.hid (fun V (hV : Keeps (fun g => ∃ i, i < m ∧ g = (K i).pl) w V) i (hi : i < m) => (h.dm i hi).dk.keep hV fun ⟨j, hj, e⟩ => (h.dm i hi).dk.ne (h.dm j hj).pl (by decide) e)
 have HSt := Lib.hid (fun V (hV : Keeps (fun g => ∃ i, i < m ∧ g = (K i).pl) w V) => hS.keep hV (fun ad e ⟨i, hi, q⟩ => hSF ad e (.inr ⟨i, hi, .inl q⟩)))
 have hLt : Hid (∀ i (hi : i < L.length), ∃ k, k < m ∧ (L[i]).d = (K k).d ∧ (L[i]).at_ < (S k).n) := Lib.hid (fun i hi => h.at_ _ (by rw [← hL]; exact List.getElem_mem hi))
 have HN8 := Lib.hid (fun i (hi : i < m) => (h.dm i hi).ok.n2)
 have HP0 := Lib.hid (fun i (hi : i < m) => (h.dm i hi).pl)
 have HPl := Lib.hid (fun i (hi : i < m) => (h.dm i hi).ok.pl)
 have HDD := Lib.hid (fun i (hi : i < m) => (h.dm i hi).hd)
 have HAP := Lib.hid h.ap
 rw [← hL] at p0 hW
 have HL := Lib.hid hL
 have HR := Lib.hid hR
 have H := Lib.hid h
 have Hp := Lib.hid hp
 clear hL hR h hp hS
 go_enter Tryz.func11, Tryz.ntmps11
 go_upto_region 1 with fail
 go_loopw [13] (fun i wr => ∃ (j : Nat) (Q : Nat → List UInt8), j ≤ L.length ∧ i = .int .i64 (j : Int) ∧ (∀ k, k < m → Blk wr (K k).pl 5 (pc (Q k)) ∧ (Q k).length = 128 * (S k).n ∧ ups (S k).d (L.drop j) (st.drop j) (Q k) = R k) ∧ Keeps (fun g => ∃ i, i < m ∧ g = (K i).pl) w wr) (fun i _ => L.length - (intOf i).toNat)
 case atStart => exact ⟨0, fun k => (S k).plat, Nat.zero_le _, rfl, fun k hk => ⟨HP0.out k hk, HPl.out k hk, by rw [HR.out, HL.out]; rfl⟩, Keeps.refl _ _⟩
 case round =>
   obtain ⟨j, Q, hj, rfl, hQ0, hK⟩ := hrel
   obtain ⟨wx, rfl⟩ : ∃ V : World, V = wr := ⟨_, rfl⟩
   have HQ := Lib.hid hQ0
   clear hQ0
   by_cases hlt : j < L.length
   · obtain ⟨g, cap, e1, h2, hra⟩ := RowP.range encW_len (HW.out wx hK) hlt
     injection e1 with e1 _ e2
     subst e1 e2
     have hji : (j : Int) < (L.length : Int) := by omega
     have hB := Blk.new wx 107 Tryz.zeroCells107
     have hkb := (Keeps.refl Non wx).alloc (.cells Tryz.zeroCells107 107)
     obtain ⟨X, hX⟩ : ∃ X, X = L[j] := ⟨_, rfl⟩
     obtain ⟨k, hkm, hXd, hXn⟩ : ∃ k, k < m ∧ X.d = (K k).d ∧ X.at_ < (S k).n := by rw [hX]; exact hLt.out j hlt
     have HXD := Lib.hid hXd
     have HXN := Lib.hid hXn
     clear hXd hXn
     rw [← hX] at hra
     have HDr : Hid (L.drop j = X :: L.drop (j + 1)) := Lib.hid (by rw [List.drop_eq_getElem_cons hlt, hX])
     clear hX
     have hin : (Tryz.prog.info? 107).map (·.size) = some (encW X).toArray.size := by rw [List.size_toArray, encW_len]; kernel_rfl
     have hzs : Tryz.zeroCells107.size = (encW X).toArray.size := by rw [zsize97, List.size_toArray, encW_len]
     have hone : (encW X).toArray.all (·.oneCell') = true := all_oneCell_toArray (encW_one X)
     have hsl := Lib.hid (HSt.out wx hK)
     go_upto_region 3 with (first
       | ((with_reducible show wpList _ _ _ ({ dst := some 17, op := _, type := _, pos := _, after := _, guard := _ } :: _) _ _); go_must (refine wpList_load_mid rfl 107 (.tmp 16) rfl g (j * 130) (by kernel_rfl) (encW X) _ hra Tryz.underlying107 rfl (by rw [encW_len]; kernel_rfl) ?_))
       | ((with_reducible show wpList _ _ _ ({ dst := none, op := Op.store 107 _ _, type := _, pos := _, after := _, guard := _ } :: _) _ _); go_must (refine wpList_store_blk rfl 107 (.tmp 5) (.tmp 17) rfl wx.heap.size (encW X).toArray (by kernel_rfl) (by kernel_rfl) 107 _ hB hin hzs hone ?_); intro w4 hB4 hK4))
     have hk4 : Keeps Non wx w4 := hkb.then hK4 fun i hi e => by unfold Only at e; omega
     obtain ⟨pw, hpw⟩ : ∃ z, z = wx.heap.size := ⟨_, rfl⟩
     rw [← hpw] at hB4 hK4 ⊢
     have hK4' := hK.non hk4
     have hQ4 := Lib.hid (fun k hk => ((HQ.out k hk).1.non hk4))
     have hS4 := HSt.out w4 hK4'
     clear hpw
     clear hra hB hkb hin hzs hone
     by_cases hjs : j < st.length
     · have HDs : Hid (st.drop j = st[j] :: st.drop (j + 1)) := Lib.hid (List.drop_eq_getElem_cons hjs)
       obtain ⟨sb, so, e2, hcs⟩ := hS4 j hjs
       subst e2
       have hjd : decide ((j : Int) < (st.length : Int)) = true := decide_eq_true (by omega)
       obtain ⟨B, hBv⟩ : ∃ B, B = st[j] := ⟨_, rfl⟩
       rw [← hBv] at hcs HDs
       clear hBv hS4 hsl
       cases B
       · go_wp2_with fail
         go_roundw
         case rel =>
           refine ⟨j + 1, Q, by omega, by go_num, fun i hi => ⟨hQ4.out i hi, (HQ.out i hi).2.1, ?_⟩, hK4'⟩
           rw [← (HQ.out i hi).2.2, HDr.out, HDs.out, ups]
           rw [if_neg (by simp)]
         case measure => simp [intOf]; omega
       · have hk4d : Keeps Non w4 w4.drew := (Keeps.refl Non w4).drew
         have c0 : w4.drew.cell? ⟨pw, 0, none⟩ = some (.pointer (some ⟨X.d, 0, none⟩)) := (hB4.non hk4d).cell 0
         rw [HXD.out] at c0
         have c1 : w4.drew.cell? ⟨pw, 1, none⟩ = some (.int .i64 (X.at_ : Int)) := (hB4.non hk4d).cell 1
         have d1 : w4.drew.cell? ⟨(K k).d, 1, none⟩ = some (.slice (some ⟨(K k).pl, 0, none⟩) (128 * (S k).n) (128 * (S k).n)) := ((HDk.out w4 hK4' k hkm).non hk4d).cell 1
         have hA4 : At w4.drew (some ⟨pw, 2, none⟩) X.b := fun i hi => by
           refine ⟨_, rfl, ?_⟩
           rw [addr_add_none, (hB4.non hk4d).cell]
           simp [encW, show 2 + i = i + 1 + 1 by omega, hi]
         obtain ⟨U, hU⟩ : ∃ U : Nat, U = X.at_ := ⟨_, rfl⟩
         rw [← hU] at c1
         have HU := Lib.hid hU
         have hQn : U < (S k).n := by rw [hU]; exact HXN.out
         clear hU
         have hn8 := HN8.out k hkm
         have HSc := Lib.hid (fun V => sector34_any (.pointer (some ⟨(K k).d, 0, none⟩)) (K k).pl (S k).n U V hQn hn8)
         have hP4d := (hQ4.out k hkm).non hk4d
         have hmn : Hid (X.b.length = Nat.min 128 128) := Lib.hid X.hb
         have hft : Hid (128 * U + X.b.length ≤ (Q k).length) := Lib.hid (by rw [X.hb, (HQ.out k hkm).2.1]; omega)
         go_upto_region 4 with fail
         go_region_law (first
           | ((with_reducible show (if Region.wanted ({ dst := some 37, op := _, type := _, pos := _, after := _, guard := _ } : Oper) _ = true then _ else _)); go_simp; go_at_call 38; refine (HSc.out _).mono ?_; rintro e w10 ⟨rfl, hw10⟩; subst w10; go_must (skip))
           | ((with_reducible show (if Region.wanted ({ dst := some 40, op := _, type := _, pos := _, after := _, guard := _ } : Oper) _ = true then _ else _)); go_must (refine step_copy_bytes (o := ⟨some 40, _, _, _, _, _⟩) rfl (.tmp 37) (.tmp 39) 22 22 rfl 5 Tryz.underlying22 infoS5 (some ⟨(K k).pl, 128 * U, none⟩) (some ⟨pw, 2, none⟩) 128 (128 * (S k).n - 128 * U) 128 128 (by kernel_rfl) (by kernel_rfl) (K k).pl (128 * U) (Q k) 5 hP4d X.b hmn.out rfl hA4 hft.out ?_); intro w11 hB11 hK11))
         all_goals
           go_wp2_with fail
           go_roundw
           case rel =>
             refine ⟨j + 1, fun i => if i = k then put (Q k) X.at_ X.b else Q i, by omega, by go_num, fun i hi => ?_, ?_⟩
             · by_cases e : i = k
               · subst e
                 simp only [if_true]
                 refine ⟨?_, put_len (HQ.out i hi).2.1 X.hb HXN.out, ?_⟩
                 · unfold put
                   rw [← HU.out]
                   exact hB11
                 · rw [← (HQ.out i hi).2.2, HDr.out, HDs.out, ups, if_pos ⟨rfl, by rw [HXD.out, HDD.out i hi]⟩]
               · simp only [if_neg e]
                 obtain ⟨a1, a2, -⟩ := HAP.out i k hi hkm e
                 refine ⟨((hQ4.out i hi).non hk4d).one hK11 a2, (HQ.out i hi).2.1, ?_⟩
                 rw [← (HQ.out i hi).2.2, HDr.out, HDs.out, ups, if_neg (by rw [HXD.out, HDD.out i hi]; intro q; exact a1 q.2.symm)]
             · exact hK4'.trans (((Keeps.refl _ w4).drew).trans (hK11.mono fun g e => ⟨k, hkm, e⟩))
           case measure => simp [intOf]; omega
     · have hjd : decide ((j : Int) < (st.length : Int)) = false := decide_eq_false (by omega)
       have hle : st.length ≤ j := by omega
       clear hS4 hsl
       go_wp2_with fail
       go_roundw
       case rel =>
         refine ⟨j + 1, Q, by omega, by go_num, fun i hi => ⟨hQ4.out i hi, (HQ.out i hi).2.1, ?_⟩, hK4'⟩
         have a1 : st.drop j = [] := List.drop_eq_nil_of_le hle
         have a2 : st.drop (j + 1) = [] := List.drop_eq_nil_of_le (by omega)
         rw [← (HQ.out i hi).2.2, HDr.out, a1, a2, ups_no, ups_no]
       case measure => simp [intOf]; omega
   · obtain rfl : j = L.length := by omega
     have HQR : Hid (∀ k, k < m → Blk wx (K k).pl 5 (pc (R k)) ∧ (R k).length = 128 * (S k).n) := Lib.hid (fun k hk => by
       obtain ⟨a1, a2, a3⟩ := HQ.out k hk
       rw [List.drop_eq_nil_of_le (Nat.le_refl _), ups_nil] at a3
       rw [← a3]
       exact ⟨a1, a2⟩)
     have HPN := Lib.hid hppl
     clear HQ hppl
     have hpx := Hp.out.keep hK (fun ⟨i, hi, e⟩ => (HPN.out i hi).1 e.symm)
     have f0 := hpx.frozen 0
     have f1 := hpx.frozen 1
     have f2 := hpx.frozen 2
     have q0 : wx.cell? ⟨p, 0, none⟩ = some (.slice wA P.waits.length wc) := hpx.cell 0
     have q1 : wx.cell? ⟨p, 1, none⟩ = some (.int .i64 P.left) := hpx.cell 1
     have q2 : wx.cell? ⟨p, 2, none⟩ = some (.bool P.off) := hpx.cell 2
     have b5 := ((hpx.set 0 (.slice none 0 0)).set 1 (.int .i64 (-1))).set 2 (.bool false)
     have k5 : Keeps (Only p) wx (((wx.setCell ⟨p, 0, none⟩ (.slice none 0 0)).setCell ⟨p, 1, none⟩ (.int .i64 (-1))).setCell ⟨p, 2, none⟩ (.bool false)) := (((Keeps.refl (Only p) wx).set (p := ⟨p, 0, none⟩) rfl _).set (p := ⟨p, 1, none⟩) rfl _).set (p := ⟨p, 2, none⟩) rfl _
     go_upto_region 7 with fail
     obtain ⟨w5, hw5⟩ : ∃ V : World, V = ((wx.setCell ⟨p, 0, none⟩ (.slice none 0 0)).setCell ⟨p, 1, none⟩ (.int .i64 (-1))).setCell ⟨p, 2, none⟩ (.bool false) := ⟨_, rfl⟩
     rw [← hw5] at b5 k5 ⊢
     clear hw5 q0 q1 q2 f0 f1 f2
     obtain ⟨vA, vn, vc⟩ := dv
     have hvn := H.out.dn
     simp only at hvn
     subst hvn
     have hp5 : Blk w5 p 104 #[.slice none 0 0, .int .i64 (-1), .bool false, .int .i64 z, .slice vA vn vc] := b5
     have r4 : w5.cell? ⟨p, 4, none⟩ = some (.slice vA vn vc) := hp5.cell 4
     have hk15 : Keeps (Fu p vn K) w w5 := (hK.mono fun g ⟨i, hi, e⟩ => .inr ⟨i, hi, .inl e⟩).trans (k5.mono fun g e => .inl e)
     have HTY : Hid (∀ (g t : Nat) (cs : Array Value), Blk w g t cs → t ≠ 104 → t ≠ 5 → ¬ Fu p vn K g) := Lib.hid (fun g t cs hb h1 h2 e => by
       rcases e with e | ⟨i, hi, e | e⟩
       · exact hb.ne Hp.out h1 e
       · exact hb.ne (H.out.dm i hi).pl h2 e
       · exact hb.ne (H.out.dm i hi).nw h2 e)
     have HNW : Hid (∀ k, k < vn → Blk w5 (K k).nw 5 (pc (S k).now)) := Lib.hid (fun k hk => ((H.out.dm k hk).nw.keep hK (fun ⟨i, hi, e⟩ => by
       by_cases q : i = k
       · subst q; exact (H.out.dm i hi).ne e.symm
       · exact (H.out.ap i k hi hk q).2.2.1 e.symm)).one k5 (HPN.out k hk).2.1)
     have HPL5 : Hid (∀ k, k < vn → Blk w5 (K k).pl 5 (pc (R k)) ∧ (R k).length = 128 * (S k).n) := Lib.hid (fun k hk => ⟨(HQR.out k hk).1.one k5 (HPN.out k hk).1, (HQR.out k hk).2⟩)
     have HDK5 : Hid (∀ k, k < vn → Blk w5 (K k).d 110 #[.pointer (some ⟨(K k).p, 0, none⟩), .slice (some ⟨(K k).pl, 0, none⟩) (128 * (S k).n) (128 * (S k).n), .slice (some ⟨(K k).nw, 0, none⟩) (128 * (S k).n) (128 * (S k).n), .bool false]) := Lib.hid (fun k hk => (H.out.dm k hk).dk.keep hk15 (HTY.out _ _ _ (H.out.dm k hk).dk (by decide) (by decide)))
     have HRW : Hid (RowP w5 49 1 encP (.slice vA vn vc) ((List.range vn).map fun i => (K i).d)) := Lib.hid (H.out.row.keep hk15 (fun q hq e => by
       rcases e with e | ⟨i, hi, e | e⟩
       · subst e; exact own_type H.out.row Hp.out (by decide) hq
       · subst e; exact own_type H.out.row (H.out.dm i hi).pl (by decide) hq
       · subst e; exact own_type H.out.row (H.out.dm i hi).nw (by decide) hq))
     clear b5 hpx
     go_upto_region 8 with fail
     go_loopw [56] (fun i wr => ∃ j : Nat, j ≤ vn ∧ i = .int .i64 (j : Int) ∧ (∀ k, k < vn → Blk wr (K k).nw 5 (pc (if k < j then R k else (S k).now))) ∧ Keeps (fun g => ∃ i, i < vn ∧ g = (K i).nw) w5 wr) (fun i _ => vn - (intOf i).toNat)
     case atStart => exact ⟨0, by omega, rfl, fun k hk => by rw [if_neg (by omega)]; exact HNW.out k hk, Keeps.refl _ _⟩
     case round =>
       obtain ⟨j, hj1, rfl, hj0, hKn⟩ := hrel
       obtain ⟨wy, rfl⟩ : ∃ V : World, V = wr := ⟨_, rfl⟩
       have HJ := Lib.hid hj0
       clear hj0
       by_cases hlt : j < vn
       · have hRy : RowP wy 49 1 encP (.slice vA vn vc) ((List.range vn).map fun i => (K i).d) := HRW.out.keep hKn (fun q hq e => by
           obtain ⟨i, hi, rfl⟩ := e
           exact own_type HRW.out (HNW.out i hi) (by decide) hq)
         have hlr : j < ((List.range vn).map fun i => (K i).d).length := by simp; exact hlt
         obtain ⟨g, cap, e1, -, -, hc, -, -⟩ := hRy.at_ encP_len hlr
         injection e1 with e1 e1' e2
         clear e1'
         subst e1 e2
         have hji : (j : Int) < (vn : Int) := by omega
         have c0 : wy.cell? ⟨g, j, none⟩ = some (.pointer (some ⟨(K j).d, 0, none⟩)) := by
           have := hc 0 (by decide)
           simpa [encP] using this
         have hkd : Keeps Non wy wy.drew := (Keeps.refl Non wy).drew
         have hdy := ((HDK5.out j hlt).keep hKn fun ⟨i, hi, e⟩ => (HDK5.out j hlt).ne (HNW.out i hi) (by decide) e).non hkd
         have d1 : wy.drew.cell? ⟨(K j).d, 1, none⟩ = some (.slice (some ⟨(K j).pl, 0, none⟩) (128 * (S j).n) (128 * (S j).n)) := hdy.cell 1
         have d2 : wy.drew.cell? ⟨(K j).d, 2, none⟩ = some (.slice (some ⟨(K j).nw, 0, none⟩) (128 * (S j).n) (128 * (S j).n)) := hdy.cell 2
         have hply := ((HPL5.out j hlt).1.keep hKn (fun ⟨i, hi, e⟩ => by
           by_cases q : i = j
           · subst q; exact (H.out.dm i hi).ne e
           · exact (H.out.ap j i hlt hi (Ne.symm q)).2.2.1 e)).non hkd
         have hA5 : At wy.drew (some ⟨(K j).pl, 0, none⟩) (R j) := At.blk hply
         have hnwd := (HJ.out j hlt).non hkd
         rw [if_neg (by omega)] at hnwd
         have hPl := (HPL5.out j hlt).2
         have hnl : (S j).now.length = 128 * (S j).n := (H.out.dm j hlt).ok.nw
         have hmm : Hid ((R j).length = Nat.min (128 * (S j).n) (128 * (S j).n)) := Lib.hid (by rw [hPl]; exact (Nat.min_self _).symm)
         have hff : Hid (0 + (R j).length ≤ (S j).now.length) := Lib.hid (by rw [hPl, hnl]; omega)
         have HEE : Hid ((S j).now.take 0 ++ (R j ++ (S j).now.drop (0 + (R j).length)) = R j) := Lib.hid (by rw [List.drop_eq_nil_of_le (by rw [hPl, hnl]; omega)]; simp)
         clear hPl hnl hc hlr
         go_upto_region 10 with fail
         go_region_law ((with_reducible show (if Region.wanted ({ dst := some 68, op := _, type := _, pos := _, after := _, guard := _ } : Oper) _ = true then _ else _)); go_must (refine step_copy_bytes (o := ⟨some 68, _, _, _, _, _⟩) rfl (.tmp 63) (.tmp 67) 22 22 rfl 5 Tryz.underlying22 infoS5 (some ⟨(K j).nw, 0, none⟩) (some ⟨(K j).pl, 0, none⟩) (128 * (S j).n) (128 * (S j).n) (128 * (S j).n) (128 * (S j).n) (by kernel_rfl) (by kernel_rfl) (K j).nw 0 (S j).now 5 hnwd (R j) hmm.out rfl hA5 hff.out ?_); intro w11 hB11 hK11; rw [HEE.out] at hB11)
         all_goals
           go_wp2_with fail
           go_roundw
           case rel =>
             refine ⟨j + 1, by omega, by go_num, fun k hk => ?_, hKn.trans (((Keeps.refl _ wy).drew).trans (hK11.mono fun g e => ⟨j, hlt, e⟩))⟩
             by_cases e : k = j
             · subst e
               rw [if_pos (by omega)]
               exact hB11
             · have := ((HJ.out k hk).non hkd).one hK11 (H.out.ap k j hk hlt e).2.2.2.2
               by_cases q : k < j
               · rw [if_pos (by omega)]; rw [if_pos q] at this; exact this
               · rw [if_neg (by omega)]; rw [if_neg q] at this; exact this
           case measure => simp [intOf]; omega
       · obtain rfl : j = vn := by omega
         go_wp2_with fail
         go_end0
         have hkF : Keeps (Fu p j K) w wy := hk15.trans (hKn.mono fun g ⟨i, hi, e⟩ => .inr ⟨i, hi, .inr e⟩)
         have hpn : ∀ i, i < j → p ≠ (K i).nw := fun i hi e => (HPN.out i hi).2.1 e.symm
         have hpy := hp5.keep hKn fun ⟨i, hi, e⟩ => hpn i hi e
         have hks : Keeps Non w0 wy := H.out.keep.then hkF fun i hi e => by
           rcases e with e | ⟨k, hk, e | e⟩
           · have := H.out.new.1; omega
           · have := (H.out.dm k hk).new.2.2.1; omega
           · have := (H.out.dm k hk).new.2.2.2.1; omega
         refine ⟨rfl, ⟨⟨z, hpy⟩, fun i hi => ?_, H.out.kp, fun i hi => rfl, H.out.ap, ?_, rfl, RowP.nil _ _ _ _, rfl, fun x hx => (List.not_mem_nil hx).elim, ⟨H.out.new.1, H.out.new.2.1, fun q hq => (List.not_mem_nil hq).elim⟩, hks⟩, hkF⟩
         · have hd := H.out.dm i hi
           have hRi : ups (S i).d (S i).waits st (S i).plat = R i := by
             rw [HR.out]
             show ups (S i).d (S i).pow.waits st (S i).plat = _
             rw [H.out.po i hi]
           obtain ⟨n1, n2, n3, n4, -⟩ := hd.new
           have hupl : (S i).up st = { S i with plat := R i, now := R i, waits := [], left := -1, off := false } := by unfold Dsk.up; rw [hRi]
           rw [hupl]
           have hRl := (HPL5.out i hi).2
           obtain ⟨kp1, kp2⟩ := H.out.kp i hi
           refine ⟨⟨hd.ok.n1, hd.ok.n2, hRl, hRl, by show (-1 : Int) ≤ -1; omega, by show (-1 : Int) ≤ 9223372036854775807; omega⟩, ⟨z, ?_⟩, hd.dk.keep hkF (HTY.out _ _ _ hd.dk (by decide) (by decide)), ?_, ?_, hd.hd, fun x hx => (List.not_mem_nil hx).elim, RowP.nil _ _ _ _, rfl, hd.ne, ⟨n1, n2, n3, n4, fun q hq => (List.not_mem_nil hq).elim⟩, hks⟩
           · rw [kp1, kp2]
             exact hpy
           · refine (HPL5.out i hi).1.keep hKn fun ⟨k, hk, e⟩ => ?_
             by_cases q : k = i
             · subst q; exact hd.ne e
             · exact (H.out.ap i k hi hk (Ne.symm q)).2.2.1 e
           · have := HJ.out i hi
             rw [if_pos hi] at this
             exact this
         · exact HRW.out.keep hKn fun q hq e => by
             obtain ⟨i, hi, rfl⟩ := e
             exact own_type HRW.out (HNW.out i hi) (by decide) hq
end Go.Proofs.YtolknnmaadkgiaaGreatDoor
namespace Go.Proofs.YtolknnmaadkgiaaGreatDoor
set_option maxRecDepth 100000
open Go.RowKit Go.Uc
theorem Dsk.wr_on : ∀ (m : Nat) (s : Dsk) (at_ : Nat) (bs : List UInt8), s.left = -1 → (s.wr at_ m bs).2 = true ∧ (s.wr at_ m bs).1.left = -1 ∧ (s.wr at_ m bs).1.n = s.n ∧ (s.wr at_ m bs).1.off = s.off ∧ (s.wr at_ m bs).1.plat = s.plat ∧ (s.wr at_ m bs).1.waits.length = s.waits.length + m
 | 0, s, at_, bs, h => ⟨rfl, h, rfl, rfl, rfl, rfl⟩
 | m + 1, s, at_, bs, h => by
   rw [Dsk.wr, if_neg (by omega)]
   have h1 : (s.one ⟨s.d, at_, sec0 bs, sec0_len bs⟩).left = -1 := by simp [Dsk.one, h]
   obtain ⟨i1, i2, i3, i4, i5, i6⟩ := Dsk.wr_on m (s.one ⟨s.d, at_, sec0 bs, sec0_len bs⟩) (at_ + 1) (bs.drop 128) h1
   refine ⟨i1, i2, i3, i4, i5, ?_⟩
   rw [i6]
   simp [Dsk.one]
   omega
def Wrote (w0 w : World) (K : Kb) (wv : Sl) (s' : Dsk) (w' : World) : Prop := ∃ wv' : Sl, Dm w0 w' K s' wv' ∧ Keeps (Fr K wv) w w' ∧ ∀ q ∈ own wv'.v, q ∈ own wv.v ∨ w.heap.size ≤ q
theorem Fr.back {K : Kb} {wv wv1 : Sl} {n g : Nat} (ho : ∀ q ∈ own wv1.v, q ∈ own wv.v ∨ n ≤ q) (h : Fr K wv1 g) (hg : g < n) : Fr K wv g := by
 rcases h with e | e | e | e
 · exact .inl e
 · exact .inr (.inl e)
 · exact .inr (.inr (.inl e))
 · rcases ho _ e with e' | e'
   · exact .inr (.inr (.inr e'))
   · omega
theorem Wrote.step {w0 w w1 w2 : World} {K : Kb} {wv wv1 : Sl} {s2 : Dsk} (hk : Keeps (Fr K wv) w w1) (ho : ∀ q ∈ own wv1.v, q ∈ own wv.v ∨ w.heap.size ≤ q) (h : Wrote w0 w1 K wv1 s2 w2) : Wrote w0 w K wv s2 w2 := by
 obtain ⟨wv2, hd, hk2, ho2⟩ := h
 refine ⟨wv2, hd, hk.then hk2 fun i hi e => e.back ho hi, fun q hq => ?_⟩
 rcases ho2 q hq with e | e
 · exact ho q e
 · right; have := hk.size; omega
theorem write30_on {w0 w : World} {K : Kb} {s : Dsk} {wv : Sl} (h : Dm w0 w K s wv) (ho : s.off = false) (hl1 : s.left = -1) (at_ m : Nat) (bs : List UInt8) (A : Option Addr) (c : Nat) (hA : At w A bs) (hl : bs.length = 128 * m) (hc : bs.length ≤ c) (ha : at_ + m ≤ s.n) (hF : ∀ ad, A = some ad → ¬ Fr K wv ad.block) (hW : s.waits.length + m ≤ 1073741824) :
   Calls Tryz.prog 73 #[.pointer (some ⟨K.d, 0, none⟩), .int .i64 (at_ : Int), .slice A (128 * m) c] w fun e w' => e = .returned (.int .i64 0) ∧ Wrote w0 w K wv (s.wr at_ m bs).1 w' := by
 refine (write30_any h ho at_ m bs A c hA hl hc ha hF hW).mono ?_
 rintro e w' ⟨wv', rfl, h1, h2, h3⟩
 rw [(Dsk.wr_on m s at_ bs hl1).1]
 exact ⟨rfl, wv', h1, h2, h3⟩
set_option maxHeartbeats 1000000 in
theorem places29_any {w0 w : World} {K : Kb} {s : Dsk} {wv : Sl} (h : Dm w0 w K s wv) (hn : 324 ≤ s.n) : Calls Tryz.prog 76 #[.pointer (some ⟨K.d, 0, none⟩)] w fun e w' => e = .returned (.agg #[.int .i64 0, .int .i64 9, .int .i64 ((s.n - 18 : Nat) : Int), .int .i64 ((s.n - 9 : Nat) : Int)]) ∧ Keeps Non w w' := by
 have hB := Blk.new w 173 #[.int .i64 0, .int .i64 0, .int .i64 0, .int .i64 0]
 have hk := (Keeps.refl Non w).alloc (.cells #[.int .i64 0, .int .i64 0, .int .i64 0, .int .i64 0] 173)
 have HS := Lib.hid (sectors52_any (h.non hk))
 have hn8 := h.ok.n2
 have e1 : ((s.n - 18 : Nat) : Int) = (s.n : Int) - 18 := by omega
 have e2 : ((s.n - 9 : Nat) : Int) = (s.n : Int) - 9 := by omega
 rw [e1, e2]
 generalize s.n = n at *
 clear h e1 e2
 go_enter Tryz.func76, Tryz.ntmps76
 go_upto_region 2 with (go_at_call 49; go_must (refine HS.out.mono ?_); rintro e w9 ⟨rfl, hw9⟩; subst w9)
 obtain ⟨w1, hw1⟩ : ∃ V : World, V = w.alloc (.cells #[.int .i64 0, .int .i64 0, .int .i64 0, .int .i64 0] 173) := ⟨_, rfl⟩
 rw [← hw1] at hB hk ⊢
 clear hw1
 obtain ⟨pb, hpb⟩ : ∃ z, z = w.heap.size := ⟨_, rfl⟩
 rw [← hpb] at hB ⊢
 have hpw : w.heap.size ≤ pb := by omega
 clear hpb
 go_wp2_with ((with_reducible show wpList _ _ _ ({ dst := none, op := Op.store 173 _ _, type := _, pos := _, after := _, guard := _ } :: _) _ _); go_must (refine wpList_store_blk rfl 173 (.tmp 2) (.tmp 10) rfl pb #[.int .i64 0, .int .i64 9, .int .i64 ((n : Int) - 18), .int .i64 ((n : Int) - 9)] rfl rfl 173 _ hB (by kernel_rfl) rfl (by kernel_rfl) ?_); intro w7 hB7 hK7)
 refine bodyPost_ret (results_cell_blk (ty := 173) rfl _ pb 173 _ _ rfl hB7 Tryz.underlying173 rfl (by kernel_rfl)) rfl ⟨rfl, hk.then hK7 fun i hi e => by unfold Only at e; omega⟩
end Go.Proofs.YtolknnmaadkgiaaGreatDoor
namespace Go.Proofs.YtolknnmaadkgiaaGreatDoor
set_option maxRecDepth 100000
open Go.RowKit Go.Uc
set_option maxHeartbeats 2000000 in
theorem clone54_any (ts : List Tp) (A : Option Addr) (c : Nat) (w : World) (h : RowT w (.slice A ts.length c) ts) (hp : 0 < ts.length) (hm : ts.length ≤ 1000000) :
   Calls Tryz.prog 45 #[.slice A ts.length c] w fun e w' => ∃ A2 c2, e = .returned (.slice A2 ts.length c2) ∧ RowT w' (.slice A2 ts.length c2) ts ∧ (∀ q ∈ own (.slice A2 ts.length c2), w.heap.size ≤ q) ∧ Keeps Non w w' := by
 have he := fun (w : World) (a : Option Addr) (n c : Nat) => Lib.run_eql_slice_nil (P := Tryz.prog) w 32 31 a n c 0 0 Tryz.underlying32
 obtain ⟨A', c', e1, -, hA⟩ := h.ats encT_len
 injection e1 with e1 _ e2
 subst e1 e2
 obtain ⟨ad, rfl, -⟩ := hA (by rw [flat_len encT_len]; omega)
 have hO : RowT (w.alloc (.cells #[] 31)) (.slice (some ⟨w.heap.size, 0, none⟩) 0 0) [] := RowP.lit encT_len w 31 [] #[] rfl (by decide)
 have ka := (Keeps.refl Non w).alloc (.cells #[] 31)
 have hA2 := hA.non ka
 have HB : Hid (([] : List Tp).length + ts.length ≤ maxLen ∧ (([] : List Tp).length + ts.length) * 24 ≤ 140737488355328) := Lib.hid (by unfold maxLen; simp; omega)
 clear h
 go_enter Tryz.func45, Tryz.ntmps45
 go_wp2_with (at_builtin; go_must (refine wpList_append_row rfl (.tmp 5) (.tmp 6) 32 rfl 31 3 encT _ 24 Tryz.underlying32 info29 rfl (by decide) encT_len encT_one _ [] rfl hO (some ad) ts.length c ts rfl rfl hA2 HB.out.1 HB.out.2 ?_); intro v2 w2 hO2 hK2 hat)
 go_ret
 rw [List.nil_append] at hO2
 obtain ⟨A2, c2, rfl, -⟩ := hO2.val
 have hne : ∀ k ∈ own (.slice (some ⟨w.heap.size, 0, none⟩) 0 0), w.heap.size ≤ k := fun k hk => by rw [own_slice] at hk; simp at hk; omega
 refine ⟨A2, c2, rfl, hO2, fun q hq => ?_, ka.then hK2 fun i hi e => by have := hne i e; omega⟩
 rw [mem_own] at hq
 rcases hat with e | e
 · exact hne q (mem_own.2 (e.symm.trans hq))
 · have e2 := e.symm.trans hq
   injection e2 with e2
   subst e2
   simp
set_option maxHeartbeats 4000000 in
theorem step58_any {w0 w : World} {K : Kb} {s : Dsk} {wv : Sl} (h : Dm w0 w K s wv) (ho : s.off = false) (hl1 : s.left = -1) (hn : 324 ≤ s.n) (hW : s.waits.length ≤ 1000000000) (bx : Nat) (hb : Blk w bx 49 #[.pointer (some ⟨K.d, 0, none⟩)]) :
   Calls Tryz.prog 87 #[.pointer (some ⟨bx, 0, none⟩)] w fun e w' => e = .returned (.int .i64 0) ∧ Wrote w0 w K wv (s.wr 0 274 (zeros 35072)).1 w' := by
 have hmk : ∀ W : World, (Instr.makeSlice 22 (.int .i64 35072) (.int .i64 35072)).run Tryz.prog W = .ok (.slice (some ⟨W.heap.size, 0, none⟩) 35072 35072) (W.alloc (.cells (pc (zeros 35072)) 5)) := made_bytes 35072 (by decide)
 have HW : Hid (∀ (V : World) (b : Nat), Keeps Non w V → Blk V b 5 (pc (zeros 35072)) → w.heap.size ≤ b → Calls Tryz.prog 73 #[.pointer (some ⟨K.d, 0, none⟩), .int .i64 0, .slice (some ⟨b, 0, none⟩) 35072 35072] V fun e w' => e = .returned (.int .i64 0) ∧ Wrote w0 V K wv (s.wr 0 274 (zeros 35072)).1 w') := Lib.hid (fun V b hV hB hn' => write30_on (h.non hV) ho hl1 0 274 (zeros 35072) (some ⟨b, 0, none⟩) 35072 (At.blk hB) (by rw [zeros_length]) (by rw [zeros_length]; decide) (by omega) (fun ad e => by injection e with e; subst e; exact (h.old hn').1) (by omega))
 obtain ⟨S1, hS1⟩ : ∃ S1, S1 = (s.wr 0 274 (zeros 35072)).1 := ⟨_, rfl⟩
 rw [← hS1] at HW ⊢
 clear hS1
 have x0 : w.drew.cell? ⟨bx, 0, none⟩ = some (.pointer (some ⟨K.d, 0, none⟩)) := (hb.non (Keeps.refl Non w).drew).cell 0
 have x1 : (w.alloc (.cells (pc (zeros 35072)) 5)).cell? ⟨bx, 0, none⟩ = some (.pointer (some ⟨K.d, 0, none⟩)) := (hb.non ((Keeps.refl Non w).alloc _)).cell 0
 have ka : Keeps Non w (w.alloc (.cells (pc (zeros 35072)) 5)).drew := ((Keeps.refl Non w).alloc _).drew
 have hZ : Blk (w.alloc (.cells (pc (zeros 35072)) 5)).drew w.heap.size 5 (pc (zeros 35072)) := Blk.new w 5 _
 have HW1 := Lib.hid (HW.out _ w.heap.size ka hZ (Nat.le_refl _))
 have hkd := ka.of_non (S := Fr K wv)
 have HH := Lib.hid h
 clear h hb HW hZ
 generalize zeros 35072 = Z at *
 go_enter Tryz.func87, Tryz.ntmps87
 go_upto_region 1 with fail
 go_region_law (first
   | (go_simp; go_at_call 73; refine HW1.out.mono ?_; rintro e w4 ⟨rfl, hW4⟩; go_must (have HW4 := Lib.hid hW4)))
 all_goals
   go_wp2_with fail
   go_ret
   exact ⟨rfl, Wrote.step hkd (fun q hq => .inl hq) HW4.out⟩
set_option maxHeartbeats 4000000 in
theorem step59_any {w0 w : World} {K : Kb} {s : Dsk} {wv : Sl} (h : Dm w0 w K s wv) (ho : s.off = false) (hl1 : s.left = -1) (hn : 324 ≤ s.n) (hW : s.waits.length ≤ 1000000000) (bx : Nat) (hb : Blk w bx 49 #[.pointer (some ⟨K.d, 0, none⟩)]) :
   Calls Tryz.prog 88 #[.pointer (some ⟨bx, 0, none⟩)] w fun e w' => e = .returned (.int .i64 0) ∧ Wrote w0 w K wv (s.wr (s.n - 18) 18 (zeros 2304)).1 w' := by
 obtain ⟨N8, hN8⟩ : ∃ N8 : Nat, N8 = s.n - 18 := ⟨_, rfl⟩
 rw [← hN8]
 have HSc := Lib.hid (fun V (hV : Keeps Non w V) => sectors52_any (h.non hV))
 have hn8 := h.ok.n2
 have hmk : ∀ W : World, (Instr.makeSlice 22 (.int .i64 2304) (.int .i64 2304)).run Tryz.prog W = .ok (.slice (some ⟨W.heap.size, 0, none⟩) 2304 2304) (W.alloc (.cells (pc (zeros 2304)) 5)) := made_bytes 2304 (by decide)
 have HW : Hid (∀ (V : World) (b : Nat), Keeps Non w V → Blk V b 5 (pc (zeros 2304)) → w.heap.size ≤ b → Calls Tryz.prog 73 #[.pointer (some ⟨K.d, 0, none⟩), .int .i64 (N8 : Int), .slice (some ⟨b, 0, none⟩) 2304 2304] V fun e w' => e = .returned (.int .i64 0) ∧ Wrote w0 V K wv (s.wr N8 18 (zeros 2304)).1 w') := Lib.hid (fun V b hV hB hn' => write30_on (h.non hV) ho hl1 N8 18 (zeros 2304) (some ⟨b, 0, none⟩) 2304 (At.blk hB) (by rw [zeros_length]) (by rw [zeros_length]; decide) (by omega) (fun ad e => by injection e with e; subst e; exact (h.old hn').1) (by omega))
 obtain ⟨S1, hS1⟩ : ∃ S1, S1 = (s.wr N8 18 (zeros 2304)).1 := ⟨_, rfl⟩
 rw [← hS1] at HW ⊢
 clear hS1
 have x0 : w.drew.cell? ⟨bx, 0, none⟩ = some (.pointer (some ⟨K.d, 0, none⟩)) := (hb.non (Keeps.refl Non w).drew).cell 0
 have x1 : (w.alloc (.cells (pc (zeros 2304)) 5)).cell? ⟨bx, 0, none⟩ = some (.pointer (some ⟨K.d, 0, none⟩)) := (hb.non ((Keeps.refl Non w).alloc _)).cell 0
 have ka : Keeps Non w (w.alloc (.cells (pc (zeros 2304)) 5)).drew := ((Keeps.refl Non w).alloc _).drew
 have hZ : Blk (w.alloc (.cells (pc (zeros 2304)) 5)).drew w.heap.size 5 (pc (zeros 2304)) := Blk.new w 5 _
 have HW1 := Lib.hid (HW.out _ w.heap.size ka hZ (Nat.le_refl _))
 have HSc1 := Lib.hid (HSc.out _ (Keeps.refl Non w).drew)
 have HSc2 := Lib.hid (HSc.out _ ka)
 have hkd := ka.of_non (S := Fr K wv)
 have HH := Lib.hid h
 clear h hb HW hZ
 generalize zeros 2304 = Z at *
 have hw18 : IntKind.i64.wrap ((s.n : Int) - 18) = (N8 : Int) := by rw [IntKind.wrap_i64]; omega
 clear hN8
 generalize s.n = n at *
 go_enter Tryz.func88, Tryz.ntmps88
 go_upto_region 1 with fail
 go_region_law (first
   | (go_simp; go_at_call 49; first | refine HSc1.out.mono ?_ | refine HSc2.out.mono ?_; rintro e w3 ⟨rfl, hw3⟩; subst w3; go_must (skip))
   | (go_simp; go_at_call 73; refine HW1.out.mono ?_; rintro e w4 ⟨rfl, hW4⟩; go_must (have HW4 := Lib.hid hW4)))
 all_goals
   go_wp2_with fail
   go_ret
   exact ⟨rfl, Wrote.step hkd (fun q hq => .inl hq) HW4.out⟩
end Go.Proofs.YtolknnmaadkgiaaGreatDoor
namespace Go.Proofs.YtolknnmaadkgiaaGreatDoor
set_option maxRecDepth 100000
open Go.RowKit Go.Uc
set_option maxHeartbeats 4000000 in
theorem step60_any {w0 w : World} {K : Kb} {s : Dsk} {wv : Sl} (h : Dm w0 w K s wv) (ho : s.off = false) (hl1 : s.left = -1) (hW : s.waits.length ≤ 1000000000) (bx ax sx lb at_ : Nat) (X : List UInt8) (hX : X.length = 128) (ha : at_ < s.n) (hb : Blk w bx 49 #[.pointer (some ⟨K.d, 0, none⟩)]) (hax : Blk w ax 3 #[.int .i64 (at_ : Int)]) (hsx : Blk w sx 22 #[.slice (some ⟨lb, 0, none⟩) 128 128]) (hlb : Blk w lb 5 (pc X)) (hF : ¬ Fr K wv lb) :
   Calls Tryz.prog 89 #[.pointer (some ⟨bx, 0, none⟩), .pointer (some ⟨ax, 0, none⟩), .pointer (some ⟨sx, 0, none⟩)] w fun e w' => e = .returned (.int .i64 0) ∧ Wrote w0 w K wv (s.wr at_ 1 X).1 w' := by
 have HW := Lib.hid (write30_on h ho hl1 at_ 1 X (some ⟨lb, 0, none⟩) 128 (At.blk hlb) hX (by omega) (by omega) (fun ad e => by injection e with e; subst e; exact hF) (by omega))
 rw [Nat.mul_one] at HW
 have x0 := one_cell hb
 have x1 := one_cell hax
 have x2 := one_cell hsx
 clear h hb hax hsx hlb
 go_enter Tryz.func89, Tryz.ntmps89
 go_wp2_with ((go_at_call 73; go_must (refine HW.out.mono ?_); rintro e w4 ⟨rfl, hW4⟩))
 go_ret
 exact ⟨rfl, hW4⟩
structure Lm (w0 w : World) (lf : Nat) (K : Kb) (s : Dsk) (wv : Sl) (x : Lb) (tA : Option Addr) (tc : Nat) : Prop where
 dm : Dm w0 w K s wv
 blk : Blk w lf 171 #[.pointer (some ⟨K.d, 0, none⟩), .int .u64 (x.pool : Int), .slice tA x.ts.length tc, .int .i64 (x.top : Int), .int .i64 (x.place : Int), .int .i64 0, .int .i64 0, .int .i64 0]
 ts : RowT w (.slice tA x.ts.length tc) x.ts
 new : w0.heap.size ≤ lf ∧ ∀ q ∈ own (.slice tA x.ts.length tc), w0.heap.size ≤ q
theorem Dm.freeRow {α : Type} {w0 w : World} {K : Kb} {s : Dsk} {wv v : Sl} {e : TypeId} {k : Nat} {enc : α → List Value} {xs : List α} (h : Dm w0 w K s wv) (hr : RowP w e k enc v.v xs) (h1 : e ≠ 104) (h5 : e ≠ 5) (h97 : e ≠ 107) : ∀ q ∈ own v.v, ¬ Fr K wv q := by
 intro q hq
 rcases hr.form with ⟨e1, -⟩ | ⟨g, cap, cur, e1, hB, -⟩
 · rw [e1] at hq; exact (List.not_mem_nil hq).elim
 · rw [e1, own_slice, List.mem_singleton] at hq
   subst hq
   exact h.free hB h1 h5 h97
theorem Lm.step {w0 w w' : World} {lf : Nat} {K : Kb} {s s' : Dsk} {wv wv' : Sl} {x : Lb} {tA : Option Addr} {tc : Nat} (h : Lm w0 w lf K s wv x tA tc) (hd : Dm w0 w' K s' wv') (hk : Keeps (Fr K wv) w w') : Lm w0 w' lf K s' wv' x tA tc :=
 ⟨hd, h.blk.keep hk (h.dm.free h.blk (by decide) (by decide) (by decide)), h.ts.keep hk (h.dm.freeRow (v := ⟨tA, x.ts.length, tc⟩) h.ts (by decide) (by decide) (by decide)), h.new⟩
theorem Lm.non {w0 w w' : World} {lf : Nat} {K : Kb} {s : Dsk} {wv : Sl} {x : Lb} {tA : Option Addr} {tc : Nat} (h : Lm w0 w lf K s wv x tA tc) (hk : Keeps Non w w') : Lm w0 w' lf K s wv x tA tc :=
 ⟨h.dm.non hk, h.blk.non hk, h.ts.non hk, h.new⟩
def Did (w0 w : World) (lf : Nat) (K : Kb) (wv : Sl) (x : Lb) (tA : Option Addr) (tc : Nat) (s' : Dsk) (w' : World) : Prop := ∃ wv' : Sl, Lm w0 w' lf K s' wv' x tA tc ∧ Keeps (Fr K wv) w w' ∧ ∀ q ∈ own wv'.v, q ∈ own wv.v ∨ w.heap.size ≤ q
def encF (f : Fn × Array Value × Array Value) : List Value := [.func f.1 f.2.1 f.2.2]
theorem encF_len (f : Fn × Array Value × Array Value) : (encF f).length = 1 := rfl
theorem encF_one (f : Fn × Array Value × Array Value) : ∀ u ∈ encF f, u.oneCell' = true := by intro u hu; simp [encF] at hu; subst hu; rfl
theorem info48 : (Tryz.prog.info? 43).map (fun i => (i.zero, i.size, i.bytes)) = some (some .nilFunc, 1, 8) := by kernel_rfl
end Go.Proofs.YtolknnmaadkgiaaGreatDoor
