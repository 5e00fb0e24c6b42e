/- In which order: the walk. -/
import Derived.Test.YtiieglfpmmhfiaaD18
import Derived.Test.YtiieglfpmmhfiaaBased
import Derived.StillTailTactics
namespace Go.Proofs.Ytiieglfpmmhfiaa
set_option maxRecDepth 100000
open Go.RowKit Go.Uc

theorem info4 : (Try.prog.info? 4).map (fun i => (i.zero, i.size, i.bytes)) = some (some (.bool false), 1, 1) := by kernel_rfl
/-- The names of an argument. -/
def Names (w : World) (A : Option Addr) (xs : List (List UInt8)) : Prop := ∀ i (h : i < xs.length), ∃ b off, A = some ⟨b, off, none⟩ ∧ b < w.heap.size ∧ w.cell? ⟨b, off + i, none⟩ = some (.string (str xs[i])) ∧ xs[i].length ≤ 140737488355328
theorem Names.non {w w' : World} {A : Option Addr} {xs : List (List UInt8)} (h : Names w A xs) (hk : Keeps Non w w') : Names w' A xs := fun i hi => by
  obtain ⟨b, off, e, hb, hc, hl⟩ := h i hi
  exact ⟨b, off, e, Nat.lt_of_lt_of_le hb hk.size, hk.cell hc id, hl⟩
/-- Two dictionaries, apart. -/
structure Two (W w : World) (g1 g2 : Nat) (d1 d2 : Dic) (t1 l1 t2 l2 : Sl) (p1 p2 : List (Nat × Sl)) : Prop where
  a : DictM 69 66 w g1 d1 t1 l1 p1
  b : DictM 69 66 w g2 d2 t2 l2 p2
  ab : ∀ q ∈ foot g1 t1 l1 p1, q ∉ foot g2 t2 l2 p2
  na : ∀ q ∈ foot g1 t1 l1 p1, W.heap.size ≤ q
  nb : ∀ q ∈ foot g2 t2 l2 p2, W.heap.size ≤ q
  k : Keeps Non W w
section two
variable {W w w' : World} {g1 g2 : Nat} {d1 d2 d' : Dic} {t1 l1 t2 l2 : Sl} {p1 p2 : List (Nat × Sl)}
theorem Two.non (h : Two W w g1 g2 d1 d2 t1 l1 t2 l2 p1 p2) (hk : Keeps Non w w') : Two W w' g1 g2 d1 d2 t1 l1 t2 l2 p1 p2 := ⟨h.a.non hk, h.b.non hk, h.ab, h.na, h.nb, h.k.non hk⟩
theorem Two.putA (h : Two W w g1 g2 d1 d2 t1 l1 t2 l2 p1 p2) (hd : DoneD 69 66 w g1 t1 l1 p1 d' w') : ∃ t l p, Two W w' g1 g2 d' d2 t l t2 l2 p p2 ∧ Keeps (· ∈ foot g1 t1 l1 p1) w w' ∧ ∀ q ∈ foot g1 t l p, q ∈ foot g1 t1 l1 p1 ∨ w.heap.size ≤ q := by
  obtain ⟨t, l, p, h1, h2, h3⟩ := hd
  have hz := h.k.size
  have hbl := h.b.low
  refine ⟨t, l, p, ⟨h1, h.b.keep h2 fun q hq hq' => h.ab q hq' hq, fun q hq hq' => ?_, fun q hq => ?_, h.nb, h.k.then h2 fun i hi e => ?_⟩, h2, h3⟩
  · rcases h3 q hq with h' | h'
    · exact h.ab q h' hq'
    · have := hbl q hq'; omega
  · rcases h3 q hq with h' | h'
    · exact h.na q h'
    · omega
  · have := h.na i e; omega
theorem Two.swap (h : Two W w g1 g2 d1 d2 t1 l1 t2 l2 p1 p2) : Two W w g2 g1 d2 d1 t2 l2 t1 l1 p2 p1 := ⟨h.b, h.a, fun q hq hq' => h.ab q hq' hq, h.nb, h.na, h.k⟩
end two
set_option maxHeartbeats 8000000 in
theorem anyOrder_any (A Ao : Option Addr) (cn co : Nat) (names : List (List UInt8)) (order : List Int) (W : World) (hN : Names W A names) (hO : Nums W Ao order) (hn : names.length ≤ 70368744177664) (ho : order.length ≤ 70368744177664) (_hcn : names.length ≤ cn) (_hco : order.length ≤ co) :
    Calls Try.prog 3 #[.slice A names.length cn, .slice Ao order.length co] W fun e W' => e = .returned (.bool true) ∧ Keeps Non W W' := by
  go_enter Try.func3, Try.ntmps3
  go_upto_region 2 with ((go_at_call 7; refine (awake_any W).mono ?_; rintro e w1 ⟨rfl, hK1⟩))
  go_upto_region 3 with ((go_at_call 8; refine (new_any w1).mono ?_; rintro e w2 ⟨g1, t1, l1, p1, rfl, h1, hN1, hK2⟩))
  go_upto_region 4 with ((go_at_call 8; refine (new_any w2).mono ?_; rintro e w3 ⟨g2, t2, l2, p2, rfl, h2, hN2, hK3⟩))
  have hz1 := hK1.size
  have hz2 := hK2.size
  have hlow1 := h1.low
  have hTw : Two W w3 g1 g2 emptyD emptyD t1 l1 t2 l2 p1 p2 := ⟨h1.non hK3, h2, fun q hq hq' => by have := hlow1 q hq; have := hN2 q hq'; omega, fun q hq => by have := hN1 q hq; omega, fun q hq => by have := hN2 q hq; omega, (hK1.non hK2).non hK3⟩
  clear hK1 hK2 hK3 h1 h2 hN1 hN2 hz1 hz2 hlow1
  have hC0 : Cont (fun m => m ∈ names.take 0) emptyD := cont_empty (by simp)
  go_upto_region 8 with fail
  go_loopw [8, 9] (fun f i wr => ∃ (k : Nat) (fu : Bool) (d : Dic) (t l : Sl) (p : List (Nat × Sl)), k ≤ names.length ∧ i = .int .i64 (k : Int) ∧ f = .bool fu ∧ Inv d ∧ Hid (fu = false → Cont (fun m => m ∈ names.take k) d) ∧ Two W wr g1 g2 d emptyD t l t2 l2 p p2) (fun _ i _ => names.length - (intOf i).toNat)
  case atStart => exact ⟨0, false, emptyD, _, _, _, Nat.zero_le _, rfl, rfl, empty_inv, Lib.hid (fun _ => hC0), hTw⟩
  case round =>
    obtain ⟨k, fu, d, t, l, p, hk, rfl, rfl, hi, HC, hT⟩ := hrel
    obtain ⟨wx, rfl⟩ : ∃ V : World, V = wr := ⟨_, rfl⟩
    clear hTw hC0
    by_cases hlt : k < names.length
    · obtain ⟨b, off, rfl, hb, hc, hln⟩ := hN.non hT.k k hlt
      obtain ⟨n, hne⟩ : ∃ n, n = names[k] := ⟨_, rfl⟩
      rw [← hne] at hc hln
      have HNE := Lib.hid hne
      clear hne
      have hss : (str n).size = n.length := str_size n
      have hTd := hT.non (Keeps.refl Non wx).drew
      have HP := Lib.hid (put_any hTd.a hi n (by omega) (n.length : Int))
      have hcd : wx.drew.cell? ⟨b, off + k, none⟩ = some (.string (str n)) := hc
      obtain ⟨r, hr⟩ : ∃ r, r = (putD d n n.length).1 := ⟨_, rfl⟩
      obtain ⟨d', hd'⟩ : ∃ r, r = (putD d n n.length).2 := ⟨_, rfl⟩
      rw [← hr, ← hd'] at HP
      have HR := Lib.hid hr
      have HD := Lib.hid hd'
      clear hr hd'
      go_upto_region 10 with fail
      go_still_tail 10, (by kernel_rfl)
      go_wp2_with fail
      refine HP.out.mono ?_
      rintro e w4 ⟨rfl, hd4⟩
      obtain ⟨t', l', p', hT', -, -⟩ := hTd.putA hd4
      have hi' : Inv d' := by rw [HD.out]; exact put_inv hi n
      have HCS : Hid (fu = false → r ≠ 152 → Cont (fun m => m ∈ names.take (k + 1)) d') := Lib.hid (fun h1 h2 => by
        rw [HD.out]
        refine cont_put hi (HC.out h1) n (name_or n) (by rw [← HR.out]; exact h2) fun m => ?_
        rw [List.take_succ_eq_append_getElem hlt, List.mem_append, List.mem_singleton, ← HNE.out])
      clear hd4 HP hTd hT hcd hc
      cases fu
      · by_cases hr : r = 152
        · subst hr
          go_wp2_with fail
          go_roundw
          case rel => exact ⟨k + 1, true, d', t', l', p', by omega, by go_num, rfl, hi', Lib.hid (fun e => by cases e), hT'⟩
          case measure => simp [intOf]; omega
        · have hrb : (r == 152) = false := by simp [hr]
          have HRN := Lib.hid hr
          clear hr
          go_wp2_with fail
          go_roundw
          case rel => exact ⟨k + 1, false, d', t', l', p', by omega, by go_num, rfl, hi', Lib.hid (fun e => HCS.out (by trivial) HRN.out), hT'⟩
          case measure => simp [intOf]; omega
      · go_wp2_with fail
        go_roundw
        case rel => exact ⟨k + 1, true, d', t', l', p', by omega, by go_num, rfl, hi', Lib.hid (fun e => by cases e), hT'⟩
        case measure => simp [intOf]; omega
    · obtain rfl : k = names.length := by omega
      have HCA : Hid (fu = false → Cont (fun m => m ∈ names) d) := Lib.hid (fun e => by have := HC.out e; rwa [List.take_of_length_le (Nat.le_refl _)] at this)
      clear HC
      go_upto_region 14 with (at_make; go_must (refine wpList_make_bools rfl _ _ 29 rfl 4 Try.underlying29 info4 .i64 .i64 _ _ names.length rfl rfl (by omega) (by omega) (by omega) ?_); intro w5 hB5 hK5)
      have hT5 := hT.non hK5
      have hdk1 : wx.heap.size ∉ foot g1 t l p := fun hq => by have := hT.a.low _ hq; omega
      have hdk2 : wx.heap.size ∉ foot g2 t2 l2 p2 := fun hq => by have := hT.b.low _ hq; omega
      have hdkW : W.heap.size ≤ wx.heap.size := hT.k.size
      generalize wx.heap.size = dk at *
      clear hT hK5
      have hC20 : Cont (doneS names (List.replicate names.length false)) emptyD := cont_empty (fun m => by
        rintro ⟨j, h1, -⟩
        rw [List.getElem?_replicate] at h1
        split at h1 <;> simp at h1)
      go_loopw [8, 12] (fun f i wr => ∃ (m : Nat) (fu : Bool) (d2 : Dic) (t2 l2 : Sl) (p2 : List (Nat × Sl)) (done : List Bool), m ≤ order.length + names.length ∧ i = .int .i64 (m : Int) ∧ f = .bool fu ∧ Inv d2 ∧ done.length = names.length ∧ Hid (∀ j, j < names.length → order.length + j < m → done[j]? = some true) ∧ Hid (fu = false → Cont (fun m => m ∈ names) d ∧ Cont (doneS names done) d2) ∧ Two W wr g1 g2 d d2 t l t2 l2 p p2 ∧ Blk wr dk 4 (bools done) ∧ dk ∉ foot g2 t2 l2 p2) (fun _ i _ => order.length + names.length - (intOf i).toNat)
      case atStart => exact ⟨0, fu, emptyD, _, _, _, _, Nat.zero_le _, rfl, rfl, empty_inv, by simp, Lib.hid (fun j _ h => by omega), Lib.hid (fun e => ⟨HCA.out e, hC20⟩), hT5, hB5, hdk2⟩
      case round =>
        obtain ⟨m, fu, d2, t2, l2, p2, done, hm, rfl, rfl, hi2, hdl, HJ, HC, hT, hB, hdk2⟩ := hrel
        obtain ⟨wy, rfl⟩ : ∃ V : World, V = wr := ⟨_, rfl⟩
        clear hT5 hB5 hC20
        by_cases hlt : m < order.length + names.length
        · have hsum : (order.length : Int) + (names.length : Int) ≤ 140737488355328 := by omega
          by_cases hmo : m < order.length
          · by_cases hn0 : names.length = 0
            · have hnb : ((names.length : Int) == 0) = true := by simp [hn0]
              have HN0 := Lib.hid hn0
              clear hn0
              go_wp2_with fail
              go_roundw
              case rel => exact ⟨m + 1, fu, d2, t2, l2, p2, done, by omega, by go_num, rfl, hi2, hdl, Lib.hid (fun j hj _ => by have := HN0.out; omega), HC, hT, hB, hdk2⟩
              case measure => simp [intOf]; omega
            · have hnb : ((names.length : Int) == 0) = false := beq_eq_false_iff_ne.2 (by omega)
              obtain ⟨bo, oo, eO, hoc, ho1, ho2⟩ := hO m hmo
              subst eO
              have hoc' : wy.cell? ⟨bo, oo + m, none⟩ = some (.int .i64 order[m]) := hT.k.cell hoc id
              have HPK := Lib.hid (pick_any order[m] names.length (by omega) (by omega) ho1 ho2 wy)
              obtain ⟨kk, hkke⟩ : ∃ kk, kk = pickN order[m] names.length := ⟨_, rfl⟩
              have hkk : kk < names.length := by
                rw [hkke]; unfold pickN
                have h1 := Int.emod_lt_of_pos (if order[m] < 0 then -(order[m] + 1) else order[m]) (show (0 : Int) < names.length by omega)
                have h2 := Int.emod_nonneg (if order[m] < 0 then -(order[m] + 1) else order[m]) (show (names.length : Int) ≠ 0 by omega)
                omega
              rw [← hkke] at HPK
              clear hkke hn0
              have HJJ : Hid (∀ j, j < names.length → order.length + j < m + 1 → j = kk ∨ order.length + j < m) := Lib.hid (fun j hj h => by omega)
              generalize order[m] = oc at hoc' HPK ho1 ho2
              go_upto_region 20 with ((go_at_call 10; refine HPK.out.mono ?_; rintro e w9 ⟨rfl, hw9⟩; subst w9))
              clear HPK hoc hoc'

              obtain ⟨bb, hbb⟩ : ∃ bb, done[kk]? = some bb := ⟨done[kk]'(by omega), List.getElem?_eq_getElem _⟩
              have z0 : wy.cell? ⟨dk, kk, none⟩ = some (.bool bb) := by rw [hB.cell, bools_get, hbb]; rfl
              have zf := hB.frozen kk
              cases bb
              case true =>
                have HB1 := Lib.hid hbb
                clear hbb
                go_wp2_with fail
                go_roundw
                case rel => exact ⟨m + 1, fu, d2, t2, l2, p2, done, by omega, by go_num, rfl, hi2, hdl, Lib.hid (fun j hj h => by rcases HJJ.out j hj h with e | e; (subst e; exact HB1.out); exact HJ.out j hj e), HC, hT, hB, hdk2⟩
                case measure => simp [intOf]; omega
              case false =>
                clear hbb
                obtain ⟨w5, hw5⟩ : ∃ V : World, V = wy.setCell ⟨dk, kk, none⟩ (.bool true) := ⟨_, rfl⟩
                have hB5 : Blk w5 dk 4 (bools (done.set kk true)) := by rw [hw5, ← bools_set]; exact hB.set kk _
                have hK5 : Keeps (Only dk) wy w5 := by rw [hw5]; exact (Keeps.refl (Only dk) _).set (p := ⟨dk, kk, none⟩) rfl _
                have hT5 : Two W w5 g1 g2 d d2 t l t2 l2 p p2 := ⟨hT.a.keep hK5 fun q hq e => hdk1 (by unfold Only at e; exact e ▸ hq), hT.b.keep hK5 fun q hq e => hdk2 (by unfold Only at e; exact e ▸ hq), hT.ab, hT.na, hT.nb, hT.k.then hK5 fun i hi e => by unfold Only at e; omega⟩
                obtain ⟨b, off, eA, hb, hc, hln⟩ := hN.non hT5.k kk hkk
                obtain ⟨n, hne⟩ : ∃ n, n = names[kk] := ⟨_, rfl⟩
                rw [← hne] at hc hln
                have HNE := Lib.hid hne
                clear hne
                subst eA
                have hss : (str n).size = n.length := str_size n
                have hTd := hT5.non (Keeps.refl Non w5).drew
                have HP := Lib.hid (put_any hTd.b hi2 n (by omega) (n.length : Int))
                have hcd : w5.drew.cell? ⟨b, off + kk, none⟩ = some (.string (str n)) := hc
                obtain ⟨r, hr⟩ : ∃ r, r = (putD d2 n n.length).1 := ⟨_, rfl⟩
                obtain ⟨d', hd'⟩ : ∃ r, r = (putD d2 n n.length).2 := ⟨_, rfl⟩
                rw [← hr, ← hd'] at HP
                have HR := Lib.hid hr
                have HD := Lib.hid hd'
                have HW5 := Lib.hid hw5
                clear hr hd' hw5
                go_upto_region 22 with fail
                rw [show wy.setCell ⟨dk, kk, none⟩ (.bool true) = w5 from HW5.out.symm]
                clear z0 zf
                go_still_tail 10, (by kernel_rfl)
                go_wp2_with fail
                refine HP.out.mono ?_
                rintro e w6 ⟨rfl, hd6⟩
                obtain ⟨t2', l2', p2', hT6s, hK6, hF6⟩ := hTd.swap.putA hd6
                have hT6 := hT6s.swap
                have hB6 : Blk w6 dk 4 (bools (done.set kk true)) := hB5.drew.keep hK6 hdk2
                have hdk2' : dk ∉ foot g2 t2' l2' p2' := fun hq => by
                  rcases hF6 _ hq with h' | h'
                  · exact hdk2 h'
                  · have := hB5.lt; simp at h'; omega
                have hi' : Inv d' := by rw [HD.out]; exact put_inv hi2 n
                have HCS : Hid (fu = false → r ≠ 152 → Cont (fun m => m ∈ names) d ∧ Cont (doneS names (done.set kk true)) d') := Lib.hid (fun h1 h2 => by
                  refine ⟨(HC.out h1).1, ?_⟩
                  rw [HD.out]
                  refine cont_put hi2 (HC.out h1).2 n (name_or n) (by rw [← HR.out]; exact h2) fun x => ?_
                  rw [doneS_set hkk hdl, ← HNE.out])
                have HJS : Hid (∀ j, j < names.length → order.length + j < m + 1 → (done.set kk true)[j]? = some true) := Lib.hid (fun j hj h => by
                  rw [List.getElem?_set]
                  by_cases e : kk = j
                  · rw [if_pos e, if_pos (by omega)]
                  · rw [if_neg e]
                    rcases HJJ.out j hj h with e' | e'
                    · exact absurd e'.symm e
                    · exact HJ.out j hj e')
                have hdl' : (done.set kk true).length = names.length := by simp [hdl]
                clear hd6 HP hTd hT hcd hc hT6s hK6 hT5 hB5 hK5
                cases fu
                · by_cases hr : r = 152
                  · subst hr
                    go_wp2_with fail
                    go_roundw
                    case rel => exact ⟨m + 1, true, d', t2', l2', p2', done.set kk true, by omega, by go_num, rfl, hi', hdl', HJS, Lib.hid (fun e => by cases e), hT6, hB6, hdk2'⟩
                    case measure => simp [intOf]; omega
                  · have hrb : (r == 152) = false := by simp [hr]
                    have HRN := Lib.hid hr
                    clear hr
                    go_wp2_with fail
                    go_roundw
                    case rel => exact ⟨m + 1, false, d', t2', l2', p2', done.set kk true, by omega, by go_num, rfl, hi', hdl', HJS, Lib.hid (fun e => HCS.out (by trivial) HRN.out), hT6, hB6, hdk2'⟩
                    case measure => simp [intOf]; omega
                · go_wp2_with fail
                  go_roundw
                  case rel => exact ⟨m + 1, true, d', t2', l2', p2', done.set kk true, by omega, by go_num, rfl, hi', hdl', HJS, Lib.hid (fun e => by cases e), hT6, hB6, hdk2'⟩
                  case measure => simp [intOf]; omega
          · obtain ⟨kk, hkke⟩ : ∃ kk, kk = m - order.length := ⟨_, rfl⟩
            have hkk : kk < names.length := by omega
            have HJJ : Hid (∀ j, j < names.length → order.length + j < m + 1 → j = kk ∨ order.length + j < m) := Lib.hid (fun j hj h => by omega)
            go_upto_region 20 with fail
            rw [show (m : Int) - (order.length : Int) = (kk : Int) by omega]
            clear hkke

            obtain ⟨bb, hbb⟩ : ∃ bb, done[kk]? = some bb := ⟨done[kk]'(by omega), List.getElem?_eq_getElem _⟩
            have z0 : wy.cell? ⟨dk, kk, none⟩ = some (.bool bb) := by rw [hB.cell, bools_get, hbb]; rfl
            have zf := hB.frozen kk
            cases bb
            case true =>
              have HB1 := Lib.hid hbb
              clear hbb
              go_wp2_with fail
              go_roundw
              case rel => exact ⟨m + 1, fu, d2, t2, l2, p2, done, by omega, by go_num, rfl, hi2, hdl, Lib.hid (fun j hj h => by rcases HJJ.out j hj h with e | e; (subst e; exact HB1.out); exact HJ.out j hj e), HC, hT, hB, hdk2⟩
              case measure => simp [intOf]; omega
            case false =>
              clear hbb
              obtain ⟨w5, hw5⟩ : ∃ V : World, V = wy.setCell ⟨dk, kk, none⟩ (.bool true) := ⟨_, rfl⟩
              have hB5 : Blk w5 dk 4 (bools (done.set kk true)) := by rw [hw5, ← bools_set]; exact hB.set kk _
              have hK5 : Keeps (Only dk) wy w5 := by rw [hw5]; exact (Keeps.refl (Only dk) _).set (p := ⟨dk, kk, none⟩) rfl _
              have hT5 : Two W w5 g1 g2 d d2 t l t2 l2 p p2 := ⟨hT.a.keep hK5 fun q hq e => hdk1 (by unfold Only at e; exact e ▸ hq), hT.b.keep hK5 fun q hq e => hdk2 (by unfold Only at e; exact e ▸ hq), hT.ab, hT.na, hT.nb, hT.k.then hK5 fun i hi e => by unfold Only at e; omega⟩
              obtain ⟨b, off, eA, hb, hc, hln⟩ := hN.non hT5.k kk hkk
              obtain ⟨n, hne⟩ : ∃ n, n = names[kk] := ⟨_, rfl⟩
              rw [← hne] at hc hln
              have HNE := Lib.hid hne
              clear hne
              subst eA
              have hss : (str n).size = n.length := str_size n
              have hTd := hT5.non (Keeps.refl Non w5).drew
              have HP := Lib.hid (put_any hTd.b hi2 n (by omega) (n.length : Int))
              have hcd : w5.drew.cell? ⟨b, off + kk, none⟩ = some (.string (str n)) := hc
              obtain ⟨r, hr⟩ : ∃ r, r = (putD d2 n n.length).1 := ⟨_, rfl⟩
              obtain ⟨d', hd'⟩ : ∃ r, r = (putD d2 n n.length).2 := ⟨_, rfl⟩
              rw [← hr, ← hd'] at HP
              have HR := Lib.hid hr
              have HD := Lib.hid hd'
              have HW5 := Lib.hid hw5
              clear hr hd' hw5
              go_upto_region 22 with fail
              rw [show wy.setCell ⟨dk, kk, none⟩ (.bool true) = w5 from HW5.out.symm]
              clear z0 zf
              go_still_tail 10, (by kernel_rfl)
              go_wp2_with fail
              refine HP.out.mono ?_
              rintro e w6 ⟨rfl, hd6⟩
              obtain ⟨t2', l2', p2', hT6s, hK6, hF6⟩ := hTd.swap.putA hd6
              have hT6 := hT6s.swap
              have hB6 : Blk w6 dk 4 (bools (done.set kk true)) := hB5.drew.keep hK6 hdk2
              have hdk2' : dk ∉ foot g2 t2' l2' p2' := fun hq => by
                rcases hF6 _ hq with h' | h'
                · exact hdk2 h'
                · have := hB5.lt; simp at h'; omega
              have hi' : Inv d' := by rw [HD.out]; exact put_inv hi2 n
              have HCS : Hid (fu = false → r ≠ 152 → Cont (fun m => m ∈ names) d ∧ Cont (doneS names (done.set kk true)) d') := Lib.hid (fun h1 h2 => by
                refine ⟨(HC.out h1).1, ?_⟩
                rw [HD.out]
                refine cont_put hi2 (HC.out h1).2 n (name_or n) (by rw [← HR.out]; exact h2) fun x => ?_
                rw [doneS_set hkk hdl, ← HNE.out])
              have HJS : Hid (∀ j, j < names.length → order.length + j < m + 1 → (done.set kk true)[j]? = some true) := Lib.hid (fun j hj h => by
                rw [List.getElem?_set]
                by_cases e : kk = j
                · rw [if_pos e, if_pos (by omega)]
                · rw [if_neg e]
                  rcases HJJ.out j hj h with e' | e'
                  · exact absurd e'.symm e
                  · exact HJ.out j hj e')
              have hdl' : (done.set kk true).length = names.length := by simp [hdl]
              clear hd6 HP hTd hT hcd hc hT6s hK6 hT5 hB5 hK5
              cases fu
              · by_cases hr : r = 152
                · subst hr
                  go_wp2_with fail
                  go_roundw
                  case rel => exact ⟨m + 1, true, d', t2', l2', p2', done.set kk true, by omega, by go_num, rfl, hi', hdl', HJS, Lib.hid (fun e => by cases e), hT6, hB6, hdk2'⟩
                  case measure => simp [intOf]; omega
                · have hrb : (r == 152) = false := by simp [hr]
                  have HRN := Lib.hid hr
                  clear hr
                  go_wp2_with fail
                  go_roundw
                  case rel => exact ⟨m + 1, false, d', t2', l2', p2', done.set kk true, by omega, by go_num, rfl, hi', hdl', HJS, Lib.hid (fun e => HCS.out (by trivial) HRN.out), hT6, hB6, hdk2'⟩
                  case measure => simp [intOf]; omega
              · go_wp2_with fail
                go_roundw
                case rel => exact ⟨m + 1, true, d', t2', l2', p2', done.set kk true, by omega, by go_num, rfl, hi', hdl', HJS, Lib.hid (fun e => by cases e), hT6, hB6, hdk2'⟩
                case measure => simp [intOf]; omega
        · obtain rfl : m = order.length + names.length := by omega
          cases fu
          case true =>
            go_wp2_with fail
            go_ret
            exact ⟨rfl, hT.k⟩
          case false =>
            obtain ⟨c1, c2⟩ := HC.out rfl
            have c2' : Cont (fun m => m ∈ names) d2 := fun x v => by
              rw [c2]
              have : doneS names done x ↔ x ∈ names := by
                constructor
                · rintro ⟨j, -, h2⟩; exact List.mem_of_getElem? h2
                · intro hx
                  obtain ⟨j, hj, rfl⟩ := List.getElem_of_mem hx
                  exact ⟨j, HJ.out j hj (by omega), List.getElem?_eq_getElem hj⟩
              rw [this]
            have HLA := Lib.hid (list_any hT.a hi.toInv0)
            go_wp2_with fail
            refine HLA.out.mono ?_
            rintro e w6 ⟨sA, RA, rfl, hRA, hLA, hNA, hKA⟩
            have hT6 := hT.non hKA
            have HLB := Lib.hid (list_any hT6.b hi2.toInv0)
            go_wp2_with fail
            refine HLB.out.mono ?_
            rintro e w7 ⟨sB, RB, rfl, hRB, hLB, hNB, hKB⟩
            have HSE := Lib.hid (sameE_any (hRA.non hKB) hRB)
            have HEQ : Hid (decide (RA = RB) = true) := Lib.hid (decide_eq_true (same_list hi.toInv0 hi2.toInv0 c1 c2' hLA hLB))
            have HKW : Hid (Keeps Non W w7) := Lib.hid ((hT6.non hKB).k)
            rw [HEQ.out] at HSE
            go_wp2_with fail
            refine HSE.out.mono ?_
            rintro e w8 ⟨rfl, q8, rfl⟩
            go_wp2_with fail
            go_ret
            exact ⟨rfl, HKW.out.drewN q8⟩
end Go.Proofs.Ytiieglfpmmhfiaa
