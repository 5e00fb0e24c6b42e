/- Of, Check. -/
import Derived.Test.YtbkhfemoogcpkaaDoorU8
namespace Go.Proofs.YtbkhfemoogcpkaaDoor
set_option maxRecDepth 100000
open Go.RowKit Go.Uc

theorem results_cell_tmp {P : Program} {w : World} {fn : Func} {p q : Tmp} {ty : TypeId} (h : fn.results = #[.cell p ty, .tmp q]) (tmps : Array Value) (g : Nat) (t : TypeId) (cs : Array Value) (d : TypeDesc)
    (hp : tmps.getD p undef = .pointer (Option.some ⟨g, 0, none⟩)) (hg : Blk w g t cs)
    (hu : P.underlying ty = Option.some d) (hd : (match d with | .struct _ | .array _ _ => true | _ => false) = true) (hi : (P.info? ty).map (·.size) = Option.some cs.size) :
    (results fn tmps).run P w = .ok (.tuple #[.agg cs, tmps.getD q undef]) w := by
  have hp' : tmps[p]?.getD undef = .pointer (some ⟨g, 0, none⟩) := by simpa using hp
  simp [results, h, hp', asAddr, run_loadVar_row w g t ty cs (0, 0) d hg hu hd hi]
def Sum4.eqv (s t : Sum4) : Bool := decide (v64 s.a = v64 t.a) && (decide (v64 s.b = v64 t.b) && (decide (v64 s.c = v64 t.c) && decide (v64 s.d = v64 t.d)))
theorem v64_inj {x y : BitVec 64} : v64 x = v64 y ↔ x = y := by
  unfold v64
  constructor
  · intro h; exact BitVec.eq_of_toNat_eq (by omega)
  · rintro rfl; rfl
theorem Sum4.eqv_iff (s t : Sum4) : s.eqv t = true ↔ s = t := by
  obtain ⟨a, b, c, d⟩ := s
  obtain ⟨a', b', c', d'⟩ := t
  simp [Sum4.eqv, v64_inj]
def Sum4.cells (s : Sum4) : Array Value := #[.int .u64 (v64 s.a), .int .u64 (v64 s.b), .int .u64 (v64 s.c), .int .u64 (v64 s.d)]

/-- What Of answers. -/
def ofP (K : List (BitVec 32)) (kind : Int) (bs : List UInt8) : Sum4 × Int :=
  if kind = 1 then ((rn0.add bs).value, 0) else if kind = 2 then (shaP K bs, 0) else (sum0, 20)

set_option maxRecDepth 100000 in
set_option maxHeartbeats 1000000 in
theorem of_any (K : List (BitVec 32)) (hKl : K.length = 64) (kind : Int) (A : Option Addr) (c : Nat) (bs : List UInt8) (w : World) (hA : At w A bs) (hc : bs.length ≤ c) (hn : bs.length ≤ 140737488351240) (hT : Tab w 0 K) :
    Calls Tryd.prog 9 #[.int .i64 kind, .slice A bs.length c] w fun e w' => e = .returned (.tuple #[(ofP K kind bs).1.v, .int .i64 (ofP K kind bs).2]) ∧ Keeps Non w w' := by
  by_cases h1 : kind = 1
  · subst h1
    go_enter Tryd.func9, Tryd.ntmps9
    go_wp2_with fail
    obtain ⟨wx, hwx⟩ : ∃ W : World, W = w.alloc (.cells #[.int .u64 0, .int .u64 0, .int .u64 0, .int .u64 0] 24) := ⟨_, rfl⟩
    have hR : Blk wx w.heap.size 24 sum0.cells := by rw [hwx]; exact Blk.new _ _ _
    have hK : Keeps Non w wx := by rw [hwx]; exact (Keeps.refl _ _).alloc _
    rw [← hwx]
    have hA1 := hA.non hK
    have hT1 := hT.keep hK id
    have hblt := hR.lt
    obtain ⟨b, hb⟩ : ∃ b, b = w.heap.size := ⟨_, rfl⟩
    rw [← hb] at hR hblt ⊢
    have hbL : w.heap.size ≤ b := by omega
    have hAb : ∀ ad, A = some ad → bs ≠ [] → ad.block < b := fun ad e h => by
      obtain ⟨ad', e', h'⟩ := hA.lt (List.length_pos_iff.2 h)
      rw [e] at e'; injection e' with e'; subst e'; omega
    clear hwx hb hA hT
    refine (new_any wx).mono ?_
    rintro e w2 ⟨rfl, hB2, hK2⟩
    have hg2 := hK2.size
    obtain ⟨g, hg⟩ : ∃ g, g = wx.heap.size := ⟨_, rfl⟩
    rw [← hg] at hB2 ⊢
    have hgb : b < g := by omega
    have hgx : wx.heap.size ≤ g := by omega
    clear hg
    have hA2 := hA1.non hK2
    have hR2 := hR.non hK2
    have hKa := hK.non hK2
    go_wp2_with fail
    refine (add_any g rn0 (by decide) A c bs w2 hB2 hA2 hc hn (fun hp ad e h => by have := hAb ad e (List.length_pos_iff.1 hp); omega)).mono ?_
    rintro e w3 ⟨rfl, hB3, hK3⟩
    have hR3 := hR2.one hK3 (by omega)
    have hKb : Keeps Non w w3 := hKa.then hK3 (fun i hi e => absurd e (by show ¬ i = g; omega))
    go_wp2_with fail
    refine (value_any g _ (Rn.add_lt bs rn0 (by decide)) w3 hB3).mono ?_
    rintro e w4 ⟨rfl, hK4⟩
    have hRz := hR3.non hK4
    have hKz := hKb.non hK4
    clear hR hR2 hR3 hK hK2 hK3 hK4 hKa hKb hA1 hA2 hT1 hB2 hB3 hAb
    obtain ⟨S, hS⟩ : ∃ S, S = (rn0.add bs).value := ⟨_, rfl⟩
    have HF := Lib.hid (show ofP K 1 bs = (S, 0) by rw [hS]; unfold ofP; rw [if_pos rfl])
    rw [← hS]
    clear hS
    go_wp2_with ((with_reducible show wpList _ _ _ ({ dst := none, op := Op.store 24 _ _, type := _, pos := _, after := _, guard := _ } :: _) _ _); go_must (refine wpList_store_blk rfl 24 (.tmp 4) (.tmp 15) rfl b S.cells rfl rfl 24 _ hRz (by kernel_rfl) rfl (by kernel_rfl) ?_); intro w7 hR8 hK8; have hK9 : Keeps Non w w7 := hKz.then hK8 (fun i hi e => absurd e (by show ¬ i = b; omega)); clear hRz hKz hK8)
    refine bodyPost_ret (results_cell_tmp (ty := 24) rfl _ b 24 _ _ rfl hR8 Tryd.underlying24 rfl (by kernel_rfl)) rfl ⟨?_, hK9⟩
    rw [HF.out]
    rfl
  · by_cases h2 : kind = 2
    · subst h2
      go_enter Tryd.func9, Tryd.ntmps9
      go_wp2_with fail
      obtain ⟨wx, hwx⟩ : ∃ W : World, W = w.alloc (.cells #[.int .u64 0, .int .u64 0, .int .u64 0, .int .u64 0] 24) := ⟨_, rfl⟩
      have hR : Blk wx w.heap.size 24 sum0.cells := by rw [hwx]; exact Blk.new _ _ _
      have hK : Keeps Non w wx := by rw [hwx]; exact (Keeps.refl _ _).alloc _
      rw [← hwx]
      have hA1 := hA.non hK
      have hT1 := hT.keep hK id
      have hblt := hR.lt
      obtain ⟨b, hb⟩ : ∃ b, b = w.heap.size := ⟨_, rfl⟩
      rw [← hb] at hR hblt ⊢
      have hbL : w.heap.size ≤ b := by omega
      have hAb : ∀ ad, A = some ad → bs ≠ [] → ad.block < b := fun ad e h => by
        obtain ⟨ad', e', h'⟩ := hA.lt (List.length_pos_iff.2 h)
        rw [e] at e'; injection e' with e'; subst e'; omega
      clear hwx hb hA hT
      refine (sha_any K hKl A c bs wx hA1 hn hT1).mono ?_
      rintro e w2 ⟨rfl, hK2⟩
      have hRz := hR.non hK2
      have hKz := hK.non hK2
      clear hR hK hK2 hA1 hT1 hAb
      obtain ⟨S, hS⟩ : ∃ S, S = shaP K bs := ⟨_, rfl⟩
      have HF := Lib.hid (show ofP K 2 bs = (S, 0) by rw [hS]; unfold ofP; rw [if_neg (by decide), if_pos rfl])
      rw [← hS]
      clear hS
      go_wp2_with ((with_reducible show wpList _ _ _ ({ dst := none, op := Op.store 24 _ _, type := _, pos := _, after := _, guard := _ } :: _) _ _); go_must (refine wpList_store_blk rfl 24 (.tmp 4) (.tmp 19) rfl b S.cells rfl rfl 24 _ hRz (by kernel_rfl) rfl (by kernel_rfl) ?_); intro w7 hR8 hK8; have hK9 : Keeps Non w w7 := hKz.then hK8 (fun i hi e => absurd e (by show ¬ i = b; omega)); clear hRz hKz hK8)
      refine bodyPost_ret (results_cell_tmp (ty := 24) rfl _ b 24 _ _ rfl hR8 Tryd.underlying24 rfl (by kernel_rfl)) rfl ⟨?_, hK9⟩
      rw [HF.out]
      rfl
    · have hk1 : (kind == 1) = false := by simpa using h1
      have hk2 : (kind == 2) = false := by simpa using h2
      go_enter Tryd.func9, Tryd.ntmps9
      go_wp2_with fail
      obtain ⟨wx, hwx⟩ : ∃ W : World, W = w.alloc (.cells #[.int .u64 0, .int .u64 0, .int .u64 0, .int .u64 0] 24) := ⟨_, rfl⟩
      have hR : Blk wx w.heap.size 24 sum0.cells := by rw [hwx]; exact Blk.new _ _ _
      have hK : Keeps Non w wx := by rw [hwx]; exact (Keeps.refl _ _).alloc _
      rw [← hwx]
      refine bodyPost_ret (results_cell_tmp (ty := 24) rfl _ w.heap.size 24 _ _ rfl hR Tryd.underlying24 rfl (by kernel_rfl)) rfl ⟨?_, hK⟩
      unfold ofP
      rw [if_neg h1, if_neg h2]
      rfl

set_option maxRecDepth 100000 in
set_option maxHeartbeats 1000000 in
theorem check_any (K : List (BitVec 32)) (hKl : K.length = 64) (kind : Int) (s : Sum4) (A : Option Addr) (c : Nat) (bs : List UInt8) (w : World) (hA : At w A bs) (hc : bs.length ≤ c) (hn : bs.length ≤ 140737488351240) (hT : Tab w 0 K) :
    Calls Tryd.prog 10 #[.int .i64 kind, s.v, .slice A bs.length c] w fun e w' => e = .returned (.bool ((ofP K kind bs).2 == 0 && s.eqv (ofP K kind bs).1)) ∧ Keeps Non w w' := by
  obtain ⟨o, ho⟩ : ∃ o, o = ofP K kind bs := ⟨_, rfl⟩
  have HC := fun W h1 h2 => of_any K hKl kind A c bs W h1 hc hn h2
  rw [← ho] at HC ⊢
  have HCh := Lib.hid HC
  clear HC ho
  obtain ⟨SA, SB, SC, SD⟩ := s
  obtain ⟨⟨TA, TB, TC, TD⟩, er⟩ := o
  rw [show (⟨SA, SB, SC, SD⟩ : Sum4).v = .agg #[.int .u64 (v64 SA), .int .u64 (v64 SB), .int .u64 (v64 SC), .int .u64 (v64 SD)] from rfl]
  go_enter Tryd.func10, Tryd.ntmps10
  go_wp2_with fail
  obtain ⟨wx, hwx⟩ : ∃ W : World, W = w.alloc (.cells #[.int .u64 (v64 SA), .int .u64 (v64 SB), .int .u64 (v64 SC), .int .u64 (v64 SD)] 24) := ⟨_, rfl⟩
  have hR : Blk wx w.heap.size 24 #[.int .u64 (v64 SA), .int .u64 (v64 SB), .int .u64 (v64 SC), .int .u64 (v64 SD)] := by rw [hwx]; exact Blk.new _ _ _
  have hK : Keeps Non w wx := by rw [hwx]; exact (Keeps.refl _ _).alloc _
  rw [← hwx]
  have hA1 := hA.non hK
  have hT1 := hT.keep hK id
  obtain ⟨b, hb⟩ : ∃ b, b = w.heap.size := ⟨_, rfl⟩
  rw [← hb] at hR ⊢
  clear hwx hb hA hT
  refine (HCh.out wx hA1 hT1).mono ?_
  rintro e w2 ⟨rfl, hK2⟩
  have hR2 := hR.non hK2
  have hK3 := hK.non hK2
  have hb2 := hR2.lt
  clear hR hK hK2 hA1 hT1
  have d0 := hR2.cell 0
  have d1 := hR2.cell 1
  have d2 := hR2.cell 2
  have d3 := hR2.cell 3
  simp only [Sum4.v, sv]
  by_cases her : er = 0
  · subst her
    go_wp2_with fail
    all_goals
      go_ret
      refine ⟨?_, hK3.alloc _⟩
      congr 2
      simp [Sum4.eqv, *]
  · have hk0 : (er == 0) = false := by simpa using her
    go_wp2_with fail
    go_ret
    refine ⟨?_, hK3.alloc _⟩
    congr 2
    simp [Sum4.eqv, hk0]
end Go.Proofs.YtbkhfemoogcpkaaDoor
