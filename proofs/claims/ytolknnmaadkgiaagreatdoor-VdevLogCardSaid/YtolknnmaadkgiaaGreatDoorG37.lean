/- A disk more, and where the power's row of disks lies then. Disks on both sides made one by one: what holds between two. -/
import Derived.Test.YtolknnmaadkgiaaGreatDoorG10
import Derived.Test.YtolknnmaadkgiaaGreatDoorG36
set_option linter.unusedVariables false
set_option linter.unusedSimpArgs false
namespace Go.Proofs.YtolknnmaadkgiaaGreatDoor
set_option maxRecDepth 100000
open Go.RowKit Go.Uc
set_option maxHeartbeats 4000000 in
theorem new24_own {w0 w : World} {p m : Nat} {dv wv : Sl} {P : Pow} {K : Nat → Kb} {S : Nat → Dsk} (h : Gm w0 w p dv wv P m K S) (n : Nat) (h1 : 1 ≤ n) (h2 : n ≤ 8192) (hm : m ≤ 1000) (hl : -1 ≤ P.left ∧ P.left ≤ 9223372036854775807) :
   Calls Tryz.prog 14 #[.pointer (some ⟨p, 0, none⟩), .int .i64 (n : Int)] w fun e w' => ∃ (k : Kb) (dv' : Sl), e = .returned (.tuple #[.pointer (some ⟨k.d, 0, none⟩), .int .i64 0]) ∧ Gm w0 w' p dv' wv P (m + 1) (fun i => if i = m then k else { K i with dv := dv' }) (fun i => if i = m then Dsk.fresh k.d n P else S i) ∧ (∀ q ∈ own dv'.v, q ∈ own dv.v ∨ w.heap.size ≤ q) ∧ w.heap.size ≤ k.d ∧ Keeps (fun g => g = p ∨ g ∈ own dv.v) w w' := by
 obtain ⟨z, hp⟩ := h.pb
 have hdn := h.dn
 have hrow := h.row
 obtain ⟨dA, dn, dc⟩ := dv
 simp only at hdn
 replace hdn := hdn.symm
 subst hdn
 obtain ⟨N, hN⟩ : ∃ N : Nat, N = 128 * n := ⟨_, rfl⟩
 have hmk := made_bytes N (by omega)
 have d1 : ¬ (n : Int) < 1 := by omega
 have d2 : ¬ (8192 : Int) < (n : Int) := by omega
 go_enter Tryz.func14, Tryz.ntmps14
 go_upto_region 3 with fail
 have hw1 : IntKind.i64.wrap ((n : Int) * 128) = (N : Int) := by rw [IntKind.wrap_i64]; omega
 have HN := Lib.hid hN
 clear hN
 go_region
 all_goals
   go_upto_region 4 with fail
   first
     | (obtain ⟨w3, hw3⟩ : ∃ V : World, V = (((w.alloc (.cells (pc (zeros N)) 5)).alloc (.cells (pc (zeros N)) 5)).alloc (.cells #[.pointer (some ⟨p, 0, none⟩), .slice (some ⟨w.heap.size, 0, none⟩) N N, .slice (some ⟨w.heap.size + 1, 0, none⟩) N N, .bool false] 110)).drew := ⟨_, rfl⟩; rw [← hw3]; obtain ⟨pl, nw, h3⟩ : ∃ pl nw, Blk w3 pl 5 (pc (zeros N)) ∧ Blk w3 nw 5 (pc (zeros N)) ∧ pl ≠ nw ∧ w.heap.size ≤ pl ∧ w.heap.size ≤ nw ∧ Blk w3 (w.heap.size + 1 + 1) 110 #[.pointer (some ⟨p, 0, none⟩), .slice (some ⟨pl, 0, none⟩) N N, .slice (some ⟨nw, 0, none⟩) N N, .bool false] ∧ Keeps Non w w3 := (by rw [hw3]; obtain ⟨hA, hB, hD, hK⟩ := three_new w (pc (zeros N)) _; exact ⟨_, _, hA, hB, by omega, by omega, by omega, hD, hK⟩); clear hw3)
     | (obtain ⟨w3, hw3⟩ : ∃ V : World, V = (((w.alloc (.cells (pc (zeros N)) 5)).alloc (.cells (pc (zeros N)) 5)).alloc (.cells #[.pointer (some ⟨p, 0, none⟩), .slice (some ⟨w.heap.size + 1, 0, none⟩) N N, .slice (some ⟨w.heap.size, 0, none⟩) N N, .bool false] 110)).drew := ⟨_, rfl⟩; rw [← hw3]; obtain ⟨pl, nw, h3⟩ : ∃ pl nw, Blk w3 pl 5 (pc (zeros N)) ∧ Blk w3 nw 5 (pc (zeros N)) ∧ pl ≠ nw ∧ w.heap.size ≤ pl ∧ w.heap.size ≤ nw ∧ Blk w3 (w.heap.size + 1 + 1) 110 #[.pointer (some ⟨p, 0, none⟩), .slice (some ⟨pl, 0, none⟩) N N, .slice (some ⟨nw, 0, none⟩) N N, .bool false] ∧ Keeps Non w w3 := (by rw [hw3]; obtain ⟨hA, hB, hD, hK⟩ := three_new w (pc (zeros N)) _; exact ⟨_, _, hB, hA, by omega, by omega, by omega, hD, hK⟩); clear hw3)
   obtain ⟨hpl, hnw, hne, hplw, hnww, hdk, hK3⟩ := h3
   obtain ⟨d, hd⟩ : ∃ z, z = w.heap.size + 1 + 1 := ⟨_, rfl⟩
   rw [← hd] at hdk ⊢
   have hdw : w.heap.size ≤ d := by omega
   clear hd
   have hp3 := hp.non hK3
   have p4 : w3.cell? ⟨p, 4, none⟩ = some (.slice dA m dc) := hp3.cell 4
   have ka := (Keeps.refl Non w3).alloc (.cells #[.pointer (some ⟨d, 0, none⟩)] 49)
   have hpa := hp3.non ka
   have hAt : Ats (w3.alloc (.cells #[.pointer (some ⟨d, 0, none⟩)] 49)) (some ⟨w3.heap.size, 0, none⟩) ([d].flatMap encP) := Ats.lit w3 _ 49 _ rfl
   obtain ⟨XS, hXS⟩ : ∃ XS, XS = (List.range m).map fun i => (K i).d := ⟨_, rfl⟩
   have hXl : XS.length = m := by rw [hXS]; simp
   have hrow' : RowP w 49 1 encP (.slice dA m dc) XS := by rw [hXS]; exact hrow
   have hra := (hrow'.non hK3).non ka
   have HXS := Lib.hid hXS
   have HXL := Lib.hid hXl
   clear hXS hrow
   have HB : Hid (XS.length + [d].length ≤ maxLen ∧ (XS.length + [d].length) * 8 ≤ 140737488355328) := Lib.hid (by rw [HXL.out]; refine ⟨?_, ?_⟩; unfold maxLen; simp; omega; simp; omega)
   clear hXl
   have hpo3 : p ∉ own (.slice dA m dc) := own_type hrow' hp (by decide)
   go_wp2_with (at_builtin; go_must (refine wpList_append_row (o := ⟨some 33, _, _, _, _, _⟩) rfl (.tmp 30) (.tmp 32) 35 rfl 49 1 encP _ 8 Tryz.underlying35 info35 rfl (by decide) encP_len encP_one (.slice dA m dc) XS (by kernel_rfl) hra (some ⟨w3.heap.size, 0, none⟩) 1 1 [d] (by kernel_rfl) rfl hAt HB.out.1 HB.out.2 ?_); intro u8 w8 hO8 hK8 hat; obtain ⟨⟨A8, n8, c8⟩, hue, h8⟩ := RowP.sl hO8; subst hue; have hB8 := hpa.keep hK8 hpo3; have z8 := hB8.cell 4; have f8 := hB8.frozen 4)
   go_ret2
   have hn8 : n8 = m + 1 := by rw [show n8 = (XS ++ [d]).length from h8, List.length_append, HXL.out]; rfl
   subst hn8
   rw [show XS.length = m from HXL.out]
   obtain rfl := HN.out
   have hk9 : Keeps (Only p) w8 (w8.setCell ⟨p, 4, none⟩ (.slice A8 (m + 1) c8)) := (Keeps.refl (Only p) _).set (p := ⟨p, 4, none⟩) rfl _
   have hka : Keeps (fun g => g = p ∨ g ∈ own (.slice dA m dc)) w w8 := ((hK3.non ka).of_non).trans (hK8.mono fun k e => .inr e)
   have hkz : Keeps (fun g => g = p ∨ g ∈ own (.slice dA m dc)) w (w8.setCell ⟨p, 4, none⟩ (.slice A8 (m + 1) c8)) := hka.trans (hk9.mono fun k e => .inl e)
   have hnr : ∀ {b t : Nat} {cs : Array Value}, Blk w b t cs → t ≠ 104 → t ≠ 49 → ¬ (b = p ∨ b ∈ own (.slice dA m dc)) := fun hb h1 h2 e => by
     rcases e with e | e
     · exact hb.ne hp h1 e
     · exact own_type hrow' hb h2 e
   have hkp : ∀ {b t : Nat} {cs : Array Value}, Blk w b t cs → t ≠ 104 → t ≠ 49 → Blk (w8.setCell ⟨p, 4, none⟩ (.slice A8 (m + 1) c8)) b t cs := fun hb h1 h2 => hb.keep hkz (fun e => hnr hb h1 h2 e)
   have hnew : ∀ {b t : Nat} {cs : Array Value}, Blk w3 b t cs → w.heap.size ≤ b → Blk (w8.setCell ⟨p, 4, none⟩ (.slice A8 (m + 1) c8)) b t cs := fun {b t cs} hb hl => by
     refine ((hb.non ka).keep hK8 fun e => ?_).one hk9 (by have := hp.lt; omega)
     have := RowP.lt hrow' _ e
     omega
   have hdk9 := hnew hdk hdw
   have hpl9 := hnew hpl hplw
   have hnw9 := hnew hnw hnww
   have hz0 := h.keep.size
   have hO9 : RowP (w8.setCell ⟨p, 4, none⟩ (.slice A8 (m + 1) c8)) 49 1 encP (.slice A8 (m + 1) c8) (XS ++ [d]) := hO8.keep hk9 fun q hq e => by unfold Only at e; exact own_type hO8 hB8 (by decide) (e ▸ hq)
   have hwt9 : RowP (w8.setCell ⟨p, 4, none⟩ (.slice A8 (m + 1) c8)) 107 130 encW wv.v P.waits := h.wt.keep hkz fun q hq e => by
     rcases h.wt.form with ⟨e1, -⟩ | ⟨g, cap, cur, e1, hB, -⟩
     · rw [e1] at hq; exact List.not_mem_nil hq
     · rw [e1, own_slice, List.mem_singleton] at hq
       subst hq
       exact hnr hB (by decide) (by decide) e
   have hkn : Keeps Non w0 (w8.setCell ⟨p, 4, none⟩ (.slice A8 (m + 1) c8)) := h.keep.then hkz fun i hi e => by
     rcases e with e | e
     · have := h.new.1; omega
     · have := h.new.2.1 i e; omega
   have hdv9 : ∀ q ∈ own (.slice A8 (m + 1) c8), w0.heap.size ≤ q := fun q hq => by
     rw [mem_own] at hq
     rcases hat with e | e
     · exact h.new.2.1 q (mem_own.2 (e.symm.trans hq))
     · have e2 := e.symm.trans hq
       injection e2 with e2
       subst e2
       have := hK3.size
       simp
       omega
   have hdvo : ∀ q ∈ own (.slice A8 (m + 1) c8), q ∈ own (.slice dA m dc) ∨ w.heap.size ≤ q := fun q hq => by
     rw [mem_own] at hq
     rcases hat with e | e
     · exact .inl (mem_own.2 (e.symm.trans hq))
     · have e2 := e.symm.trans hq
       injection e2 with e2
       subst e2
       have := hK3.size
       right
       simp
       omega
   have hpb9 := hB8.set 4 (.slice A8 (m + 1) c8)
   refine ⟨⟨p, d, pl, nw, ⟨A8, m + 1, c8⟩⟩, rfl, ⟨A8, m + 1, c8⟩, ⟨⟨z, hpb9⟩, fun i hi => ?_, fun i hi => ?_, fun i hi => ?_, fun i j hi hj hij => ?_, ?_, rfl, hwt9, h.wn, fun x hx => ?_, ⟨h.new.1, hdv9, h.new.2.2⟩, hkn⟩, hdvo, hdw, hkz⟩
   · by_cases e : i = m
     · subst e
       simp only [if_true]
       refine ⟨⟨h1, h2, by simp [Dsk.fresh, zeros_length], by simp [Dsk.fresh, zeros_length], hl.1, hl.2⟩, ⟨z, hpb9⟩, hdk9, hpl9, hnw9, rfl, fun x hx => ?_, hwt9, h.wn, hne, ⟨h.new.1, by show w0.heap.size ≤ d; omega, by show w0.heap.size ≤ pl; omega, by show w0.heap.size ≤ nw; omega, h.new.2.2⟩, hkn⟩
       obtain ⟨j, hj, e, -⟩ := h.at_ x hx
       rw [e]
       exact ⟨_, hkp (h.dm j hj).dk (by decide) (by decide)⟩
     · simp only [if_neg e]
       have hi' : i < m := by omega
       have hd := h.dm i hi'
       obtain ⟨n1, n2, n3, n4, n5⟩ := hd.new
       have hpo := h.po i hi'
       refine ⟨hd.ok, ⟨z, ?_⟩, ?_, hkp hd.pl (by decide) (by decide), hkp hd.nw (by decide) (by decide), hd.hd, fun x hx => ?_, ?_, ?_, hd.ne, ⟨n1, n2, n3, n4, n5⟩, hkn⟩
       · have e1 : (S i).left = P.left := by rw [← hpo]; rfl
         have e2 : (S i).off = P.off := by rw [← hpo]; rfl
         show Blk _ (K i).p 104 #[_, .int .i64 (S i).left, .bool (S i).off, _, _]
         rw [e1, e2, (h.kp i hi').1]
         exact hpb9
       · exact hkp hd.dk (by decide) (by decide)
       · obtain ⟨cs, hc⟩ := hd.od x hx
         exact ⟨cs, hkp hc (by decide) (by decide)⟩
       · have e1 : (S i).waits = P.waits := by rw [← hpo]; rfl
         rw [e1]; exact hwt9
       · exact hd.wn
   · by_cases e : i = m
     · subst e; simp only [if_true]; exact ⟨trivial, trivial⟩
     · simp only [if_neg e]; exact ⟨(h.kp i (by omega)).1, trivial⟩
   · by_cases e : i = m
     · subst e; simp only [if_true]; rfl
     · simp only [if_neg e]; exact h.po i (by omega)
   · by_cases e : i = m
     · subst e
       have hj' : j < i := by omega
       have hd := h.dm j hj'
       have b1 := hd.dk.lt
       have b2 := hd.pl.lt
       have b3 := hd.nw.lt
       simp only [if_true, if_neg (Ne.symm hij)]
       exact ⟨by omega, by omega, by omega, by omega, by omega⟩
     · by_cases e' : j = m
       · subst e'
         have hi' : i < j := by omega
         have hd := h.dm i hi'
         have b1 := hd.dk.lt
         have b2 := hd.pl.lt
         have b3 := hd.nw.lt
         simp only [if_true, if_neg e]
         exact ⟨by omega, by omega, by omega, by omega, by omega⟩
       · simp only [if_neg e, if_neg e']
         exact h.ap i j (by omega) (by omega) hij
   · have e : ((List.range (m + 1)).map fun i => (if i = m then (⟨p, d, pl, nw, ⟨A8, m + 1, c8⟩⟩ : Kb) else { K i with dv := ⟨A8, m + 1, c8⟩ }).d) = XS ++ [d] := by
       rw [List.range_succ, List.map_append, HXS.out]
       congr 1
       · apply List.map_congr_left
         intro i hi
         rw [List.mem_range] at hi
         rw [if_neg (by omega)]
       · simp
     rw [e]
     exact hO9
   · obtain ⟨j, hj, a, b⟩ := h.at_ x hx
     refine ⟨j, by omega, ?_, ?_⟩
     · simp only [if_neg (show j ≠ m by omega)]; exact a
     · simp only [if_neg (show j ≠ m by omega)]; exact b
end Go.Proofs.YtolknnmaadkgiaaGreatDoor
namespace Go.Proofs.YtolknnmaadkgiaaGreatDoor
set_option maxRecDepth 100000
open Go.RowKit Go.Uc Go.Shelf
theorem row_keepT {α : Type} {S : Nat → Prop} {w w' : World} {e : TypeId} {kk : Nat} {enc : α → List Value} {v : Value} {xs : List α} (hr : RowP w e kk enc v xs) (hk : Keeps S w w') (hS : ∀ {g : Nat} {cs : Array Value}, Blk w g e cs → ¬ S g) : RowP w' e kk enc v xs := hr.keep hk fun q hq => by
 rcases hr.form with ⟨e1, -⟩ | ⟨g, cap, cur, e1, hB, -⟩
 · rw [e1] at hq; exact (List.not_mem_nil hq).elim
 · rw [e1, own_slice, List.mem_singleton] at hq
   subst hq
   exact hS hB
section
variable {w0 w w' : World} {p q m n : Nat} {dv wv ddv : Sl} {P : Pow} {K : Nat → Kb} {S : Nat → Dsk} {D : Nat → Nat} {V : Nat → Sl}
theorem Dg.keepS {U : Nat → Prop} (h : Dg w0 w q dv m n D V) (hk : Keeps U w w') (hU : ∀ {g t : Nat} {cs : Array Value}, Blk w g t cs → t = 139 ∨ t = 143 ∨ t = 22 ∨ t = 140 → ¬ U g) (hN : ∀ g, U g → w0.heap.size ≤ g) : Dg w0 w' q dv m n D V :=
 ⟨h.pb.imp fun _ i => i.keep hk (hU i (by decide)), row_keepT h.row hk (fun hb => hU hb (by decide)), h.dn, fun i hi => (h.dk i hi).keep hk (hU (h.dk i hi) (by decide)), fun i hi => (h.pl i hi).imp fun _ j => ⟨row_keepT j.1 hk (fun hb => hU hb (by decide)), j.2⟩, h.ap, h.new, h.keep.then hk fun i hi e => by have := hN i e; omega⟩
theorem Dg.keepT {U : Nat → Prop} (h : Dg w0 w q dv m n D V) (hk : Keeps U w w') (hU : ∀ {g t : Nat} {cs : Array Value}, Blk w g t cs → t = 139 ∨ t = 143 ∨ t = 22 ∨ t = 140 → ¬ U g) (hN : Keeps Non w0 w') : Dg w0 w' q dv m n D V :=
 ⟨h.pb.imp fun _ i => i.keep hk (hU i (by decide)), row_keepT h.row hk (fun hb => hU hb (by decide)), h.dn, fun i hi => (h.dk i hi).keep hk (hU (h.dk i hi) (by decide)), fun i hi => (h.pl i hi).imp fun _ j => ⟨row_keepT j.1 hk (fun hb => hU hb (by decide)), j.2⟩, h.ap, h.new, hN⟩
theorem Dm.keepS {U : Nat → Prop} {k : Kb} {s : Dsk} (h : Dm w0 w k s wv) (hk : Keeps U w w') (hU : ∀ {g t : Nat} {cs : Array Value}, Blk w g t cs → t = 104 ∨ t = 110 ∨ t = 5 ∨ t = 107 → ¬ U g) (hN : ∀ g, U g → w0.heap.size ≤ g) : Dm w0 w' k s wv :=
 ⟨h.ok, h.pw.imp fun _ i => i.keep hk (hU i (by decide)), h.dk.keep hk (hU h.dk (by decide)), h.pl.keep hk (hU h.pl (by decide)), h.nw.keep hk (hU h.nw (by decide)), h.hd, fun x hx => (h.od x hx).imp fun _ i => i.keep hk (hU i (by decide)), row_keepT h.wt hk (fun hb => hU hb (by decide)), h.wn, h.ne, h.new, h.keep.then hk fun i hi e => by have := hN i e; omega⟩
theorem Gm.keepS {U : Nat → Prop} (h : Gm w0 w p dv wv P m K S) (hk : Keeps U w w') (hU : ∀ {g t : Nat} {cs : Array Value}, Blk w g t cs → t = 104 ∨ t = 110 ∨ t = 5 ∨ t = 107 → ¬ U g) (hd : ∀ g ∈ own dv.v, ¬ U g) (hN : ∀ g, U g → w0.heap.size ≤ g) : Gm w0 w' p dv wv P m K S :=
 ⟨h.pb.imp fun _ i => i.keep hk (hU i (by decide)), fun i hi => (h.dm i hi).keepS hk hU hN, h.kp, h.po, h.ap, h.row.keep hk hd, h.dn, row_keepT h.wt hk (fun hb => hU hb (by decide)), h.wn, h.at_, h.new, h.keep.then hk fun i hi e => by have := hN i e; omega⟩
theorem Gs.keepS {U : Nat → Prop} {T : St} (h : Gs w0 w p dv m n K T) (hk : Keeps U w w') (hU : ∀ {g t : Nat} {cs : Array Value}, Blk w g t cs → t = 104 ∨ t = 110 ∨ t = 5 ∨ t = 107 → ¬ U g) (hd : ∀ g ∈ own dv.v, ¬ U g) (hN : ∀ g, U g → w0.heap.size ≤ g) : Gs w0 w' p dv m n K T := by
 obtain ⟨wv, S, hG, hS⟩ := h
 exact ⟨wv, S, hG.keepS hk hU hd hN, hS⟩
def P0 : Pow := ⟨[], -1, false⟩
structure Be (w wr : World) (p q x j : Nat) (dv gs ddv : Sl) (K : Nat → Kb) (S : Nat → Dsk) (D : Nat → Nat) (V : Nat → Sl) : Prop where
 gm : Gm w wr p dv ⟨none, 0, 0⟩ P0 j K S
 sf : ∀ i, i < j → S i = Dsk.fresh (K i).d 324 P0
 dg : Dg w wr q ddv j 324 D V
 bx : Blk wr x 41 #[.pointer (some ⟨p, 0, none⟩), gs.v, .pointer none, .pointer (some ⟨q, 0, none⟩), .pointer none, .slice none 0 0]
 gr : RowP wr 49 1 encP gs.v ((List.range j).map fun i => (K i).d)
 gn : gs.n = j
 go : ∀ g ∈ own gs.v, w.heap.size ≤ g ∧ g ∉ own dv.v
 xw : w.heap.size ≤ x
 kp : Keeps Non w wr
end
section
variable {w wr w' : World} {p q x j : Nat} {dv gs ddv : Sl} {K : Nat → Kb} {S : Nat → Dsk} {D : Nat → Nat} {V : Nat → Sl}
theorem Be.non (h : Be w wr p q x j dv gs ddv K S D V) (hk : Keeps Non wr w') : Be w w' p q x j dv gs ddv K S D V :=
 ⟨h.gm.non hk, h.sf, h.dg.non hk, h.bx.non hk, h.gr.non hk, h.gn, h.go, h.xw, h.kp.non hk⟩
structure Bf (w wr : World) (p q x j : Nat) (dv gs ddv : Sl) (K : Nat → Kb) (S : Nat → Dsk) (D : Nat → Nat) (V : Nat → Sl) (k : Kb) (gK : Nat → Kb) (jd : Nat) : Prop where
 gm : Gm w wr p dv ⟨none, 0, 0⟩ P0 (j + 1) K S
 sf : ∀ i, i < j + 1 → S i = Dsk.fresh (K i).d 324 P0
 dg : Dg w wr q ddv jd 324 D V
 bx : Blk wr x 41 #[.pointer (some ⟨p, 0, none⟩), gs.v, .pointer none, .pointer (some ⟨q, 0, none⟩), .pointer none, .slice none 0 0]
 gr : RowP wr 49 1 encP gs.v ((List.range j).map fun i => (gK i).d)
 ge : ∀ i, i < j → (gK i).d = (K i).d
 kd : (K j).d = k.d
 gn : gs.n = j
 go : ∀ g ∈ own gs.v, w.heap.size ≤ g ∧ g ∉ own dv.v
 xw : w.heap.size ≤ x
 kp : Keeps Non w wr
theorem Bf.non {jd : Nat} {k : Kb} {gK : Nat → Kb} (h : Bf w wr p q x j dv gs ddv K S D V k gK jd) (hk : Keeps Non wr w') : Bf w w' p q x j dv gs ddv K S D V k gK jd :=
 ⟨h.gm.non hk, h.sf, h.dg.non hk, h.bx.non hk, h.gr.non hk, h.ge, h.kd, h.gn, h.go, h.xw, h.kp.non hk⟩
theorem Be.more (h : Be w wr p q x j dv gs ddv K S D V) (k : Kb) (dv' : Sl) (hG : Gm w w' p dv' ⟨none, 0, 0⟩ P0 (j + 1) (fun i => if i = j then k else { K i with dv := dv' }) (fun i => if i = j then Dsk.fresh k.d 324 P0 else S i)) (hd : ∀ g ∈ own dv'.v, g ∈ own dv.v ∨ wr.heap.size ≤ g) (hk : Keeps (fun g => g = p ∨ g ∈ own dv.v) wr w') :
   Bf w w' p q x j dv' gs ddv (fun i => if i = j then k else { K i with dv := dv' }) (fun i => if i = j then Dsk.fresh k.d 324 P0 else S i) D V k K j := by
 obtain ⟨z, hp⟩ := h.gm.pb
 have hf : ∀ {g t : Nat} {cs : Array Value}, Blk wr g t cs → t ≠ 104 → t ≠ 49 → ¬ (g = p ∨ g ∈ own dv.v) := fun hb a b e => by
   rcases e with e | e
   · exact hb.ne hp a e
   · exact own_type h.gm.row hb b e
 have hN : ∀ g, (g = p ∨ g ∈ own dv.v) → w.heap.size ≤ g := fun g e => by
   rcases e with e | e
   · rw [e]; exact h.gm.new.1
   · exact h.gm.new.2.1 g e
 refine ⟨hG, fun i hi => ?_, h.dg.keepS hk (fun hb ht => hf hb (by rintro rfl; omega) (by rintro rfl; omega)) hN, h.bx.keep hk (hf h.bx (by decide) (by decide)), h.gr.keep hk (fun g hg e => ?_), fun i hi => ?_, ?_, h.gn, fun g hg => ⟨(h.go g hg).1, fun e => ?_⟩, h.xw, h.kp.then hk fun i hi e => by have := hN i e; omega⟩
 · by_cases e : i = j
   · subst e; simp
   · simp only [if_neg e]; exact h.sf i (by omega)
 · rcases e with e | e
   · subst e; exact own_type h.gr hp (by decide) hg
   · exact (h.go g hg).2 e
 · simp only [if_neg (show i ≠ j by omega)]
 · simp
 · rcases hd g e with e | e
   · exact (h.go g hg).2 e
   · have := RowP.lt h.gr g hg; omega
theorem Bf.more {k : Kb} {gK : Nat → Kb} {d : Nat} {v ddv' : Sl} (h : Bf w wr p q x j dv gs ddv K S D V k gK j) (hD : Dg w w' q ddv' (j + 1) 324 (fun i => if i = j then d else D i) (fun i => if i = j then v else V i)) (hk : Keeps (fun g => g = q ∨ g ∈ own ddv.v) wr w') :
   Bf w w' p q x j dv gs ddv' K S (fun i => if i = j then d else D i) (fun i => if i = j then v else V i) k gK (j + 1) := by
 obtain ⟨z, hp⟩ := h.dg.pb
 have hf : ∀ {g t : Nat} {cs : Array Value}, Blk wr g t cs → t ≠ 139 → t ≠ 140 → ¬ (g = q ∨ g ∈ own ddv.v) := fun hb a b e => by
   rcases e with e | e
   · exact hb.ne hp a e
   · exact own_type h.dg.row hb b e
 have hN : ∀ g, (g = q ∨ g ∈ own ddv.v) → w.heap.size ≤ g := fun g e => by
   rcases e with e | e
   · rw [e]; exact h.dg.new.1
   · exact h.dg.new.2.1 g e
 have hdv : ∀ g ∈ own dv.v, ¬ (g = q ∨ g ∈ own ddv.v) := fun g hg => by
   rcases h.gm.row.form with ⟨e1, -⟩ | ⟨g', cap, cur, e1, hB, -⟩
   · rw [e1] at hg; exact (List.not_mem_nil hg).elim
   · rw [e1, own_slice, List.mem_singleton] at hg
     subst hg
     exact hf hB (by decide) (by decide)
 exact ⟨h.gm.keepS hk (fun hb ht => hf hb (by rintro rfl; omega) (by rintro rfl; omega)) hdv hN, h.sf, hD, h.bx.keep hk (hf h.bx (by decide) (by decide)), row_keepT h.gr hk (fun hb => hf hb (by decide) (by decide)), h.ge, h.kd, h.gn, h.go, h.xw, h.kp.then hk fun i hi e => by have := hN i e; omega⟩
theorem Bf.row {k : Kb} {gK : Nat → Kb} {jd : Nat} (h : Bf w wr p q x j dv gs ddv K S D V k gK jd) : (List.range j).map (fun i => (gK i).d) = (List.range j).map fun i => (K i).d :=
 List.map_congr_left fun i hi => h.ge i (List.mem_range.1 hi)
theorem Bf.done {k : Kb} {gK : Nat → Kb} {A8 : Option Addr} {c8 : Nat} {w8 : World} (h : Bf w wr p q x j dv gs ddv K S D V k gK (j + 1)) (hO : RowP w8 49 1 encP (.slice A8 (j + 1) c8) ((List.range j).map (fun i => (gK i).d) ++ [k.d])) (hat : (Value.slice A8 (j + 1) c8).ownBlock = gs.v.ownBlock ∨ (Value.slice A8 (j + 1) c8).ownBlock = some wr.heap.size) (hk : Keeps (· ∈ own gs.v) wr w8) :
   Be w (w8.setCell ⟨x, 1, none⟩ (.slice A8 (j + 1) c8)) p q x (j + 1) dv ⟨A8, j + 1, c8⟩ ddv K S D V := by
 have hf : ∀ {g t : Nat} {cs : Array Value}, Blk wr g t cs → t ≠ 49 → ¬ g ∈ own gs.v := fun hb a e => own_type h.gr hb a e
 have hN : ∀ g, g ∈ own gs.v → w.heap.size ≤ g := fun g e => (h.go g e).1
 have hdv : ∀ g ∈ own dv.v, ¬ g ∈ own gs.v := fun g hg e => (h.go g e).2 hg
 have hB8 := h.bx.keep hk (hf h.bx (by decide))
 have k9 : Keeps (Only x) w8 (w8.setCell ⟨x, 1, none⟩ (.slice A8 (j + 1) c8)) := (Keeps.refl (Only x) w8).set (p := ⟨x, 1, none⟩) rfl _
 have hx9 : ∀ {g t : Nat} {cs : Array Value}, Blk w8 g t cs → t ≠ 41 → ¬ Only x g := fun hb a e => hb.ne hB8 a e
 have hN9 : ∀ g, Only x g → w.heap.size ≤ g := fun g e => by unfold Only at e; subst e; exact h.xw
 have hG8 := h.gm.keepS hk (fun hb ht => hf hb (by rintro rfl; omega)) hdv hN
 have hD8 := h.dg.keepS hk (fun hb ht => hf hb (by rintro rfl; omega)) hN
 have hd9 : ∀ g ∈ own dv.v, ¬ Only x g := fun g hg e => by unfold Only at e; subst e; exact own_type hG8.row hB8 (by decide) hg
 refine ⟨hG8.keepS k9 (fun hb ht => hx9 hb (by rintro rfl; omega)) hd9 hN9, h.sf, hD8.keepS k9 (fun hb ht => hx9 hb (by rintro rfl; omega)) hN9, hB8.set 1 _, ?_, rfl, fun g hg => ?_, h.xw, ?_⟩
 · have h9 := row_keepT hO k9 (fun hb => hx9 hb (by decide))
   have he : (List.range (j + 1)).map (fun i => (K i).d) = (List.range j).map (fun i => (gK i).d) ++ [k.d] := by
     rw [List.range_succ, List.map_append, h.row]
     simp [h.kd]
   rw [he]
   exact h9
 · rw [show ({ A := A8, n := j + 1, c := c8 } : Sl).v = .slice A8 (j + 1) c8 from rfl, mem_own] at hg
   rcases hat with e | e
   · exact h.go g (mem_own.2 (e.symm.trans hg))
   · have e2 := e.symm.trans hg
     injection e2 with e2
     subst e2
     exact ⟨h.kp.size, fun e => by have := RowP.lt h.gm.row _ e; omega⟩
 · exact (h.kp.then hk fun i hi e => by have := hN i e; omega).then k9 fun i hi e => by have := hN9 i e; omega
end
end Go.Proofs.YtolknnmaadkgiaaGreatDoor
