/- Put, plainly. -/
import Derived.Test.YtiieglfpmmhfiaaP3
namespace Go.Proofs.Ytiieglfpmmhfiaa
open Go.Uc

/-- What a name has. -/
def val (d : Dic) (n : List UInt8) : Option Int := getE (leafAt d (kOf d n)).l n
/-- Other entries of one leaf. -/
def setL (d : Dic) (k : Nat) (l : List Ent) : Dic := { d with leaves := d.leaves.set k ⟨(leafAt d k).depth, l⟩ }
theorem leafAt_setL (d : Dic) (k : Nat) (l : List Ent) (hk : k < d.leaves.length) (j : Nat) : leafAt (setL d k l) j = if j = k then ⟨(leafAt d k).depth, l⟩ else leafAt d j := by
  unfold leafAt setL
  show (d.leaves.set k _).getD j _ = _
  rw [List.getD_eq_getElem?_getD, List.getElem?_set]
  by_cases h : k = j
  · subst h; simp [hk, leafAt]
  · rw [if_neg h, if_neg (fun e => h e.symm), ← List.getD_eq_getElem?_getD]
theorem kOf_setL (d : Dic) (k : Nat) (l : List Ent) (n : List UInt8) : kOf (setL d k l) n = kOf d n := rfl
theorem setL_inv0 {d : Dic} (h : Inv0 d) (k : Nat) (hk : k < d.leaves.length) (l : List Ent) (hs : Srt l) (hf : fitE l = true) (ha : ∀ e ∈ l, GoodE e ∧ kOf d e.name = k) : Inv0 (setL d k l) := by
  have ho := h.ok
  have hl : (setL d k l).leaves.length = d.leaves.length := by simp [setL]
  have hmem : ∀ x ∈ (setL d k l).leaves, ∃ j, j < d.leaves.length ∧ leafAt (setL d k l) j = x := fun x hx => by
    obtain ⟨j, hj, rfl⟩ := List.getElem_of_mem hx
    exact ⟨j, by rw [← hl]; exact hj, leafAt_get hj⟩
  have hme : ∀ j, j < d.leaves.length → leafAt d j ∈ d.leaves := fun j hj => by rw [leafAt_get hj]; exact List.getElem_mem _
  have hdp : ∀ j, (leafAt (setL d k l) j).depth = (leafAt d j).depth := fun j => by
    rw [leafAt_setL _ _ _ hk]; split
    · rename_i e; rw [e]
    · rfl
  refine ⟨⟨ho.dep, ho.tab, ?_, by rw [hl]; exact ho.many, ?_, ?_, ?_⟩, ?_, ?_, ?_, ?_⟩
  · intro x hx; rw [hl]; exact ho.rng x hx
  · intro x hx
    obtain ⟨j, hj, rfl⟩ := hmem x hx
    rw [leafAt_setL _ _ _ hk]
    split
    · exact hs
    · exact ho.srt _ (hme j hj)
  · intro x hx
    obtain ⟨j, hj, rfl⟩ := hmem x hx
    rw [leafAt_setL _ _ _ hk]
    split
    · exact hf
    · exact ho.fit _ (hme j hj)
  · intro x hx
    obtain ⟨j, hj, rfl⟩ := hmem x hx
    rw [hdp]; exact ho.low _ (hme j hj)
  · intro j hj
    rw [hl] at hj
    rw [hdp]
    exact h.pre j hj
  · intro j hj e he
    rw [hl] at hj
    rw [kOf_setL]
    rw [leafAt_setL _ _ _ hk] at he
    split at he
    · rename_i e1; rw [e1]; exact (ha e he).2
    · exact h.at_ j hj e he
  · intro j hj e he
    rw [hl] at hj
    rw [leafAt_setL _ _ _ hk] at he
    split at he
    · exact (ha e he).1
    · exact h.good j hj e he
  · intro e; rw [hl]; exact h.sm e
theorem setL_inv {d : Dic} (h : Inv d) (k : Nat) (hk : k < d.leaves.length) (l : List Ent) (hs : Srt l) (hf : fitE l = true) (ha : ∀ e ∈ l, GoodE e ∧ kOf d e.name = k) : Inv (setL d k l) := by
  refine ⟨setL_inv0 h.toInv0 k hk l hs hf ha, ?_⟩
  obtain ⟨j, hj, e⟩ := h.deep
  refine ⟨j, by simp [setL]; exact hj, ?_⟩
  rw [leafAt_setL _ _ _ hk]
  split
  · rename_i e1; rw [← e1]; exact e
  · exact e
theorem mem_ins {l : List Ent} {e x : Ent} (h : x ∈ ins l e) : x = e ∨ x ∈ l := by
  unfold ins at h
  rcases List.mem_append.1 h with h | h
  · exact .inr (List.mem_filter.1 h).1
  · rcases List.mem_cons.1 h with h | h
    · exact .inl h
    · exact .inr (List.mem_filter.1 h).1
theorem leaf_good {d : Dic} (h : Inv0 d) (k : Nat) (hk : k < d.leaves.length) : ∀ e ∈ (leafAt d k).l, GoodE e ∧ kOf d e.name = k := fun e he => ⟨h.good k hk e he, h.at_ k hk e he⟩
theorem leaf_mem {d : Dic} {k : Nat} (hk : k < d.leaves.length) : leafAt d k ∈ d.leaves := by rw [leafAt_get hk]; exact List.getElem_mem _
theorem ins_inv {d : Dic} (h : Inv d) (e : Ent) (he : GoodE e) (hf : fitE (ins (leafAt d (kOf d e.name)).l e) = true) : Inv (setL d (kOf d e.name) (ins (leafAt d (kOf d e.name)).l e)) := by
  have hk := kOf_lt h.ok e.name
  refine setL_inv h _ hk _ (ins_srt (h.ok.srt _ (leaf_mem hk)) e) hf fun x hx => ?_
  rcases mem_ins hx with rfl | hx
  · exact ⟨he, rfl⟩
  · exact leaf_good h.toInv0 _ hk x hx
theorem getE_ins {l : List Ent} (_hs : Srt l) (e : Ent) (n : List UInt8) : getE (ins l e) n = if e.name = n then some e.val else getE l n := by
  unfold getE ins
  rw [List.find?_append, List.find?_cons]
  by_cases h : e.name = n
  · subst h
    have : (l.filter fun x => lt x.name e.name).find? (fun x => x.name == e.name) = none := by
      rw [List.find?_eq_none]
      intro x hx hh
      have h1 := (List.mem_filter.1 hx).2
      have h2 : x.name = e.name := by simpa using hh
      rw [h2, lt_irrefl] at h1; cases h1
    rw [this]
    simp
  · rw [if_neg h]
    have hen : (e.name == n) = false := by simp [h]
    rw [hen]
    simp only
    congr 1
    clear _hs
    induction l with
    | nil => rfl
    | cons x l ih =>
      by_cases hx : x.name = n
      · have h1 : lt x.name e.name = true ∨ lt e.name x.name = true := by
          cases h2 : lt x.name e.name
          · cases h3 : lt e.name x.name
            · exact absurd ((lt_tri _ _ h2 h3).symm.trans hx) h
            · exact .inr rfl
          · exact .inl rfl
        rcases h1 with h1 | h1
        · rw [List.filter_cons, if_pos h1, List.find?_cons, List.find?_cons, show (x.name == n) = true by simp [hx]]; rfl
        · have h2 := lt_asymm h1
          rw [List.filter_cons, if_neg (by simp [h2]), List.filter_cons, if_pos h1, List.find?_cons («as» := l), show (x.name == n) = true by simp [hx], List.find?_cons, show (x.name == n) = true by simp [hx]]
          have : (l.filter fun x => lt x.name e.name).find? (fun y => y.name == n) = none := by
            rw [List.find?_eq_none]
            intro y hy hh
            have h3 := (List.mem_filter.1 hy).2
            have h4 : y.name = n := by simpa using hh
            rw [h4, ← hx, h2] at h3; cases h3
          rw [this]; rfl
      · have hxn : (x.name == n) = false := by simp [hx]
        rw [List.find?_cons, hxn]
        simp only
        rw [← ih]
        congr 1
        · rw [List.filter_cons]; split
          · rw [List.find?_cons, hxn]
          · rfl
        · rw [List.filter_cons]; split
          · rw [List.find?_cons, hxn]
          · rfl
theorem val_setL {d : Dic} (k : Nat) (hk : k < d.leaves.length) (l : List Ent) (n : List UInt8) : val (setL d k l) n = if kOf d n = k then getE l n else val d n := by
  unfold val
  rw [kOf_setL, leafAt_setL _ _ _ hk]
  split <;> rfl
theorem val_ins {d : Dic} (h : Ok d) (e : Ent) (n : List UInt8) : val (setL d (kOf d e.name) (ins (leafAt d (kOf d e.name)).l e)) n = if e.name = n then some e.val else val d n := by
  have hk := kOf_lt h e.name
  rw [val_setL _ hk, getE_ins (h.srt _ (leaf_mem hk))]
  by_cases hn : e.name = n
  · subst hn; simp
  · rw [if_neg hn, if_neg hn]
    split
    · rename_i e1; unfold val; rw [e1]
    · rfl
theorem getE_filter (p : List UInt8 → Bool) (l : List Ent) (n : List UInt8) (hp : p n = true) : getE (l.filter fun e => p e.name) n = getE l n := by
  unfold getE
  congr 1
  induction l with
  | nil => rfl
  | cons x l ih =>
    rw [List.filter_cons]
    by_cases hx : x.name = n
    · rw [hx, if_pos hp, List.find?_cons, List.find?_cons, show (x.name == n) = true by simp [hx]]
    · rw [List.find?_cons («as» := l), show (x.name == n) = false by simp [hx]]
      simp only
      rw [← ih]
      split
      · rw [List.find?_cons, show (x.name == n) = false by simp [hx]]
      · rfl
/-- A leaf split: still a dictionary, with the same. -/
theorem splitD_inv {d : Dic} (h : Inv d) (hs : d.small = false) (k : Nat) (hk : k < d.leaves.length) (h5 : (leafAt d k).depth ≠ 5) :
    Inv (splitD d k) ∧ (∀ n, val (splitD d k) n = val d n) ∧ (∀ n, kOf d n = k → (leafAt (splitD d k) (kOf (splitD d k) n)).depth = (leafAt d k).depth + 1) ∧ (splitD d k).small = false := by
  have hlow : (leafAt d k).depth ≤ d.depth := h.ok.low _ (leaf_mem hk)
  have hw := widen_inv h.toInv0 (leafAt d k).depth h5 hs
  obtain ⟨ow, how⟩ : ∃ o, o = (leafAt d k).depth := ⟨_, rfl⟩
  rw [← how] at hw hlow
  have hlv : (widen d ow).leaves = d.leaves := by unfold widen; split <;> rfl
  have hsm : (widen d ow).small = d.small := by unfold widen; split <;> rfl
  have hdp : (widen d ow).depth = if ow = d.depth then d.depth + 1 else d.depth := by unfold widen; split <;> rfl
  have hla : ∀ j, leafAt (widen d ow) j = leafAt d j := fun j => by unfold leafAt; rw [hlv]
  have hkw : ∀ n, kOf (widen d ow) n = kOf d n := fun n => by
    unfold widen
    split
    · have ho := h.ok
      have hpow : 2 ^ (d.depth + 1) = 2 * 2 ^ d.depth := by rw [Nat.pow_succ]; omega
      show (d.table ++ d.table).getD (hash n % 2 ^ (d.depth + 1)) 0 = d.table.getD (hash n % 2 ^ d.depth) 0
      rw [double_get, ho.tab, mod_low _ _ _ (by omega)]
      rw [ho.tab, ← hpow]
      exact Nat.mod_lt _ (Nat.pow_pos (by omega))
    · rfl
  have hp := part_inv hw (hsm.trans hs) k (by rw [hlv]; exact hk) (by rw [hla, ← how, hdp]; split <;> omega)
  rw [hla, ← how] at hp
  simp only [hlv] at hp
  have hsp : splitD d k = { widen d ow with table := turnT ow k d.leaves.length (widen d ow).table (widen d ow).table.length, leaves := d.leaves.set k ⟨ow + 1, stayL ow (leafAt d k).l⟩ ++ [⟨ow + 1, overL ow (leafAt d k).l⟩] } := by unfold splitD; rw [← how]
  rw [← hsp] at hp
  obtain ⟨hi, hkf⟩ := hp
  have hL : (splitD d k).leaves = d.leaves.set k ⟨ow + 1, stayL ow (leafAt d k).l⟩ ++ [⟨ow + 1, overL ow (leafAt d k).l⟩] := by rw [hsp]
  have hLl : (splitD d k).leaves.length = d.leaves.length + 1 := by rw [hL]; simp
  have hLf : ∀ j, j < d.leaves.length + 1 → leafAt (splitD d k) j = if j = k then ⟨ow + 1, stayL ow (leafAt d k).l⟩ else if j = d.leaves.length then ⟨ow + 1, overL ow (leafAt d k).l⟩ else leafAt d j := fun j hj => by
    unfold leafAt; rw [hL]; exact leaf_split d.leaves k _ _ hk j hj
  have hkf' : ∀ n, kOf (splitD d k) n = if kOf d n = k ∧ bitB ow (hash n) = true then d.leaves.length else kOf d n := fun n => by rw [hkf, hkw]
  have hdd : (splitD d k).depth = (widen d ow).depth := by rw [hsp]
  refine ⟨⟨hi, ?_⟩, fun n => ?_, fun n hn => ?_, by rw [hsp]; exact hsm.trans hs⟩
  · rw [hdd, hdp]
    by_cases hwd : ow = d.depth
    · rw [if_pos hwd]
      refine ⟨k, by rw [hLl]; omega, ?_⟩
      rw [hLf k (by omega), if_pos rfl, ← hwd]
    · rw [if_neg hwd]
      obtain ⟨j, hj, e⟩ := h.deep
      refine ⟨j, by rw [hLl]; omega, ?_⟩
      have hjk : j ≠ k := by rintro rfl; rw [← how] at e; exact hwd e
      rw [hLf j (by omega), if_neg hjk, if_neg (by omega), e]
  · have hkn := kOf_lt h.ok n
    unfold val
    rw [hkf']
    by_cases hkk : kOf d n = k
    · cases hb : bitB ow (hash n)
      · rw [if_neg (by simp), hkk, hLf k (by omega), if_pos rfl]
        exact getE_filter (fun m => !bitB ow (hash m)) _ n (by simp [hb])
      · rw [if_pos ⟨hkk, rfl⟩, hLf _ (by omega), if_neg (by omega), if_pos rfl, hkk]
        exact getE_filter (fun m => bitB ow (hash m)) _ n hb
    · rw [if_neg (fun e => hkk e.1), hLf _ (by omega), if_neg hkk, if_neg (by omega)]
  · rw [hkf', ← how]
    cases hb : bitB ow (hash n)
    · rw [if_neg (by simp), hn, hLf k (by omega), if_pos rfl]
    · rw [if_pos ⟨hn, rfl⟩, hLf _ (by omega), if_neg (by omega), if_pos rfl]

/-- Put where the name is not there. -/
def putL : Nat → Dic → Ent → Option Dic
  | 0, _, _ => none
  | f + 1, d, e =>
    if fitE (ins (leafAt d (kOf d e.name)).l e) = true then some (setL d (kOf d e.name) (ins (leafAt d (kOf d e.name)).l e))
    else if d.small = true then putL f { d with small := false } e
    else if (leafAt d (kOf d e.name)).depth = 5 then none else putL f (splitD d (kOf d e.name)) e
theorem large_inv {d : Dic} (h : Inv d) : Inv { d with small := false } := ⟨⟨⟨h.ok.dep, h.ok.tab, h.ok.rng, h.ok.many, h.ok.srt, h.ok.fit, h.ok.low⟩, h.pre, h.at_, h.good, fun e => by cases e⟩, h.deep⟩
theorem putL_inv : ∀ (f : Nat) (d : Dic) (e : Ent), Inv d → GoodE e → ∀ d', putL f d e = some d' → Inv d' ∧ ∀ n, val d' n = if e.name = n then some e.val else val d n := by
  intro f
  induction f with
  | zero => intro d e _ _ d' h; cases h
  | succ f ih =>
    intro d e h he d' hp
    unfold putL at hp
    split at hp
    case isTrue hf => injection hp with hp; subst hp; exact ⟨ins_inv h e he hf, fun n => val_ins h.ok e n⟩
    case isFalse hf =>
    split at hp
    case isTrue hs => obtain ⟨h1, h2⟩ := ih _ e (large_inv h) he d' hp; exact ⟨h1, h2⟩
    case isFalse hs =>
    split at hp
    case isTrue h5 => cases hp
    case isFalse h5 =>
      obtain ⟨h1, h2, -, -⟩ := splitD_inv h (by simpa using hs) _ (kOf_lt h.ok e.name) h5
      obtain ⟨h3, h4⟩ := ih _ e h1 he d' hp
      exact ⟨h3, fun n => by rw [h4, h2]⟩
end Go.Proofs.Ytiieglfpmmhfiaa
