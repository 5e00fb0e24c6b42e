/- The walk of ReplicaDoes. -/
import Derived.Test.YteigjlkgbpgkjaaR23
namespace Go.Proofs.Yteigjlkgbpgkjaa
open Go.RowKit Go.Uc

/-- A reply that comes, as plain data. -/
structure Opn where
  who : Int
  r : Rp
  near : Bool
/-- Replies that came in. -/
def Opns (w : World) (A : Option Addr) (os : List Opn) : Prop := ∀ i (h : i < os.length), ∃ b off Al cl Ad cd, A = some ⟨b, off, none⟩ ∧ w.cell? ⟨b, off + i * 9, none⟩ = some (.int .i64 os[i].who) ∧
  w.cell? ⟨b, off + i * 9 + 1, none⟩ = some (.int .i64 os[i].r.ses) ∧ w.cell? ⟨b, off + i * 9 + 2, none⟩ = some (.int .i64 os[i].r.id) ∧ w.cell? ⟨b, off + i * 9 + 3, none⟩ = some (.int .i64 os[i].r.err) ∧ w.cell? ⟨b, off + i * 9 + 4, none⟩ = some (.int .i64 os[i].r.num) ∧
  w.cell? ⟨b, off + i * 9 + 5, none⟩ = some (.string os[i].r.text) ∧ w.cell? ⟨b, off + i * 9 + 6, none⟩ = some (.slice Al os[i].r.list.length cl) ∧ w.cell? ⟨b, off + i * 9 + 7, none⟩ = some (.slice Ad os[i].r.data.length cd) ∧ w.cell? ⟨b, off + i * 9 + 8, none⟩ = some (.bool os[i].near) ∧
  AtS w Al os[i].r.list ∧ At w Ad os[i].r.data ∧ RpB os[i].r
theorem owned_nil {w w' : World} (h : Keeps (Owned (.slice none 0 0)) w w') : Keeps Non w w' := h.mono fun k e => by cases e
theorem Opns.get {w W : World} {A : Option Addr} {os : List Opn} (h : Opns w A os) (hk : Keeps Non w W) {k : Nat} (hlt : k < os.length) : ∃ (o : Opn) (b off : Nat) (Al : Option Addr) (cl : Nat) (Ad : Option Addr) (cd : Nat), A = some ⟨b, off, none⟩ ∧ W.cell? ⟨b, off + k * 9, none⟩ = some (.int .i64 o.who) ∧
  W.cell? ⟨b, off + k * 9 + 1, none⟩ = some (.int .i64 o.r.ses) ∧ W.cell? ⟨b, off + k * 9 + 2, none⟩ = some (.int .i64 o.r.id) ∧ W.cell? ⟨b, off + k * 9 + 3, none⟩ = some (.int .i64 o.r.err) ∧ W.cell? ⟨b, off + k * 9 + 4, none⟩ = some (.int .i64 o.r.num) ∧
  W.cell? ⟨b, off + k * 9 + 5, none⟩ = some (.string o.r.text) ∧ W.cell? ⟨b, off + k * 9 + 6, none⟩ = some (.slice Al o.r.list.length cl) ∧ W.cell? ⟨b, off + k * 9 + 7, none⟩ = some (.slice Ad o.r.data.length cd) ∧ W.cell? ⟨b, off + k * 9 + 8, none⟩ = some (.bool o.near) ∧
  AtS w Al o.r.list ∧ At w Ad o.r.data ∧ RpB o.r := by
  obtain ⟨b, off, Al, cl, Ad, cd, h0, h1, h2, h3, h4, h5, h6, h7, h8, h9, h10, h11, h12⟩ := h k hlt
  exact ⟨os[k], b, off, Al, cl, Ad, cd, h0, hk.cell h1 id, hk.cell h2 id, hk.cell h3 id, hk.cell h4 id, hk.cell h5 id, hk.cell h6 id, hk.cell h7 id, hk.cell h8 id, hk.cell h9 id, h10, h11, h12⟩
theorem set_near {w : World} {g : Nat} {t : TypeId} {z0 z1 z2 z3 z4 z5 z6 z7 z8 : Value} (h : Blk w g t #[z0, z1, z2, z3, z4, z5, z6, z7, z8]) (v0 v1 v2 : Value) :
    Blk (((w.setCell ⟨g, 1, none⟩ v1).setCell ⟨g, 2, none⟩ v2).setCell ⟨g, 0, none⟩ v0) g t #[v0, v1, v2, z3, z4, z5, z6, z7, z8] ∧ Keeps (Only g) w (((w.setCell ⟨g, 1, none⟩ v1).setCell ⟨g, 2, none⟩ v2).setCell ⟨g, 0, none⟩ v0) := by
  have hb := ((h.set 1 v1).set 2 v2).set 0 v0
  simp at hb
  exact ⟨hb, (((Keeps.refl (Only g) w).set (p := ⟨g, 1, none⟩) rfl v1).set (p := ⟨g, 2, none⟩) rfl v2).set (p := ⟨g, 0, none⟩) rfl v0⟩
theorem Pair.non {w0 w w' : World} {g q : Nat} {j : Job} {x y : St} (h : Pair w0 w g q j x y) (hk : Keeps Non w w') : Pair w0 w' g q j x y := by
  obtain ⟨on, pv, h1, h2⟩ := h.rep
  obtain ⟨pvy, h3, h4⟩ := h.doc
  exact ⟨⟨on, pv, h1.non hk, h2.non hk⟩, ⟨pvy, h3.non hk, h4⟩, h.step, h.len, h.ali, h.kp.trans hk, h.gg, h.qq⟩
/-- A block of another kind is turned. -/
theorem Pair.one {w0 w w' : World} {g q u : Nat} {t : TypeId} {cs : Array Value} {j : Job} {x y : St} (h : Pair w0 w g q j x y) (hu : Blk w u t cs) (h1 : t ≠ 62) (h2 : t ≠ 64) (h3 : t ≠ 69) (h4 : t ≠ 5) (hw : w0.heap.size ≤ u) (hk : Keeps (Only u) w w') : Pair w0 w' g q j x y := by
  obtain ⟨on, pv, hr, hO⟩ := h.rep
  obtain ⟨pvy, hd, hp⟩ := h.doc
  refine ⟨⟨on, pv, ?_, hO.keep hk fun i hi e => Blk.apart hu hO h4 i hi e⟩, ⟨pvy, hd.one hk (Ne.symm (hu.ne hd h2)), hp⟩, h.step, h.len, h.ali, h.kp.then hk fun i hi e => by unfold Only at e; omega, h.gg, h.qq⟩
  rcases hr with ⟨e1, hr⟩ | ⟨gs, e1, hr, hs⟩
  · exact .inl ⟨e1, hr.one hk (Ne.symm (hu.ne hr h1))⟩
  · exact .inr ⟨gs, e1, hr.one hk (Ne.symm (hu.ne hr h1)), hs.one hk (Ne.symm (hu.ne hs h3))⟩
theorem RepS.other {w w' : World} {g u : Nat} {t : TypeId} {cs : Array Value} {on : Option Nat} {j : Job} {x : St} {pv : Value} (hr : RepS w g on j x pv) (hu : Blk w u t cs) (h1 : t ≠ 62) (h3 : t ≠ 69) (hk : Keeps (Only u) w w') : RepS w' g on j x pv := by
  rcases hr with ⟨e1, hr⟩ | ⟨gs, e1, hr, hs⟩
  · exact .inl ⟨e1, hr.one hk (Ne.symm (hu.ne hr h1))⟩
  · exact .inr ⟨gs, e1, hr.one hk (Ne.symm (hu.ne hr h1)), hs.one hk (Ne.symm (hu.ne hs h3))⟩
theorem OwnS.ats {w : World} {B n c : Nat} {A : Option Addr} {xs : List ByteArray} (h : OwnS w B (.slice A n c) xs) : AtS w A xs := by
  obtain ⟨A', c', e, -, h1, -⟩ := h.open
  injection e with e1
  rw [e1]
  exact h1
theorem OwnB.ats {w : World} {B n c : Nat} {A : Option Addr} {bs : List UInt8} (h : OwnB w B 5 (.slice A n c) bs) : At w A bs := by
  obtain ⟨A', c', e, -, h1, -⟩ := h.open
  injection e with e1
  rw [e1]
  exact h1
section
set_option maxRecDepth 100000 in
set_option maxHeartbeats 16000000 in
theorem replicaDoes_any (j : Job) (A : Option Addr) (c : Nat) (os : List Opn) (w : World) (hO : Opns w A os) (hn : os.length ≤ 2000000000000) :
    Calls Try.prog 3 #[.agg #[.string j.name, .string j.snap, .string j.base, .bool j.deep, .string j.to_, .int .i64 j.ses, .int .i64 j.first, .bool j.anew], .slice A os.length c] w fun en w' => en = .returned (.bool true) ∧ Keeps Non w w' := by
  obtain ⟨jb, hjb⟩ : ∃ b, b = w.heap.size := ⟨_, rfl⟩
  obtain ⟨w1, hw1⟩ : ∃ W, W = w.alloc (.cells #[.string j.name, .string j.snap, .string j.base, .bool j.deep, .string j.to_, .int .i64 j.ses, .int .i64 j.first, .bool j.anew] 23) := ⟨_, rfl⟩
  have hJ1 : Blk w1 jb 23 #[.string j.name, .string j.snap, .string j.base, .bool j.deep, .string j.to_, .int .i64 j.ses, .int .i64 j.first, .bool j.anew] := by rw [hw1, hjb]; exact Blk.new _ _ _
  have hk1 : Keeps Non w w1 := by rw [hw1]; exact (Keeps.refl _ _).alloc _
  have HOP := Lib.hid hO
  have HAW := Lib.hid (awake_any w1)
  clear hO
  go_enter Try.func3, Try.ntmps3
  go_upto_region 1 with fail
  rw [← hw1, ← hjb]
  clear hw1 hjb
  go_upto_region 2 with (go_at_call 4; go_must (refine HAW.out.mono ?_); rintro en w2 ⟨rfl, hK2⟩)
  have hJ2 := hJ1.non hK2
  have hk2 := hk1.trans hK2
  have j0 : w2.cell? ⟨jb, 0, none⟩ = some (.string j.name) := hJ2.cell 0
  have j1 : w2.cell? ⟨jb, 1, none⟩ = some (.string j.snap) := hJ2.cell 1
  have j2 : w2.cell? ⟨jb, 2, none⟩ = some (.string j.base) := hJ2.cell 2
  have j3 : w2.cell? ⟨jb, 3, none⟩ = some (.bool j.deep) := hJ2.cell 3
  have j4 : w2.cell? ⟨jb, 4, none⟩ = some (.string j.to_) := hJ2.cell 4
  have j5 : w2.cell? ⟨jb, 5, none⟩ = some (.int .i64 j.ses) := hJ2.cell 5
  have j6 : w2.cell? ⟨jb, 6, none⟩ = some (.int .i64 j.first) := hJ2.cell 6
  have j7 : w2.cell? ⟨jb, 7, none⟩ = some (.bool j.anew) := hJ2.cell 7
  clear hJ1 hk1 hK2 HAW
  have hnw := new_any j w2
  unfold jobC NewP at hnw
  have HNW := Lib.hid hnw
  have hrn := fun W => rnew_any j W
  unfold jobC NewD at hrn
  have HRN := Lib.hid hrn
  clear hnw hrn
  by_cases hok : okJ j
  case' neg =>
    have HOK := Lib.hid hok
    clear hok
    go_upto_region 3 with (go_at_call 5; go_must (refine HNW.out.mono ?_); rintro en w3 ⟨hK3, ⟨-, rfl⟩ | ⟨h, -⟩⟩; (case inr => exact absurd h HOK.out))
    have hJ3 := hJ2.non hK3
    have k0 : w3.cell? ⟨jb, 0, none⟩ = some (.string j.name) := hJ3.cell 0
    have k1 : w3.cell? ⟨jb, 1, none⟩ = some (.string j.snap) := hJ3.cell 1
    have k2 : w3.cell? ⟨jb, 2, none⟩ = some (.string j.base) := hJ3.cell 2
    have k3 : w3.cell? ⟨jb, 3, none⟩ = some (.bool j.deep) := hJ3.cell 3
    have k4 : w3.cell? ⟨jb, 4, none⟩ = some (.string j.to_) := hJ3.cell 4
    have k5 : w3.cell? ⟨jb, 5, none⟩ = some (.int .i64 j.ses) := hJ3.cell 5
    have k6 : w3.cell? ⟨jb, 6, none⟩ = some (.int .i64 j.first) := hJ3.cell 6
    have k7 : w3.cell? ⟨jb, 7, none⟩ = some (.bool j.anew) := hJ3.cell 7
    clear j0 j1 j2 j3 j4 j5 j6 j7
    go_upto_region 4 with (go_at_call 6; go_must (refine (HRN.out w3).mono ?_); rintro en w4 ⟨hK4, ⟨-, rfl⟩ | ⟨h, -⟩⟩; (case inr => exact absurd h HOK.out))
    have HK := Lib.hid ((hk2.trans hK3).trans hK4)
    clear hJ2 hk2 hK3 hK4 hJ3 k0 k1 k2 k3 k4 k5 k6 k7
    go_wp2_with fail
    go_ret
    exact ⟨rfl, HK.out⟩
  have HOK := Lib.hid hok
  clear hok
  go_upto_region 3 with (go_at_call 5; go_must (refine HNW.out.mono ?_); rintro en w3 ⟨hK3, ⟨h, -⟩ | ⟨-, g, rfl, hg, hG⟩⟩; (case inl => exact absurd HOK.out h))
  have hJ3 := hJ2.non hK3
  have k0 : w3.cell? ⟨jb, 0, none⟩ = some (.string j.name) := hJ3.cell 0
  have k1 : w3.cell? ⟨jb, 1, none⟩ = some (.string j.snap) := hJ3.cell 1
  have k2 : w3.cell? ⟨jb, 2, none⟩ = some (.string j.base) := hJ3.cell 2
  have k3 : w3.cell? ⟨jb, 3, none⟩ = some (.bool j.deep) := hJ3.cell 3
  have k4 : w3.cell? ⟨jb, 4, none⟩ = some (.string j.to_) := hJ3.cell 4
  have k5 : w3.cell? ⟨jb, 5, none⟩ = some (.int .i64 j.ses) := hJ3.cell 5
  have k6 : w3.cell? ⟨jb, 6, none⟩ = some (.int .i64 j.first) := hJ3.cell 6
  have k7 : w3.cell? ⟨jb, 7, none⟩ = some (.bool j.anew) := hJ3.cell 7
  clear j0 j1 j2 j3 j4 j5 j6 j7
  go_upto_region 4 with (go_at_call 6; go_must (refine (HRN.out w3).mono ?_); rintro en w4 ⟨hK4, ⟨h, -⟩ | ⟨-, q, rfl, hq, hQ⟩⟩; (case inl => exact absurd HOK.out h))
  have hP : Pair w w4 g q j (startV j) (startV j) := by
    have z2 := hk2.size
    have z3 := hK3.size
    refine ⟨⟨none, _, hG.non hK4, OwnB.nil _ _ _⟩, ⟨_, hQ, ⟨none, 0, rfl, At.nil _ _⟩⟩, ?_, Nat.zero_le _, alike_start j, (hk2.trans hK3).trans hK4, by omega, by omega⟩
    show (if j.anew = true then 0 else 1) < 6
    split <;> decide
  have HP := Lib.hid hP
  clear hJ2 hk2 hK3 hK4 hJ3 k0 k1 k2 k3 k4 k5 k6 k7 hP hG hQ hg hq
  go_wp2_with fail
  go_loopw [10] (fun i wr => ∃ (k : Nat) (x y : St), k ≤ os.length ∧ i = .int .i64 k ∧ Pair w wr g q j x y) (fun i _ => os.length - (intOf i).toNat)
  case atStart => exact ⟨0, _, _, Nat.zero_le _, rfl, HP.out⟩
  case round =>
    obtain ⟨k, x, y, hk, rfl, hPr⟩ := hrel
    by_cases hlt : k < os.length
    · obtain ⟨wx, rfl⟩ : ∃ W : World, W = wr := ⟨_, rfl⟩
      have HSM : Hid (∀ W, Pair w W g q j x y → Calls Try.prog 7 #[.pointer (some ⟨g, 0, none⟩), .pointer (some ⟨q, 0, none⟩)] W fun en w' => en = .returned (.bool true) ∧ Pair w w' g q j x y ∧ Keeps (Only g) W w') := fun W hW => same_any w W hW
      have HPx := Lib.hid hPr
      clear hPr
      go_upto_region 12 with (go_at_call 7; go_must (refine (HSM.out _ HPx.out).mono ?_); rintro en w5 ⟨rfl, hP5, -⟩)
      have HP5 := Lib.hid hP5
      clear hP5
      go_upto_region 13 with (go_at_call 7; go_must (refine (HSM.out _ HP5.out).mono ?_); rintro en w6 ⟨rfl, hP6, -⟩)
      obtain ⟨o, b, off, Al, cl, Ad, cd, rfl, d0, d1, d2, d3, d4, d5, d6, d7, d8, hAL, hAD, hRB⟩ := HOP.out.get hP6.kp hlt
      obtain ⟨ob, hob⟩ : ∃ b, b = w6.heap.size := ⟨_, rfl⟩
      obtain ⟨w7, hw7⟩ : ∃ W, W = w6.alloc (.cells #[.int .i64 o.who, .int .i64 o.r.ses, .int .i64 o.r.id, .int .i64 o.r.err, .int .i64 o.r.num, .string o.r.text, .slice Al o.r.list.length cl, .slice Ad o.r.data.length cd, .bool o.near] 39) := ⟨_, rfl⟩
      have hOB7 : Blk w7 ob 39 #[.int .i64 o.who, .int .i64 o.r.ses, .int .i64 o.r.id, .int .i64 o.r.err, .int .i64 o.r.num, .string o.r.text, .slice Al o.r.list.length cl, .slice Ad o.r.data.length cd, .bool o.near] := by rw [hw7, hob]; exact Blk.new _ _ _
      have hk7 : Keeps Non w6 w7 := by rw [hw7]; exact (Keeps.refl _ _).alloc _
      have hobw : w.heap.size ≤ ob := by rw [hob]; exact hP6.kp.size
      have hP7 := hP6.non hk7
      have hALx := Lib.hid hAL
      have hADx := Lib.hid hAD
      have hRBx := Lib.hid hRB
      clear hP6 HP5 HPx hk7 HSM hAL hAD hRB
      go_upto_region 16 with fail
      rw [← hw7, ← hob]
      clear hw7 hob d0 d1 d2 d3 d4 d5 d6 d7 d8
      have n8 : w7.cell? ⟨ob, 8, none⟩ = some (.bool o.near) := hOB7.cell 8
      cases hnear : o.near with
      | true =>
        rw [hnear] at n8
        obtain ⟨pvy, hB, hpy⟩ := hP7.doc
        have hny := rnext_any w w7 hB hpy (fun h0 => by rw [← hP7.ali.2.2.2 (hP7.ali.1.trans h0)]; exact hP7.step)
        obtain ⟨R, hR⟩ : ∃ R, R = nextV j y := ⟨_, rfl⟩
        obtain ⟨vw, hvw⟩ : ∃ v, v = nextW y := ⟨_, rfl⟩
        obtain ⟨vb, hvb⟩ : ∃ v, v = decide (y.how = 0) := ⟨_, rfl⟩
        rw [← hR, ← hvw, ← hvb] at hny
        unfold rqC at hny
        have HNY := Lib.hid hny
        clear hR hvw hvb hny hB hpy hnear
        go_upto_region 18 with (go_at_call 8; go_must (refine HNY.out.mono ?_); rintro en w8 ⟨dw, rfl, hdw, hK8⟩; obtain ⟨Ax, cx, rfl, -⟩ := id hdw)
        obtain ⟨rb, hrb⟩ : ∃ b, b = w8.heap.size := ⟨_, rfl⟩
        obtain ⟨w9, hw9⟩ : ∃ W, W = w8.alloc (.cells #[.int .i64 R.ses, .int .i64 R.id, .int .i64 R.verb, .string R.name, .string R.item, .string R.other, .string R.path, .int .i64 R.at_, .int .i64 R.many, .slice Ax R.data.length cx] 41) := ⟨_, rfl⟩
        have hR9 : Blk w9 rb 41 #[.int .i64 R.ses, .int .i64 R.id, .int .i64 R.verb, .string R.name, .string R.item, .string R.other, .string R.path, .int .i64 R.at_, .int .i64 R.many, .slice Ax R.data.length cx] := by rw [hw9, hrb]; exact Blk.new _ _ _
        have hk9 : Keeps Non w8 w9 := by rw [hw9]; exact (Keeps.refl _ _).alloc _
        have hOB9 := (hOB7.non hK8).non hk9
        have hP9 := (hP7.non hK8).non hk9
        have r0 : w9.cell? ⟨rb, 0, none⟩ = some (.int .i64 R.ses) := hR9.cell 0
        have r1 : w9.cell? ⟨rb, 1, none⟩ = some (.int .i64 R.id) := hR9.cell 1
        have hne := hR9.ne hOB9 (by decide)
        have y0 : w9.cell? ⟨ob, 0, none⟩ = some (.int .i64 o.who) := hOB9.cell 0
        have y1 : w9.cell? ⟨ob, 1, none⟩ = some (.int .i64 o.r.ses) := hOB9.cell 1
        have y2 : w9.cell? ⟨ob, 2, none⟩ = some (.int .i64 o.r.id) := hOB9.cell 2
        have f0 := hOB9.frozen 0
        have f1 := hOB9.frozen 1
        have f2 := hOB9.frozen 2
        obtain ⟨hBs, hKs⟩ := set_near hOB9 (.int .i64 vw) (.int .i64 R.ses) (.int .i64 R.id)
        obtain ⟨w10, hw10⟩ : ∃ W, W = ((w9.setCell ⟨ob, 1, none⟩ (.int .i64 R.ses)).setCell ⟨ob, 2, none⟩ (.int .i64 R.id)).setCell ⟨ob, 0, none⟩ (.int .i64 vw) := ⟨_, rfl⟩
        rw [← hw10] at hBs hKs
        have hP10 := hP9.one hOB9 (by decide) (by decide) (by decide) (by decide) hobw hKs
        rw [← hw9, ← hrb]
        clear hw9 hrb hR9 hk9 hOB9 hP9 hK8 hdw hOB7 hP7 hKs n8
        go_upto_region 21 with fail
        rw [← hw10]
        clear hw10 r0 r1 y0 y1 y2 f0 f1 f2
        obtain ⟨p, who, nb, hOB, hAL, hAD, hRB⟩ : ∃ (p : Rp) (who : Int) (nb : Bool), Blk w10 ob 39 #[.int .i64 who, .int .i64 p.ses, .int .i64 p.id, .int .i64 p.err, .int .i64 p.num, .string p.text, .slice Al p.list.length cl, .slice Ad p.data.length cd, .bool nb] ∧ AtS w Al p.list ∧ At w Ad p.data ∧ RpB p := ⟨⟨R.ses, R.id, o.r.err, o.r.num, o.r.text, o.r.list, o.r.data⟩, vw, _, hBs, hALx.out, hADx.out, hRBx.out⟩
        clear hBs
        obtain ⟨u, hu⟩ : ∃ b, b = w10.heap.size := ⟨_, rfl⟩
        obtain ⟨w11, hw11⟩ : ∃ W, W = w10.alloc (.cells #[.int .i64 p.ses, .int .i64 p.id, .int .i64 p.err, .int .i64 p.num, .string p.text, .slice Al p.list.length cl, .slice Ad p.data.length cd] 37) := ⟨_, rfl⟩
        have hU11 : Blk w11 u 37 #[.int .i64 p.ses, .int .i64 p.id, .int .i64 p.err, .int .i64 p.num, .string p.text, .slice Al p.list.length cl, .slice Ad p.data.length cd] := by rw [hw11, hu]; exact Blk.new _ _ _
        have hk11 : Keeps Non w10 w11 := by rw [hw11]; exact (Keeps.refl _ _).alloc _
        have o0 : w10.cell? ⟨ob, 0, none⟩ = some (.int .i64 who) := hOB.cell 0
        have o1 : w10.cell? ⟨ob, 1, none⟩ = some (.int .i64 p.ses) := hOB.cell 1
        have o2 : w10.cell? ⟨ob, 2, none⟩ = some (.int .i64 p.id) := hOB.cell 2
        have o3 : w10.cell? ⟨ob, 3, none⟩ = some (.int .i64 p.err) := hOB.cell 3
        have o4 : w10.cell? ⟨ob, 4, none⟩ = some (.int .i64 p.num) := hOB.cell 4
        have o5 : w10.cell? ⟨ob, 5, none⟩ = some (.string p.text) := hOB.cell 5
        have o6 : w10.cell? ⟨ob, 6, none⟩ = some (.slice Al p.list.length cl) := hOB.cell 6
        have o7 : w10.cell? ⟨ob, 7, none⟩ = some (.slice Ad p.data.length cd) := hOB.cell 7
        have huw : w.heap.size ≤ u := by rw [hu]; exact hP10.kp.size
        have huo := Lib.hid hu
        go_upto_region 24 with fail
        rw [← hw11, ← hu]
        clear hw11 hu o0 o1 o2 o3 o4 o5 o6 o7
        have hOB11 := hOB.non hk11
        have hP11 := hP10.non hk11
        have hRB' := hRB
        unfold RpB at hRB'
        have hATS := (hAL.non hP11.kp).ats
        have p6 : w11.cell? ⟨ob, 6, none⟩ = some (.slice Al p.list.length cl) := hOB11.cell 6
        have HF11 := Lib.hid (And.intro hP11 (And.intro hOB11 (And.intro hU11 (And.intro hAL (And.intro hAD hRB)))))
        clear hP11 hOB11 hU11 hAL hAD hRB hP10 hOB
        go_upto_region 25 with (at_builtin; refine wpList_append_vals rfl (.tmp 90) (.tmp 93) 34 rfl w11.heap.size 9 (.string ByteArray.empty) 16 Try.underlying34 info9 rfl (.slice none 0 0) 0 [] rfl (World.ownsRow_nil _ _ _ _) Al p.list.length cl (p.list.map Value.string) rfl (by simp) hATS (by intro v hv; obtain ⟨s, -, rfl⟩ := List.mem_map.1 hv; rfl) (by unfold maxLen; omega) (by omega) (Nat.le_refl _) ?_; intro v' w12 hO12 hK12 hat; (have hS12 : OwnS w12 w11.heap.size v' p.list := (by rw [List.nil_append, Nat.zero_add] at hO12; exact hO12)); clear hO12 hat; obtain ⟨Al2, cl2, rfl, hcl2, -⟩ := hS12.open; (have hk12 := owned_nil hK12); (have hU12 := HF11.out.2.2.1.non hk12); (have u5 : w12.cell? ⟨u, 5, none⟩ = some (.slice Al p.list.length cl) := hU12.cell 5); (have fu5 := hU12.frozen 5))
        have hOB12 := HF11.out.2.1.non hk12
        have hP12 := HF11.out.1.non hk12
        obtain ⟨w13, hw13⟩ : ∃ W, W = w12.setCell ⟨u, 5, none⟩ (.slice Al2 p.list.length cl2) := ⟨_, rfl⟩
        have hkU : Keeps (Only u) w12 w13 := by rw [hw13]; exact (Keeps.refl (Only u) w12).set (p := ⟨u, 5, none⟩) rfl _
        have hU13 : Blk w13 u 37 #[.int .i64 p.ses, .int .i64 p.id, .int .i64 p.err, .int .i64 p.num, .string p.text, .slice Al2 p.list.length cl2, .slice Ad p.data.length cd] := by rw [hw13]; exact hU12.set 5 (.slice Al2 p.list.length cl2)
        have hP13 := hP12.one hU12 (by decide) (by decide) (by decide) (by decide) huw hkU
        have hOB13 := hOB12.one hkU (hOB12.ne hU12 (by decide))
        have hS13 : OwnS w13 w11.heap.size (.slice Al2 p.list.length cl2) p.list := hS12.keep hkU (Blk.apart hU12 hS12 (by decide))
        rw [← hw13]
        have p7 : w13.cell? ⟨ob, 7, none⟩ = some (.slice Ad p.data.length cd) := hOB13.cell 7
        have hAt := HF11.out.2.2.2.2.1.non hP13.kp
        obtain ⟨on, pv, hr13, hO13⟩ := hP13.rep
        have HPVo : Hid (∀ i, pv.ownBlock = some i → i < w13.heap.size) := OwnB.old hO13
        have HF13 := Lib.hid (And.intro hP13 (And.intro hOB13 (And.intro hU13 (And.intro hS13 (And.intro hr13 hO13)))))
        clear hw13 hkU hU12 hOB12 hP12 hS12 hK12 hk12 u5 fu5 p6 hATS hU13 hP13 hOB13 hS13 hr13 hO13
        go_upto_region 26 with (at_builtin; refine wpList_append_bytes rfl (.tmp 96) (.tmp 99) 35 rfl w13.heap.size 5 Try.underlying35 info5 (.slice none 0 0) [] rfl (OwnB.nil _ _ _) Ad p.data.length cd p.data rfl rfl hAt (by simp; omega) (Nat.le_refl _) ?_; intro v' w14 hO14 hK14 hat; (have hD14 : OwnB w14 w13.heap.size 5 v' p.data := hO14); clear hO14 hat; obtain ⟨Ad2, cd2, rfl, hcd2, -⟩ := hD14.open; (have hk14 := owned_nil hK14); (have hU14 := HF13.out.2.2.1.non hk14); (have u6 : w14.cell? ⟨u, 6, none⟩ = some (.slice Ad p.data.length cd) := hU14.cell 6); (have fu6 := hU14.frozen 6))
        obtain ⟨w15, hw15⟩ : ∃ W, W = w14.setCell ⟨u, 6, none⟩ (.slice Ad2 p.data.length cd2) := ⟨_, rfl⟩
        have hkU : Keeps (Only u) w14 w15 := by rw [hw15]; exact (Keeps.refl (Only u) w14).set (p := ⟨u, 6, none⟩) rfl _
        have hU15 : Blk w15 u 37 #[.int .i64 p.ses, .int .i64 p.id, .int .i64 p.err, .int .i64 p.num, .string p.text, .slice Al2 p.list.length cl2, .slice Ad2 p.data.length cd2] := by rw [hw15]; exact hU14.set 6 (.slice Ad2 p.data.length cd2)
        have hP15 := (HF13.out.1.non hk14).one hU14 (by decide) (by decide) (by decide) (by decide) huw hkU
        have hOB14 := HF13.out.2.1.non hk14
        have hOB15 := hOB14.one hkU (hOB14.ne hU14 (by decide))
        have hS14 := HF13.out.2.2.2.1.non hk14
        have hS15 : OwnS w15 w11.heap.size (.slice Al2 p.list.length cl2) p.list := hS14.keep hkU (Blk.apart hU14 hS14 (by decide))
        have hD15 : OwnB w15 w13.heap.size 5 (.slice Ad2 p.data.length cd2) p.data := hD14.keep hkU (Blk.apart hU14 hD14 (by decide))
        have hr15 := (HF13.out.2.2.2.2.1.non hk14).other hU14 (by decide) (by decide) hkU
        have hO14 : OwnB w14 0 5 pv x.piece := HF13.out.2.2.2.2.2.non hk14
        have hO15 : OwnB w15 0 5 pv x.piece := hO14.keep hkU (Blk.apart hU14 hO14 (by decide))
        obtain ⟨dg, sg, hG15, -⟩ := hr15.blk
        have hzB : w.heap.size ≤ w13.heap.size := HF13.out.1.kp.size
        have hHE := hear_any who p Al2 cl2 Ad2 cd2 w15 hr15 hP15.step hO15 hP15.len (fun W hW => ⟨OwnS.ats (OwnS.keep hS15 hW (Blk.apart hG15 hS15 (by decide))), OwnB.ats (OwnB.keep hD15 hW (Blk.apart hG15 hD15 (by decide)))⟩) HF11.out.2.2.2.2.2
        obtain ⟨pvy, hB15, hpy⟩ := hP15.doc
        have hqg := hB15.ne hG15 (by decide)
        have hug := hU15.ne hG15 (by decide)
        have hog := hOB15.ne hG15 (by decide)
        have HDG : Hid (∀ k, (Value.slice Ad2 p.data.length cd2).ownBlock = some k → k ≠ g) := Blk.apart hG15 hD15 (by decide)
        have HHE := Lib.hid hHE
        rw [← hw15]
        have s0 : w15.cell? ⟨ob, 0, none⟩ = some (.int .i64 who) := hOB15.cell 0
        have u0 : w15.cell? ⟨u, 0, none⟩ = some (.int .i64 p.ses) := hU15.cell 0
        have u1 : w15.cell? ⟨u, 1, none⟩ = some (.int .i64 p.id) := hU15.cell 1
        have u2 : w15.cell? ⟨u, 2, none⟩ = some (.int .i64 p.err) := hU15.cell 2
        have u3 : w15.cell? ⟨u, 3, none⟩ = some (.int .i64 p.num) := hU15.cell 3
        have u4' : w15.cell? ⟨u, 4, none⟩ = some (.string p.text) := hU15.cell 4
        have u5 : w15.cell? ⟨u, 5, none⟩ = some (.slice Al2 p.list.length cl2) := hU15.cell 5
        have u6' : w15.cell? ⟨u, 6, none⟩ = some (.slice Ad2 p.data.length cd2) := hU15.cell 6
        have HF15 := Lib.hid (And.intro hP15 (And.intro hOB15 (And.intro hU15 (And.intro hD15 (And.intro hB15 hpy)))))
        clear hw15 hkU hU15 hP15 hOB14 hOB15 hS14 hS15 hD14 hD15 hr15 hO14 hO15 hG15 hHE hB15 hpy hU14 u6 fu6 hk14 hK14 p7 hAt
        go_upto_region 27 with (go_at_call 9; go_must (refine HHE.out.mono ?_); rintro en w16 ⟨rfl, on', pv', h16, hO16, hpb16, hK16⟩)
        obtain ⟨x', hx'⟩ : ∃ x', x' = hearV j x who p := ⟨_, rfl⟩
        rw [← hx'] at h16 hO16
        have HX' := Lib.hid hx'
        have hU16 := HF15.out.2.2.1.one hK16 hug
        have hOB16 := HF15.out.2.1.one hK16 hog
        have hD16 : OwnB w16 w13.heap.size 5 (.slice Ad2 p.data.length cd2) p.data := OwnB.keep HF15.out.2.2.2.1 hK16 HDG.out
        have hB16 := HF15.out.2.2.2.2.1.one hK16 hqg
        have HDOLD : Hid (∀ i, (Value.slice Ad2 p.data.length cd2).ownBlock = some i → i < w15.heap.size) := OwnB.old HF15.out.2.2.2.1
        have HY : Hid (∀ i, Owned (.slice Ad2 p.data.length cd2) i → w13.heap.size ≤ i) := OwnB.young hD16
        have HNU : Hid (¬ Owned (.slice Ad2 p.data.length cd2) u) := fun e => Blk.apart hU16 hD16 (by decide) u e rfl
        have HNO : Hid (¬ Owned (.slice Ad2 p.data.length cd2) ob) := fun e => Blk.apart hOB16 hD16 (by decide) ob e rfl
        have HNQ : Hid (¬ Owned (.slice Ad2 p.data.length cd2) q) := fun e => Blk.apart hB16 hD16 (by decide) q e rfl
        have HPB : Hid (∀ i, pv'.ownBlock = some i → ¬ Owned (.slice Ad2 p.data.length cd2) i) := fun i hi e => by
          have h1 := HY.out i e
          have h2 := HDOLD.out i e
          rcases hpb16 i hi with h3 | h3
          · have := HPVo.out i h3; omega
          · omega
        have hD16' : w16.ownsRow w13.heap.size 5 1 (.slice Ad2 p.data.length cd2) p.data.length (p.data.map bv) := hD16
        have HF16 := Lib.hid (And.intro h16 (And.intro hO16 (And.intro hU16 (And.intro hOB16 (And.intro hD16' (And.intro hB16 hK16))))))
        obtain ⟨n, hnn⟩ : ∃ n, n = p.data.length := ⟨_, rfl⟩
        rw [← hnn] at HF16 HY HNU HNO HNQ HPB hRB'
        clear h16 hO16 hpb16 hK16 hx' hU16 hOB16 hD16 hD16' hB16 s0 u0 u1 u2 u3 u4' u5 u6' HHE HDOLD
        have HNN := Lib.hid hnn
        clear hnn
        go_wp2_with fail
        go_loopw [20] (fun i wr => ∃ (m : Nat) (xs : List Value), m ≤ n ∧ i = .int .i64 m ∧ wr.ownsRow w13.heap.size 5 1 (.slice Ad2 n cd2) n xs ∧ Keeps (Owned (.slice Ad2 n cd2)) w16 wr) (fun i _ => n - (intOf i).toNat)
        case atStart => exact ⟨0, _, Nat.zero_le _, rfl, HF16.out.2.2.2.2.1, Keeps.refl _ _⟩
        case round =>
          obtain ⟨m, cu, hm, rfl, hOr, hK⟩ := hrel
          have u6 : wr.cell? ⟨u, 6, none⟩ = some (.slice Ad2 n cd2) := (HF16.out.2.2.1.keep hK HNU.out).cell 6
          by_cases hlm : m < n
          · obtain ⟨gd, cap', cur, e1, h2, h3, h4, h5, h6, h7⟩ := row_form hOr (by omega)
            injection e1 with e1 _ e2
            subst e1 e2
            obtain ⟨v, hc2⟩ : ∃ v, wr.cell? ⟨gd, m, none⟩ = some v := ⟨_, by rw [h3.cell]; exact Array.getElem?_eq_getElem (by omega)⟩
            have hf := h3.frozen m
            have hO' := row_set hOr hlm (.int .u8 98)
            have hK' := hK.set (p := ⟨gd, m, none⟩) (owned_one.2 rfl) (.int .u8 98)
            unfold maxLen at h5
            clear h7 h6 h3 hOr hK
            go_wp2_with fail
            go_roundw
            case rel => exact ⟨m + 1, _, by omega, by go_num, hO', hK'⟩
            case measure => simp [intOf]; omega
          · obtain rfl : m = n := by omega
            obtain ⟨w17, rfl⟩ : ∃ W : World, W = wr := ⟨_, rfl⟩
            have hr17 := HF16.out.1.owned HF16.out.2.2.2.2.1 hK
            have hO17 : OwnB w17 0 5 pv' x'.piece := OwnB.keep HF16.out.2.1 hK HPB.out
            have hOB17 := HF16.out.2.2.2.1.keep hK HNO.out
            have hB17 := HF16.out.2.2.2.2.2.1.keep hK HNQ.out
            have hkp17 : Keeps Non w w17 := (HF15.out.1.kp.then HF16.out.2.2.2.2.2.2 fun i hi e => by have := HF15.out.1.gg; unfold Only at e; omega).then hK fun i hi e => by have := HY.out i e; omega
            obtain ⟨y', hy'⟩ : ∃ y', y' = hearVD j y who p := ⟨_, rfl⟩
            have hRH := rhear_any w who p Al cl Ad cd w17 ⟨pvy, hB17, HF15.out.2.2.2.2.2⟩ (fun h0 => by rw [← HF15.out.1.ali.2.2.2 (HF15.out.1.ali.1.trans h0)]; exact HF15.out.1.step) (fun W hW => HF11.out.2.2.2.1.non (hkp17.then hW fun i hi e => by have := HF15.out.1.qq; unfold Only at e; omega)) HF11.out.2.2.2.2.1 HF11.out.2.2.2.2.2
            rw [← hy'] at hRH
            have HRH := Lib.hid hRH
            have HY' := Lib.hid hy'
            have s0 : w17.cell? ⟨ob, 0, none⟩ = some (.int .i64 who) := hOB17.cell 0
            have s1 : w17.cell? ⟨ob, 1, none⟩ = some (.int .i64 p.ses) := hOB17.cell 1
            have s2 : w17.cell? ⟨ob, 2, none⟩ = some (.int .i64 p.id) := hOB17.cell 2
            have s3 : w17.cell? ⟨ob, 3, none⟩ = some (.int .i64 p.err) := hOB17.cell 3
            have s4 : w17.cell? ⟨ob, 4, none⟩ = some (.int .i64 p.num) := hOB17.cell 4
            have s5 : w17.cell? ⟨ob, 5, none⟩ = some (.string p.text) := hOB17.cell 5
            have s6 : w17.cell? ⟨ob, 6, none⟩ = some (.slice Al p.list.length cl) := hOB17.cell 6
            have s7 : w17.cell? ⟨ob, 7, none⟩ = some (.slice Ad p.data.length cd) := by rw [← HNN.out]; exact hOB17.cell 7
            have HF17 := Lib.hid (And.intro hr17 (And.intro hO17 (And.intro hB17 hkp17)))
            clear hr17 hO17 hOB17 hB17 hkp17 hRH hy' hK hOr hRB'
            go_wp2_with (go_at_call 10; go_must (refine HRH.out.mono ?_); rintro en w18 ⟨rfl, hd18, hK18⟩)
            go_roundw
            case rel =>
              obtain ⟨dg2, sg2, hG17, -⟩ := HF17.out.1.blk
              refine ⟨k + 1, x', y', by omega, by go_num, ⟨⟨on', pv', HF17.out.1.other HF17.out.2.2.1 (by decide) (by decide) hK18, OwnB.keep HF17.out.2.1 hK18 (Blk.apart HF17.out.2.2.1 HF17.out.2.1 (by decide))⟩, hd18, ?_, ?_, ?_, HF17.out.2.2.2.then hK18 fun i hi e => by have := HF15.out.1.qq; unfold Only at e; omega, HF15.out.1.gg, HF15.out.1.qq⟩⟩
              · rw [HX'.out]; exact hearV_at j x who p HF15.out.1.step
              · rw [HX'.out]; exact hearV_len j x who p HF15.out.1.len HF11.out.2.2.2.2.2
              · rw [HX'.out, HY'.out]; exact alike_hearV j who p HF15.out.1.ali
            case measure => simp [intOf]; omega
      | false =>
        rw [hnear] at n8
        obtain ⟨w10, hw10⟩ : ∃ W, W = w7 := ⟨_, rfl⟩
        rw [← hw10] at hOB7 hP7 n8
        have hP10 := hP7
        clear hnear hP7
        rw [← hw10]
        clear hw10
        go_upto_region 21 with fail
        clear n8
        obtain ⟨p, who, nb, hOB, hAL, hAD, hRB⟩ : ∃ (p : Rp) (who : Int) (nb : Bool), Blk w10 ob 39 #[.int .i64 who, .int .i64 p.ses, .int .i64 p.id, .int .i64 p.err, .int .i64 p.num, .string p.text, .slice Al p.list.length cl, .slice Ad p.data.length cd, .bool nb] ∧ AtS w Al p.list ∧ At w Ad p.data ∧ RpB p := ⟨o.r, o.who, _, hOB7, hALx.out, hADx.out, hRBx.out⟩
        clear hOB7
        obtain ⟨u, hu⟩ : ∃ b, b = w10.heap.size := ⟨_, rfl⟩
        obtain ⟨w11, hw11⟩ : ∃ W, W = w10.alloc (.cells #[.int .i64 p.ses, .int .i64 p.id, .int .i64 p.err, .int .i64 p.num, .string p.text, .slice Al p.list.length cl, .slice Ad p.data.length cd] 37) := ⟨_, rfl⟩
        have hU11 : Blk w11 u 37 #[.int .i64 p.ses, .int .i64 p.id, .int .i64 p.err, .int .i64 p.num, .string p.text, .slice Al p.list.length cl, .slice Ad p.data.length cd] := by rw [hw11, hu]; exact Blk.new _ _ _
        have hk11 : Keeps Non w10 w11 := by rw [hw11]; exact (Keeps.refl _ _).alloc _
        have o0 : w10.cell? ⟨ob, 0, none⟩ = some (.int .i64 who) := hOB.cell 0
        have o1 : w10.cell? ⟨ob, 1, none⟩ = some (.int .i64 p.ses) := hOB.cell 1
        have o2 : w10.cell? ⟨ob, 2, none⟩ = some (.int .i64 p.id) := hOB.cell 2
        have o3 : w10.cell? ⟨ob, 3, none⟩ = some (.int .i64 p.err) := hOB.cell 3
        have o4 : w10.cell? ⟨ob, 4, none⟩ = some (.int .i64 p.num) := hOB.cell 4
        have o5 : w10.cell? ⟨ob, 5, none⟩ = some (.string p.text) := hOB.cell 5
        have o6 : w10.cell? ⟨ob, 6, none⟩ = some (.slice Al p.list.length cl) := hOB.cell 6
        have o7 : w10.cell? ⟨ob, 7, none⟩ = some (.slice Ad p.data.length cd) := hOB.cell 7
        have huw : w.heap.size ≤ u := by rw [hu]; exact hP10.kp.size
        have huo := Lib.hid hu
        go_upto_region 24 with fail
        rw [← hw11, ← hu]
        clear hw11 hu o0 o1 o2 o3 o4 o5 o6 o7
        have hOB11 := hOB.non hk11
        have hP11 := hP10.non hk11
        have hRB' := hRB
        unfold RpB at hRB'
        have hATS := (hAL.non hP11.kp).ats
        have p6 : w11.cell? ⟨ob, 6, none⟩ = some (.slice Al p.list.length cl) := hOB11.cell 6
        have HF11 := Lib.hid (And.intro hP11 (And.intro hOB11 (And.intro hU11 (And.intro hAL (And.intro hAD hRB)))))
        clear hP11 hOB11 hU11 hAL hAD hRB hP10 hOB
        go_upto_region 25 with (at_builtin; refine wpList_append_vals rfl (.tmp 90) (.tmp 93) 34 rfl w11.heap.size 9 (.string ByteArray.empty) 16 Try.underlying34 info9 rfl (.slice none 0 0) 0 [] rfl (World.ownsRow_nil _ _ _ _) Al p.list.length cl (p.list.map Value.string) rfl (by simp) hATS (by intro v hv; obtain ⟨s, -, rfl⟩ := List.mem_map.1 hv; rfl) (by unfold maxLen; omega) (by omega) (Nat.le_refl _) ?_; intro v' w12 hO12 hK12 hat; (have hS12 : OwnS w12 w11.heap.size v' p.list := (by rw [List.nil_append, Nat.zero_add] at hO12; exact hO12)); clear hO12 hat; obtain ⟨Al2, cl2, rfl, hcl2, -⟩ := hS12.open; (have hk12 := owned_nil hK12); (have hU12 := HF11.out.2.2.1.non hk12); (have u5 : w12.cell? ⟨u, 5, none⟩ = some (.slice Al p.list.length cl) := hU12.cell 5); (have fu5 := hU12.frozen 5))
        have hOB12 := HF11.out.2.1.non hk12
        have hP12 := HF11.out.1.non hk12
        obtain ⟨w13, hw13⟩ : ∃ W, W = w12.setCell ⟨u, 5, none⟩ (.slice Al2 p.list.length cl2) := ⟨_, rfl⟩
        have hkU : Keeps (Only u) w12 w13 := by rw [hw13]; exact (Keeps.refl (Only u) w12).set (p := ⟨u, 5, none⟩) rfl _
        have hU13 : Blk w13 u 37 #[.int .i64 p.ses, .int .i64 p.id, .int .i64 p.err, .int .i64 p.num, .string p.text, .slice Al2 p.list.length cl2, .slice Ad p.data.length cd] := by rw [hw13]; exact hU12.set 5 (.slice Al2 p.list.length cl2)
        have hP13 := hP12.one hU12 (by decide) (by decide) (by decide) (by decide) huw hkU
        have hOB13 := hOB12.one hkU (hOB12.ne hU12 (by decide))
        have hS13 : OwnS w13 w11.heap.size (.slice Al2 p.list.length cl2) p.list := hS12.keep hkU (Blk.apart hU12 hS12 (by decide))
        rw [← hw13]
        have p7 : w13.cell? ⟨ob, 7, none⟩ = some (.slice Ad p.data.length cd) := hOB13.cell 7
        have hAt := HF11.out.2.2.2.2.1.non hP13.kp
        obtain ⟨on, pv, hr13, hO13⟩ := hP13.rep
        have HPVo : Hid (∀ i, pv.ownBlock = some i → i < w13.heap.size) := OwnB.old hO13
        have HF13 := Lib.hid (And.intro hP13 (And.intro hOB13 (And.intro hU13 (And.intro hS13 (And.intro hr13 hO13)))))
        clear hw13 hkU hU12 hOB12 hP12 hS12 hK12 hk12 u5 fu5 p6 hATS hU13 hP13 hOB13 hS13 hr13 hO13
        go_upto_region 26 with (at_builtin; refine wpList_append_bytes rfl (.tmp 96) (.tmp 99) 35 rfl w13.heap.size 5 Try.underlying35 info5 (.slice none 0 0) [] rfl (OwnB.nil _ _ _) Ad p.data.length cd p.data rfl rfl hAt (by simp; omega) (Nat.le_refl _) ?_; intro v' w14 hO14 hK14 hat; (have hD14 : OwnB w14 w13.heap.size 5 v' p.data := hO14); clear hO14 hat; obtain ⟨Ad2, cd2, rfl, hcd2, -⟩ := hD14.open; (have hk14 := owned_nil hK14); (have hU14 := HF13.out.2.2.1.non hk14); (have u6 : w14.cell? ⟨u, 6, none⟩ = some (.slice Ad p.data.length cd) := hU14.cell 6); (have fu6 := hU14.frozen 6))
        obtain ⟨w15, hw15⟩ : ∃ W, W = w14.setCell ⟨u, 6, none⟩ (.slice Ad2 p.data.length cd2) := ⟨_, rfl⟩
        have hkU : Keeps (Only u) w14 w15 := by rw [hw15]; exact (Keeps.refl (Only u) w14).set (p := ⟨u, 6, none⟩) rfl _
        have hU15 : Blk w15 u 37 #[.int .i64 p.ses, .int .i64 p.id, .int .i64 p.err, .int .i64 p.num, .string p.text, .slice Al2 p.list.length cl2, .slice Ad2 p.data.length cd2] := by rw [hw15]; exact hU14.set 6 (.slice Ad2 p.data.length cd2)
        have hP15 := (HF13.out.1.non hk14).one hU14 (by decide) (by decide) (by decide) (by decide) huw hkU
        have hOB14 := HF13.out.2.1.non hk14
        have hOB15 := hOB14.one hkU (hOB14.ne hU14 (by decide))
        have hS14 := HF13.out.2.2.2.1.non hk14
        have hS15 : OwnS w15 w11.heap.size (.slice Al2 p.list.length cl2) p.list := hS14.keep hkU (Blk.apart hU14 hS14 (by decide))
        have hD15 : OwnB w15 w13.heap.size 5 (.slice Ad2 p.data.length cd2) p.data := hD14.keep hkU (Blk.apart hU14 hD14 (by decide))
        have hr15 := (HF13.out.2.2.2.2.1.non hk14).other hU14 (by decide) (by decide) hkU
        have hO14 : OwnB w14 0 5 pv x.piece := HF13.out.2.2.2.2.2.non hk14
        have hO15 : OwnB w15 0 5 pv x.piece := hO14.keep hkU (Blk.apart hU14 hO14 (by decide))
        obtain ⟨dg, sg, hG15, -⟩ := hr15.blk
        have hzB : w.heap.size ≤ w13.heap.size := HF13.out.1.kp.size
        have hHE := hear_any who p Al2 cl2 Ad2 cd2 w15 hr15 hP15.step hO15 hP15.len (fun W hW => ⟨OwnS.ats (OwnS.keep hS15 hW (Blk.apart hG15 hS15 (by decide))), OwnB.ats (OwnB.keep hD15 hW (Blk.apart hG15 hD15 (by decide)))⟩) HF11.out.2.2.2.2.2
        obtain ⟨pvy, hB15, hpy⟩ := hP15.doc
        have hqg := hB15.ne hG15 (by decide)
        have hug := hU15.ne hG15 (by decide)
        have hog := hOB15.ne hG15 (by decide)
        have HDG : Hid (∀ k, (Value.slice Ad2 p.data.length cd2).ownBlock = some k → k ≠ g) := Blk.apart hG15 hD15 (by decide)
        have HHE := Lib.hid hHE
        rw [← hw15]
        have s0 : w15.cell? ⟨ob, 0, none⟩ = some (.int .i64 who) := hOB15.cell 0
        have u0 : w15.cell? ⟨u, 0, none⟩ = some (.int .i64 p.ses) := hU15.cell 0
        have u1 : w15.cell? ⟨u, 1, none⟩ = some (.int .i64 p.id) := hU15.cell 1
        have u2 : w15.cell? ⟨u, 2, none⟩ = some (.int .i64 p.err) := hU15.cell 2
        have u3 : w15.cell? ⟨u, 3, none⟩ = some (.int .i64 p.num) := hU15.cell 3
        have u4' : w15.cell? ⟨u, 4, none⟩ = some (.string p.text) := hU15.cell 4
        have u5 : w15.cell? ⟨u, 5, none⟩ = some (.slice Al2 p.list.length cl2) := hU15.cell 5
        have u6' : w15.cell? ⟨u, 6, none⟩ = some (.slice Ad2 p.data.length cd2) := hU15.cell 6
        have HF15 := Lib.hid (And.intro hP15 (And.intro hOB15 (And.intro hU15 (And.intro hD15 (And.intro hB15 hpy)))))
        clear hw15 hkU hU15 hP15 hOB14 hOB15 hS14 hS15 hD14 hD15 hr15 hO14 hO15 hG15 hHE hB15 hpy hU14 u6 fu6 hk14 hK14 p7 hAt
        go_upto_region 27 with (go_at_call 9; go_must (refine HHE.out.mono ?_); rintro en w16 ⟨rfl, on', pv', h16, hO16, hpb16, hK16⟩)
        obtain ⟨x', hx'⟩ : ∃ x', x' = hearV j x who p := ⟨_, rfl⟩
        rw [← hx'] at h16 hO16
        have HX' := Lib.hid hx'
        have hU16 := HF15.out.2.2.1.one hK16 hug
        have hOB16 := HF15.out.2.1.one hK16 hog
        have hD16 : OwnB w16 w13.heap.size 5 (.slice Ad2 p.data.length cd2) p.data := OwnB.keep HF15.out.2.2.2.1 hK16 HDG.out
        have hB16 := HF15.out.2.2.2.2.1.one hK16 hqg
        have HDOLD : Hid (∀ i, (Value.slice Ad2 p.data.length cd2).ownBlock = some i → i < w15.heap.size) := OwnB.old HF15.out.2.2.2.1
        have HY : Hid (∀ i, Owned (.slice Ad2 p.data.length cd2) i → w13.heap.size ≤ i) := OwnB.young hD16
        have HNU : Hid (¬ Owned (.slice Ad2 p.data.length cd2) u) := fun e => Blk.apart hU16 hD16 (by decide) u e rfl
        have HNO : Hid (¬ Owned (.slice Ad2 p.data.length cd2) ob) := fun e => Blk.apart hOB16 hD16 (by decide) ob e rfl
        have HNQ : Hid (¬ Owned (.slice Ad2 p.data.length cd2) q) := fun e => Blk.apart hB16 hD16 (by decide) q e rfl
        have HPB : Hid (∀ i, pv'.ownBlock = some i → ¬ Owned (.slice Ad2 p.data.length cd2) i) := fun i hi e => by
          have h1 := HY.out i e
          have h2 := HDOLD.out i e
          rcases hpb16 i hi with h3 | h3
          · have := HPVo.out i h3; omega
          · omega
        have hD16' : w16.ownsRow w13.heap.size 5 1 (.slice Ad2 p.data.length cd2) p.data.length (p.data.map bv) := hD16
        have HF16 := Lib.hid (And.intro h16 (And.intro hO16 (And.intro hU16 (And.intro hOB16 (And.intro hD16' (And.intro hB16 hK16))))))
        obtain ⟨n, hnn⟩ : ∃ n, n = p.data.length := ⟨_, rfl⟩
        rw [← hnn] at HF16 HY HNU HNO HNQ HPB hRB'
        clear h16 hO16 hpb16 hK16 hx' hU16 hOB16 hD16 hD16' hB16 s0 u0 u1 u2 u3 u4' u5 u6' HHE HDOLD
        have HNN := Lib.hid hnn
        clear hnn
        go_wp2_with fail
        go_loopw [20] (fun i wr => ∃ (m : Nat) (xs : List Value), m ≤ n ∧ i = .int .i64 m ∧ wr.ownsRow w13.heap.size 5 1 (.slice Ad2 n cd2) n xs ∧ Keeps (Owned (.slice Ad2 n cd2)) w16 wr) (fun i _ => n - (intOf i).toNat)
        case atStart => exact ⟨0, _, Nat.zero_le _, rfl, HF16.out.2.2.2.2.1, Keeps.refl _ _⟩
        case round =>
          obtain ⟨m, cu, hm, rfl, hOr, hK⟩ := hrel
          have u6 : wr.cell? ⟨u, 6, none⟩ = some (.slice Ad2 n cd2) := (HF16.out.2.2.1.keep hK HNU.out).cell 6
          by_cases hlm : m < n
          · obtain ⟨gd, cap', cur, e1, h2, h3, h4, h5, h6, h7⟩ := row_form hOr (by omega)
            injection e1 with e1 _ e2
            subst e1 e2
            obtain ⟨v, hc2⟩ : ∃ v, wr.cell? ⟨gd, m, none⟩ = some v := ⟨_, by rw [h3.cell]; exact Array.getElem?_eq_getElem (by omega)⟩
            have hf := h3.frozen m
            have hO' := row_set hOr hlm (.int .u8 98)
            have hK' := hK.set (p := ⟨gd, m, none⟩) (owned_one.2 rfl) (.int .u8 98)
            unfold maxLen at h5
            clear h7 h6 h3 hOr hK
            go_wp2_with fail
            go_roundw
            case rel => exact ⟨m + 1, _, by omega, by go_num, hO', hK'⟩
            case measure => simp [intOf]; omega
          · obtain rfl : m = n := by omega
            obtain ⟨w17, rfl⟩ : ∃ W : World, W = wr := ⟨_, rfl⟩
            have hr17 := HF16.out.1.owned HF16.out.2.2.2.2.1 hK
            have hO17 : OwnB w17 0 5 pv' x'.piece := OwnB.keep HF16.out.2.1 hK HPB.out
            have hOB17 := HF16.out.2.2.2.1.keep hK HNO.out
            have hB17 := HF16.out.2.2.2.2.2.1.keep hK HNQ.out
            have hkp17 : Keeps Non w w17 := (HF15.out.1.kp.then HF16.out.2.2.2.2.2.2 fun i hi e => by have := HF15.out.1.gg; unfold Only at e; omega).then hK fun i hi e => by have := HY.out i e; omega
            obtain ⟨y', hy'⟩ : ∃ y', y' = hearVD j y who p := ⟨_, rfl⟩
            have hRH := rhear_any w who p Al cl Ad cd w17 ⟨pvy, hB17, HF15.out.2.2.2.2.2⟩ (fun h0 => by rw [← HF15.out.1.ali.2.2.2 (HF15.out.1.ali.1.trans h0)]; exact HF15.out.1.step) (fun W hW => HF11.out.2.2.2.1.non (hkp17.then hW fun i hi e => by have := HF15.out.1.qq; unfold Only at e; omega)) HF11.out.2.2.2.2.1 HF11.out.2.2.2.2.2
            rw [← hy'] at hRH
            have HRH := Lib.hid hRH
            have HY' := Lib.hid hy'
            have s0 : w17.cell? ⟨ob, 0, none⟩ = some (.int .i64 who) := hOB17.cell 0
            have s1 : w17.cell? ⟨ob, 1, none⟩ = some (.int .i64 p.ses) := hOB17.cell 1
            have s2 : w17.cell? ⟨ob, 2, none⟩ = some (.int .i64 p.id) := hOB17.cell 2
            have s3 : w17.cell? ⟨ob, 3, none⟩ = some (.int .i64 p.err) := hOB17.cell 3
            have s4 : w17.cell? ⟨ob, 4, none⟩ = some (.int .i64 p.num) := hOB17.cell 4
            have s5 : w17.cell? ⟨ob, 5, none⟩ = some (.string p.text) := hOB17.cell 5
            have s6 : w17.cell? ⟨ob, 6, none⟩ = some (.slice Al p.list.length cl) := hOB17.cell 6
            have s7 : w17.cell? ⟨ob, 7, none⟩ = some (.slice Ad p.data.length cd) := by rw [← HNN.out]; exact hOB17.cell 7
            have HF17 := Lib.hid (And.intro hr17 (And.intro hO17 (And.intro hB17 hkp17)))
            clear hr17 hO17 hOB17 hB17 hkp17 hRH hy' hK hOr hRB'
            go_wp2_with (go_at_call 10; go_must (refine HRH.out.mono ?_); rintro en w18 ⟨rfl, hd18, hK18⟩)
            go_roundw
            case rel =>
              obtain ⟨dg2, sg2, hG17, -⟩ := HF17.out.1.blk
              refine ⟨k + 1, x', y', by omega, by go_num, ⟨⟨on', pv', HF17.out.1.other HF17.out.2.2.1 (by decide) (by decide) hK18, OwnB.keep HF17.out.2.1 hK18 (Blk.apart HF17.out.2.2.1 HF17.out.2.1 (by decide))⟩, hd18, ?_, ?_, ?_, HF17.out.2.2.2.then hK18 fun i hi e => by have := HF15.out.1.qq; unfold Only at e; omega, HF15.out.1.gg, HF15.out.1.qq⟩⟩
              · rw [HX'.out]; exact hearV_at j x who p HF15.out.1.step
              · rw [HX'.out]; exact hearV_len j x who p HF15.out.1.len HF11.out.2.2.2.2.2
              · rw [HX'.out, HY'.out]; exact alike_hearV j who p HF15.out.1.ali
            case measure => simp [intOf]; omega
    · obtain rfl : k = os.length := by omega
      have HSM := Lib.hid (same_any w wr hPr)
      have HK := Lib.hid hPr.kp
      have HGG := Lib.hid hPr.gg
      clear hPr
      go_wp2_with (go_at_call 7; go_must (refine HSM.out.mono ?_); rintro en w9 ⟨rfl, hP9, hK9⟩)
      go_ret
      exact ⟨rfl, hP9.kp⟩
end
end Go.Proofs.Yteigjlkgbpgkjaa
