/- Layer 16: a world anew. A call's whole way over the state. A step of a call. Conditions: none. -/
import Derived.Test.YtfplalgoopkmaaaGreatPart33
import Derived.Test.YtfplalgoopkmaaaGreatPart14
import Derived.Test.YtfplalgoopkmaaaGreatPart25

set_option linter.unusedVariables false
set_option linter.unusedSimpArgs false

namespace Go.Proofs.YtfplalgoopkmaaaGreat
open Go.RowKit

def Hp.nil : Hp := ⟨fun _ => [], fun _ => [], []⟩
def Sy.zero : Sy := ⟨0, 0, 0, fun _ => 0, fun _ => false, 0, fun _ => false, fun _ => 0⟩
def Th.nil : Th := ⟨0, ⟨0, 0, 0, 0, false, false⟩, ⟨0, 0, 0⟩, false⟩
/-- A world's state as it begins. -/
def St.new (n lim nth : Nat) : St := ⟨n, fun _ => 0, arena1 n lim, Sy.zero, fun _ => Hp.nil, fun _ => none, fun _ => none, ⟨[], nth, fun _ => Th.nil⟩, fun _ _ => none⟩
def Lay.new (bs bm bb ba bk bt : Nat) (hp : Nat → Nat) (vr : Value) (bw bth : Nat) : Lay :=
  ⟨bm, bb, ba, bk, bt, vr, .slice none 0 0, bs, hp, fun _ _ => .slice none 0 0, fun _ _ => .slice none 0 0, fun _ => .slice none 0 0, fun _ => 0, fun _ => 0, fun _ => 0, fun _ => 0, fun _ => 0, bw, bth, .slice none 0 0, fun _ _ => 0, fun _ _ => .slice none 0 0⟩

theorem thsV_new (L : Lay) (nth : Nat) (h1 : 1 ≤ nth) (h8 : nth ≤ 8) (n lim : Nat) :
    madeCells #[.int .i64 0, .int .i64 0, .int .u64 0, .int .u64 0, .int .u64 0, .bool false, .bool false, .pointer none, .int .u64 0, .int .i64 0, .int .i64 0, .bool false] (nth * 12) = thsV L (St.new n lim nth).wl (fun t => ((St.new n lim nth).fr false t).isSome) := by
  obtain rfl | rfl | rfl | rfl | rfl | rfl | rfl | rfl : nth = 1 ∨ nth = 2 ∨ nth = 3 ∨ nth = 4 ∨ nth = 5 ∨ nth = 6 ∨ nth = 7 ∨ nth = 8 := by omega
  all_goals kernel_rfl

theorem Tryz.infoTh : (Tryz.prog.info? 112).map (fun i => (i.zero.map Value.cells, i.size, i.bytes)) = some (some #[.int .i64 0, .int .i64 0, .int .u64 0, .int .u64 0, .int .u64 0, .bool false, .bool false, .pointer none, .int .u64 0, .int .i64 0, .int .i64 0, .bool false], 12, 88) := by kernel_rfl
theorem makeThs (n : Nat) (h2 : n ≤ 8) (w : World) : (Instr.makeSlice 55 (.int .i64 (n : Int)) (.int .i64 (n : Int))).run Tryz.prog w = .ok (.slice (some ⟨w.heap.size, 0, none⟩) n n) (w.alloc (.cells (madeCells #[.int .i64 0, .int .i64 0, .int .u64 0, .int .u64 0, .int .u64 0, .bool false, .bool false, .pointer none, .int .u64 0, .int .i64 0, .int .i64 0, .bool false] (n * 12)) 112)) := by
  have h0 := Tryz.infoTh
  cases hi : Tryz.prog.info? 112 with
  | none => rw [hi] at h0; cases h0
  | some i0 =>
    rw [hi] at h0
    simp only [Option.map_some, Option.some.injEq, Prod.mk.injEq] at h0
    obtain ⟨hz, hs, hb⟩ := h0
    cases hzz : i0.zero with
    | none => rw [hzz] at hz; cases hz
    | some z =>
      rw [hzz] at hz
      simp only [Option.map_some, Option.some.injEq] at hz
      have h := run_make (P := Tryz.prog) w 55 112 i0 z Tryz.underlying55 hi hzz .i64 .i64 n n (by omega) (Int.le_refl _) (by rw [hb]; omega) (by omega)
      rw [h, hz, hs]
      simp only [Int.toNat_natCast]

def tyKind (t : TypeId) : Nat := if t = 122 ∨ t = 5 then 0 else if t = 129 ∨ t = 158 ∨ t = 4 ∨ t = 147 then 1 else if t = 101 then 2 else if t = 141 then 3 else 4
def ixKind : Ix → Nat
  | .mem => 0
  | .arena => 1
  | .sys => 2
  | .heap _ => 3
  | _ => 4

theorem Rep.new {w w1 w' : World} {bs bm bb ba bk bt n lim nth : Nat} {cs : Array Value} {hp : Nat → Nat} {vr : Value} {bw bth : Nat} (h : SysNew w w1 bs bm bb ba bk bt n lim cs hp vr) (ho : Only Nobody w1 w') (h1 : 1 ≤ nth) (h8 : nth ≤ 8)
    (hbw : Blk w' bw 57 #[.slice none 0 0, ptrV bs, .slice (some ⟨bth, 0, none⟩) nth nth]) (hth : Blk w' bth 112 (madeCells #[.int .i64 0, .int .i64 0, .int .u64 0, .int .u64 0, .int .u64 0, .bool false, .bool false, .pointer none, .int .u64 0, .int .i64 0, .int .i64 0, .bool false] (nth * 12))) :
    Rep w' (Lay.new bs bm bb ba bk bt hp vr bw bth) (St.new n lim nth) := by
  have hm : MemAt w' bm bb (n * 16384) (fun _ => 0) := h.mem.only ho (fun h => h) (fun h => h)
  have ha : ArenaAt w' ba bk bt vr (.slice none 0 0) (arena1 n lim) := h.arena.only ho (fun h => h) (fun h => h) (fun h => h) (fun _ _ h => h) (fun _ _ h => h)
  have hs : Blk w' bs 101 cs := h.blk.only ho (fun h => h)
  have hh : ∀ t, t < 8 → HeapAt w' (hp t) bm ba (heapNew (t + 1)) := fun t ht => (h.heap t ht).quiet ho
  have key : ∀ i x, Foot (Lay.new bs bm bb ba bk bt hp vr bw bth) (St.new n lim nth) i x → ∃ t cs, Blk w' x t cs ∧ tyKind t = ixKind i := by
    intro i x hx
    cases i with
    | mem =>
      rcases hx with rfl | rfl
      · exact ⟨_, _, hm.st, rfl⟩
      · exact ⟨_, _, hm.by_, rfl⟩
    | arena =>
      rcases hx with rfl | rfl | rfl | hg | hg
      · exact ⟨_, _, ha.st, rfl⟩
      · exact ⟨_, _, ha.marks.st, rfl⟩
      · exact ⟨_, _, ha.marks.pl, rfl⟩
      · obtain ⟨cs, hb⟩ := RowAt.own_of ha.rg hg
        exact ⟨_, _, hb, rfl⟩
      · cases hg
    | sys => obtain rfl : x = bs := hx; exact ⟨_, _, hs, rfl⟩
    | heap t =>
      obtain ⟨ht, hx⟩ := hx
      rcases hx with rfl | ⟨c, hc, hg | hg⟩ | hg
      · exact ⟨_, _, (hh t ht).st, rfl⟩
      · cases hg
      · cases hg
      · cases hg
    | seg p => cases hx.1
    | page k => cases hx.1
    | wld =>
      rcases hx with rfl | rfl | hg
      · exact ⟨_, _, hbw, rfl⟩
      · exact ⟨_, _, hth, rfl⟩
      · cases hg
    | fr i t => cases hx.1
  refine ⟨fun i => ?_, fun i j x h1 h2 => ?_⟩
  · cases i with
    | mem => exact hm
    | arena => exact ⟨ha, by simp [Lay.new, Value.ownBlock], .inl rfl⟩
    | sys =>
      have hv := h.val
      exact ⟨cs, hs, hv.size, hv.h0, hv.h1, hv.h2, hv.h3, hv.h4, hv.bl, hv.inn, hv.tp, hv.hp, fun i hi => ⟨none, hv.sg i hi, fun e => by cases e⟩, hv.hu⟩
    | heap t => exact fun ht => hh t ht
    | seg p => intro s hs; cases hs
    | page k => intro s hs; cases hs
    | wld => exact ⟨hbw, ⟨rfl, .inl ⟨rfl, rfl⟩⟩, by rw [← thsV_new _ _ h1 h8]; exact hth, h8⟩
    | fr i t => intro F hF; cases hF
  · obtain ⟨t1, cs1, hb1, e1⟩ := key i x h1
    obtain ⟨t2, cs2, hb2, e2⟩ := key j x h2
    have e : ixKind i = ixKind j := by rw [← e1, ← e2, (hb1.cs_eq hb2).1]
    cases i <;> cases j <;> first | rfl | (exfalso; revert e; simp [ixKind]; done) | (cases h1.1; done) | (cases h2.1; done) | skip
    rename_i t u
    obtain ⟨ht, hx⟩ := h1
    obtain ⟨hu, hy⟩ := h2
    have hx2 : x = hp t := by
      rcases hx with hx | ⟨c, hc, hg | hg⟩ | hg
      · exact hx
      · cases hg
      · cases hg
      · cases hg
    have hy2 : x = hp u := by
      rcases hy with hx | ⟨c, hc, hg | hg⟩ | hg
      · exact hx
      · cases hg
      · cases hg
      · cases hg
    rw [h.ne _ _ ht hu (hx2.symm.trans hy2)]

set_option maxRecDepth 100000 in
set_option maxHeartbeats 1000000 in
theorem world_New (n lim nth : Nat) (h2 : 2 ≤ n) (hn : n ≤ 64) (hl1 : 1 ≤ lim) (hl : lim ≤ n) (h1 : 1 ≤ nth) (h8 : nth ≤ 8) (w : World) :
    Calls Tryz.prog 12 #[.int .i64 n, .int .i64 lim, .int .i64 nth] w fun e w' => ∃ L, e = .returned (.tuple #[ptrV L.bw, .int .i64 0]) ∧ Rep w' L (St.new n lim nth) ∧ Only Nobody w w' ∧ ∀ i x, Foot L (St.new n lim nth) i x → w.heap.size ≤ x := by
  have HC := Lib.hid (call_New n lim h2 hn hl1 hl w)
  have HM := Lib.hid (fun w => makeThs nth h8 w)
  have d1 : decide ((nth : Int) < 1) = false := by rw [decide_eq_false_iff_not]; omega
  have d2 : decide ((8 : Int) < nth) = false := by rw [decide_eq_false_iff_not]; omega
  have d3 : decide (8 < nth) = false := by rw [decide_eq_false_iff_not]; omega
  have HM2 := HM.out
  go_enter Tryz.func12, Tryz.ntmps12
  go_wp2_with (first | (go_at_call 19; refine HC.out.mono ?_; rintro e w1 ⟨bs, bm, bb, ba, bk, bt, cs, hp, vr, rfl, hsn⟩; have HSN := Lib.hid hsn; clear hsn))
  all_goals go_ret2
  generalize hth : madeCells #[Value.int .i64 0, .int .i64 0, .int .u64 0, .int .u64 0, .int .u64 0, .bool false, .bool false, .pointer none, .int .u64 0, .int .i64 0, .int .i64 0, .bool false] (nth * 12) = ths
  have hoo : Only Nobody w1 ((w1.alloc (.cells ths 112)).alloc (.cells #[.slice none 0 0, .pointer (some ⟨bs, 0, none⟩), .slice (some ⟨w1.heap.size, 0, none⟩) nth nth] 57)) := ((Only.refl _ _).alloc _).alloc _
  refine ⟨Lay.new bs bm bb ba bk bt hp vr (w1.heap.size + 1) w1.heap.size, rfl, Rep.new HSN.out hoo h1 h8 ?_ ?_, HSN.out.only.trans hoo, fun i x hx => ?_⟩
  · have := Blk.new (w1.alloc (.cells ths 112)) 57 #[.slice none 0 0, .pointer (some ⟨bs, 0, none⟩), .slice (some ⟨w1.heap.size, 0, none⟩) nth nth]
    rwa [World.size_alloc] at this
  · rw [hth]; exact (Blk.new w1 112 ths).alloc _
  · have hz := HSN.out.only.size
    obtain ⟨n1, n2, n3, n4, n5, n6, n7⟩ := HSN.out.new
    cases i with
    | mem => rcases hx with rfl | rfl <;> assumption
    | arena =>
      rcases hx with rfl | rfl | rfl | hg | hg
      · exact n4
      · exact n5
      · exact n6
      · exact HSN.out.vr1 _ hg
      · cases hg
    | sys => obtain rfl : x = bs := hx; exact n1
    | heap t =>
      obtain ⟨ht, hx⟩ := hx
      rcases hx with rfl | ⟨c, hc, hg | hg⟩ | hg
      · exact n7 t ht
      · cases hg
      · cases hg
      · cases hg
    | seg p => cases hx.1
    | page k => cases hx.1
    | wld =>
      rcases hx with hx | hx | hg
      · have : x = w1.heap.size + 1 := hx
        omega
      · have : x = w1.heap.size := hx
        omega
      · cases hg
    | fr i t => cases hx.1
end Go.Proofs.YtfplalgoopkmaaaGreat

namespace Go.Proofs.YtfplalgoopkmaaaGreat
open Go.RowKit

/-- What stays where it is, but for the calls on their way. -/
structure Fixd (L L' : Lay) : Prop where
  bm : L'.bm = L.bm
  bb : L'.bb = L.bb
  ba : L'.ba = L.ba
  bs : L'.bs = L.bs
  hp : L'.hp = L.hp
  bw : L'.bw = L.bw
  bth : L'.bth = L.bth
theorem Fix.fixd {L L' : Lay} (h : Fix L L') : Fixd L L' := ⟨h.bm, h.bb, h.ba, h.bs, h.hp, h.bw, h.bth⟩
theorem Fixd.refl (L : Lay) : Fixd L L := ⟨rfl, rfl, rfl, rfl, rfl, rfl, rfl⟩
theorem Fixd.trans {L L' L'' : Lay} (h : Fixd L L') (k : Fixd L' L'') : Fixd L L'' := ⟨k.bm.trans h.bm, k.bb.trans h.bb, k.ba.trans h.ba, k.bs.trans h.bs, k.hp.trans h.hp, k.bw.trans h.bw, k.bth.trans h.bth⟩

/-- Some steps of it, calls begun and over among them. -/
structure Run (w : World) (L : Lay) (A : St) (w' : World) (L' : Lay) (A' : St) : Prop where
  rep : Rep w' L' A'
  only : Only (fun x => ∃ i, Foot L A i x) w w'
  foot : ∀ i x, Foot L' A' i x → (∃ j, Foot L A j x) ∨ w.heap.size ≤ x
  fix : Fixd L L'
theorem Ste.run {w w' : World} {L L' : Lay} {A A' : St} (h : Ste w L A w' L' A') : Run w L A w' L' A' := ⟨h.rep, h.only, h.foot, h.fix.fixd⟩
theorem Run.refl {w w' : World} {L : Lay} {A : St} (h : Rep w L A) (ho : Only Nobody w w') : Run w L A w' L A := (Ste.refl h ho).run
theorem Run.trans {w w1 w2 : World} {L L1 L2 : Lay} {A A1 A2 : St} (h : Run w L A w1 L1 A1) (k : Run w1 L1 A1 w2 L2 A2) : Run w L A w2 L2 A2 :=
  ⟨k.rep, h.only.trans_new k.only (fun b hb ⟨i, hi⟩ => by
      rcases h.foot i b hi with hj | hj
      · exact hj
      · omega), fun i x hx => by
      rcases k.foot i x hx with ⟨j, hj⟩ | hj
      · exact h.foot j x hj
      · exact .inr (Nat.le_trans h.only.size hj), h.fix.trans k.fix⟩
theorem Run.quiet_right {w w1 w2 : World} {L L1 : Lay} {A A1 : St} (k : Run w L A w1 L1 A1) (ho : Only Nobody w1 w2) : Run w L A w2 L1 A1 := k.trans (Run.refl k.rep ho)
theorem Run.quiet_left {w w1 w2 : World} {L L2 : Lay} {A A2 : St} (ho : Only Nobody w w1) (h : Rep w L A) (k : Run w1 L A w2 L2 A2) : Run w L A w2 L2 A2 := (Run.refl h ho).trans k
/-- A block that is none of its own stays. -/
theorem Run.keep {w w' : World} {L L' : Lay} {A A' : St} (h : Run w L A w' L' A') {b : Nat} {t : TypeId} {cs : Array Value} (hb : Blk w b t cs) (hn : ∀ i, ¬ Foot L A i b) : Blk w' b t cs ∧ ∀ i, ¬ Foot L' A' i b :=
  ⟨hb.only h.only (fun ⟨i, hi⟩ => hn i hi), fun i hi => by
    rcases h.foot i b hi with ⟨j, hj⟩ | hj
    · exact hn j hj
    · have := hb.lt; omega⟩

/-- What a caller writes into a block of its own. -/
theorem Run.out {w w' w'' : World} {L L' : Lay} {A A' : St} (h : Run w L A w' L' A') {b : Nat} (ho : Only (fun x => x = b) w' w'') (hb : w.heap.size ≤ b) (hn : ∀ i, ¬ Foot L' A' i b) : Run w L A w'' L' A' :=
  ⟨⟨fun i => (h.rep.all i).keep ho (fun x hx e => hn i (e ▸ hx)), h.rep.ap⟩, h.only.trans_new ho (fun x hx e => by omega), h.foot, h.fix⟩
theorem Foot.call {L : Lay} {A : St} {t bf : Nat} {F : Fr} {i : Ix} {x : Nat} (h : Foot (L.call t bf) (A.call t F) i x) : x = bf ∨ Foot L A i x := by
  cases i with
  | fr i u =>
    obtain ⟨h1, h2⟩ := h
    by_cases hne : i = false ∧ u = t
    · obtain ⟨rfl, rfl⟩ := hne
      have e1 : (L.call u bf).fr false u = bf := updN_same _ _ _ _
      have e2 : (L.call u bf).fl false u = .slice none 0 0 := updFl_same _ _ _ _
      rw [e1, e2] at h2
      rcases h2 with h2 | h2
      · exact .inl h2
      · cases h2
    · have e1 : (L.call t bf).fr i u = L.fr i u := updN_ne _ _ hne
      have e2 : (L.call t bf).fl i u = L.fl i u := updFl_ne _ _ hne
      rw [e1, e2] at h2
      exact .inr ⟨by have := h1; simp only [updF_ne _ _ hne] at this; exact this, h2⟩
  | _ => exact .inr h
theorem Run.call {w w' : World} {L L' : Lay} {A A' : St} {t bf : Nat} {F : Fr} (hr : Rep w' (L'.call t bf) (A'.call t F)) (ho : Only (fun x => ∃ i, Foot L A i x) w w') (hf : ∀ j x, Foot L' A' j x → Foot L A j x) (hx : Fix L L') (hb : w.heap.size ≤ bf) : Run w L A w' (L'.call t bf) (A'.call t F) :=
  ⟨hr, ho, fun i x h => by
    rcases h.call with rfl | h
    · exact .inr hb
    · exact .inl ⟨i, hf i x h⟩, hx.bm, hx.bb, hx.ba, hx.bs, hx.hp, hx.bw, hx.bth⟩
end Go.Proofs.YtfplalgoopkmaaaGreat

namespace Go.Proofs.YtfplalgoopkmaaaGreat
open Go.RowKit

def isDone (s : ByteArray) : Bool := s.toList == [100, 111, 110, 101]
theorem isDone_done : isDone sDone = true := by kernel_rfl
theorem isDone_other : isDone sLook = false ∧ isDone sGrow = false ∧ isDone sFresh = false ∧ isDone sLocal = false ∧ isDone sRefuse = false ∧ isDone sHuge = false ∧ isDone sFind = false := by
  refine ⟨?_, ?_, ?_, ?_, ?_, ?_, ?_⟩ <;> kernel_rfl

theorem fr_Done (bf : Nat) (f : FrM) (w : World) (h : FrAt w bf f) :
    Calls Tryz.prog 77 #[.pointer (some ⟨bf, 0, none⟩)] w fun x w' => x = .returned (.bool (isDone f.state)) ∧ w = w' := by
  have c : w.cell? ⟨bf, 16, none⟩ = some (.string f.state) := h.cell 16
  clear h
  unfold isDone
  go_enter Tryz.func77, Tryz.ntmps77
  go_wp2
  go_ret
  exact ⟨rfl, rfl⟩

abbrev resV (f : FrM) : Value := .agg #[.int .u64 f.ra, .int .i64 f.re, .int .i64 f.steps]
theorem res_result (w : World) (b : Nat) (tmps : Array Value) (a : Nat) (e s : Int) (hb : Blk w b 74 #[.int .u64 a, .int .i64 e, .int .i64 s]) (h1 : tmps[2]? = some (.pointer (some ⟨b, 0, none⟩))) :
    (results Tryz.f78 tmps).run Tryz.prog w = .ok (.agg #[.int .u64 a, .int .i64 e, .int .i64 s]) w := by
  have hc := hb.cell
  simp [results, Tryz.f78, go_sem, h1, hc]
theorem fr_Result (bf : Nat) (f : FrM) (w : World) (h : FrAt w bf f) (hd : isDone f.state = true) :
    Calls Tryz.prog 78 #[.pointer (some ⟨bf, 0, none⟩)] w fun x w' => x = .returned (resV f) ∧ Only Nobody w w' := by
  have HD := Lib.hid (fr_Done bf f _ (h.alloc (.cells #[.int .u64 0, .int .i64 0, .int .i64 0] 74)))
  rw [hd] at HD
  have HB2 := Lib.hid (Blk.new w 74 #[.int .u64 f.ra, .int .i64 f.re, .int .i64 f.steps])
  have c21 : w.cell? ⟨bf, 21, none⟩ = some (.int .u64 f.ra) := h.cell 21
  have c22 : w.cell? ⟨bf, 22, none⟩ = some (.int .i64 f.re) := h.cell 22
  have c23 : w.cell? ⟨bf, 23, none⟩ = some (.int .i64 f.steps) := h.cell 23
  have HH := Lib.hid (h.alloc (.cells #[.int .u64 0, .int .i64 0, .int .i64 0] 74))
  clear h hd
  have c21' : (w.alloc (.cells #[.int .u64 0, .int .i64 0, .int .i64 0] 74)).cell? ⟨bf, 21, none⟩ = some (.int .u64 f.ra) := HH.out.cell 21
  have c22' : (w.alloc (.cells #[.int .u64 0, .int .i64 0, .int .i64 0] 74)).cell? ⟨bf, 22, none⟩ = some (.int .i64 f.re) := HH.out.cell 22
  have c23' : (w.alloc (.cells #[.int .u64 0, .int .i64 0, .int .i64 0] 74)).cell? ⟨bf, 23, none⟩ = some (.int .i64 f.steps) := HH.out.cell 23
  clear c21 c22 c23
  go_enter Tryz.func78, Tryz.ntmps78
  go_wp2_with (first | (go_at_call 77; refine HD.out.mono ?_; rintro e w1 ⟨rfl, rfl⟩))
  exact bodyPost_ret (res_result _ _ _ _ _ _ HB2.out rfl) rfl ⟨rfl, (Only.refl _ _).alloc _⟩
end Go.Proofs.YtfplalgoopkmaaaGreat
