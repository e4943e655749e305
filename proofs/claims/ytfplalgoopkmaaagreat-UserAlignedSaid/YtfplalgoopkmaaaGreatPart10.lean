/- Layer 4: the arena. Layer 12: a thread's heap. Conditions: none. -/
import Derived.Test.YtfplalgoopkmaaaGreatPart04
import Derived.Test.YtfplalgoopkmaaaGreatPart05
import Derived.Test.YtfplalgoopkmaaaGreatPart09

set_option linter.unusedVariables false
set_option linter.unusedSimpArgs false

namespace Go.Proofs.YtfplalgoopkmaaaGreat
open Go.RowKit

/-- What was told lies there: nothing, or a row of bools. -/
def ToldAt (w : World) (v : Value) (l : List Bool) : Prop :=
  ∃ a c, v = .slice a l.length c ∧ (l ≠ [] → ∃ b o cs, a = some ⟨b, o, none⟩ ∧ Blk w b 4 cs ∧ ∀ i u, l[i]? = some u → cs[o + i]? = some (.bool u))

structure ArenaAt (w : World) (ba bk bt : Nat) (vr vt : Value) (A : ArenaM) : Prop where
  st : Blk w ba 129 #[.pointer (some ⟨bk, 0, none⟩), .int .i64 A.segs, .int .i64 A.limit, vr, vt, .int .i64 A.refused]
  marks : MarksAt w bk bt A.segs A.T A.left
  rg : RowAt w 147 2 vr A.regs.length (A.regs.flatMap regCells)
  tl : ToldAt w vt A.told
  rise : Rising A.regs
  few : A.regs.length ≤ 64
  segs1 : A.segs ≤ 64
  lim : A.limit ≤ 64
  ref : A.refused ≤ 1000000000
  leq : A.left ≤ A.segs

/-- Nothing was told: the next time isn't refused. -/
theorem next_nil (ba : Nat) (cs : Array Value) (a : Option Addr) (c : Nat) (w : World) (h : Blk w ba 129 cs) (h4 : cs[4]? = some (.slice a 0 c)) :
    Calls Tryz.prog 46 #[.pointer (some ⟨ba, 0, none⟩)] w fun e w' => e = .returned (.bool false) ∧ w = w' := by
  have hc : w.cell? ⟨ba, 4, none⟩ = some (.slice a 0 c) := (h.cell 4).trans h4
  clear h h4
  go_enter Tryz.func46, Tryz.ntmps46
  go_wp2
  go_ret
  exact ⟨rfl, rfl⟩

theorem left_calls (bk : Nat) (left : Int) (w : World) (h : w.cell? ⟨bk, 1, none⟩ = some (.int .i64 left)) :
    Calls Tryz.prog 61 #[.pointer (some ⟨bk, 0, none⟩)] w fun e w' => e = .returned (.int .i64 left) ∧ w = w' := by
  go_enter Tryz.func61, Tryz.ntmps61
  go_wp2
  go_ret
  exact ⟨rfl, rfl⟩

theorem given_calls (ba bk bt : Nat) (vr vt : Value) (A : ArenaM) (w : World) (h : ArenaAt w ba bk bt vr vt A) :
    Calls Tryz.prog 47 #[.pointer (some ⟨ba, 0, none⟩)] w fun e w' => e = .returned (.int .i64 ((A.segs : Int) - A.left)) ∧ ∃ m, w.drewN m = w' := by
  have h0 : w.cell? ⟨ba, 0, none⟩ = some (.pointer (some ⟨bk, 0, none⟩)) := h.st.cell 0
  have h1 : w.cell? ⟨ba, 1, none⟩ = some (.int .i64 A.segs) := h.st.cell 1
  have h2 : w.cell? ⟨bk, 1, none⟩ = some (.int .i64 A.left) := h.marks.st.cell 1
  have b1 := h.segs1
  have b2 := h.marks.lb
  have b3 := h.marks.lu
  clear h
  go_enter Tryz.func47, Tryz.ntmps47
  go_wp2
  go_quiet ((go_at_call 61; exact quiet_left (left_calls _ _ _ h2)))
  go_wp2
  go_ret
  exact ⟨rfl, _, rfl⟩

theorem regCells_at (l : List (Nat × Nat)) : ∀ i r, l[i]? = some r → (l.flatMap regCells)[i * 2]? = some (.int .i64 r.1) ∧ (l.flatMap regCells)[i * 2 + 1]? = some (.int .i64 r.2) := by
  induction l with
  | nil => intro i r h; simp at h
  | cons x l ih =>
    intro i r h
    cases i with
    | zero => simp at h; subst h; exact ⟨rfl, rfl⟩
    | succ i =>
      have := ih i r (by simpa using h)
      rw [List.flatMap_cons]
      rw [show (i + 1) * 2 = 2 + i * 2 from by omega, show 2 + i * 2 + 1 = 2 + (i * 2 + 1) from by omega]
      exact ⟨by rw [List.getElem?_append_right (by simp)]; simpa using this.1, by rw [List.getElem?_append_right (by simp)]; simpa [show 2 + (i * 2 + 1) - 2 = i * 2 + 1 from by omega] using this.2⟩

theorem row_cell {w : World} {t : TypeId} {sz n g : Nat} {v u : Value} {xs : List Value} {j : Nat} (h : RowAt w t sz v n xs) (hg : v.ownBlock = some g) (hj : xs[j]? = some u) : w.cell? ⟨g, j, none⟩ = some u := by
  have := World.ownsRow.cells h hg j u hj
  unfold Addr.add at this
  split at this
  · subst_vars; exact this
  · simpa using this
/-- Where a region stands, or would. -/
theorem find_any (ba x : Nat) (vr : Value) (l : List (Nat × Nat)) (w : World) (cs : Array Value) (hb : Blk w ba 129 cs) (h3 : cs[3]? = some vr) (hr : RowAt w 147 2 vr l.length (l.flatMap regCells)) (hrise : Rising l) (hn : l.length ≤ 1000) :
    Calls Tryz.prog 49 #[.pointer (some ⟨ba, 0, none⟩), .int .i64 x] w fun e w' => e = .returned (.tuple #[.int .i64 (regIx l x), .bool (regHas l x)]) ∧ Only Nobody w w' := by
  have hc : w.cell? ⟨ba, 3, none⟩ = some vr := (hb.cell 3).trans h3
  rcases hr.2 with ⟨rfl, hl⟩ | ⟨g, cap, cur, rfl, _, hh, _, _, _, hcur⟩
  · obtain rfl := List.eq_nil_of_length_eq_zero hl
    clear hb h3 hr
    go_enter Tryz.func49, Tryz.ntmps49
    go_wp2_with (go_at_call 64; refine (search_nil _ _).mono ?_; rintro e w1 ⟨rfl, rfl⟩)
    go_ret2
    exact ⟨rfl, Only.refl _ _⟩
  · have hs := search_regs g l.length cap x l w rfl hn hrise (fun i r hir => by
      have := regCells_at l i r hir
      exact ⟨row_cell hr rfl this.1, row_cell hr rfl this.2⟩) (Blk.lt (t := 147) hh)
    have HS := Lib.hid hs
    clear hs hh hcur hr hb h3 hrise
    go_enter Tryz.func49, Tryz.ntmps49
    go_wp2_with (go_at_call 64; refine HS.out.mono ?_; rintro e w1 ⟨rfl, ho⟩; have HO := Lib.hid ho; clear ho)
    go_ret2
    exact ⟨rfl, HO.out⟩

/-- The blocks that an arena's calls may change. -/
def AS (ba bk bt : Nat) (vr : Value) : Nat → Prop := fun g => g = ba ∨ g = bk ∨ g = bt ∨ vr.ownBlock = some g
theorem ToldAt.only {w w' : World} {v : Value} {l : List Bool} {S : Nat → Prop} (h : ToldAt w v l) (ho : Only S w w') (hs : ∀ g, v.ownBlock = some g → ¬ S g) : ToldAt w' v l := by
  obtain ⟨a, c, rfl, h⟩ := h
  refine ⟨a, c, rfl, fun hl => ?_⟩
  obtain ⟨b, o, cs, rfl, hb, hc⟩ := h hl
  exact ⟨b, o, cs, rfl, hb.only ho (hs b rfl), hc⟩
theorem ToldAt.nil {w w' : World} {v : Value} (h : ToldAt w v []) : ToldAt w' v [] := by
  obtain ⟨a, c, rfl, _⟩ := h
  exact ⟨a, c, rfl, fun h => absurd rfl h⟩

set_option maxHeartbeats 1000000 in
theorem reserve_arg (ba bk bt : Nat) (vr vt : Value) (A : ArenaM) (n : Nat) (w : World) (h : ArenaAt w ba bk bt vr vt A) (hn : A.segs < n) (hn2 : n ≤ 1048576) :
    Calls Tryz.prog 35 #[.pointer (some ⟨ba, 0, none⟩), .int .i64 n] w fun e w' => e = .returned (.tuple #[.int .i64 0, .int .i64 2]) ∧ w = w' := by
  have h1 : w.cell? ⟨ba, 1, none⟩ = some (.int .i64 A.segs) := h.st.cell 1
  clear h
  go_enter Tryz.func35, Tryz.ntmps35
  go_wp2
  go_ret2
  exact ⟨rfl, rfl⟩

theorem row_blk_ne {w : World} {t t' : TypeId} {sz n g : Nat} {v : Value} {xs : List Value} {cs : Array Value} (h : RowAt w t sz v n xs) (hb : Blk w g t' cs) (hne : t ≠ t') : v.ownBlock ≠ some g := by
  rcases h.2 with ⟨rfl, _⟩ | ⟨b, cap, cur, rfl, _, hh, _⟩
  · simp [Value.ownBlock]
  · intro e
    obtain rfl : b = g := by simpa [Value.ownBlock] using e
    exact Blk.ne_ (t := t) hh hb hne rfl
theorem ToldAt.blk {w : World} {v : Value} {l : List Bool} (h : ToldAt w v l) (hl : l ≠ []) : ∃ g cs, v.ownBlock = some g ∧ Blk w g 4 cs := by
  obtain ⟨a, c, rfl, h⟩ := h
  obtain ⟨b, o, cs, rfl, hb, _⟩ := h hl
  exact ⟨b, cs, rfl, hb⟩
theorem ToldAt.only' {w w' : World} {v : Value} {l : List Bool} {S : Nat → Prop} (h : ToldAt w v l) (ho : Only S w w') (hs : ∀ g cs, Blk w g 4 cs → v.ownBlock = some g → ¬ S g) : ToldAt w' v l := by
  rcases l with _ | ⟨x, l⟩
  · exact h.nil
  · obtain ⟨g, cs, hg, hb⟩ := h.blk (by simp)
    exact h.only ho (fun g' hg' => by rw [hg] at hg'; cases hg'; exact hs g cs hb hg)
theorem ArenaAt.refuse {w w' : World} {ba bk bt : Nat} {vr vt : Value} {A : ArenaM} (h : ArenaAt w ba bk bt vr vt A)
    (hb : Blk w' ba 129 #[.pointer (some ⟨bk, 0, none⟩), .int .i64 A.segs, .int .i64 A.limit, vr, vt, .int .i64 ((A.refused : Int) + 1)]) (ho : Only (· = ba) w w') (href : A.refused < 1000000000) :
    ArenaAt w' ba bk bt vr vt { A with refused := A.refused + 1 } :=
  ⟨hb, h.marks.only ho (h.marks.st.ne_ h.st (by decide)) (h.marks.pl.ne_ h.st (by decide)),
    h.rg.only ho (fun g hg e => row_blk_ne h.rg h.st (by decide) (by rw [hg, e])),
    h.tl.only' ho (fun g cs hg _ e => by subst e; exact Blk.ne_ hg h.st (by decide) rfl), h.rise, h.few, h.segs1, h.lim, by show A.refused + 1 ≤ _; omega, h.leq⟩

set_option maxHeartbeats 1000000 in
theorem reserve_full (ba bk bt : Nat) (vr vt : Value) (A : ArenaM) (n : Nat) (w : World) (h : ArenaAt w ba bk bt vr vt A) (h1 : 1 ≤ n) (hn : n ≤ A.segs) (ht : A.told = []) (hg : (A.limit : Int) < A.segs - A.left + n) (href : A.refused < 1000000000) :
    Calls Tryz.prog 35 #[.pointer (some ⟨ba, 0, none⟩), .int .i64 n] w fun e w' => e = .returned (.tuple #[.int .i64 0, .int .i64 4]) ∧ ArenaAt w' ba bk bt vr vt { A with refused := A.refused + 1 } ∧ Only (· = ba) w w' := by
  have hA := Lib.hid h
  have c1 : w.cell? ⟨ba, 1, none⟩ = some (.int .i64 A.segs) := h.st.cell 1
  have c2 : w.cell? ⟨ba, 2, none⟩ = some (.int .i64 A.limit) := h.st.cell 2
  have c5 : w.cell? ⟨ba, 5, none⟩ = some (.int .i64 A.refused) := h.st.cell 5
  have f5 := h.st.frozen 5
  obtain ⟨a, c, hv, _⟩ := h.tl
  rw [ht] at hv
  have hnext := fun k => next_nil ba _ a c (w.drewN k) (h.st.drewN k) (by rw [hv]; rfl)
  have hgiven := fun k => given_calls ba bk bt vr vt A (w.drewN k) (by have := hA.out; exact ⟨this.st, ⟨this.marks.st, this.marks.pl, this.marks.n1, this.marks.le, this.marks.lb, this.marks.lu⟩, this.rg, this.tl, this.rise, this.few, this.segs1, this.lim, this.ref, this.leq⟩)
  have b1 := h.segs1
  have b2 := h.marks.lb
  have b3 := h.leq
  have b4 := h.lim
  have hgv : ∃ gv : Nat, (A.segs : Int) - A.left = gv := ⟨(A.segs - A.left).toNat, by omega⟩
  obtain ⟨gv, hgv⟩ := hgv
  rw [hgv] at hgiven hg
  obtain ⟨sm, hsm⟩ : ∃ sm, gv + n = sm := ⟨_, rfl⟩
  have hw1 : wrap64 ((gv : Int) + n) = (sm : Int) := by unfold wrap64; omega
  have hw2 : decide (sm ≤ A.limit) = false := by rw [decide_eq_false_iff_not]; omega
  have HN := Lib.hid hnext
  have HG := Lib.hid hgiven
  clear h hv ht hnext hgiven hgv hsm hg
  go_enter Tryz.func35, Tryz.ntmps35
  go_wp2
  go_quiet ((first | (go_at_call 46; exact quiet_left (HN.out _)) | (go_at_call 47; exact quiet_draws (HG.out _))))
  go_wp2
  go_ret2
  have hb := (hA.out.st.drewN nq).set_ 5 (.int .i64 ((A.refused : Int) + 1))
  have ho : Only (· = ba) w ((w.drewN nq).setCell ⟨ba, 5, none⟩ (.int .i64 ((A.refused : Int) + 1))) := Only.setAt (S := fun x => x = ba) ((Only.refl _ _).drewN _) (show ba = ba from rfl) _ _
  exact ⟨rfl, hA.out.refuse hb ho href, ho⟩
set_option maxHeartbeats 1000000 in
theorem reserve_ok (ba bk bt : Nat) (vr vt : Value) (A : ArenaM) (n : Nat) (w : World) (h : ArenaAt w ba bk bt vr vt A) (h1 : 1 ≤ n) (hn : n ≤ A.segs) (ht : A.told = []) (hg : A.segs - A.left + n ≤ (A.limit : Int)) (r : Row A.T A.segs) (htk : takeRow A.T A.segs n = some r) (hlast : ∀ x ∈ A.regs, x.1 < r.1.1) (hfew : A.regs.length < 64) (hl : ∀ a, a + n ≤ A.segs → (∀ j, j < n → A.T (a + j) = false) → n ≤ A.left) :
    Calls Tryz.prog 35 #[.pointer (some ⟨ba, 0, none⟩), .int .i64 n] w fun e w' => ∃ vr', e = .returned (.tuple #[.int .i64 r.1.1, .int .i64 0]) ∧ ArenaAt w' ba bk bt vr' vt { A with T := setB A.T r.1.1 n true, left := A.left - n, regs := A.regs ++ [(r.1.1, n)] } ∧ Only (AS ba bk bt vr) w w' ∧ NewOwn w.heap.size vr vr' := by
  have hA := Lib.hid h
  have c1 : w.cell? ⟨ba, 1, none⟩ = some (.int .i64 A.segs) := h.st.cell 1
  have c2 : w.cell? ⟨ba, 2, none⟩ = some (.int .i64 A.limit) := h.st.cell 2
  have c5 : w.cell? ⟨ba, 5, none⟩ = some (.int .i64 A.refused) := h.st.cell 5
  have f5 := h.st.frozen 5
  obtain ⟨a, c, hv, _⟩ := h.tl
  rw [ht] at hv
  have HTOLD := Lib.hid ht
  have hnext := fun k => next_nil ba _ a c (w.drewN k) (h.st.drewN k) (by rw [hv]; rfl)
  have hgiven := fun k => given_calls ba bk bt vr vt A (w.drewN k) (by have := hA.out; exact ⟨this.st, ⟨this.marks.st, this.marks.pl, this.marks.n1, this.marks.le, this.marks.lb, this.marks.lu⟩, this.rg, this.tl, this.rise, this.few, this.segs1, this.lim, this.ref, this.leq⟩)
  have b1 := h.segs1
  have b2 := h.marks.lb
  have b3 := h.leq
  have b4 := h.lim
  have hgv : ∃ gv : Nat, (A.segs : Int) - A.left = gv := ⟨(A.segs - A.left).toNat, by omega⟩
  obtain ⟨gv, hgv⟩ := hgv
  rw [hgv] at hgiven hg
  obtain ⟨sm, hsm⟩ : ∃ sm, gv + n = sm := ⟨_, rfl⟩
  have hw1 : wrap64 ((gv : Int) + n) = (sm : Int) := by unfold wrap64; omega
  have hw2 : decide (sm ≤ A.limit) = true := by rw [decide_eq_true_iff]; omega
  have HN := Lib.hid hnext
  have HG := Lib.hid hgiven
  clear h hv ht hnext hgiven hgv hsm hg
  have c0 : w.cell? ⟨ba, 0, none⟩ = some (.pointer (some ⟨bk, 0, none⟩)) := hA.out.st.cell 0
  have c3 : w.cell? ⟨ba, 3, none⟩ = some vr := hA.out.st.cell 3
  have htake := fun k => take_some bk bt A.segs n A.T A.left r (w.drewN k) ⟨hA.out.marks.st, hA.out.marks.pl, hA.out.marks.n1, hA.out.marks.le, hA.out.marks.lb, hA.out.marks.lu⟩ h1 hn hl htk
  have hix := regIx_last A.regs r.1.1 hlast
  have hrise2 : Rising (A.regs ++ [(r.1.1, n)]) := rising_snoc hA.out.rise (fun x hx => hlast x hx)
  have hkne : ba ≠ bk := hA.out.st.ne_ hA.out.marks.st (by decide)
  have htne : ba ≠ bt := hA.out.st.ne_ hA.out.marks.pl (by decide)
  have hvk : ∀ g, vr.ownBlock = some g → g ≠ ba ∧ g ≠ bk ∧ g ≠ bt := fun g hg =>
    ⟨fun e => row_blk_ne hA.out.rg hA.out.st (by decide) (by rw [hg, e]), fun e => row_blk_ne hA.out.rg hA.out.marks.st (by decide) (by rw [hg, e]), fun e => row_blk_ne hA.out.rg hA.out.marks.pl (by decide) (by rw [hg, e])⟩
  have HT := Lib.hid htake
  have HIX := Lib.hid hix
  have HL := Lib.hid hl
  have HRI := Lib.hid hrise2
  have HTk := Lib.hid htk
  have HVK := Lib.hid hvk
  have hln : A.regs.length ≤ 1000 := by omega
  have hfit := takeRow_fits htk
  have hr2 := r.2.2.1
  clear htake hl hlast htk hix hrise2 hvk
  go_enter Tryz.func35, Tryz.ntmps35
  go_wp2
  go_quiet ((first | (go_at_call 46; exact quiet_left (HN.out _)) | (go_at_call 47; exact quiet_draws (HG.out _))))
  go_wp2_with (go_at_call 48; refine (HT.out _).mono ?_; rintro e w1 ⟨rfl, hm, ho⟩; have HM1 := Lib.hid hm; have HO1 := Lib.hid ho; clear hm ho)
  have hb1 := (hA.out.st.drewN nq).only HO1.out (by omega)
  have hr1 : RowAt w1 147 2 vr A.regs.length (A.regs.flatMap regCells) := RowAt.only (w := w.drewN nq) hA.out.rg HO1.out (fun g hg => by have := HVK.out g hg; omega)
  have hfa := find_any ba r.1.1 vr A.regs w1 _ hb1 rfl hr1 hA.out.rise hln
  rw [HIX.out] at hfa
  have HB1 := Lib.hid hb1
  have HR1 := Lib.hid hr1
  have HFA := Lib.hid hfa
  clear hb1 hr1 hfa
  refine HFA.out.mono ?_
  rintro e w2 ⟨rfl, ho2⟩
  have hb2 := HB1.out.only ho2 (fun h => h)
  have hr2' : RowAt w2 147 2 vr A.regs.length (A.regs.flatMap regCells) := HR1.out.only ho2 (fun g _ h => h)
  have d3 : w2.cell? ⟨ba, 3, none⟩ = some vr := hb2.cell 3
  have hins := insert_end vr A.regs.length w2.heap.size (A.regs.flatMap regCells) (r.1.1, n) (w2.alloc (.cells #[.int .i64 r.1.1, .int .i64 n] 147)) (hr2'.alloc _) hln (Blk.new _ _ _)
  have HI := Lib.hid hins
  have HB2 := Lib.hid hb2
  have HO2 := Lib.hid ho2
  have HR2 := Lib.hid hr2'
  clear hins hb2 ho2 hr2'
  go_wp2_with fail
  refine HI.out.mono ?_
  rintro e w4 ⟨v', rfl, hrow, hgr, hnw⟩
  have HNW := Lib.hid hnw
  have hb4 := (HB2.out.alloc (.cells #[.int .i64 r.1.1, .int .i64 n] 147)).grown hgr (fun e => (HVK.out _ e.symm).1 rfl)
  have f3 := hb4.frozen 3
  have d4 : w4.cell? ⟨ba, 3, none⟩ = some vr := hb4.cell 3
  have HB4 := Lib.hid hb4
  have HROW := Lib.hid hrow
  have HGR := Lib.hid hgr
  obtain ⟨ga, ca, hv'⟩ : ∃ ga ca, v' = .slice (some ⟨ga, 0, none⟩) (A.regs.length + 1) ca := by
    rcases hrow.2 with ⟨_, h⟩ | ⟨ga, ca, _, h, _⟩
    · omega
    · exact ⟨ga, ca, h⟩
  clear hb4 hrow hgr hnw
  subst hv'
  go_wp2
  go_ret2
  have o15 : Only (fun g => g = ba ∨ vr.ownBlock = some g) w1 (w4.setCell ⟨ba, 3, none⟩ (.slice (some ⟨ga, 0, none⟩) (A.regs.length + 1) ca)) :=
    Only.setAt (((HO2.out.mono (fun _ h => h.elim)).alloc _).grown HGR.out (fun k e _ => .inr e)) (.inl rfl) _ _
  refine ⟨_, rfl, ⟨HB4.out.set_ 3 _, HM1.out.only o15 ?_ ?_, ?_, ?_, HRI.out, by simp; omega, b1, b4, hA.out.ref, by show A.left - (n : Int) ≤ (A.segs : Int); omega⟩, ?_, ?_⟩
  · rintro (e | e)
    · exact hkne e.symm
    · exact (HVK.out _ e).2.1 rfl
  · rintro (e | e)
    · exact htne e.symm
    · exact (HVK.out _ e).2.2 rfl
  · have : RowAt _ _ _ _ _ _ := HROW.out.only (Only.setAt (S := fun g => g = ba) (Only.refl _ _) (show ba = ba from rfl) 3 (.slice (some ⟨ga, 0, none⟩) (A.regs.length + 1) ca)) (fun g hg e => row_blk_ne HROW.out HB4.out (by decide) (by rw [hg, e]))
    simpa using this
  · have := hA.out.tl
    rw [HTOLD.out] at this
    show ToldAt _ vt A.told
    rw [HTOLD.out]
    exact this.nil
  · refine Only.trans (((Only.refl _ _).drewN nq).trans_new HO1.out (fun b _ h => ?_)) (o15.mono fun b h => ?_)
    · rcases h with h | h
      · exact .inr (.inl h)
      · exact .inr (.inr (.inl h))
    · rcases h with h | h
      · exact .inl h
      · exact .inr (.inr (.inr h))
  · rcases HNW.out with h | ⟨g, h, hle⟩
    · exact .inl h
    · have s1 := HO1.out.size
      have s2 := HO2.out.size
      simp at hle s1
      exact .inr ⟨g, h, by omega⟩

theorem arena_New (n lim : Nat) (h1 : 1 ≤ n) (h2 : n ≤ 64) (h3 : lim ≤ n) (w : World) :
    Calls Tryz.prog 33 #[.int .i64 n, .int .i64 lim] w fun e w' => ∃ ba bk bt, e = .returned (.tuple #[.pointer (some ⟨ba, 0, none⟩), .int .i64 0]) ∧ w.heap.size ≤ bk ∧ w.heap.size ≤ bt ∧ w.heap.size ≤ ba ∧
      ArenaAt w' ba bk bt (.slice none 0 0) (.slice none 0 0) ⟨n, lim, fun _ => false, n, [], [], 0⟩ ∧ Only Nobody w w' := by
  have hm := marks_New n h1 (by omega) w
  have HM := Lib.hid hm
  clear hm
  go_enter Tryz.func33, Tryz.ntmps33
  go_wp2_with (go_at_call 45; refine HM.out.mono ?_; rintro e w1 ⟨rfl, hm, ho, hsz⟩; have HM1 := Lib.hid hm; have HO := Lib.hid ho; have HS := Lib.hid hsz; clear hm ho hsz)
  go_ret2
  refine ⟨w1.heap.size, w.heap.size + 1, w.heap.size, ret2 (by simp) rfl, by omega, by omega, HO.out.size, ⟨?_, ?_, World.ownsRow_nil _ _ _ _, ⟨none, 0, rfl, fun h => absurd rfl h⟩, List.Pairwise.nil, by simp, h2, by show lim ≤ 64; omega, by simp, by simp⟩, HO.out.alloc _⟩
  · exact Blk.new w1 129 #[.pointer (some ⟨w.heap.size + 1, 0, none⟩), .int .i64 n, .int .i64 lim, .slice none 0 0, .slice none 0 0, .int .i64 0]
  · exact HM1.out.only (S := Nobody) ((Only.refl _ _).alloc _) (fun h => h) (fun h => h)

theorem Tryz.infoU8 : (Tryz.prog.info? 5).map (fun i => (i.zero, i.size, i.bytes)) = some (some (.int .u8 0), 1, 1) := by kernel_rfl
theorem makeBytes (k : IntKind) (n : Nat) (h2 : n ≤ 1048576) (w : World) : (Instr.makeSlice 36 (.int k (n : Int)) (.int k (n : Int))).run Tryz.prog w = .ok (.slice (some ⟨w.heap.size, 0, none⟩) n n) (w.alloc (.cells (bytesArr n fun _ => 0) 5)) := by
  obtain ⟨i0, hi, hz0, hz1, hz2⟩ := info_parts Tryz.infoU8
  have h := run_make (P := Tryz.prog) w 36 5 i0 (.int .u8 0) Tryz.underlying36 hi hz0 k k n n (by omega) (Int.le_refl _) (by rw [hz2]; omega) (by omega)
  rw [h, hz1]
  simp only [Int.toNat_natCast, Nat.mul_one]
  rw [show (Value.int .u8 0).cells = #[.int .u8 0] from rfl, madeCells_one]
  rfl

theorem mem_New (s : Nat) (h1 : 1 ≤ s) (h2 : s ≤ 64) (w : World) :
    Calls Tryz.prog 32 #[.int .u64 (s * 16384 : Nat)] w fun e w' => e = .returned (.tuple #[.pointer (some ⟨w.heap.size + 1, 0, none⟩), .int .i64 0]) ∧
      MemAt w' (w.heap.size + 1) w.heap.size (s * 16384) (fun _ => 0) ∧ Only Nobody w w' := by
  have hm := fun w => makeBytes .u64 (s * 16384) (by omega) w
  have t1 : (((s * 16384 : Nat) : Int) == 0) = false := by rw [beq_eq_false_iff_ne]; omega
  have t2 : decide ((1048576 : Int) < ((s * 16384 : Nat) : Int)) = false := by rw [decide_eq_false_iff_not]; omega
  have t3 : ((s * 16384 : Nat) : Int) % 1024 = 0 := by omega
  have hle : s * 16384 ≤ 1048576 := by omega
  generalize s * 16384 = n at *
  have hle2 : (n : Int) ≤ 1048576 := by omega
  have HLE := Lib.hid hle
  clear hle h1 h2
  go_enter Tryz.func32, Tryz.ntmps32
  go_wp2
  go_ret2
  refine ⟨ret2 (by simp) rfl, ⟨?_, ?_, fun _ => by decide, HLE.out⟩, ((Only.refl _ _).alloc _).alloc _⟩
  · have := Blk.new (w.alloc (.cells (bytesArr n fun _ => 0) 5)) 122 #[.slice (some ⟨w.heap.size, 0, none⟩) n n]
    rwa [World.size_alloc] at this
  · exact (Blk.new w 5 (bytesArr n fun _ => 0)).alloc _
end Go.Proofs.YtfplalgoopkmaaaGreat

namespace Go.Proofs.YtfplalgoopkmaaaGreat
open Go.RowKit

/-- A heap's cells: ready and full rows of thirteen classes, memory, arena, its number, its segments. -/
abbrev heapV (R F : Nat → Value) (bm ba id : Nat) (sv : Value) : Array Value := #[R 0, F 0, R 1, F 1, R 2, F 2, R 3, F 3, R 4, F 4, R 5, F 5, R 6, F 6, R 7, F 7, R 8, F 8, R 9, F 9, R 10, F 10, R 11, F 11, R 12, F 12, .pointer (some ⟨bm, 0, none⟩), .pointer (some ⟨ba, 0, none⟩), .int .u64 id, sv]

theorem rowShapeN {w : World} {B : Nat} {t : TypeId} {sz : Nat} {v : Value} {n : Nat} {xs : List Value} (h : w.ownsRow B t sz v n xs) : ∃ a c, v = .slice a n c := by
  rcases h.2 with ⟨rfl, rfl⟩ | ⟨g, cap, cur, rfl, _⟩
  · exact ⟨_, _, rfl⟩
  · exact ⟨_, _, rfl⟩
def updV (R : Nat → Value) (c : Nat) (v : Value) : Nat → Value := fun i => if i = c then v else R i
theorem heapV_R (R F : Nat → Value) (bm ba id : Nat) (sv : Value) (c : Nat) (h : c < 13) : (heapV R F bm ba id sv)[2 * c]? = some (R c) := by
  match c, h with
  | 0, _ | 1, _ | 2, _ | 3, _ | 4, _ | 5, _ | 6, _ | 7, _ | 8, _ | 9, _ | 10, _ | 11, _ | 12, _ => rfl
  | n + 13, h => omega
theorem heapV_F (R F : Nat → Value) (bm ba id : Nat) (sv : Value) (c : Nat) (h : c < 13) : (heapV R F bm ba id sv)[2 * c + 1]? = some (F c) := by
  match c, h with
  | 0, _ | 1, _ | 2, _ | 3, _ | 4, _ | 5, _ | 6, _ | 7, _ | 8, _ | 9, _ | 10, _ | 11, _ | 12, _ => rfl
  | n + 13, h => omega
theorem heapV_setR (R F : Nat → Value) (bm ba id : Nat) (sv : Value) (c : Nat) (h : c < 13) (v : Value) : (heapV R F bm ba id sv).setIfInBounds (2 * c) v = heapV (updV R c v) F bm ba id sv := by
  match c, h with
  | 0, _ | 1, _ | 2, _ | 3, _ | 4, _ | 5, _ | 6, _ | 7, _ | 8, _ | 9, _ | 10, _ | 11, _ | 12, _ => simp [updV]
  | n + 13, h => omega

structure HeapM where
  id : Nat
  R : Nat → Value
  F : Nat → Value
  L : Nat → List Nat
  FL : Nat → List Nat
  sv : Value
  segs : List Nat

abbrev ptrV (b : Nat) : Value := .pointer (some ⟨b, 0, none⟩)
structure HeapAt (w : World) (bh bm ba : Nat) (H : HeapM) : Prop where
  st : Blk w bh 141 (heapV H.R H.F bm ba H.id H.sv)
  rr : ∀ c, c < 13 → IntsAt w (H.R c) (H.L c) ∧ (H.L c).length ≤ 990
  rf : ∀ c, c < 13 → IntsAt w (H.F c) (H.FL c) ∧ (H.FL c).length ≤ 990
  sg : RowAt w 98 1 H.sv H.segs.length (H.segs.map ptrV)
  few : H.segs.length ≤ 64
  apR : ∀ c d, c < 13 → d < 13 → c ≠ d → ∀ g, (H.R c).ownBlock = some g → (H.R d).ownBlock ≠ some g
  apF : ∀ c d, c < 13 → d < 13 → ∀ g, (H.R c).ownBlock = some g → (H.F d).ownBlock ≠ some g
  apFF : ∀ c d, c < 13 → d < 13 → c ≠ d → ∀ g, (H.F c).ownBlock = some g → (H.F d).ownBlock ≠ some g

/-- Which blocks of numbers a heap has. -/
def HeapM.owns (H : HeapM) (g : Nat) : Prop := ∃ c, c < 13 ∧ ((H.R c).ownBlock = some g ∨ (H.F c).ownBlock = some g)

theorem HeapAt.only {w w' : World} {S : Nat → Prop} {bh bm ba : Nat} {H : HeapM} (h : HeapAt w bh bm ba H) (ho : Only S w w') (h1 : ¬ S bh) (h2 : ∀ g, H.owns g → ¬ S g) (h3 : ∀ g, H.sv.ownBlock = some g → ¬ S g) : HeapAt w' bh bm ba H :=
  ⟨h.st.only ho h1, fun c hc => ⟨RowAt.only (h.rr c hc).1 ho (fun g hg => h2 g ⟨c, hc, .inl hg⟩), (h.rr c hc).2⟩, fun c hc => ⟨RowAt.only (h.rf c hc).1 ho (fun g hg => h2 g ⟨c, hc, .inr hg⟩), (h.rf c hc).2⟩, RowAt.only h.sg ho h3, h.few, h.apR, h.apF, h.apFF⟩

theorem HeapAt.q {w : World} {bh bm ba : Nat} {H : HeapM} (h : HeapAt w bh bm ba H) (c : Nat) (hc : c < 13) : QAt w bh 141 (heapV H.R H.F bm ba H.id H.sv) (2 * c) (H.R c) (H.F c) (H.L c) (H.FL c) :=
  ⟨h.st, heapV_R _ _ _ _ _ _ c hc, heapV_F _ _ _ _ _ _ c hc, (h.rr c hc).1, (h.rf c hc).1, (h.rr c hc).2, (h.rf c hc).2⟩

theorem heap_row (bh : Nat) (c : Int) (w : World) (h0 : -1 ≤ c) (h1 : c < 12) :
    Calls Tryz.prog 93 #[.pointer (some ⟨bh, 0, none⟩), .int .i64 c] w fun e w' => e = .returned (.pointer (some ⟨bh, 2 * rowIx c, none⟩)) ∧ w = w' := by
  by_cases hc : c = -1
  · subst hc
    go_enter Tryz.func93, Tryz.ntmps93
    go_wp2
    go_ret
    exact ⟨rfl, rfl⟩
  · have hc0 : (0 : Int) ≤ c := by omega
    obtain ⟨k, rfl⟩ : ∃ k : Nat, c = k := ⟨c.toNat, by omega⟩
    have hk : k < 12 := by omega
    have hr : rowIx (k : Int) = k := by unfold rowIx; rw [if_neg hc]; omega
    have hb : ((k : Int) == -1) = false := by rw [beq_eq_false_iff_ne]; exact hc
    have hd : decide ((12 : Int) ≤ k) = false := by rw [decide_eq_false_iff_not]; omega
    have hd2 : decide (12 ≤ k) = false := by rw [decide_eq_false_iff_not]; omega
    rw [hr]
    clear hr hc
    go_enter Tryz.func93, Tryz.ntmps93
    go_wp2
    go_ret
    refine ⟨ret1 ?_, rfl⟩
    simp

set_option maxHeartbeats 1000000 in
/-- No segment: no page. -/
theorem heap_Local_nil (bh bm ba c : Nat) (H : HeapM) (w : World) (h : HeapAt w bh bm ba H) (hc : c < 12) (hl : H.L c = []) :
    Calls Tryz.prog 142 #[.pointer (some ⟨bh, 0, none⟩), .int .i64 c] w fun e w' => e = .returned (.tuple #[.int .u64 0, .int .i64 4]) ∧ Only Nobody w w' := by
  have hrow := fun w => heap_row bh c w (by omega) (by omega)
  have hr : rowIx (c : Int) = c := by unfold rowIx; rw [if_neg (by omega)]; omega
  rw [hr] at hrow
  have HROW := Lib.hid hrow
  have hq := queue_Ready bh (2 * c) _ _ _ _ _ _ w (h.q c (by omega))
  rw [hl] at hq
  have HQ := Lib.hid hq
  have hb : ((c : Int) == -1) = false := by rw [beq_eq_false_iff_ne]; omega
  clear h hl hrow hr hq
  go_enter Tryz.func142, Tryz.ntmps142
  go_wp2_with (first | (go_at_call 93; refine (HROW.out _).mono ?_; rintro e w1 ⟨rfl, rfl⟩) | (go_at_call 110; refine HQ.out.mono ?_; rintro e w1 ⟨v', rfl, hr, ho⟩; obtain ⟨a1, k1, rfl⟩ := rowShapeN hr; have HR := Lib.hid hr; have HO := Lib.hid ho; clear hr ho))
  refine wp_loop_rounds 1 ?_
  rw [rounds_succ]
  go_wp2
  go_ret2
  exact ⟨rfl, HO.out⟩
end Go.Proofs.YtfplalgoopkmaaaGreat
