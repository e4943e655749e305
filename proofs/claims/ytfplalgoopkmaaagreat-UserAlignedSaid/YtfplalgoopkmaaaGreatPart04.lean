/- Layer 3: the lowest free row is taken. Layer 4: regions are looked up. Layer 4: a region is written behind all others. Conditions: none. -/
import Derived.Test.YtfplalgoopkmaaaGreatPart03
import Derived.Sort.QuietIn
import Derived.Maps.AppendAt

set_option linter.unusedVariables false
set_option linter.unusedSimpArgs false

namespace Go.Proofs.YtfplalgoopkmaaaGreat
open Go.RowKit Go.Shelf
attribute [local go_sem] Oper.semAt_some

theorem MarksAt.only {w w' : World} {S : Nat → Prop} {bk bt n : Nat} {T : Nat → Bool} {left : Int} (h : MarksAt w bk bt n T left) (ho : Only S w w') (h1 : ¬ S bk) (h2 : ¬ S bt) : MarksAt w' bk bt n T left :=
  ⟨h.st.only ho h1, h.pl.only ho h2, h.n1, h.le, h.lb, h.lu⟩

theorem blk_kept {A B : World} {row : Option Nat} {g : Nat} {t : TypeId} {cs : Array Value} (hb : Blk A g t cs) (hg : A.grownBy B row) (hr : ∀ r, row = some r → ∃ o : Obj, A.heap[r]? = some o ∧ o.isCells = false) : Blk B g t cs :=
  (hg.block _ hb.lt (fun e => by obtain ⟨o, ho, hc⟩ := hr _ e.symm; rw [show A.heap[g]? = _ from hb] at ho; cases ho; cases hc)).trans hb
theorem keepsOthers_only {S : Nat → Prop} {W W' : World} (ho : Only S W W') (h : ∀ b, S b → ∃ t cs, Blk W b t cs) : KeepsOthers W W' :=
  ⟨ho.size, fun k o hk hc => (ho.same k (Array.getElem?_eq_some_iff.1 hk).1 (fun hs => by
    obtain ⟨t, cs, hb⟩ := h k hs
    rw [show W.heap[k]? = _ from hb] at hk; cases hk; cases hc)).trans hk⟩
theorem anyOf_no {p : Nat → Bool} {k : Nat} (h : ∀ j, j < k → p j = false) : anyOf p k = false := by
  unfold anyOf; rw [idx_no p k h]; decide
/-- Five boxes, and the marks. -/
def TakeI (s bk bt n run : Nat) (T : Nat → Bool) (left : Int) (w W : World) : Prop :=
  Blk W s 123 #[.pointer (some ⟨bk, 0, none⟩)] ∧ Blk W (s + 1) 3 #[.int .i64 run] ∧ Blk W (s + 1 + 1) 3 #[.int .i64 0] ∧ Blk W (s + 1 + 1 + 1) 28 #[.int .i64 0] ∧
  Blk W bk 158 #[.slice (some ⟨bt, 0, none⟩) n n, .int .i64 left] ∧ Blk W bt 4 (boolArr n T) ∧ Only Nobody w W
def TakeX (s bk bt n run : Nat) (T : Nat → Bool) (left : Int) (r : Row T n) (w W : World) : Prop :=
  Blk W (s + 1 + 1) 3 #[.int .i64 r.1.1] ∧ Blk W (s + 1 + 1 + 1) 28 #[.int .i64 0] ∧
  Blk W bk 158 #[.slice (some ⟨bt, 0, none⟩) n n, .int .i64 (left - run)] ∧ Blk W bt 4 (boolArr n (setB T r.1.1 run true)) ∧ Only (fun g => g = bk ∨ g = bt) w W

set_option maxRecDepth 100000 in
set_option maxHeartbeats 4000000 in
theorem marks_Take (bk bt n run : Nat) (T : Nat → Bool) (left : Int) (w : World) (h : MarksAt w bk bt n T left) (h1 : 1 ≤ run) (h2 : run ≤ n) (hl : ∀ a, a + run ≤ n → (∀ j, j < run → T (a + j) = false) → run ≤ left) :
    Calls Tryz.prog 48 #[.pointer (some ⟨bk, 0, none⟩), .int .i64 run] w fun e w' =>
      (∃ r, takeRow T n run = some r ∧ e = .returned (.tuple #[.int .i64 r.1.1, .int .i64 0]) ∧ MarksAt w' bk bt n (setB T r.1.1 run true) (left - run) ∧ Only (fun g => g = bk ∨ g = bt) w w') ∨
      (takeRow T n run = none ∧ e = .returned (.tuple #[.int .i64 0, .int .i64 4]) ∧ Only Nobody w w') := by
  have hk := h.st
  have ht := h.pl
  have hn := h.le
  have hkl := hk.lt
  have htl := ht.lt
  have HM := Lib.hid h
  have HL := Lib.hid hl
  clear h hl
  refine (callsIn_wide (n := 3)).1 ?_
  refine callsIn_of_wp_marks Tryz.func48 rfl trivial ?_ rfl
  simp only [Tryz.ntmps48, List.size_toArray, List.length_cons, List.length_nil, Nat.reduceAdd, Nat.reduceSub, Array.replicate_succ, Array.replicate_zero, List.push_toArray, List.append_toArray, List.nil_append, List.cons_append]
  obtain ⟨w4, hw4⟩ : ∃ w4, (((w.alloc (.cells #[.pointer (some ⟨bk, 0, none⟩)] 123)).alloc (.cells #[.int .i64 run] 3)).alloc (.cells #[.int .i64 0] 3)).alloc (.cells #[.int .i64 0] 28) = w4 := ⟨_, rfl⟩
  have hM4 : MarksAt w4 bk bt n T left := by
    rw [← hw4]; exact ⟨(((hk.alloc _).alloc _).alloc _).alloc _, (((ht.alloc _).alloc _).alloc _).alloc _, HM.out.n1, hn, HM.out.lb, HM.out.lu⟩
  have hb2 : Blk w4 w.heap.size 123 #[.pointer (some ⟨bk, 0, none⟩)] := by
    rw [← hw4]; exact (((Blk.new w _ _).alloc _).alloc _).alloc _
  have hb3 : Blk w4 (w.heap.size + 1) 3 #[.int .i64 run] := by
    rw [← hw4]; have := Blk.new (w.alloc (.cells #[.pointer (some ⟨bk, 0, none⟩)] 123)) 3 #[.int .i64 run]; rw [World.size_alloc] at this; exact (this.alloc _).alloc _
  have hb4 : Blk w4 (w.heap.size + 1 + 1) 3 #[.int .i64 0] := by
    rw [← hw4]; have := Blk.new ((w.alloc (.cells #[.pointer (some ⟨bk, 0, none⟩)] 123)).alloc (.cells #[.int .i64 run] 3)) 3 #[.int .i64 0]; simp only [World.size_alloc] at this; exact this.alloc _
  have hb5 : Blk w4 (w.heap.size + 1 + 1 + 1) 28 #[.int .i64 0] := by
    rw [← hw4]; have := Blk.new (((w.alloc (.cells #[.pointer (some ⟨bk, 0, none⟩)] 123)).alloc (.cells #[.int .i64 run] 3)).alloc (.cells #[.int .i64 0] 3)) 28 #[.int .i64 0]; simp only [World.size_alloc] at this; exact this
  have ho4 : Only Nobody w w4 := by rw [← hw4]; exact ((((Only.refl _ _).alloc _).alloc _).alloc _).alloc _
  have hs4 : w4.heap.size = w.heap.size + 1 + 1 + 1 + 1 := by rw [← hw4]; simp
  have HW4 := Lib.hid hw4
  have HS4 := Lib.hid hs4
  have HM4 := Lib.hid hM4
  have HB2 := Lib.hid hb2
  have HB3 := Lib.hid hb3
  have HB4 := Lib.hid hb4
  have HB5 := Lib.hid hb5
  have HO4 := Lib.hid ho4
  clear hk ht hw4 hs4 ho4 hM4 hb2 hb3 hb4 hb5
  gi_wp2
  rw [HW4.out]
  have c0 : w4.cell? ⟨bk, 0, none⟩ = some (.slice (some ⟨bt, 0, none⟩) n n) := HM4.out.st.cell 0
  have c2 : w4.cell? ⟨w.heap.size, 0, none⟩ = some (.pointer (some ⟨bk, 0, none⟩)) := HB2.out.cell 0
  have c3 : w4.cell? ⟨w.heap.size + 1, 0, none⟩ = some (.int .i64 run) := HB3.out.cell 0
  have hg1 : decide ((run : Int) < 1) = false := by rw [decide_eq_false_iff_not]; omega
  gi_quiet ((fail))
  gi_wp2_with (refine ⟨trivial, ?_⟩; gi_at_call 62; refine (callsIn_wide.2 (rows_make _ _ ⟨_, rfl⟩)).mono ?_; rintro e w' ⟨rfl, rfl⟩)
  obtain ⟨W0, hW0⟩ : ∃ W0, (w4.drewN nq).alloc (.cells #[.pointer (some ⟨bk, 0, none⟩)] 123) = W0 := ⟨_, rfl⟩
  rw [hW0]
  have hs0 : W0.heap.size = w4.heap.size + 1 := by rw [← hW0, World.size_alloc]; rfl
  have hBm : Blk W0 w4.heap.size 123 #[.pointer (some ⟨bk, 0, none⟩)] := by rw [← hW0]; exact Blk.new (w4.drewN nq) _ _
  have hM0 : MarksAt W0 bk bt n T left := by
    rw [← hW0]; exact ⟨(HM4.out.st.drewN _).alloc _, (HM4.out.pl.drewN _).alloc _, HM.out.n1, hn, HM.out.lb, HM.out.lu⟩
  have hI0 : TakeI w.heap.size bk bt n run T left w W0 := by
    refine ⟨?_, ?_, ?_, ?_, hM0.st, hM0.pl, ?_⟩ <;> rw [← hW0]
    · exact (HB2.out.drewN _).alloc _
    · exact (HB3.out.drewN _).alloc _
    · exact (HB4.out.drewN _).alloc _
    · exact (HB5.out.drewN _).alloc _
    · exact (HO4.out.drewN _).alloc _
  have hs4 := HS4.out
  have HI0 := Lib.hid hI0
  have HM0 := Lib.hid hM0
  have HBm := Lib.hid hBm
  clear c0 c2 c3 hg1 hI0 hM0 hBm hW0
  refine wpIn_rangeFunc_ownF rfl (by decide) (gf := 83) (lb := #[.pointer (some ⟨w4.heap.size, 0, none⟩)]) rfl trivial (enters_of Tryz.func83 (by kernel_rfl) rfl)
    (Rows.stops w4.heap.size (w4.heap.size + 1) bk bt n T left W0 HM0.out (HBm.out.cell 0) (by omega) (by omega) (by omega) (by omega))
    Keep.trans (fun W l o o' hl h1 h2 h3 => Keep.put W l o o' (by omega) h1 h2 h3) (Below.refl _ _) (fun _ => rfl)
    (fun pre W => (∀ r ∈ pre, r.1.2 < run) ∧ TakeI w.heap.size bk bt n run T left w W)
    (fun c pre W => c = .ret ∧ ∃ pre' r, pre = pre' ++ [r] ∧ (∀ x ∈ pre', x.1.2 < run) ∧ run ≤ r.1.2 ∧ TakeX w.heap.size bk bt n run T left r w W)
    (fun s A B row hs hg hr => by
      have hr2 := fun r e => (hr r e).2
      obtain ⟨hp, h1, h2, h3, h4, h5, h6, h7⟩ := hs
      exact ⟨hp, blk_kept h1 hg hr2, blk_kept h2 hg hr2, blk_kept h3 hg hr2, blk_kept h4 hg hr2, blk_kept h5 hg hr2, blk_kept h6 hg hr2, h7.grown hg (fun k e hk => by have := (hr k e).1; omega)⟩)
    (fun c s A B row hs hg hr => by
      have hr2 := fun r e => (hr r e).2
      obtain ⟨hc, pre', r, hp, h0, h1, h2, h3, h4, h5, h6⟩ := hs
      exact ⟨hc, pre', r, hp, h0, h1, blk_kept h2 hg hr2, blk_kept h3 hg hr2, blk_kept h4 hg hr2, blk_kept h5 hg hr2, h6.grown hg (fun k e hk => by have := (hr k e).1; omega)⟩)
    ⟨by simp, HI0.out⟩
    (fun x => { tmps := #[.pointer (some ⟨bk, 0, none⟩), .int .i64 run, .pointer (some ⟨w.heap.size, 0, none⟩), .pointer (some ⟨w.heap.size + 1, 0, none⟩), .pointer (some ⟨w.heap.size + 1 + 1, 0, none⟩), .pointer (some ⟨w.heap.size + 1 + 1 + 1, 0, none⟩),
        .int .i64 x.1.1, .int .i64 x.1.2, .bool false, .pointer (some ⟨bk, 0, none⟩), .bool false, .bool false, .int .i64 run, .bool false, .bool false, .int .i64 run, .pointer (some ⟨bk, 0, none⟩), .pointer (some ⟨bk, 0, none⟩), .pointer (some ⟨bk, 0, none⟩),
        .slice (some ⟨bt, 0, none⟩) n n, .int .i64 n, .bool false, .bool false, .pointer (some ⟨bk, 0, none⟩), .func (.func 83) #[] #[.pointer (some ⟨w4.heap.size, 0, none⟩)],
        .int .i64 x.1.1, .int .i64 x.1.2, undef, undef, undef, undef, undef, undef, undef, undef], defers := [] }) ?assign ?body ?done ?stop
  case assign =>
    intro l x W K hK
    clear hs0 hs4
    simp only [encRow]
    gi_wp2
    exact hK
  case body =>
    rintro l pre x W ⟨hp, hI⟩ hlen
    clear hs0 hs4
    have hx := x.2
    obtain ⟨hx1, hx2, hx3⟩ := hx
    have HP := Lib.hid hp
    have HX3 := Lib.hid hx3
    have HI := Lib.hid hI
    have c3 : W.cell? ⟨w.heap.size + 1, 0, none⟩ = some (.int .i64 run) := hI.2.1.cell 0
    have c2 : W.cell? ⟨w.heap.size, 0, none⟩ = some (.pointer (some ⟨bk, 0, none⟩)) := hI.1.cell 0
    clear hp hx3 hI
    by_cases hrun : run ≤ x.1.2
    · have hmk := marks_Mark_ok bk bt n x.1.1 run T left W ⟨HI.out.2.2.2.2.1, HI.out.2.2.2.2.2.1, HM.out.n1, hn, HM.out.lb, HM.out.lu⟩ h1 (by omega)
        (anyOf_no (fun j hj => by rw [HX3.out j (by omega)]; rfl)) (HL.out x.1.1 (by omega) (fun j hj => HX3.out j (by omega)))
      have HMK := Lib.hid hmk
      clear hmk
      have c4 : W.cell? ⟨w.heap.size + 1 + 1, 0, none⟩ = some (.int .i64 0) := HI.out.2.2.1.cell 0
      gi_wp2_with (refine ⟨trivial, ?_⟩; gi_at_call 63; refine (CallsIn.inRound l (callsIn_wide.2 HMK.out)).mono ?_; rintro e W1 ⟨rfl, hm, ho⟩; have d4 := HI.out.2.2.1.only ho (by omega); have d5 := HI.out.2.2.2.1.only ho (by omega); have e4 := d4.cell 0; have e5 := d5.cell 0; have g4 := d4.frozen 0; have g5 := d5.frozen 0; have HM2 := Lib.hid hm; have HO2 := Lib.hid ho; have D4 := Lib.hid d4; have D5 := Lib.hid d5; clear hm ho d4 d5)
      have hko := keepsOthers_only HO2.out (fun b hb => by
        rcases hb with rfl | rfl
        · exact ⟨_, _, HI.out.2.2.2.2.1⟩
        · exact ⟨_, _, HI.out.2.2.2.2.2.1⟩)
      refine ⟨(hko.trans (KeepsOthers.setCell _ _ _)).trans (KeepsOthers.setCell _ _ _), rfl, pre, x, rfl, HP.out, hrun, ?_, ?_, ?_, ?_, ?_⟩
      · exact (D4.out.set_ 0 _).far (by simp) _
      · exact (D5.out.far (by simp) _).set_ 0 _
      · exact (HM2.out.st.far (by simp; omega) _).far (by simp; omega) _
      · exact (HM2.out.pl.far (by simp; omega) _).far (by simp; omega) _
      · exact (((HI.out.2.2.2.2.2.2.mono (fun b h => h.elim)).trans_new HO2.out (fun b _ h => h)).setNew (by simp; omega) _).setNew (by simp; omega) _
    · gi_wp2
      refine ⟨KeepsOthers.refl _, fun b _ _ => rfl, ?_, HI.out⟩
      intro r hr
      rcases List.mem_append.1 hr with hr | hr
      · exact HP.out r hr
      · obtain rfl : r = x := by simpa using hr
        omega
  case done =>
    rintro D ys W hD rfl ⟨hp, hI⟩ hK
    have c4 := hI.2.2.1.cell 0
    have c5 := hI.2.2.2.1.cell 0
    have f4 := hI.2.2.1.frozen 0
    have f5 := hI.2.2.2.1.frozen 0
    have hD2 : w4.heap.size + 1 ≤ D := by omega
    have hD3 : w.heap.size + 1 + 1 + 1 < D := by omega
    have HI := Lib.hid hI
    have HP := Lib.hid hp
    clear hs0 hs4 hI hp
    gi_wp2
    have b4 : Blk ((W.setCell ⟨w.heap.size + 1 + 1, 0, none⟩ (.int .i64 0)).setCell ⟨w.heap.size + 1 + 1 + 1, 0, none⟩ (.int .i64 4)) (w.heap.size + 1 + 1) 3 #[.int .i64 0] := (HI.out.2.2.1.set_ 0 (.int .i64 0)).far (by simp) _
    have b5 : Blk ((W.setCell ⟨w.heap.size + 1 + 1, 0, none⟩ (.int .i64 0)).setCell ⟨w.heap.size + 1 + 1 + 1, 0, none⟩ (.int .i64 4)) (w.heap.size + 1 + 1 + 1) 28 #[.int .i64 4] := (HI.out.2.2.2.1.far (by simp) _).set_ 0 (.int .i64 4)
    have hK' := ((KeepsOthers.setCell W ⟨w.heap.size + 1 + 1, 0, none⟩ (.int .i64 0)).trans (KeepsOthers.setCell _ ⟨w.heap.size + 1 + 1 + 1, 0, none⟩ (.int .i64 4))).same D _ hK rfl
    have hon := ((HI.out.2.2.2.2.2.2.setNew (p := ⟨w.heap.size + 1 + 1, 0, none⟩) (by simp; omega) (.int .i64 0)).setNew (p := ⟨w.heap.size + 1 + 1 + 1, 0, none⟩) (by simp; omega) (.int .i64 4)).grown (grownBy_putObj' _ D (.deferred none)) (fun k e hk => by cases e; omega)
    refine ⟨by simp, .inl ⟨_, _, rfl, run_takeDeferred hK', ?_⟩⟩
    have hc4 := (blk_kept b4 (grownBy_putObj' _ D (.deferred none)) (fun r e => by cases e; exact ⟨_, hK', rfl⟩)).cell 0
    have hc5 := (blk_kept b5 (grownBy_putObj' _ D (.deferred none)) (fun r e => by cases e; exact ⟨_, hK', rfl⟩)).cell 0
    refine ⟨.tuple #[.int .i64 0, .int .i64 4], ?_, .inr ⟨?_, rfl, hon⟩⟩
    · simp [results, Tryz.f48, go_sem, hc4, hc5]
    · unfold takeRow
      exact List.find?_eq_none.2 (fun r hr => by have := HP.out r hr; simp; omega)
  case stop =>
    rintro D c pre W hD hpre ⟨rfl, pre', r, rfl, hp, hrun, hX⟩ hK
    have hD2 : w4.heap.size + 1 ≤ D := by omega
    have hD3 : w.heap.size + 1 + 1 + 1 < D := by omega
    have HX := Lib.hid hX
    have HP := Lib.hid hp
    have HPRE := Lib.hid hpre
    clear hs0 hs4 hX hp hpre
    gi_wp2
    have hon := HX.out.2.2.2.2.grown (grownBy_putObj' _ D (.deferred none)) (fun k e hk => by cases e; omega)
    refine ⟨by simp, .inl ⟨_, _, rfl, run_takeDeferred hK, ?_⟩⟩
    have k4 := blk_kept HX.out.1 (grownBy_putObj' _ D (.deferred none)) (fun r e => by cases e; exact ⟨_, hK, rfl⟩)
    have k5 := blk_kept HX.out.2.1 (grownBy_putObj' _ D (.deferred none)) (fun r e => by cases e; exact ⟨_, hK, rfl⟩)
    have kk := blk_kept HX.out.2.2.1 (grownBy_putObj' _ D (.deferred none)) (fun r e => by cases e; exact ⟨_, hK, rfl⟩)
    have kt := blk_kept HX.out.2.2.2.1 (grownBy_putObj' _ D (.deferred none)) (fun r e => by cases e; exact ⟨_, hK, rfl⟩)
    have hc4 := k4.cell 0
    have hc5 := k5.cell 0
    have hll := HL.out r.1.1 (by have := r.2.2.1; omega) (fun j hj => r.2.2.2 j (by omega))
    refine ⟨.tuple #[.int .i64 r.1.1, .int .i64 0], ?_, .inl ⟨r, ?_, rfl, ⟨kk, kt, HM.out.n1, hn, by omega, by have := HM.out.lu; omega⟩, hon⟩⟩
    · simp [results, Tryz.f48, go_sem, hc4, hc5]
    · exact find_of_prefix _ _ pre' r HPRE.out (fun x hx => by have := HP.out x hx; simp; omega) (by simp; exact hrun)

theorem take_some (bk bt n run : Nat) (T : Nat → Bool) (left : Int) (r : Row T n) (w : World) (h : MarksAt w bk bt n T left) (h1 : 1 ≤ run) (h2 : run ≤ n) (hl : ∀ a, a + run ≤ n → (∀ j, j < run → T (a + j) = false) → run ≤ left) (ht : takeRow T n run = some r) :
    Calls Tryz.prog 48 #[.pointer (some ⟨bk, 0, none⟩), .int .i64 run] w fun e w' =>
      e = .returned (.tuple #[.int .i64 r.1.1, .int .i64 0]) ∧ MarksAt w' bk bt n (setB T r.1.1 run true) (left - run) ∧ Only (fun g => g = bk ∨ g = bt) w w' :=
  (marks_Take bk bt n run T left w h h1 h2 hl).mono fun e w' hp => by
    rcases hp with ⟨r', e1, h⟩ | ⟨e1, _⟩
    · rw [ht] at e1; cases e1; exact h
    · rw [ht] at e1; cases e1
theorem take_none (bk bt n run : Nat) (T : Nat → Bool) (left : Int) (w : World) (h : MarksAt w bk bt n T left) (h1 : 1 ≤ run) (h2 : run ≤ n) (hl : ∀ a, a + run ≤ n → (∀ j, j < run → T (a + j) = false) → run ≤ left) (ht : takeRow T n run = none) :
    Calls Tryz.prog 48 #[.pointer (some ⟨bk, 0, none⟩), .int .i64 run] w fun e w' =>
      e = .returned (.tuple #[.int .i64 0, .int .i64 4]) ∧ Only Nobody w w' :=
  (marks_Take bk bt n run T left w h h1 h2 hl).mono fun e w' hp => by
    rcases hp with ⟨r', e1, h⟩ | ⟨e1, h⟩
    · rw [ht] at e1; cases e1
    · exact h
end Go.Proofs.YtfplalgoopkmaaaGreat

namespace Go.Proofs.YtfplalgoopkmaaaGreat
open Go.RowKit

def cmpI (x y : Int) : Int := if x < y then -1 else if y < x then 1 else 0

theorem cmp_int (x y : Int) (w : World) :
    Calls Tryz.prog 66 #[.int .i64 x, .int .i64 y] w fun e w' => e = .returned (.int .i64 (cmpI x y)) ∧ w = w' := by
  unfold cmpI
  by_cases h1 : x < y
  · rw [if_pos h1]
    go_enter Tryz.func66, Tryz.ntmps66
    go_wp2
    go_ret
    exact ⟨rfl, rfl⟩
  · rw [if_neg h1]
    by_cases h2 : y < x
    · rw [if_pos h2]
      go_enter Tryz.func66, Tryz.ntmps66
      go_wp2
      go_ret
      exact ⟨rfl, rfl⟩
    · rw [if_neg h2]
      go_enter Tryz.func66, Tryz.ntmps66
      go_wp2
      go_ret
      exact ⟨rfl, rfl⟩

theorem find_cmp (a n x : Nat) (w : World) :
    Calls Tryz.prog 65 #[.agg #[.int .i64 a, .int .i64 n], .int .i64 x] w fun e w' => e = .returned (.int .i64 (cmpI a x)) ∧ Only Nobody w w' := by
  go_enter Tryz.func65, Tryz.ntmps65
  go_wp2_with (go_at_call 66; refine (cmp_int _ _ _).mono ?_; rintro e w1 ⟨rfl, rfl⟩)
  go_ret
  exact ⟨rfl, (Only.refl _ _).alloc _⟩

set_option maxHeartbeats 1000000 in
theorem search_regs (br n c x : Nat) (l : List (Nat × Nat)) (w : World) (hn : l.length = n) (hn2 : n ≤ 1000) (hrise : Rising l)
    (h0 : ∀ i r, l[i]? = some r → w.cell? ⟨br, i * 2, none⟩ = some (.int .i64 r.1) ∧ w.cell? ⟨br, i * 2 + 1, none⟩ = some (.int .i64 r.2)) (hbr : br < w.heap.size) :
    Calls Tryz.prog 64 #[.slice (some ⟨br, 0, none⟩) n c, .int .i64 x, .func (.func 65) #[] #[]] w fun e w' =>
      e = .returned (.tuple #[.int .i64 (regIx l x), .bool (regHas l x)]) ∧ Only Nobody w w' := by
  have H0 := Lib.hid h0
  have HN := Lib.hid hn
  have HR := Lib.hid hrise
  clear h0 hn hrise
  go_enter Tryz.func64, Tryz.ntmps64
  go_wp2
  go_loopw [9, 10, 11] (fun i j _ wr => ∃ lo hi : Nat, i = .int .i64 lo ∧ j = .int .i64 hi ∧ lo ≤ hi ∧ hi ≤ n ∧ Hid ((∀ k, k < lo → ∀ r, l[k]? = some r → r.1 < x) ∧ (∀ k, hi ≤ k → ∀ r, l[k]? = some r → x ≤ r.1)) ∧ Only Nobody w wr) (fun i j _ _ => ((intOf j) - (intOf i)).toNat)
  case atStart => exact ⟨0, n, rfl, rfl, by omega, by omega, ⟨fun k hk => absurd hk (by omega), fun k hk r hr => by have := HN.out; rw [List.getElem?_eq_none (by omega)] at hr; cases hr⟩, Only.refl _ _⟩
  case round =>
    obtain ⟨lo, hi, rfl, rfl, hle, hhi, hinv, ho⟩ := hrel
    have HO := Lib.hid ho
    clear ho
    by_cases hlt : lo < hi
    · obtain ⟨m, hm⟩ : ∃ m, m = (lo + hi) / 2 := ⟨_, rfl⟩
      have hm1 : lo ≤ m := by omega
      have hm2 : m < hi := by omega
      have hme : ((lo : Int) + hi) / 2 = m := by omega
      obtain ⟨⟨ra, rn⟩, hr⟩ : ∃ r, l[m]? = some r := ⟨_, List.getElem?_eq_getElem (by have := HN.out; omega)⟩
      have hc := H0.out m _ hr
      have hc1 := (World.cell?_of_block (a := ⟨br, m * 2, none⟩) (HO.out.same br hbr (fun h => h))).trans hc.1
      have hc2 := (World.cell?_of_block (a := ⟨br, m * 2 + 1, none⟩) (HO.out.same br hbr (fun h => h))).trans hc.2
      have HR2 := Lib.hid hr
      have HM := Lib.hid hm
      clear hr hm hc
      have hcall := fun w => find_cmp ra rn x w
      by_cases hx : ra < x
      · have hv : cmpI ra x = -1 := by unfold cmpI; rw [if_pos (by omega)]
        rw [hv] at hcall
        have HCA := Lib.hid hcall
        clear hcall hv
        go_wp2_with (go_at_call 65; refine (HCA.out _).mono ?_; rintro e w1 ⟨rfl, ho⟩; have HO2 := Lib.hid ho; clear ho)
        go_roundw
        case rel =>
          refine ⟨m + 1, hi, by go_num, rfl, by omega, hhi, ⟨fun k hk r hrk => ?_, hinv.out.2⟩, HO.out.trans HO2.out⟩
          exact rising_le HR.out HR2.out hrk (by omega) hx
        case measure => simp [intOf]; omega
      · have hv : ¬ cmpI ra x < 0 := by unfold cmpI; rw [if_neg (by omega)]; split <;> omega
        have hv2 : (0 : Int) ≤ cmpI ra x := by omega
        generalize cmpI (ra : Int) x = cv at *
        have HCA := Lib.hid hcall
        clear hcall hv
        go_wp2_with (go_at_call 65; refine (HCA.out _).mono ?_; rintro e w1 ⟨rfl, ho⟩; have HO2 := Lib.hid ho; clear ho)
        go_roundw
        case rel =>
          refine ⟨lo, m, rfl, rfl, by omega, by omega, ⟨hinv.out.1, fun k hk r hrk => ?_⟩, HO.out.trans HO2.out⟩
          exact rising_ge HR.out HR2.out hrk hk (by omega)
        case measure => simp [intOf]; omega
    · obtain rfl : lo = hi := by omega
      have hix := regIx_of l x lo (by have := HN.out; omega) (fun i hi r hr => hinv.out.1 i hi r hr) (fun r hr => hinv.out.2 lo (Nat.le_refl _) r hr)
      by_cases hlast : lo < n
      · obtain ⟨⟨ra, rn⟩, hr⟩ : ∃ r, l[lo]? = some r := ⟨_, List.getElem?_eq_getElem (by have := HN.out; omega)⟩
        have hc := H0.out lo _ hr
        have hc1 := (World.cell?_of_block (a := ⟨br, lo * 2, none⟩) (HO.out.same br hbr (fun h => h))).trans hc.1
        have hc2 := (World.cell?_of_block (a := ⟨br, lo * 2 + 1, none⟩) (HO.out.same br hbr (fun h => h))).trans hc.2
        have hhas : regHas l x = decide (ra = x) := by unfold regHas; rw [hix, hr]
        have HIX := Lib.hid hix
        have HHAS := Lib.hid hhas
        clear hix hhas
        have hcall := fun w => find_cmp ra rn x w
        by_cases hx : ra = x
        · have hv : cmpI ra x = 0 := by unfold cmpI; rw [if_neg (by omega), if_neg (by omega)]
          rw [hv] at hcall
          have HX := Lib.hid hx
          have HCA := Lib.hid hcall
          clear hcall hv hc hr hx
          go_wp2_with (go_at_call 65; refine (HCA.out _).mono ?_; rintro e w1 ⟨rfl, ho⟩; have HO2 := Lib.hid ho; clear ho)
          go_ret2
          exact ⟨ret2 (intv (by rw [HIX.out])) (boolv (by rw [HHAS.out, decide_eq_true HX.out])), HO.out.trans HO2.out⟩
        · have hv : (cmpI (ra : Int) x == 0) = false := by
            rw [beq_eq_false_iff_ne]; unfold cmpI; split <;> (try split) <;> omega
          have HX := Lib.hid hx
          generalize cmpI (ra : Int) x = cv at *
          have HCA := Lib.hid hcall
          clear hcall hc hr hx
          go_wp2_with (go_at_call 65; refine (HCA.out _).mono ?_; rintro e w1 ⟨rfl, ho⟩; have HO2 := Lib.hid ho; clear ho)
          go_ret2
          exact ⟨ret2 (intv (by rw [HIX.out])) (boolv (by rw [HHAS.out, decide_eq_false HX.out])), HO.out.trans HO2.out⟩
      · have hhas : regHas l x = false := by unfold regHas; rw [hix, List.getElem?_eq_none (by have := HN.out; omega)]
        have HIX := Lib.hid hix
        have HHAS := Lib.hid hhas
        clear hix hhas
        go_wp2
        go_ret2
        exact ⟨ret2 (intv (by rw [HIX.out])) (boolv (by rw [HHAS.out])), HO.out⟩
end Go.Proofs.YtfplalgoopkmaaaGreat

namespace Go.Proofs.YtfplalgoopkmaaaGreat
open Go.RowKit

theorem search_nil (x : Nat) (w : World) :
    Calls Tryz.prog 64 #[.slice none 0 0, .int .i64 x, .func (.func 65) #[] #[]] w fun e w' =>
      e = .returned (.tuple #[.int .i64 0, .bool false]) ∧ w = w' := by
  go_enter Tryz.func64, Tryz.ntmps64
  go_wp2
  refine wp_loop_rounds 1 ?_
  rw [rounds_succ]
  go_wp2
  go_ret2
  exact ⟨rfl, rfl⟩

/-- A row of elements of sz cells of type t. -/
abbrev RowAt (w : World) (t : TypeId) (sz : Nat) (v : Value) (n : Nat) (xs : List Value) : Prop := w.ownsRow 0 t sz v n xs
/-- A row's array is the one that it was, or new. -/
def NewOwn (B : Nat) (v v' : Value) : Prop := v'.ownBlock = v.ownBlock ∨ ∃ g, v'.ownBlock = some g ∧ B ≤ g
theorem RowAt.only {w w' : World} {S : Nat → Prop} {t : TypeId} {sz : Nat} {v : Value} {n : Nat} {xs : List Value} (h : RowAt w t sz v n xs) (ho : Only S w w') (hs : ∀ g, v.ownBlock = some g → ¬ S g) : RowAt w' t sz v n xs := by
  obtain ⟨h1, h2⟩ := h
  refine ⟨h1, ?_⟩
  rcases h2 with h2 | ⟨g, cap, cur, rfl, hb, hh, rest⟩
  · exact .inl h2
  · exact .inr ⟨g, cap, cur, rfl, hb, (Blk.only (t := t) hh ho (hs g rfl)), rest⟩

abbrev regCells (r : Nat × Nat) : List Value := [.int .i64 r.1, .int .i64 r.2]
theorem Tryz.infoRegion : (Tryz.prog.info? 147).map (fun i => (i.zero, i.size, i.bytes)) = some (some (.agg #[.int .i64 0, .int .i64 0]), 2, 16) := by kernel_rfl

theorem regCells_one (r : Nat × Nat) : ∀ u ∈ regCells r, u.oneCell' = true := by intro u hu; simp [regCells] at hu; rcases hu with rfl | rfl <;> rfl

set_option maxRecDepth 100000 in
set_option maxHeartbeats 1000000 in
theorem insert_end (v : Value) (n g : Nat) (l : List Value) (r : Nat × Nat) (w : World) (h : RowAt w 147 2 v n l) (hn : n ≤ 1000) (hg : Blk w g 147 #[.int .i64 r.1, .int .i64 r.2]) :
    Calls Tryz.prog 50 #[v, .int .i64 n, .slice (some ⟨g, 0, none⟩) 1 1] w fun e w' =>
      ∃ v', e = .returned v' ∧ RowAt w' 147 2 v' (n + 1) (l ++ regCells r) ∧ w.grownBy w' v.ownBlock ∧ NewOwn w.heap.size v v' := by
  obtain ⟨i0, hi, hz0, hz1, hz2⟩ := info_parts Tryz.infoRegion
  have hnews : ∀ j u, (regCells r)[j]? = some u → w.cell? ((⟨g, 0, none⟩ : Addr).add j) = some u := by
    intro j u hu
    have hc := hg.cell
    match j, hu with
    | 0, hu => cases hu; exact hc 0
    | 1, hu => cases hu; exact hc 1
  have HG := Lib.hid hnews
  have HH := Lib.hid h
  have hsh : (v = .slice none 0 0 ∧ n = 0) ∨ ∃ b cap, v = .slice (some ⟨b, 0, none⟩) n cap ∧ n ≤ cap ∧ cap ≤ maxLen := by
    rcases h.2 with h2 | ⟨b, cap, cur, e, _, _, h3, h4, _⟩
    · exact .inl h2
    · exact .inr ⟨b, cap, e, h3, h4⟩
  clear h hg hnews
  rcases hsh with ⟨rfl, rfl⟩ | ⟨b, cap, rfl, hcap, hmax⟩
  · go_enter Tryz.func50, Tryz.ntmps50
    go_wp2_with (at_builtin; refine wpList_append_own_at _ rfl _ _ 126 rfl 0 147 i0 (.agg #[.int .i64 0, .int .i64 0]) 2 16 Tryz.underlying126 hi hz0 hz1 hz2 rfl (by decide) _ _ _ rfl HH.out ⟨g, 0, none⟩ 1 1 (regCells r) rfl rfl HG.out (regCells_one r) (by unfold maxLen; omega) (by omega) (Nat.zero_le _) ?_; intro v' w1 hown hgr _ hwho)
    all_goals
      go_ret
      exact ⟨_, rfl, hown, hgr, hwho.elim .inl fun h => .inr ⟨_, h, Nat.le_refl _⟩⟩
  · clear hmax
    go_enter Tryz.func50, Tryz.ntmps50
    go_wp2_with (at_builtin; refine wpList_append_own_at _ rfl _ _ 126 rfl 0 147 i0 (.agg #[.int .i64 0, .int .i64 0]) 2 16 Tryz.underlying126 hi hz0 hz1 hz2 rfl (by decide) _ _ _ rfl HH.out ⟨g, 0, none⟩ 1 1 (regCells r) rfl rfl HG.out (regCells_one r) (by unfold maxLen; omega) (by omega) (Nat.zero_le _) ?_; intro v' w1 hown hgr _ hwho)
    all_goals
      go_ret
      exact ⟨_, rfl, hown, hgr, hwho.elim .inl fun h => .inr ⟨_, h, Nat.le_refl _⟩⟩
end Go.Proofs.YtfplalgoopkmaaaGreat
