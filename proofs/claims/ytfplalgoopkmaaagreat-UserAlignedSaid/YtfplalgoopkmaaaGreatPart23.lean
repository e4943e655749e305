/- A block of a page anew, over the whole state. Conditions: none. -/
import Derived.Test.YtfplalgoopkmaaaGreatPart22

set_option linter.unusedVariables false
set_option linter.unusedSimpArgs false

namespace Go.Proofs.YtfplalgoopkmaaaGreat
open Go.RowKit

theorem pgFor_good {A : St} {p at_ : Nat} {pl : Plan} (h64 : A.n ≤ 64) (hp : p < A.n) (h1 : 1 ≤ at_) (h2 : at_ + plSl pl ≤ 16) (hpl : PlanOK pl) : PgGood A.n A.f (p * 16 + at_) (pgFor pl) := by
  have hsl := hpl.sl
  refine ⟨h64, by omega, ?_, by omega, hpl.shape, Nat.zero_le _, trivial, trivial, trivial, fun a h => ?_, by simp, rfl, Nat.zero_le _, Nat.zero_le _, Nat.zero_le _⟩
  · show (p * 16 + at_) % 16 + plSl pl ≤ 16; omega
  · rcases h with h | h | h <;> cases h
theorem pgAlloc_fresh {f : Nat → Nat} {k : Nat} {pl : Plan} (hpl : PlanOK pl) : (pgAlloc f k (pgFor pl)).1 = some (k * 1024) := by
  have hn : 1 ≤ plN pl := hpl.shape.facts.2.2.1
  obtain ⟨r, hr, _⟩ := blocksFrom_cons (fr := k * 1024) (sz := plSize pl) (i := 0) (k := min 4 (plN pl - 0)) (by omega)
  unfold pgAlloc
  dsimp only
  rw [hr]
  simp
theorem freshGo_drop {A : St} {t : Nat} {pl : Plan} : ∀ (segs : List Nat) (j : Nat), (∀ l, l < j → l < segs.length → takeRow (A.segD (segs.getD l 0)).T 16 (plSl pl) = none) → St.freshGo t pl segs A = St.freshGo t pl (segs.drop j) A := by
  intro segs j
  induction j generalizing segs with
  | zero => intro _; rfl
  | succ j ih =>
    intro h
    cases segs with
    | nil => rfl
    | cons p r =>
      have h0 := h 0 (by omega) (by simp)
      have h1 := ih r (fun l hl hl2 => by exact h (l + 1) (by omega) (by simpa using hl2))
      rw [List.drop_succ_cons, ← h1]
      conv => lhs; unfold St.freshGo
      have h0' : takeRow (A.segD p).T 16 (plSl pl) = none := h0
      rw [h0']

set_option maxHeartbeats 4000000 in
theorem sys_Fresh (A : St) (t : Nat) (pl : Plan) (ht : t < 8) (hsp : SP A) (hhp : HP A t) (hpl : PlanOK pl) :
    SysCalls 144 (fun L => #[ptrV (L.hp t), planV pl]) A (fun _ => .tuple #[.int .u64 (A.fresh t pl).1, .int .i64 (A.fresh t pl).2.1]) (A.fresh t pl).2.2 := by
  intro w L h
  have hH := h.hap t ht
  by_cases hnil : (A.heap t).segs = []
  · have e0 : A.fresh t pl = (0, 4, A) := by unfold St.fresh; rw [hnil]; rfl
    refine (heap_Fresh_nil (L.hp t) L.bm L.ba pl _ w hH ?_ ?_).mono ?_
    · rcases hpl with ⟨c, hc, e⟩ | ⟨e, h1, h2⟩
      · left; omega
      · right; omega
    · show ((A.heap t).segs.map L.sg) = []; rw [hnil]; rfl
    · rintro e w' ⟨rfl, ho⟩
      exact ⟨L, by rw [e0]; rfl, by rw [e0]; exact Ste.refl h ho⟩
  have HROW := Lib.hid (fun w => heap_row (L.hp t) pl.cls w (by rcases hpl with ⟨c, hc, e⟩ | ⟨e, h1, h2⟩ <;> omega) (by rcases hpl with ⟨c, hc, e⟩ | ⟨e, h1, h2⟩ <;> omega))
  have hri : rowIx pl.cls < 13 := by unfold rowIx; rcases hpl with ⟨c, hc, e⟩ | ⟨e, h1, h2⟩ <;> split <;> omega
  have hsg : RowAt w 98 1 (L.hS t) (A.heap t).segs.length (((A.heap t).segs.map L.sg).map ptrV) := by have := hH.sg; simpa using this
  obtain ⟨sg, cap, cur, hv, hblk, hcur⟩ : ∃ sg cap cur, L.hS t = .slice (some ⟨sg, 0, none⟩) (A.heap t).segs.length cap ∧ Blk w sg 98 cur ∧ ∀ i, i < (A.heap t).segs.length → cur[i]? = some (ptrV (L.sg ((A.heap t).segs.getD i 0))) := by
    rcases ptr_cells hH.sg with ⟨_, h2⟩ | ⟨g, cap, cur, h1, h2, h3⟩
    · exact absurd (List.map_eq_nil_iff.1 h2) hnil
    · refine ⟨g, cap, cur, by simpa using h1, h2, fun i hi => ?_⟩
      have := h3 i (by simpa using hi)
      rw [this]
      simp [List.getD_eq_getElem?_getD, List.getElem?_eq_getElem hi]
  obtain ⟨n, hnn⟩ : ∃ n, n = (A.heap t).segs.length := ⟨_, rfl⟩
  have hn64 : n ≤ 64 := by have := hH.few; rw [hnn]; simpa using this
  have c0 : w.cell? ⟨L.hp t, 29, none⟩ = some (L.hS t) := hH.st.cell 29
  rw [hv, ← hnn] at c0
  obtain ⟨bh, hbh⟩ : ∃ x, x = L.hp t := ⟨_, rfl⟩
  have HBH := Lib.hid hbh
  have HHB := Lib.hid (hH.st)
  have HBLK := Lib.hid hblk
  have HCUR := Lib.hid hcur
  have HN := Lib.hid hnn
  have HSV := Lib.hid hv
  have HREP := Lib.hid h
  have HSP := Lib.hid hsp
  have HHP := Lib.hid hhp
  have HPL := Lib.hid hpl
  have HRI := Lib.hid hri
  rw [← hbh] at c0 HROW
  show Calls _ _ #[.pointer (some ⟨L.hp t, 0, none⟩), planV pl] w _
  -- what each way out answers
  have HOUT : Hid (∀ w' L' (a e : Nat), A.fresh t pl = (a, (e : Int), (A.fresh t pl).2.2) → Ste w L A w' L' (A.fresh t pl).2.2 → (∃ L'', Ending.returned (.tuple #[.int .u64 a, .int .i64 e]) = Ending.returned ((fun _ : Lay => Value.tuple #[.int .u64 (A.fresh t pl).1, .int .i64 (A.fresh t pl).2.1]) L'') ∧ Ste w L A w' L'' (A.fresh t pl).2.2)) := Lib.hid (fun w' L' a e he hs => ⟨L', by rw [he], hs⟩)
  -- a segment with no room
  have HNONE : Hid (∀ j w1, j < n → Only Nobody w w1 → takeRow (A.segD ((A.heap t).segs.getD j 0)).T 16 (plSl pl) = none → Calls Tryz.prog 172 #[.pointer (some ⟨L.sg ((A.heap t).segs.getD j 0), 0, none⟩), planV pl] w1 fun e w' => e = .returned (.tuple #[.pointer none, .int .i64 4]) ∧ Only Nobody w1 w') := Lib.hid (fun j w1 hj ho hno => by
    have hm : (A.heap t).segs.getD j 0 ∈ (A.heap t).segs := by
      rw [List.getD_eq_getElem?_getD, List.getElem?_eq_getElem (by omega)]; exact List.getElem_mem _
    obtain ⟨s, hs⟩ := Option.isSome_iff_exists.1 (hhp.live _ hm)
    have hsd : A.segD ((A.heap t).segs.getD j 0) = s := by unfold St.segD; rw [hs]; rfl
    rw [hsd] at hno
    exact sys_cut_none hs hsp hpl hno w1 L (h.quiet ho))
  -- one with room
  have HSOME : Hid (∀ j w1, j < n → Only Nobody w w1 → ∀ r : Row (A.segD ((A.heap t).segs.getD j 0)).T 16, takeRow (A.segD ((A.heap t).segs.getD j 0)).T 16 (plSl pl) = some r → Calls Tryz.prog 172 #[.pointer (some ⟨L.sg ((A.heap t).segs.getD j 0), 0, none⟩), planV pl] w1 fun e w' => ∃ L', e = .returned (.tuple #[.pointer (some ⟨L'.ow ((A.heap t).segs.getD j 0 * 16 + r.1.1), 0, none⟩), .int .i64 0]) ∧ Ste w1 L A w' L' (A.newPage ((A.heap t).segs.getD j 0) (A.segD ((A.heap t).segs.getD j 0)) r.1.1 pl) ∧ L'.sg = L.sg) := Lib.hid (fun j w1 hj ho r hr => by
    have hm : (A.heap t).segs.getD j 0 ∈ (A.heap t).segs := by
      rw [List.getD_eq_getElem?_getD, List.getElem?_eq_getElem (by omega)]; exact List.getElem_mem _
    obtain ⟨s, hs⟩ := Option.isSome_iff_exists.1 (hhp.live _ hm)
    have hsd : A.segD ((A.heap t).segs.getD j 0) = s := by unfold St.segD; rw [hs]; rfl
    revert r
    rw [hsd]
    intro r hr
    exact sys_cut_some hs hsp hpl r hr w1 L (h.quiet ho))
  -- what follows it
  have HREST : Hid (∀ j w2 L2, j < n → ∀ r : Row (A.segD ((A.heap t).segs.getD j 0)).T 16, takeRow (A.segD ((A.heap t).segs.getD j 0)).T 16 (plSl pl) = some r → (∀ l, l < j → takeRow (A.segD ((A.heap t).segs.getD l 0)).T 16 (plSl pl) = none) → Ste w L A w2 L2 (A.newPage ((A.heap t).segs.getD j 0) (A.segD ((A.heap t).segs.getD j 0)) r.1.1 pl) → L2.sg = L.sg →
      (Calls Tryz.prog 174 #[.pointer (some ⟨L.sg ((A.heap t).segs.getD j 0), 0, none⟩), .pointer (some ⟨L2.ow ((A.heap t).segs.getD j 0 * 16 + r.1.1), 0, none⟩)] w2 fun e w' => e = .returned (.int .i64 ((A.heap t).segs.getD j 0 * 16 + r.1.1 : Nat)) ∧ Only Nobody w2 w') ∧
      (∀ w3 g, Only Nobody w2 w3 → Blk w3 g 3 #[.int .i64 ((A.heap t).segs.getD j 0 * 16 + r.1.1 : Nat)] → Calls Tryz.prog 173 #[.pointer (some ⟨bh, 2 * rowIx pl.cls, none⟩), .slice (some ⟨g, 0, none⟩) 1 1] w3 fun e w4 => e = .returned (.int .i64 0) ∧ ∃ bp, w4.cell? ⟨L2.ow ((A.heap t).segs.getD j 0 * 16 + r.1.1), 0, none⟩ = some (.pointer (some ⟨bp, 0, none⟩)) ∧
        Hid (Calls Tryz.prog 169 #[.pointer (some ⟨bp, 0, none⟩)] w4 fun e w5 => ∃ a L5, e = .returned (.tuple #[.int .u64 (a : Nat), .int .i64 0]) ∧ Hid (A.fresh t pl = (a, 0, (A.fresh t pl).2.2)) ∧ Ste w L A w5 L5 (A.fresh t pl).2.2))) := Lib.hid (fun j w2 L2 hj r hr hno hst hsg2 => by
    have hm : (A.heap t).segs.getD j 0 ∈ (A.heap t).segs := by
      rw [List.getD_eq_getElem?_getD, List.getElem?_eq_getElem (by omega)]; exact List.getElem_mem _
    obtain ⟨s, hs⟩ := Option.isSome_iff_exists.1 (hhp.live _ hm)
    have hsd : A.segD ((A.heap t).segs.getD j 0) = s := by unfold St.segD; rw [hs]; rfl
    have hT0 : (A.segD ((A.heap t).segs.getD j 0)).T 0 = true := by unfold Sg.T; simp
    obtain ⟨f1, f2, f3⟩ := takeRow_facts hr hT0
    have hsl := hpl.sl
    have hjl : j < (A.heap t).segs.length := by omega
    have hdrop : (A.heap t).segs.drop j = (A.heap t).segs.getD j 0 :: (A.heap t).segs.drop (j + 1) := by
      rw [List.drop_eq_getElem_cons hjl, List.getD_eq_getElem?_getD, List.getElem?_eq_getElem hjl]; rfl
    have hfr : A.fresh t pl = ((pgAlloc A.f ((A.heap t).segs.getD j 0 * 16 + r.1.1) (pgFor pl)).1.getD 0, 0, ((A.newPage ((A.heap t).segs.getD j 0) (A.segD ((A.heap t).segs.getD j 0)) r.1.1 pl).setHeap t ((A.heap t).push (rowIx pl.cls) ((A.heap t).segs.getD j 0 * 16 + r.1.1))).setPage ((A.heap t).segs.getD j 0 * 16 + r.1.1) (pgAlloc A.f ((A.heap t).segs.getD j 0 * 16 + r.1.1) (pgFor pl)).2.1 (pgAlloc A.f ((A.heap t).segs.getD j 0 * 16 + r.1.1) (pgFor pl)).2.2) := by
      unfold St.fresh
      rw [freshGo_drop _ j (fun l hl _ => hno l hl), hdrop]
      unfold St.freshGo
      rw [hr]
    have hpn := (hsp.sg _ s hs).1.pn
    have h0T := f3 0 (by omega)
    rw [Nat.add_zero] at h0T
    generalize r.1.1 = at_ at *
    clear hr r
    rw [hsd] at hst h0T hfr
    have hno2 : A.page ((A.heap t).segs.getD j 0 * 16 + at_) = none := hsp.no_page hs (by omega) h0T
    generalize (A.heap t).segs.getD j 0 = p at *
    have hown := (hst.rep.all (.page (p * 16 + at_)) (pgFor pl) (by show upd A.page _ _ _ = _; rw [upd_same])).1
    have hseg2 := hst.rep.all (.seg p) { s with of := setOf s.of at_ (plSl pl) (some at_), left := s.left - plSl pl } (by show upd A.seg _ _ _ = _; rw [upd_same])
    rw [show (p * 16 + at_) % 16 = at_ from by omega] at hown
    rw [hsg2] at hseg2
    have hky := heap_key _ _ _ _ _ _ _ _ w2 hseg2 hown (by omega)
    refine ⟨hky, fun w3 g ho3 hg => ?_⟩
    have hk : (p * 16 + at_) ∉ (A.heap t).L (rowIx pl.cls) ∧ (p * 16 + at_) ∉ (A.heap t).FL (rowIx pl.cls) := by
      constructor <;> intro hin
      · obtain ⟨g, hg, _⟩ := (hhp.mem _ _ hri).1 (.inl hin); rw [hno2] at hg; cases hg
      · obtain ⟨g, hg, _⟩ := (hhp.mem _ _ hri).1 (.inr hin); rw [hno2] at hg; cases hg
    have hfew := hhp.few hsp hri
    have hst3 := hst.quiet_right ho3
    have hpush := sys_Push (A := A.newPage p s at_ pl) ht hri hk.1 hk.2 (by show ((A.heap t).L (rowIx pl.cls)).length < 990; omega) g w3 L2 hst3.rep hg
    rw [show L2.hp t = bh from by rw [hst.fix.hp]; exact hbh.symm] at hpush
    refine hpush.mono ?_
    rintro e w4 ⟨L4, rfl, hst4, hkp⟩
    have how4 := hst4.rep.all (.page (p * 16 + at_)) (pgFor pl) (by show upd A.page _ _ _ = _; rw [upd_same])
    refine ⟨rfl, L4.pg (p * 16 + at_), ?_, Lib.hid ?_⟩
    · rw [← hkp.ow]; exact how4.1.cell 0
    · have hg4 := pgFor_good (A := A) (at_ := at_) hsp.n64 hpn f1 f2 hpl
      obtain ⟨A4, hA4⟩ : ∃ x, x = (A.newPage p s at_ pl).setHeap t (((A.newPage p s at_ pl).heap t).push (rowIx pl.cls) (p * 16 + at_)) := ⟨_, rfl⟩
      have hf4 : A4.f = A.f := by rw [hA4]; rfl
      have hn4 : A4.n = A.n := by rw [hA4]; rfl
      have hp4 : A4.page (p * 16 + at_) = some (pgFor pl) := by rw [hA4]; show upd A.page _ _ _ = _; rw [upd_same]
      rw [← hA4] at hst4
      have hA5 : (A.newPage p s at_ pl).setHeap t ((A.heap t).push (rowIx pl.cls) (p * 16 + at_)) = A4 := by rw [hA4]; rfl
      rw [hA5] at hfr
      rw [← hf4, ← hn4] at hg4
      have hA := sys_Alloc A4 (p * 16 + at_) (pgFor pl) hp4 hg4 w4 L4 hst4.rep
      rw [hf4] at hA
      refine hA.mono ?_
      rintro e w5 ⟨L5, rfl, hst5, _⟩
      have ha : (pgAlloc A.f (p * 16 + at_) (pgFor pl)).1 = some ((p * 16 + at_) * 1024) := pgAlloc_fresh hpl
      refine ⟨(p * 16 + at_) * 1024, L5, ?_, Lib.hid ?_, ?_⟩
      · show Ending.returned (allocV (pgAlloc A.f (p * 16 + at_) (pgFor pl)).1) = _
        rw [ha]; rfl
      · rw [hfr, ha]
        rfl
      · rw [hfr]
        exact (hst3.trans hst4).trans hst5)
  clear h hH hsp hhp hnil hri hsg hv hblk hcur hnn hbh hpl
  have HPB := Lib.hid (Blk.new w 172 #[.int .i64 pl.cls, .int .i64 pl.slices, .int .i64 pl.segs, .int .u64 pl.usable])
  have HO := Lib.hid ((Only.refl Nobody w).alloc (.cells #[.int .i64 pl.cls, .int .i64 pl.slices, .int .i64 pl.segs, .int .u64 pl.usable] 172))
  have HBLKA := Lib.hid (HBLK.out.alloc (.cells #[.int .i64 pl.cls, .int .i64 pl.slices, .int .i64 pl.segs, .int .u64 pl.usable] 172))
  have d29 : (w.alloc (.cells #[.int .i64 pl.cls, .int .i64 pl.slices, .int .i64 pl.segs, .int .u64 pl.usable] 172)).cell? ⟨bh, 29, none⟩ = some (.slice (some ⟨sg, 0, none⟩) n cap) := by
    have := HHB.out.alloc (.cells #[.int .i64 pl.cls, .int .i64 pl.slices, .int .i64 pl.segs, .int .u64 pl.usable] 172)
    rw [← HBH.out] at this
    exact (this.cell 29).trans (by show some (L.hS t) = _; rw [HSV.out, ← HN.out])
  rw [← HBH.out]
  obtain ⟨cls, slices, segs, usable⟩ := pl
  dsimp only at HROW HNONE HSOME HREST HRI HPB HO HBLKA d29 ⊢
  have hpl2 := HPL.out
  unfold PlanOK at hpl2
  dsimp only at hpl2
  rcases hpl2 with ⟨c, hc, e⟩ | ⟨rfl, hp1, hp2⟩
  · have hp : 0 ≤ cls ∧ cls < 12 := by omega
    clear e
    have hb : (cls == -1) = false := by rw [beq_eq_false_iff_ne]; omega
    go_enter Tryz.func144, Tryz.ntmps144
    go_wp2
    generalize w.alloc (.cells #[.int .i64 cls, .int .i64 slices, .int .i64 segs, .int .u64 usable] 172) = wa at *
    generalize w.heap.size = g at *
    have p0 : wa.cell? ⟨g, 0, none⟩ = some (.int .i64 cls) := HPB.out.cell 0
    have p1 : wa.cell? ⟨g, 1, none⟩ = some (.int .i64 slices) := HPB.out.cell 1
    go_quiet (first | (go_at_call 93; exact quiet_left (HROW.out _)))
    have HO0 := Lib.hid (HO.out.drewN nq)
    have HPB0 := Lib.hid (HPB.out.drewN nq)
    have HBLK0 := Lib.hid (HBLKA.out.drewN nq)
    have e29 : (wa.drewN nq).cell? ⟨bh, 29, none⟩ = some (.slice (some ⟨sg, 0, none⟩) n cap) := d29
    generalize wa.drewN nq = wb at *
    clear p0 p1 d29
    have q0 : wb.cell? ⟨g, 0, none⟩ = some (.int .i64 cls) := HPB0.out.cell 0
    have q1 : wb.cell? ⟨g, 1, none⟩ = some (.int .i64 slices) := HPB0.out.cell 1
    go_wp2
    go_loopw [8, 9, 10, 11, 42] (fun _ _ _ _ i wr => ∃ j : Nat, j ≤ n ∧ i = .int .i64 j ∧ Hid (∀ l, l < j → takeRow (A.segD ((A.heap t).segs.getD l 0)).T 16 (plSl ⟨cls, slices, segs, usable⟩) = none) ∧ Only Nobody wb wr) (fun _ _ _ _ i _ => n - (intOf i).toNat)
    case atStart => exact ⟨0, by omega, rfl, Lib.hid fun l h => absurd h (by omega), Only.refl _ _⟩
    case round =>
      obtain ⟨j, hj, rfl, HNO, ho⟩ := hrel
      have HO1 := Lib.hid (HO0.out.trans ho)
      have hpb := HPB0.out.only ho (fun h => h)
      have p0 : wr.cell? ⟨g, 0, none⟩ = some (.int .i64 cls) := hpb.cell 0
      have p1 : wr.cell? ⟨g, 1, none⟩ = some (.int .i64 slices) := hpb.cell 1
      have p2 : wr.cell? ⟨g, 2, none⟩ = some (.int .i64 segs) := hpb.cell 2
      have p3 : wr.cell? ⟨g, 3, none⟩ = some (.int .u64 usable) := hpb.cell 3
      have hbk := HBLK0.out.only ho (fun h => h)
      have HOW := Lib.hid ho
      by_cases hlt : j < n
      · have cj : wr.cell? ⟨sg, j, none⟩ = some (.pointer (some ⟨L.sg ((A.heap t).segs.getD j 0), 0, none⟩)) := (hbk.cell j).trans (HCUR.out j (by rw [← HN.out]; exact hlt))
        clear hpb hbk ho c0 e29 q0 q1
        cases hr : takeRow (A.segD ((A.heap t).segs.getD j 0)).T 16 (plSl ⟨cls, slices, segs, usable⟩) with
        | none =>
          have HCUT := Lib.hid (fun w1 ho => HNONE.out j w1 hlt ho hr)
          have HRR := Lib.hid hr
          clear hr
          go_wp2_with (first | (go_at_call 172; refine (HCUT.out _ HO1.out).mono ?_; rintro e w2 ⟨rfl, ho⟩; have HO2 := Lib.hid (HOW.out.trans ho); clear ho))
          refine ⟨⟨j + 1, by omega, by go_num, Lib.hid fun l hl => ?_, HO2.out⟩, by show n - (intOf (Value.int IntKind.i64 ((j : Int) + 1))).toNat < n - (intOf (Value.int IntKind.i64 (j : Int))).toNat; simp [intOf]; omega⟩
          by_cases e : l = j
          · subst e; exact HRR.out
          · exact HNO.out l (by omega)
        | some r =>
          have HCUT := Lib.hid (fun w1 ho => HSOME.out j w1 hlt ho r hr)
          have HRR := Lib.hid hr
          clear hr
          go_wp2_with (first | (go_at_call 172; refine (HCUT.out _ HO1.out).mono ?_; rintro e w2 ⟨L2, rfl, hst, hsg⟩; have HKY := Lib.hid (HREST.out j w2 L2 hlt r HRR.out HNO.out ((Ste.refl HREP.out HO1.out).trans hst) hsg); clear hst hsg; generalize L2.ow ((A.heap t).segs.getD j 0 * 16 + r.1.1) = bo at HKY ⊢) | (go_at_call 174; refine HKY.out.1.mono ?_; rintro e w3 ⟨rfl, ho⟩; have HO3 := Lib.hid (ho.alloc (.cells #[.int .i64 (((A.heap t).segs.getD j 0) * 16 + r.1.1 : Nat)] 3)); clear ho) | (go_at_call 173; refine (HKY.out.2 _ w3.heap.size HO3.out (Blk.new w3 _ _)).mono ?_; rintro e w4 ⟨rfl, bp, d0, HA⟩) | (go_at_call 169; refine HA.out.mono ?_; rintro e w5 ⟨a, L5, rfl, HF, hst⟩; have HS5 := Lib.hid hst; clear hst))
          go_ret2
          exact ⟨L5, by rw [HF.out]; rfl, HS5.out⟩
      · obtain rfl : j = n := by omega
        have hfin : A.fresh t ⟨cls, slices, segs, usable⟩ = (0, 4, A) := by
          unfold St.fresh
          rw [freshGo_drop _ j (fun l hl _ => HNO.out l hl), HN.out, List.drop_length]; rfl
        have HFIN := Lib.hid hfin
        clear hpb hbk ho hfin c0 e29 q0 q1
        go_wp2
        go_ret2
        exact ⟨L, by rw [HFIN.out]; rfl, by rw [HFIN.out]; exact Ste.refl HREP.out HO1.out⟩
  · have hp2' : slices < 16 := by omega
    have hd1 : decide ((16 : Int) ≤ slices) = false := by rw [decide_eq_false_iff_not]; omega
    have hd2 : decide (16 ≤ slices) = false := by rw [decide_eq_false_iff_not]; omega
    have hd3 : decide ((slices : Int) < 1) = false := by rw [decide_eq_false_iff_not]; omega
    go_enter Tryz.func144, Tryz.ntmps144
    go_wp2
    generalize w.alloc (.cells #[.int .i64 (-1), .int .i64 slices, .int .i64 segs, .int .u64 usable] 172) = wa at *
    generalize w.heap.size = g at *
    have p0 : wa.cell? ⟨g, 0, none⟩ = some (.int .i64 (-1)) := HPB.out.cell 0
    have p1 : wa.cell? ⟨g, 1, none⟩ = some (.int .i64 slices) := HPB.out.cell 1
    go_quiet (first | (go_at_call 93; exact quiet_left (HROW.out _)))
    have HO0 := Lib.hid (HO.out.drewN nq)
    have HPB0 := Lib.hid (HPB.out.drewN nq)
    have HBLK0 := Lib.hid (HBLKA.out.drewN nq)
    have e29 : (wa.drewN nq).cell? ⟨bh, 29, none⟩ = some (.slice (some ⟨sg, 0, none⟩) n cap) := d29
    generalize wa.drewN nq = wb at *
    clear p0 p1 d29
    have q0 : wb.cell? ⟨g, 0, none⟩ = some (.int .i64 (-1)) := HPB0.out.cell 0
    have q1 : wb.cell? ⟨g, 1, none⟩ = some (.int .i64 slices) := HPB0.out.cell 1
    go_wp2
    go_loopw [8, 9, 10, 11, 42] (fun _ _ _ _ i wr => ∃ j : Nat, j ≤ n ∧ i = .int .i64 j ∧ Hid (∀ l, l < j → takeRow (A.segD ((A.heap t).segs.getD l 0)).T 16 (plSl ⟨(-1), slices, segs, usable⟩) = none) ∧ Only Nobody wb wr) (fun _ _ _ _ i _ => n - (intOf i).toNat)
    case atStart => exact ⟨0, by omega, rfl, Lib.hid fun l h => absurd h (by omega), Only.refl _ _⟩
    case round =>
      obtain ⟨j, hj, rfl, HNO, ho⟩ := hrel
      have HO1 := Lib.hid (HO0.out.trans ho)
      have hpb := HPB0.out.only ho (fun h => h)
      have p0 : wr.cell? ⟨g, 0, none⟩ = some (.int .i64 (-1)) := hpb.cell 0
      have p1 : wr.cell? ⟨g, 1, none⟩ = some (.int .i64 slices) := hpb.cell 1
      have p2 : wr.cell? ⟨g, 2, none⟩ = some (.int .i64 segs) := hpb.cell 2
      have p3 : wr.cell? ⟨g, 3, none⟩ = some (.int .u64 usable) := hpb.cell 3
      have hbk := HBLK0.out.only ho (fun h => h)
      have HOW := Lib.hid ho
      by_cases hlt : j < n
      · have cj : wr.cell? ⟨sg, j, none⟩ = some (.pointer (some ⟨L.sg ((A.heap t).segs.getD j 0), 0, none⟩)) := (hbk.cell j).trans (HCUR.out j (by rw [← HN.out]; exact hlt))
        clear hpb hbk ho c0 e29 q0 q1
        cases hr : takeRow (A.segD ((A.heap t).segs.getD j 0)).T 16 (plSl ⟨(-1), slices, segs, usable⟩) with
        | none =>
          have HCUT := Lib.hid (fun w1 ho => HNONE.out j w1 hlt ho hr)
          have HRR := Lib.hid hr
          clear hr
          go_wp2_with (first | (go_at_call 172; refine (HCUT.out _ HO1.out).mono ?_; rintro e w2 ⟨rfl, ho⟩; have HO2 := Lib.hid (HOW.out.trans ho); clear ho))
          refine ⟨⟨j + 1, by omega, by go_num, Lib.hid fun l hl => ?_, HO2.out⟩, by show n - (intOf (Value.int IntKind.i64 ((j : Int) + 1))).toNat < n - (intOf (Value.int IntKind.i64 (j : Int))).toNat; simp [intOf]; omega⟩
          by_cases e : l = j
          · subst e; exact HRR.out
          · exact HNO.out l (by omega)
        | some r =>
          have HCUT := Lib.hid (fun w1 ho => HSOME.out j w1 hlt ho r hr)
          have HRR := Lib.hid hr
          clear hr
          go_wp2_with (first | (go_at_call 172; refine (HCUT.out _ HO1.out).mono ?_; rintro e w2 ⟨L2, rfl, hst, hsg⟩; have HKY := Lib.hid (HREST.out j w2 L2 hlt r HRR.out HNO.out ((Ste.refl HREP.out HO1.out).trans hst) hsg); clear hst hsg; generalize L2.ow ((A.heap t).segs.getD j 0 * 16 + r.1.1) = bo at HKY ⊢) | (go_at_call 174; refine HKY.out.1.mono ?_; rintro e w3 ⟨rfl, ho⟩; have HO3 := Lib.hid (ho.alloc (.cells #[.int .i64 (((A.heap t).segs.getD j 0) * 16 + r.1.1 : Nat)] 3)); clear ho) | (go_at_call 173; refine (HKY.out.2 _ w3.heap.size HO3.out (Blk.new w3 _ _)).mono ?_; rintro e w4 ⟨rfl, bp, d0, HA⟩) | (go_at_call 169; refine HA.out.mono ?_; rintro e w5 ⟨a, L5, rfl, HF, hst⟩; have HS5 := Lib.hid hst; clear hst))
          go_ret2
          exact ⟨L5, by rw [HF.out]; rfl, HS5.out⟩
      · obtain rfl : j = n := by omega
        have hfin : A.fresh t ⟨(-1), slices, segs, usable⟩ = (0, 4, A) := by
          unfold St.fresh
          rw [freshGo_drop _ j (fun l hl _ => HNO.out l hl), HN.out, List.drop_length]; rfl
        have HFIN := Lib.hid hfin
        clear hpb hbk ho hfin c0 e29 q0 q1
        go_wp2
        go_ret2
        exact ⟨L, by rw [HFIN.out]; rfl, by rw [HFIN.out]; exact Ste.refl HREP.out HO1.out⟩
end Go.Proofs.YtfplalgoopkmaaaGreat
