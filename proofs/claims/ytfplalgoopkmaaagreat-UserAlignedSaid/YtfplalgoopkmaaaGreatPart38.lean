/- What stays right when pages, segments are made, and blocks are given out, without Go. Conditions: none. -/
import Derived.Test.YtfplalgoopkmaaaGreatPart37
import Derived.Test.YtfplalgoopkmaaaGreatPart23
import Derived.Test.YtfplalgoopkmaaaGreatPart24

set_option linter.unusedVariables false
set_option linter.unusedSimpArgs false

namespace Go.Proofs.YtfplalgoopkmaaaGreat

section
set_option maxRecDepth 100000
variable {A : St}
/-- Two pages' slices are apart. -/
theorem SP.apart (h : SP A) {k j : Nat} {g g2 : Pg} (hk : A.page k = some g) (hj : A.page j = some g2) (hne : k ≠ j) : k + g.sl ≤ j ∨ j + g2.sl ≤ k := by
  have hk1 := (h.pg k g hk).1
  have hj1 := (h.pg j g2 hj).1
  have h2 := hk1.k2
  have h3 := hj1.k2
  by_cases e : k / 16 = j / 16
  · obtain ⟨s, hs⟩ := Option.isSome_iff_exists.1 (h.pg k g hk).2
    have hg := (h.sg _ s hs).1
    have o1 := hg.own (k % 16) g (by omega) (by rw [show k / 16 * 16 + k % 16 = k from by omega]; exact hk)
    have o2 := hg.own (j % 16) g2 (by omega) (by rw [show k / 16 * 16 + j % 16 = j from by omega]; exact hj)
    rcases Nat.lt_or_ge (k % 16) (j % 16) with hlt | hge
    · left
      rcases Nat.lt_or_ge (j % 16) (k % 16 + g.sl) with hov | hov
      · have a1 := o1 (j % 16 - k % 16) (by omega)
        have a2 := o2 0 (h.pgsl hj)
        rw [show k % 16 + (j % 16 - k % 16) = j % 16 + 0 from by omega, a2] at a1
        injection a1 with a1
        omega
      · omega
    · right
      rcases Nat.lt_or_ge (k % 16) (j % 16 + g2.sl) with hov | hov
      · have a1 := o2 (k % 16 - j % 16) (by omega)
        have a2 := o1 0 (h.pgsl hk)
        rw [show j % 16 + (k % 16 - j % 16) = k % 16 + 0 from by omega, a2] at a1
        injection a1 with a1
        omega
      · omega
  · rcases Nat.lt_or_ge (k / 16) (j / 16) with hlt | hge
    · left; omega
    · right; omega

theorem SP.setHeap (h : SP A) (t : Nat) (x : Hp) : SP (A.setHeap t x) :=
  ⟨h.n64, fun p s hs => ⟨⟨(h.sg p s hs).1.n64, (h.sg p s hs).1.pn, (h.sg p s hs).1.of0, (h.sg p s hs).1.ofk, (h.sg p s hs).1.own, (h.sg p s hs).1.left, (h.sg p s hs).1.ot, (h.sg p s hs).1.oa, (h.sg p s hs).1.ow⟩, (h.sg p s hs).2⟩, h.pg⟩
/-- What only reads memory's size, memory, segments and pages. -/
theorem SP.eq {B : St} (h : SP A) (e1 : B.n = A.n) (e2 : B.f = A.f) (e3 : B.seg = A.seg) (e4 : B.page = A.page) : SP B := by
  refine ⟨by rw [e1]; exact h.n64, fun p s hs => ?_, fun k g hg => ?_⟩
  · rw [e3] at hs
    have := (h.sg p s hs).1
    exact ⟨⟨by rw [e1]; exact this.n64, by rw [e1]; exact this.pn, this.of0, by rw [e4]; exact this.ofk, by rw [e4]; exact this.own, this.left, this.ot, this.oa, this.ow⟩, (h.sg p s hs).2⟩
  · rw [e4] at hg
    rw [e1, e2, e3]
    exact h.pg k g hg
theorem HP.eq {B : St} {t : Nat} (h : HP A t) (e1 : B.heap t = A.heap t) (e3 : B.seg = A.seg) (e4 : B.page = A.page) : HP B t :=
  ⟨fun p hp => by rw [e3]; rw [e1] at hp; exact h.live p hp, by rw [e1]; exact h.nd, by rw [e1]; exact h.rows, by rw [e1, e4]; exact h.mem⟩

/-- A page is another one, in memory that differs there alone. -/
theorem SP.setPage (h : SP A) {k : Nat} {p p' : Pg} {f' : Nat → Nat} (hp : A.page k = some p) (hg : PgGood A.n f' k p') (hsl : p'.sl = p.sl) (hf : ∀ i, i < k * 1024 ∨ (k + p.sl) * 1024 ≤ i → f' i = A.f i) : SP (A.setPage k p' f') := by
  have hpg : ∀ j g, (A.setPage k p' f').page j = some g → ∃ g0, A.page j = some g0 ∧ g0.sl = g.sl := fun j g hj => by
    by_cases e : j = k
    · subst e
      have : p' = g := by have := hj; simp only [St.setPage, upd_same, Option.some.injEq] at this; exact this
      subst this
      exact ⟨p, hp, hsl.symm⟩
    · exact ⟨g, by have := hj; simp only [St.setPage, upd_ne _ _ e] at this; exact this, rfl⟩
  have hpg2 : ∀ j g0, A.page j = some g0 → ∃ g, (A.setPage k p' f').page j = some g ∧ g.sl = g0.sl := fun j g0 hj => by
    by_cases e : j = k
    · subst e
      rw [hp] at hj
      injection hj with hj
      subst hj
      exact ⟨p', by simp only [St.setPage, upd_same], hsl⟩
    · exact ⟨g0, by simp only [St.setPage, upd_ne _ _ e]; exact hj, rfl⟩
  refine ⟨h.n64, fun q s hs => ?_, fun j g hj => ?_⟩
  · have hq := (h.sg q s hs).1
    refine ⟨⟨hq.n64, hq.pn, hq.of0, fun i a ha => ?_, fun a g ha hga => ?_, hq.left, hq.ot, hq.oa, hq.ow⟩, (h.sg q s hs).2⟩
    · obtain ⟨h1, h2, h3, g, h4, h5⟩ := hq.ofk i a ha
      obtain ⟨g', h6, h7⟩ := hpg2 _ _ h4
      exact ⟨h1, h2, h3, g', h6, by omega⟩
    · obtain ⟨g0, h1, h2⟩ := hpg _ _ hga
      rw [← h2]
      exact hq.own a g0 ha h1
  · by_cases e : j = k
    · subst e
      have : p' = g := by have := hj; simp only [St.setPage, upd_same, Option.some.injEq] at this; exact this
      subst this
      exact ⟨hg, (h.pg j p hp).2⟩
    · have hj2 : A.page j = some g := by have := hj; simp only [St.setPage, upd_ne _ _ e] at this; exact this
      obtain ⟨h1, h2⟩ := h.pg j g hj2
      refine ⟨h1.far fun i hi1 hi2 => hf i ?_, h2⟩
      rcases h.apart hj2 hp e with h3 | h3
      · left
        have : (j + g.sl) * 1024 ≤ k * 1024 := Nat.mul_le_mul_right _ h3
        omega
      · right
        have : (k + p.sl) * 1024 ≤ j * 1024 := Nat.mul_le_mul_right _ h3
        omega
theorem HP.setPage {t : Nat} (h : HP A t) {k : Nat} {p p' : Pg} {f' : Nat → Nat} (hp : A.page k = some p) (hc : p'.cls = p.cls) : HP (A.setPage k p' f') t := by
  refine ⟨h.live, h.nd, h.rows, fun c j hc13 => (h.mem c j hc13).trans ?_⟩
  by_cases e : j = k
  · subst e
    constructor
    · rintro ⟨g, h1, h2, h3⟩
      rw [hp] at h1
      injection h1 with h1
      subst h1
      exact ⟨p', by simp only [St.setPage, upd_same], by rw [hc]; exact h2, h3⟩
    · rintro ⟨g, h1, h2, h3⟩
      simp only [St.setPage, upd_same, Option.some.injEq] at h1
      subst h1
      exact ⟨p, hp, by rw [← hc]; exact h2, h3⟩
  · simp only [St.setPage, upd_ne _ _ e]

theorem HP.setHeap_ne {t u : Nat} (h : HP A u) (hne : u ≠ t) (x : Hp) : HP (A.setHeap t x) u :=
  h.eq (upd_ne _ _ hne) rfl rfl

/-- A block given out of a page. -/
theorem SP.give_out (h : SP A) {k a : Nat} {p p' : Pg} {f' : Nat → Nat} (hp : A.page k = some p) (he : pgAlloc A.f k p = (some a, p', f')) : SP (A.setPage k p' f') := by
  have hg := (h.pg k p hp).1.alloc he
  exact h.setPage hp hg.1 hg.2.2.1 (fun i hi => pgAlloc_far (h.pg k p hp).1 he i hi)

theorem cnt_new : 15 = cnt (fun i => decide (i = 0) || (none : Option Nat).isSome) 16 := by decide
/-- A segment more. -/
theorem SP.newSeg (h : SP A) {t p : Nat} (hp : p < A.n) (h1 : 1 ≤ p) (ht : t < 8) (hno : A.seg p = none) : SP (A.newSeg t p) := by
  refine ⟨h.n64, fun q s hs => ?_, fun k g hg => ?_⟩
  · by_cases e : q = p
    · subst e
      have : sgNew t = s := by have := hs; simp only [St.newSeg, upd_same, Option.some.injEq] at this; exact this
      subst this
      refine ⟨⟨h.n64, hp, rfl, fun i a ha => (by cases ha), fun a g ha hg => ?_, cnt_new, by show 1 ≤ 100000000000; omega, by show 1 ≤ 100000000000; omega, by show t + 1 ≤ 8; omega⟩, h1⟩
      have := (h.pg _ g hg).2
      rw [show (q * 16 + a) / 16 = q from by omega, hno] at this
      cases this
    · have hs2 : A.seg q = some s := by have := hs; simp only [St.newSeg, upd_ne _ _ e] at this; exact this
      have := (h.sg q s hs2).1
      exact ⟨⟨this.n64, this.pn, this.of0, this.ofk, this.own, this.left, this.ot, this.oa, this.ow⟩, (h.sg q s hs2).2⟩
  · obtain ⟨h2, h3⟩ := h.pg k g hg
    refine ⟨h2, ?_⟩
    show (upd A.seg p _ (k / 16)).isSome
    by_cases e : k / 16 = p
    · rw [e, upd_same]; rfl
    · rw [upd_ne _ _ e]; exact h3
theorem HP.newSeg {t p : Nat} (h : HP A t) (hsp : SP A) (hno : A.seg p = none) : HP (A.newSeg t p) t := by
  have hh : (A.newSeg t p).heap t = (A.heap t).more p := upd_same _ _ _
  have hnm : p ∉ (A.heap t).segs := fun hm => by have := h.live p hm; rw [hno] at this; cases this
  refine ⟨fun q hq => ?_, ?_, ?_, fun c k hc => ?_⟩
  · show (upd A.seg p _ q).isSome
    by_cases e : q = p
    · rw [e, upd_same]; rfl
    · rw [upd_ne _ _ e]
      rw [hh] at hq
      have : q ∈ (A.heap t).segs ++ [p] := hq
      rcases List.mem_append.1 this with h1 | h1
      · exact h.live q h1
      · exact absurd (by simpa using h1) e
  · rw [hh]
    show ((A.heap t).segs ++ [p]).Nodup
    rw [List.nodup_append]
    exact ⟨h.nd, by simp, fun x hx y hy e => hnm (by rw [← show y = p from by simpa using hy, ← e]; exact hx)⟩
  · rw [hh]; exact h.rows
  · rw [hh]
    refine (h.mem c k hc).trans ?_
    constructor
    · rintro ⟨g, h1, h2, h3⟩
      exact ⟨g, h1, h2, List.mem_append.2 (.inl h3)⟩
    · rintro ⟨g, h1, h2, h3⟩
      have : k / 16 ∈ (A.heap t).segs ++ [p] := h3
      rcases List.mem_append.1 this with h4 | h4
      · exact ⟨g, h1, h2, h4⟩
      · have h5 := (hsp.pg k g h1).2
        rw [show k / 16 = p from by simpa using h4, hno] at h5
        cases h5
theorem HP.newSeg_ne {t u p : Nat} (h : HP A u) (hne : u ≠ t) : HP (A.newSeg t p) u := by
  have hh : (A.newSeg t p).heap u = A.heap u := upd_ne _ _ hne
  refine ⟨fun q hq => ?_, by rw [hh]; exact h.nd, by rw [hh]; exact h.rows, by rw [hh]; exact h.mem⟩
  show (upd A.seg p _ q).isSome
  by_cases e : q = p
  · rw [e, upd_same]; rfl
  · rw [upd_ne _ _ e]; rw [hh] at hq; exact h.live q hq

/-- A page anew. -/
theorem SP.newPage (h : SP A) {p at_ : Nat} {s : Sg} {pl : Plan} (hs : A.seg p = some s) (h1 : 1 ≤ at_) (h2 : at_ + plSl pl ≤ 16) (hpl : PlanOK pl) (hf : ∀ j, j < plSl pl → s.T (at_ + j) = false) : SP (A.newPage p s at_ pl) := by
  have hsl := hpl.sl
  have hg := (h.sg p s hs).1
  have hof : ∀ j, j < plSl pl → s.of (at_ + j) = none := fun j hj => by
    have := hf j hj
    unfold Sg.T at this
    cases e : s.of (at_ + j) with
    | none => rfl
    | some x => rw [e] at this; simp at this
  have hno : ∀ j, j < plSl pl → A.page (p * 16 + (at_ + j)) = none := fun j hj => by
    cases e : A.page (p * 16 + (at_ + j)) with
    | none => rfl
    | some g =>
      have := hg.own (at_ + j) g (by omega) e 0 (h.pgsl e)
      rw [Nat.add_zero, hof j hj] at this
      cases this
  refine ⟨h.n64, fun q s2 hs2 => ?_, fun k g hk => ?_⟩
  · by_cases e : q = p
    · subst e
      obtain rfl : ({ s with of := setOf s.of at_ (plSl pl) (some at_), left := s.left - plSl pl } : Sg) = s2 := by have := hs2; simp only [St.newPage, upd_same, Option.some.injEq] at this; exact this
      refine ⟨⟨h.n64, hg.pn, ?_, fun i a ha => ?_, fun a g ha hga j hj => ?_, ?_, hg.ot, hg.oa, hg.ow⟩, (h.sg q s hs).2⟩
      · show setOf s.of at_ (plSl pl) (some at_) 0 = none
        unfold setOf
        rw [if_neg (by omega)]
        exact hg.of0
      · have ha2 : setOf s.of at_ (plSl pl) (some at_) i = some a := ha
        unfold setOf at ha2
        split at ha2
        · rename_i hi
          injection ha2 with ha2
          subst ha2
          exact ⟨h1, hi.1, by omega, pgFor pl, by simp only [St.newPage, upd_same], by show i < at_ + plSl pl; omega⟩
        · obtain ⟨b1, b2, b3, g, b4, b5⟩ := hg.ofk i a ha2
          refine ⟨b1, b2, b3, g, ?_, b5⟩
          show upd A.page (q * 16 + at_) _ (q * 16 + a) = some g
          rw [upd_ne]
          · exact b4
          · intro e
            have e2 : a = at_ := by omega
            subst e2
            have := hno 0 (by omega)
            rw [Nat.add_zero, b4] at this
            cases this
      · show setOf s.of at_ (plSl pl) (some at_) (a + j) = some a
        have hga2 : upd A.page (q * 16 + at_) (some (pgFor pl)) (q * 16 + a) = some g := hga
        by_cases e2 : a = at_
        · subst e2
          rw [upd_same] at hga2
          injection hga2 with hga2
          subst hga2
          unfold setOf
          have hj2 : j < plSl pl := hj
          rw [if_pos (by omega)]
        · rw [upd_ne _ _ (by omega)] at hga2
          have ho := hg.own a g ha hga2 j hj
          unfold setOf
          rw [if_neg]
          · exact ho
          · intro hb
            have := hof (a + j - at_) (by omega)
            rw [show at_ + (a + j - at_) = a + j from by omega, ho] at this
            cases this
      · rw [Sg.T_set s at_ (plSl pl) at_ _ h1]
        show s.left - plSl pl = _
        have := cnt_take s.T 16 at_ (plSl pl) h2 hf
        rw [hg.left]
        omega
    · have hs3 : A.seg q = some s2 := by have := hs2; simp only [St.newPage, upd_ne _ _ e] at this; exact this
      have hq := (h.sg q s2 hs3).1
      have hpe : ∀ a, a < 16 → (A.newPage p s at_ pl).page (q * 16 + a) = A.page (q * 16 + a) := fun a ha => by
        show upd A.page _ _ _ = _
        exact upd_ne _ _ (by omega)
      refine ⟨⟨hq.n64, hq.pn, hq.of0, fun i a ha => ?_, fun a g ha hga => ?_, hq.left, hq.ot, hq.oa, hq.ow⟩, (h.sg q s2 hs3).2⟩
      · have := hq.ofk i a ha
        rw [hpe a (by omega)]; exact this
      · rw [hpe a ha] at hga; exact hq.own a g ha hga
  · by_cases e : k = p * 16 + at_
    · subst e
      have : pgFor pl = g := by have := hk; simp only [St.newPage, upd_same, Option.some.injEq] at this; exact this
      subst this
      refine ⟨pgFor_good h.n64 hg.pn h1 h2 hpl, ?_⟩
      rw [show (p * 16 + at_) / 16 = p from by omega]
      show (upd A.seg p _ p).isSome
      rw [upd_same]; rfl
    · have hk2 : A.page k = some g := by have := hk; simp only [St.newPage, upd_ne _ _ e] at this; exact this
      obtain ⟨h3, h4⟩ := h.pg k g hk2
      refine ⟨h3, ?_⟩
      show (upd A.seg p _ (k / 16)).isSome
      by_cases e2 : k / 16 = p
      · rw [e2, upd_same]; rfl
      · rw [upd_ne _ _ e2]; exact h4
theorem SP.newPage_none (h : SP A) {p at_ : Nat} {s : Sg} {pl : Plan} (hs : A.seg p = some s) (h2 : at_ + plSl pl ≤ 16) (hpl : PlanOK pl) (hf : ∀ j, j < plSl pl → s.T (at_ + j) = false) : A.page (p * 16 + at_) = none := by
  have hsl := hpl.sl
  cases e : A.page (p * 16 + at_) with
  | none => rfl
  | some g =>
    have h1 := (h.sg p s hs).1.own at_ g (by omega) e 0 (h.pgsl e)
    have h3 := hf 0 (by omega)
    unfold Sg.T at h3
    rw [h1] at h3
    simp at h3
/-- A page anew, and behind the ready ones. -/
theorem HP.newPage {t : Nat} (h : HP A t) {p at_ : Nat} {s : Sg} {pl : Plan} (hs : A.seg p = some s) (hpl : PlanOK pl) (hno : A.page (p * 16 + at_) = none) (ha : at_ < 16) (hm : p ∈ (A.heap t).segs) :
    HP ((A.newPage p s at_ pl).setHeap t ((A.heap t).push (rowIx pl.cls) (p * 16 + at_))) t := by
  have hh : ((A.newPage p s at_ pl).setHeap t ((A.heap t).push (rowIx pl.cls) (p * 16 + at_))).heap t = (A.heap t).push (rowIx pl.cls) (p * 16 + at_) := upd_same _ _ _
  have hpage : ∀ j, ((A.newPage p s at_ pl).setHeap t ((A.heap t).push (rowIx pl.cls) (p * 16 + at_))).page j = upd A.page (p * 16 + at_) (some (pgFor pl)) j := fun j => rfl
  have hnot : ∀ c, c < 13 → ¬ (p * 16 + at_ ∈ (A.heap t).L c ∨ p * 16 + at_ ∈ (A.heap t).FL c) := fun c hc hx => by
    obtain ⟨g, hg, _⟩ := (h.mem c _ hc).1 hx
    rw [hno] at hg; cases hg
  have hL : ∀ c, (((A.heap t).push (rowIx pl.cls) (p * 16 + at_))).L c = if c = rowIx pl.cls then (A.heap t).L c ++ [p * 16 + at_] else (A.heap t).L c := fun c => by
    show updL (A.heap t).L (rowIx pl.cls) _ c = _
    unfold updL
    by_cases e : c = rowIx pl.cls
    · rw [if_pos e, if_pos e, e]
    · rw [if_neg e, if_neg e]
  refine ⟨fun q hq => ?_, by rw [hh]; exact h.nd, fun c hc => ?_, fun c k hc => ?_⟩
  · rw [hh] at hq
    show (upd A.seg p _ q).isSome
    by_cases e : q = p
    · rw [e, upd_same]; rfl
    · rw [upd_ne _ _ e]; exact h.live q hq
  · rw [hh, hL c]
    show (_ ++ (A.heap t).FL c).Nodup
    split
    · have h1 := h.rows c hc
      have h2 := hnot c hc
      rw [List.append_assoc, List.nodup_append] 
      rw [List.nodup_append] at h1
      refine ⟨h1.1, ?_, fun x hx y hy e => ?_⟩
      · rw [List.singleton_append, List.nodup_cons]
        exact ⟨fun hx => h2 (.inr hx), h1.2.1⟩
      · subst e
        rcases List.mem_append.1 hy with hy | hy
        · exact h2 (.inl (by rw [← show x = p * 16 + at_ from by simpa using hy]; exact hx))
        · exact h1.2.2 x hx x hy rfl
    · exact h.rows c hc
  · rw [hh, hL c, hpage k]
    show (k ∈ (if c = rowIx pl.cls then _ else _) ∨ k ∈ (A.heap t).FL c) ↔ ∃ g : Pg, _ ∧ rowIx g.cls = c ∧ k / 16 ∈ (A.heap t).segs
    have hb := h.mem c k hc
    by_cases e : k = p * 16 + at_
    · subst e
      rw [upd_same]
      constructor
      · intro hx
        refine ⟨pgFor pl, rfl, ?_, by rw [show (p * 16 + at_) / 16 = p from by omega]; exact hm⟩
        split at hx
        · rename_i e2; exact e2.symm
        · exact absurd hx (hnot c hc)
      · rintro ⟨g, h1, h2, _⟩
        injection h1 with h1
        subst h1
        rw [if_pos h2.symm]
        left; simp
    · rw [upd_ne _ _ e, ← hb]
      split
      · rw [List.mem_append]
        constructor
        · rintro ((hx | hx) | hx)
          · exact .inl hx
          · exact absurd (by simpa using hx) e
          · exact .inr hx
        · rintro (hx | hx)
          · exact .inl (.inl hx)
          · exact .inr hx
      · rfl
end
end Go.Proofs.YtfplalgoopkmaaaGreat
