/- Blocks of other types stay. A segment more. Conditions: none. -/
import Derived.Test.YtfplalgoopkmaaaGreatPart11

set_option linter.unusedVariables false
set_option linter.unusedSimpArgs false

namespace Go.Proofs.YtfplalgoopkmaaaGreat
open Go.RowKit

/-- The blocks of S that are there are of one of these types. -/
def Of (w : World) (S : Nat → Prop) (ts : List TypeId) : Prop := ∀ x, S x → x < w.heap.size → ∃ t cs, t ∈ ts ∧ Blk w x t cs
section
variable {w w' : World} {S S' : Nat → Prop} {ts ts' : List TypeId} {t : TypeId} {cs : Array Value} {g : Nat}
theorem Of.one (h : Blk w g t cs) : Of w (fun x => x = g) [t] := fun x hx _ => ⟨t, cs, by simp, by rw [hx]; exact h⟩
theorem Of.or (h : Of w S ts) (h' : Of w S' ts') : Of w (fun x => S x ∨ S' x) (ts ++ ts') := fun x hx hl => by
  rcases hx with hx | hx
  · obtain ⟨t, cs, h1, h2⟩ := h x hx hl; exact ⟨t, cs, by simp [h1], h2⟩
  · obtain ⟨t, cs, h1, h2⟩ := h' x hx hl; exact ⟨t, cs, by simp [h1], h2⟩
theorem Of.nobody : Of w Nobody [] := fun x hx _ => hx.elim
theorem Of.row {v : Value} {sz n B : Nat} {xs : List Value} (h : w.ownsRow B t sz v n xs) : Of w (fun x => v.ownBlock = some x) [t] := fun x hx _ => by
  rcases h.2 with ⟨rfl, _⟩ | ⟨g', cap, cur, rfl, _, hh, _⟩
  · cases hx
  · injection hx with hx; subst hx; exact ⟨t, cur, by simp, hh⟩
theorem Blk.away (h : Blk w g t cs) (ho : Only S w w') (hof : Of w S ts) (hn : t ∉ ts) : Blk w' g t cs := h.only ho fun hs => by
  obtain ⟨t', cs', h1, h2⟩ := hof g hs h.lt
  exact hn ((h.cs_eq h2).1 ▸ h1)
theorem RowAt.away {v : Value} {sz n : Nat} {xs : List Value} (h : RowAt w t sz v n xs) (ho : Only S w w') (hof : Of w S ts) (hn : t ∉ ts) : RowAt w' t sz v n xs := RowAt.only h ho fun g hg hs => by
  rcases h.2 with ⟨rfl, _⟩ | ⟨g', cap, cur, rfl, _, hh, _⟩
  · cases hg
  · injection hg with hg
    subst hg
    have hb : Blk w g' t cur := hh
    obtain ⟨t', cs', h1, h2⟩ := hof g' hs hb.lt
    exact hn ((hb.cs_eq h2).1 ▸ h1)
theorem MarksAt.away {bk bt n : Nat} {T : Nat → Bool} {left : Int} (h : MarksAt w bk bt n T left) (ho : Only S w w') (hof : Of w S ts) (h1 : 158 ∉ ts) (h2 : 4 ∉ ts) : MarksAt w' bk bt n T left :=
  ⟨h.st.away ho hof h1, h.pl.away ho hof h2, h.n1, h.le, h.lb, h.lu⟩
theorem SegAt.away {bs bm : Nat} {s : SegM} (h : SegAt w bs bm s) (ho : Only S w w') (hof : Of w S ts) (h0 : 217 ∉ ts) (h1 : 158 ∉ ts) (h2 : 4 ∉ ts) : SegAt w' bs bm s :=
  ⟨h.st.away ho hof h0, h.marks.away ho hof h1 h2, h.pl⟩
theorem HeapAt.away {bh bm ba : Nat} {H : HeapM} (h : HeapAt w bh bm ba H) (ho : Only S w w') (hof : Of w S ts) (h0 : 141 ∉ ts) (h1 : 3 ∉ ts) (h2 : 98 ∉ ts) : HeapAt w' bh bm ba H :=
  ⟨h.st.away ho hof h0, fun c hc => ⟨(h.rr c hc).1.away ho hof h1, (h.rr c hc).2⟩, fun c hc => ⟨(h.rf c hc).1.away ho hof h1, (h.rf c hc).2⟩, h.sg.away ho hof h2, h.few, h.apR, h.apF, h.apFF⟩
theorem MemAt.awayOf {bm bb n : Nat} {f : Nat → Nat} (h : MemAt w bm bb n f) (ho : Only S w w') (hof : Of w S ts) (h0 : 122 ∉ ts) (h1 : 5 ∉ ts) : MemAt w' bm bb n f :=
  ⟨h.st.away ho hof h0, h.by_.away ho hof h1, h.lt, h.le⟩
theorem SegAt.of {bs bm : Nat} {s : SegM} (h : SegAt w bs bm s) : Of w (fun g => g = bs ∨ g = s.bk ∨ g = s.bt) [217, 158, 4] :=
  (Of.one h.st).or ((Of.one h.marks.st).or (Of.one h.marks.pl))
/-- New blocks: none of those that are there. -/
theorem Of.new {B : Nat} (h : w.heap.size ≤ B) : Of w (fun x => x = B) [] := fun x hx hl => by omega
end

/-- What a cut makes. -/
structure CutOut (w w' : World) (bs bm bo bp : Nat) (S S' : SegM) (c : Int) (at_ sl fr s n : Nat) : Prop where
  seg : SegAt w' bs bm S'
  own : OwnedAt w' bo bp c at_ sl
  page : PageAt w' bp bm (pgNew fr s n)
  only : Only (fun g => g = bs ∨ g = S.bk ∨ g = S.bt) w w'
  bo1 : w.heap.size ≤ bo
  bp1 : w.heap.size ≤ bp

structure FreshOut (w w' : World) (bh bm ba bb sz bs bo bp : Nat) (f : Nat → Nat) (H : HeapM) (S S' : SegM) (v' : Value) (c : Int) (at_ sl fr s n : Nat) : Prop where
  heap : HeapAt w' bh bm ba { H with R := updV H.R (rowIx c) v', L := updL H.L (rowIx c) (H.L (rowIx c) ++ [S.place * 16 + at_]) }
  seg : SegAt w' bs bm S'
  own : OwnedAt w' bo bp c at_ sl
  page : PageAt w' bp bm (pgFirst fr s n f)
  mem : MemAt w' bm bb sz (freshMem fr s n f)
  only : Only (fun g => g = bh ∨ (H.R (rowIx c)).ownBlock = some g ∨ g = bs ∨ g = S.bk ∨ g = S.bt ∨ g = bb) w w'
  bo1 : w.heap.size ≤ bo
  bp1 : w.heap.size ≤ bp

set_option maxHeartbeats 4000000 in
theorem heap_Fresh_one (bh bm ba bb sz bs at_ sl fr s n : Nat) (p : Plan) (f : Nat → Nat) (H : HeapM) (S S' : SegM) (w : World) (h : HeapAt w bh bm ba H) (hs : SegAt w bs bm S) (hm : MemAt w bm bb sz f) (hp : (0 ≤ p.cls ∧ p.cls < 12) ∨ (p.cls = -1 ∧ 1 ≤ p.slices ∧ p.slices < 16)) (hl : H.segs = [bs])
    (hcut : ∀ w1, Only Nobody w w1 → Calls Tryz.prog 172 #[.pointer (some ⟨bs, 0, none⟩), planV p] w1 fun e w' => ∃ r1 r2, e = .returned (.tuple #[r1, r2]) ∧ ∃ bo bp, r1 = ptrV bo ∧ r2 = .int .i64 0 ∧ CutOut w1 w' bs bm bo bp S S' p.cls at_ sl fr s n)
    (hat : at_ < 16) (hpl : S'.place = S.place) (hbk : S'.bk = S.bk) (hbt : S'.bt = S.bt) (hin : inRow (H.L (rowIx p.cls)) (S.place * 16 + at_) = false) (hinf : inRow (H.FL (rowIx p.cls)) (S.place * 16 + at_) = false) (hlen : (H.L (rowIx p.cls)).length < 990)
    (hok : RunOK fr s n) (h1 : 1 ≤ fr) (hs16 : 16 ≤ s) (hn : 1 ≤ n) (hend : fr + n * s ≤ sz) :
    Calls Tryz.prog 144 #[.pointer (some ⟨bh, 0, none⟩), planV p] w fun e w' => e = .returned (.tuple #[.int .u64 fr, .int .i64 0]) ∧ ∃ bo bp v', FreshOut w w' bh bm ba bb sz bs bo bp f H S S' v' p.cls at_ sl fr s n := by
  obtain ⟨cls, slices, segs, usable⟩ := p
  dsimp only at hp hcut hin hinf hlen ⊢
  have HROW := Lib.hid (fun w => heap_row bh cls w (by omega) (by omega))
  have hri : rowIx cls < 13 := by unfold rowIx; split <;> omega
  obtain ⟨sg, cap, cur, hv, hblk, hcur⟩ : ∃ sg cap cur, H.sv = .slice (some ⟨sg, 0, none⟩) 1 cap ∧ Blk w sg 98 cur ∧ cur[0]? = some (ptrV bs) := by
    have hsg := h.sg
    rw [hl] at hsg
    rcases ptr_cells hsg with ⟨_, h2⟩ | ⟨g, cap, cur, h1, h2, h3⟩
    · cases h2
    · exact ⟨g, cap, cur, h1, h2, h3 0 (by simp)⟩
  have c0 : w.cell? ⟨bh, 29, none⟩ = some H.sv := h.st.cell 29
  rw [hv] at c0
  have HPB := Lib.hid (Blk.new w 172 #[.int .i64 cls, .int .i64 slices, .int .i64 segs, .int .u64 usable])
  have HO := Lib.hid ((Only.refl Nobody w).alloc (.cells #[.int .i64 cls, .int .i64 slices, .int .i64 segs, .int .u64 usable] 172))
  have HSGC := Lib.hid (((hblk.alloc (.cells #[.int .i64 cls, .int .i64 slices, .int .i64 segs, .int .u64 usable] 172)).cell 0).trans hcur)
  have d29 : (w.alloc (.cells #[.int .i64 cls, .int .i64 slices, .int .i64 segs, .int .u64 usable] 172)).cell? ⟨bh, 29, none⟩ = some (.slice (some ⟨sg, 0, none⟩) 1 cap) := ((h.st.alloc _).cell 29).trans ((h.st.cell 29).symm.trans c0)
  have HH := Lib.hid h
  have HS := Lib.hid hs
  have HM := Lib.hid hm
  have HCUT := Lib.hid hcut
  have HKEY := Lib.hid (fun bo bp w hs ho => heap_key bs bm bo bp at_ sl cls S' w hs ho hat)
  rw [hpl] at HKEY
  have HIN := Lib.hid (And.intro hin hinf)
  have HOK := Lib.hid hok
  clear h hs hm hcut hv hl c0 hblk hcur hin hinf hok
  rcases hp with hp | ⟨rfl, hp1, hp2⟩
  · have hb : (cls == -1) = false := by rw [beq_eq_false_iff_ne]; omega
    go_enter Tryz.func144, Tryz.ntmps144
    go_wp2
    generalize w.alloc (.cells #[.int .i64 cls, .int .i64 slices, .int .i64 segs, .int .u64 usable] 172) = wa at *
    generalize w.heap.size = g at *
    have p0 : wa.cell? ⟨g, 0, none⟩ = some (.int .i64 cls) := HPB.out.cell 0
    have p1 : wa.cell? ⟨g, 1, none⟩ = some (.int .i64 slices) := HPB.out.cell 1
    have p2 : wa.cell? ⟨g, 2, none⟩ = some (.int .i64 segs) := HPB.out.cell 2
    have p3 : wa.cell? ⟨g, 3, none⟩ = some (.int .u64 usable) := HPB.out.cell 3
    have q0 : wa.cell? ⟨sg, 0, none⟩ = some (.pointer (some ⟨bs, 0, none⟩)) := HSGC.out
    go_quiet (first | (go_at_call 93; exact quiet_left (HROW.out _)))
    have HO1 := Lib.hid (HO.out.drewN nq)
    go_wp2
    refine wp_loop_rounds 1 ?_
    rw [rounds_succ]
    go_wp2_with (first | (go_at_call 172; refine (HCUT.out _ HO1.out).mono ?_; rintro e w2 ⟨_, _, rfl, bo, bp, rfl, rfl, hco⟩; have HCO := Lib.hid hco; have HH2 := Lib.hid ((HH.out.quiet HO1.out).away hco.only (HS.out.quiet HO1.out).of (by decide) (by decide) (by decide)); have HM2 := Lib.hid ((HM.out.only HO1.out (fun h => h) (fun h => h)).awayOf hco.only (HS.out.quiet HO1.out).of (by decide) (by decide)); have HO2 := Lib.hid ((HO1.out.mono (S' := fun g => g = bs ∨ g = S.bk ∨ g = S.bt) (fun x h => h.elim)).trans hco.only); have HB := Lib.hid (And.intro (Nat.le_trans HO1.out.size hco.bo1) (Nat.le_trans HO1.out.size hco.bp1)); clear hco) | (go_at_call 174; refine (HKEY.out _ _ _ HCO.out.seg HCO.out.own).mono ?_; rintro e w3 ⟨rfl, ho⟩; have HO3 := Lib.hid (ho.alloc (.cells #[.int .i64 (S.place * 16 + at_ : Nat)] 3)); clear ho) | (go_at_call 173; refine (queue_Push bh (2 * rowIx cls) w3.heap.size (S.place * 16 + at_) _ _ _ _ _ _ _ ((HH2.out.quiet HO3.out).q (rowIx cls) hri) (by decide) (Blk.new w3 _ _) HIN.out.1 HIN.out.2).mono ?_; rintro e w4 ⟨rfl, v', hb, hi, hn, ho⟩; have HH4 := Lib.hid ((HH2.out.quiet HO3.out).pushed hri hb hi hn ho hlen); have HOF := Lib.hid ((Of.one (HH2.out.quiet HO3.out).st).or (Of.row ((HH2.out.quiet HO3.out).rr _ hri).1)); have HS4 := Lib.hid ((HCO.out.seg.quiet HO3.out).away ho HOF.out (by decide) (by decide) (by decide)); have HW4 := Lib.hid ((HCO.out.own.only HO3.out (fun h => h)).away ho HOF.out (by decide)); have HP4 := Lib.hid ((HCO.out.page.only HO3.out (fun h => h)).away ho HOF.out (by decide)); have HM4 := Lib.hid ((HM2.out.only HO3.out (fun h => h) (fun h => h)).awayOf ho HOF.out (by decide) (by decide)); have HO4 := Lib.hid (((HO2.out.mono (S' := fun g => g = bh ∨ (H.R (rowIx cls)).ownBlock = some g ∨ g = bs ∨ g = S.bk ∨ g = S.bt ∨ g = bb) (fun x h => by omega)).trans (HO3.out.mono (fun x h => h.elim))).trans (ho.mono (fun x h => h.elim (fun h => .inl h) (fun h => .inr (.inl h))))); have d0 : w4.cell? ⟨bo, 0, none⟩ = some (.pointer (some ⟨bp, 0, none⟩)) := HW4.out.cell 0; clear hb hi hn ho) | (go_at_call 169; refine (page_Alloc_new bp bm bb sz fr s n f _ HM4.out HP4.out HOK.out h1 hs16 hn hend).mono ?_; rintro e w5 ⟨rfl, hm5, hp5, ho5⟩; have H5 := Lib.hid (And.intro hm5 (And.intro hp5 ho5)); clear hm5 hp5 ho5))
    go_ret2
    obtain ⟨hm5, hp5, ho5⟩ := H5.out
    have hof := (Of.one HP4.out).or (Of.one HM4.out.by_)
    refine ⟨rfl, bo, bp, v', HH4.out.away ho5 hof (by decide) (by decide) (by decide), HS4.out.away ho5 hof (by decide) (by decide) (by decide), HW4.out.away ho5 hof (by decide), hp5, hm5, HO4.out.trans_new ho5 (fun b hb h => ?_), HB.out.1, HB.out.2⟩
    rcases h with h | h
    · have := HB.out.2; omega
    · exact .inr (.inr (.inr (.inr (.inr h))))
  · have hd1 : decide ((16 : Int) ≤ slices) = false := by rw [decide_eq_false_iff_not]; omega
    have hd2 : decide (16 ≤ slices) = false := by rw [decide_eq_false_iff_not]; omega
    have hd3 : decide ((slices : Int) < 1) = false := by rw [decide_eq_false_iff_not]; omega
    go_enter Tryz.func144, Tryz.ntmps144
    go_wp2
    generalize w.alloc (.cells #[.int .i64 (-1), .int .i64 slices, .int .i64 segs, .int .u64 usable] 172) = wa at *
    generalize w.heap.size = g at *
    have p0 : wa.cell? ⟨g, 0, none⟩ = some (.int .i64 (-1)) := HPB.out.cell 0
    have p1 : wa.cell? ⟨g, 1, none⟩ = some (.int .i64 slices) := HPB.out.cell 1
    have p2 : wa.cell? ⟨g, 2, none⟩ = some (.int .i64 segs) := HPB.out.cell 2
    have p3 : wa.cell? ⟨g, 3, none⟩ = some (.int .u64 usable) := HPB.out.cell 3
    have q0 : wa.cell? ⟨sg, 0, none⟩ = some (.pointer (some ⟨bs, 0, none⟩)) := HSGC.out
    go_quiet (first | (go_at_call 93; exact quiet_left (HROW.out _)))
    have HO1 := Lib.hid (HO.out.drewN nq)
    go_wp2
    refine wp_loop_rounds 1 ?_
    rw [rounds_succ]
    go_wp2_with (first | (go_at_call 172; refine (HCUT.out _ HO1.out).mono ?_; rintro e w2 ⟨_, _, rfl, bo, bp, rfl, rfl, hco⟩; have HCO := Lib.hid hco; have HH2 := Lib.hid ((HH.out.quiet HO1.out).away hco.only (HS.out.quiet HO1.out).of (by decide) (by decide) (by decide)); have HM2 := Lib.hid ((HM.out.only HO1.out (fun h => h) (fun h => h)).awayOf hco.only (HS.out.quiet HO1.out).of (by decide) (by decide)); have HO2 := Lib.hid ((HO1.out.mono (S' := fun g => g = bs ∨ g = S.bk ∨ g = S.bt) (fun x h => h.elim)).trans hco.only); have HB := Lib.hid (And.intro (Nat.le_trans HO1.out.size hco.bo1) (Nat.le_trans HO1.out.size hco.bp1)); clear hco) | (go_at_call 174; refine (HKEY.out _ _ _ HCO.out.seg HCO.out.own).mono ?_; rintro e w3 ⟨rfl, ho⟩; have HO3 := Lib.hid (ho.alloc (.cells #[.int .i64 (S.place * 16 + at_ : Nat)] 3)); clear ho) | (go_at_call 173; refine (queue_Push bh (2 * rowIx (-1)) w3.heap.size (S.place * 16 + at_) _ _ _ _ _ _ _ ((HH2.out.quiet HO3.out).q (rowIx (-1)) hri) (by decide) (Blk.new w3 _ _) HIN.out.1 HIN.out.2).mono ?_; rintro e w4 ⟨rfl, v', hb, hi, hn, ho⟩; have HH4 := Lib.hid ((HH2.out.quiet HO3.out).pushed hri hb hi hn ho hlen); have HOF := Lib.hid ((Of.one (HH2.out.quiet HO3.out).st).or (Of.row ((HH2.out.quiet HO3.out).rr _ hri).1)); have HS4 := Lib.hid ((HCO.out.seg.quiet HO3.out).away ho HOF.out (by decide) (by decide) (by decide)); have HW4 := Lib.hid ((HCO.out.own.only HO3.out (fun h => h)).away ho HOF.out (by decide)); have HP4 := Lib.hid ((HCO.out.page.only HO3.out (fun h => h)).away ho HOF.out (by decide)); have HM4 := Lib.hid ((HM2.out.only HO3.out (fun h => h) (fun h => h)).awayOf ho HOF.out (by decide) (by decide)); have HO4 := Lib.hid (((HO2.out.mono (S' := fun g => g = bh ∨ (H.R (rowIx (-1))).ownBlock = some g ∨ g = bs ∨ g = S.bk ∨ g = S.bt ∨ g = bb) (fun x h => by omega)).trans (HO3.out.mono (fun x h => h.elim))).trans (ho.mono (fun x h => h.elim (fun h => .inl h) (fun h => .inr (.inl h))))); have d0 : w4.cell? ⟨bo, 0, none⟩ = some (.pointer (some ⟨bp, 0, none⟩)) := HW4.out.cell 0; clear hb hi hn ho) | (go_at_call 169; refine (page_Alloc_new bp bm bb sz fr s n f _ HM4.out HP4.out HOK.out h1 hs16 hn hend).mono ?_; rintro e w5 ⟨rfl, hm5, hp5, ho5⟩; have H5 := Lib.hid (And.intro hm5 (And.intro hp5 ho5)); clear hm5 hp5 ho5))
    go_ret2
    obtain ⟨hm5, hp5, ho5⟩ := H5.out
    have hof := (Of.one HP4.out).or (Of.one HM4.out.by_)
    refine ⟨rfl, bo, bp, v', HH4.out.away ho5 hof (by decide) (by decide) (by decide), HS4.out.away ho5 hof (by decide) (by decide) (by decide), HW4.out.away ho5 hof (by decide), hp5, hm5, HO4.out.trans_new ho5 (fun b hb h => ?_), HB.out.1, HB.out.2⟩
    rcases h with h | h
    · have := HB.out.2; omega
    · exact .inr (.inr (.inr (.inr (.inr h))))
end Go.Proofs.YtfplalgoopkmaaaGreat

namespace Go.Proofs.YtfplalgoopkmaaaGreat
open Go.RowKit

theorem heapV_setS (R F : Nat → Value) (bm ba id : Nat) (sv sv' : Value) : (heapV R F bm ba id sv).setIfInBounds 29 sv' = heapV R F bm ba id sv' := rfl
theorem segV_own (bm : Nat) (s : SegM) (x y z : Value) : (((segV bm s).setIfInBounds (19 + 2) x).setIfInBounds 19 y).setIfInBounds (19 + 1) z = #[.pointer (some ⟨s.bk, 0, none⟩), .pointer (some ⟨bm, 0, none⟩), .int .i64 s.place,
  ownV (s.of 0), ownV (s.of 1), ownV (s.of 2), ownV (s.of 3), ownV (s.of 4), ownV (s.of 5), ownV (s.of 6), ownV (s.of 7),
  ownV (s.of 8), ownV (s.of 9), ownV (s.of 10), ownV (s.of 11), ownV (s.of 12), ownV (s.of 13), ownV (s.of 14), ownV (s.of 15), y, z, x] := rfl

/-- What a segment more makes. -/
structure GrowOut (w w' : World) (bh bm ba bb sz bs bk bt at_ : Nat) (f : Nat → Nat) (H : HeapM) (sv' : Value) (SA : Nat → Prop) (R : World → Prop) : Prop where
  heap : HeapAt w' bh bm ba { H with sv := sv', segs := H.segs ++ [bs] }
  seg : SegAt w' bs bm { segNew bk bt at_ with ow := H.id, ot := 1, oa := 1 }
  mem : MemAt w' bm bb sz f
  mid : ∃ w1, R w1 ∧ Only SA w w1 ∧ w1.heap.size ≤ bs ∧ w1.heap.size ≤ bk ∧ w1.heap.size ≤ bt ∧ Only (fun g => g = bh ∨ H.sv.ownBlock = some g) w1 w' ∧ NewOwn w1.heap.size H.sv sv'
  bs1 : w.heap.size ≤ bs
  bk1 : w.heap.size ≤ bk
  bt1 : w.heap.size ≤ bt

set_option maxRecDepth 100000 in
set_option maxHeartbeats 4000000 in
theorem heap_Grow_ok (bh bm ba bb sz at_ : Nat) (f : Nat → Nat) (H : HeapM) (w : World) (SA : Nat → Prop) (ts : List TypeId) (R : World → Prop) (h : HeapAt w bh bm ba H) (hm : MemAt w bm bb sz f)
    (hres : Calls Tryz.prog 35 #[.pointer (some ⟨ba, 0, none⟩), .int .i64 1] w fun e w1 => e = .returned (.tuple #[.int .i64 at_, .int .i64 0]) ∧ R w1 ∧ Only SA w w1) (hof : Of w SA ts)
    (t0 : 141 ∉ ts) (t1 : 3 ∉ ts) (t2 : 98 ∉ ts) (t3 : 122 ∉ ts) (t4 : 5 ∉ ts) (hat : (at_ + 1) * 16384 ≤ sz) (h64 : at_ < 64) (hfew : H.segs.length < 64) :
    Calls Tryz.prog 146 #[.pointer (some ⟨bh, 0, none⟩)] w fun e w' => e = .returned (.int .i64 0) ∧ ∃ bs bk bt sv', GrowOut w w' bh bm ba bb sz bs bk bt at_ f H sv' SA R := by
  obtain ⟨i0, hi, hz0, hz1, hz2⟩ := info_parts Tryz.infoSegP
  have c27 : w.cell? ⟨bh, 27, none⟩ = some (.pointer (some ⟨ba, 0, none⟩)) := h.st.cell 27
  have HH := Lib.hid h
  have HM := Lib.hid hm
  have HRES := Lib.hid hres
  have HOF := Lib.hid hof
  have HT := Lib.hid (And.intro (And.intro t0 (And.intro t1 t2)) (And.intro t3 t4))
  clear h hm hres hof t0 t1 t2 t3 t4
  go_enter Tryz.func146, Tryz.ntmps146
  go_wp2_with (first | (go_at_call 35; refine HRES.out.mono ?_; rintro e w1 ⟨rfl, hr, ho⟩; have HR := Lib.hid hr; have HO := Lib.hid ho; have HH1 := Lib.hid (HH.out.away ho HOF.out HT.out.1.1 HT.out.1.2.1 HT.out.1.2.2); have HM1 := Lib.hid (HM.out.awayOf ho HOF.out HT.out.2.1 HT.out.2.2); have d26 : w1.cell? ⟨bh, 26, none⟩ = some (.pointer (some ⟨bm, 0, none⟩)) := HH1.out.st.cell 26; clear hr ho) | (go_at_call 175; refine (seg_New bm bb sz at_ f _ HM1.out hat h64).mono ?_; rintro e w2 ⟨bs, hbs, rfl, hs, ho⟩; have HS := Lib.hid hs; have HBS := Lib.hid hbs; have HO2 := Lib.hid ho; have HH2 := Lib.hid (HH1.out.quiet ho); have HM2 := Lib.hid (HM1.out.only ho (fun h => h) (fun h => h)); clear hs hbs ho))
  have d28 : w2.cell? ⟨bh, 28, none⟩ = some (.int .u64 H.id) := HH2.out.st.cell 28
  go_region_held3 (fun w' => w'.cell? ⟨bh, 28, none⟩ = some (.int .u64 H.id)) (first | exact d28 | exact HH3.out.st.cell 28) (first | (go_at_call 149; refine (seg_Owner bs _).mono ?_; rintro e w3 ⟨rfl, rfl⟩) | (go_at_call 150; refine (cell_Store bs 19 _ _ H.id 0 0 0 _ HS.out.st.drew rfl rfl (by decide) rfl (by decide) (by decide)).mono ?_; rintro e w3 ⟨rfl, hb, ho⟩; have HB3 := Lib.hid hb; have HO3 := Lib.hid ho; have HH3 := Lib.hid ((HH2.out.quiet ((Only.refl _ w2).drew)).away ho (Of.one HS.out.st.drew) (by decide) (by decide) (by decide)); clear hb ho))
  have HH3a := Lib.hid (HH3.out.alloc (.cells #[.pointer (some ⟨bs, 0, none⟩)] 98))
  have d29 : w3.cell? ⟨bh, 29, none⟩ = some H.sv := HH3.out.st.cell 29
  have HNW := Lib.hid ((fun j u hj => by
    match j, hj with
    | 0, hj => cases hj; exact (Blk.new w3 98 #[.pointer (some ⟨bs, 0, none⟩)]).cell 0) : ∀ j u, [ptrV bs][j]? = some u → (w3.alloc (.cells #[.pointer (some ⟨bs, 0, none⟩)] 98)).cell? ((⟨w3.heap.size, 0, none⟩ : Addr).add j) = some u)
  have HNE := Lib.hid (HH3.out.sg.ne_blk HH3.out.st (by decide))
  clear c27 d26 d28
  go_wp2_with (at_builtin; refine wpList_append_own_at _ rfl _ _ 139 rfl 0 98 i0 (.pointer none) 1 8 Tryz.underlying139 hi hz0 hz1 hz2 rfl (by decide) _ _ _ rfl HH3a.out.sg ⟨w3.heap.size, 0, none⟩ 1 1 [ptrV bs] rfl rfl HNW.out (by intro u hu; simp at hu; subst hu; rfl) (by unfold maxLen; omega) (by omega) (by simp) ?_; intro v' w4 hown hgr _ hwho; obtain ⟨sa, sc, rfl⟩ := rowShapeN hown; have HO4 := Lib.hid hown; have HG4 := Lib.hid hgr; have HB4 := Lib.hid (HH3a.out.st.grown hgr (fun e => HNE.out e.symm)); have f1 := HB4.out.frozen 29; have e29 : w4.cell? ⟨bh, 29, none⟩ = some H.sv := HB4.out.cell 29; have HW4 := Lib.hid hwho; clear hown hgr hwho)
  go_ret
  have ho4 : Only (fun g => g = bh ∨ H.sv.ownBlock = some g) w3 (w4.setCell ⟨bh, 29, none⟩ (.slice sa (H.segs.length + 1) sc)) :=
    Only.setAt (S := fun g => g = bh ∨ H.sv.ownBlock = some g) (((Only.refl _ w3).alloc _).grown HG4.out (fun k hk _ => .inr hk)) (.inl rfl) _ _
  have hof := (Of.one HH3.out.st).or (Of.row HH3.out.sg)
  have ho3 := ((Only.refl (fun x => x = bs) w2).drew).trans HO3.out
  have hs3 : SegAt w3 bs bm { segNew (w1.heap.size + 1) w1.heap.size at_ with ow := H.id, ot := 1, oa := 1 } :=
    ⟨HB3.out, HS.out.marks.away ho3 (Of.one HS.out.st) (by decide) (by decide), h64⟩
  have hm3 := HM2.out.awayOf ho3 (Of.one HS.out.st) (by decide) (by decide)
  have hb1 := HBS.out
  have hz := HO.out.size
  have hsh := HB4.out.set_ 29 (.slice sa (H.segs.length + 1) sc)
  have hsv : RowAt (w4.setCell ⟨bh, 29, none⟩ (.slice sa (H.segs.length + 1) sc)) 98 1 (.slice sa (H.segs.length + 1) sc) (H.segs ++ [bs]).length ((H.segs ++ [bs]).map ptrV) := by
    rw [List.length_append, List.map_append]
    exact RowAt.only HO4.out (Only.setAt (S := fun x => x = bh) (Only.refl _ _) (show bh = bh from rfl) _ _) (fun g hg e => by
      subst e
      exact (RowAt.ne_blk HO4.out HB4.out (by decide)) hg)
  refine ⟨rfl, bs, w1.heap.size + 1, w1.heap.size, .slice sa (H.segs.length + 1) sc, ⟨hsh, fun c hc => ⟨(HH3.out.rr c hc).1.away ho4 hof (by decide), (HH3.out.rr c hc).2⟩, fun c hc => ⟨(HH3.out.rf c hc).1.away ho4 hof (by decide), (HH3.out.rf c hc).2⟩, hsv, by simp; omega, HH3.out.apR, HH3.out.apF, HH3.out.apFF⟩,
    hs3.away ho4 hof (by decide) (by decide) (by decide), hm3.awayOf ho4 hof (by decide) (by decide), ⟨w1, HR.out, HO.out, hb1, by omega, Nat.le_refl _, ?_, ?_⟩, by omega, by omega, hz⟩
  · exact (((HO2.out.mono (S' := fun g => g = bh ∨ H.sv.ownBlock = some g) (fun x h => h.elim)).drew).trans_new HO3.out (fun b hb h => by omega)).trans ho4
  · rcases HW4.out with h | h
    · exact .inl h
    · refine .inr ⟨_, h, ?_⟩
      have h2 := HO2.out.size
      have h3 := HO3.out.size
      simp at h3 ⊢
      omega
end Go.Proofs.YtfplalgoopkmaaaGreat
