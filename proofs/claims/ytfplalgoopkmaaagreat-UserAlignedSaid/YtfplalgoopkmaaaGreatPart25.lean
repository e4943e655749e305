/- What each state does. What each state does, with a block found or none. Blocks of whole segments. Conditions: none. -/
import Derived.Test.YtfplalgoopkmaaaGreatPart16

set_option linter.unusedVariables false
set_option linter.unusedSimpArgs false

namespace Go.Proofs.YtfplalgoopkmaaaGreat
open Go.RowKit

def sLook : ByteArray := ⟨#[108, 111, 111, 107]⟩
def sGrow : ByteArray := ⟨#[103, 114, 111, 119]⟩
def sFresh : ByteArray := ⟨#[102, 114, 101, 115, 104]⟩
def sLocal : ByteArray := ⟨#[108, 111, 99, 97, 108]⟩
def sRefuse : ByteArray := ⟨#[114, 101, 102, 117, 115, 101]⟩
def sHuge : ByteArray := ⟨#[104, 117, 103, 101]⟩
def sFind : ByteArray := ⟨#[102, 105, 110, 100]⟩
def sGather : ByteArray := ⟨#[103, 97, 116, 104, 101, 114]⟩

theorem fr_refuse (bf : Nat) (f : FrM) (w : World) (h : FrAt w bf f) :
    Calls Tryz.prog 113 #[.pointer (some ⟨bf, 0, none⟩)] w fun x w' => x = .returned (.tuple #[]) ∧ FrAt w' bf { f with state := sDone, ra := 0, re := 2 } ∧ Only (· = bf) w w' := by
  have HO := Lib.hid (fr_over bf f 0 2 w h (.inr (.inr (by decide))))
  clear h
  go_enter Tryz.func113, Tryz.ntmps113
  go_wp2_with (first | (go_at_call 140; refine HO.out.mono ?_; rintro e w1 ⟨rfl, h1, h2⟩; have H := Lib.hid (And.intro h1 h2); clear h1 h2))
  go_end0
  exact ⟨rfl, H.out⟩

theorem fr_first (bf : Nat) (f : FrM) (w : World) (h : FrAt w bf f) :
    Calls Tryz.prog 71 #[.pointer (some ⟨bf, 0, none⟩)] w fun x w' => x = .returned (.string (if 0 ≤ f.plan.cls then sLocal else sFresh)) ∧ w = w' := by
  have c : w.cell? ⟨bf, 12, none⟩ = some (.int .i64 f.plan.cls) := h.cell 12
  clear h
  by_cases hc : 0 ≤ f.plan.cls
  · rw [if_pos hc]
    go_enter Tryz.func71, Tryz.ntmps71
    go_wp2
    go_ret
    exact ⟨rfl, rfl⟩
  · rw [if_neg hc]
    go_enter Tryz.func71, Tryz.ntmps71
    go_wp2
    go_ret
    exact ⟨rfl, rfl⟩

theorem fr_through_nil (bf : Nat) (f : FrM) (s1 s2 : ByteArray) (w : World) (h : FrAt w bf f) (hl : ∃ a n c, f.list = .slice a n c) :
    Calls Tryz.prog 72 #[.pointer (some ⟨bf, 0, none⟩), .string s1, .slice none 0 0, .string s2] w fun x w' => x = .returned (.tuple #[]) ∧ FrAt w' bf { f with state := s2, list := .slice none 0 0 } ∧ Only (· = bf) w w' := by
  obtain ⟨bs, top, word, tag, me, bh, kind, addr0, n, align, zero, force, ⟨pc, ps, pn, pu⟩, state, list, sv, inV, moved, ra, re, steps⟩ := f
  obtain ⟨la, ln, lc, hl⟩ := hl
  dsimp only at hl
  subst hl
  have HB := Lib.hid h
  have c16 : w.cell? ⟨bf, 16, none⟩ = some (.string state) := h.cell 16
  have c17 : w.cell? ⟨bf, 17, none⟩ = some (.slice la ln lc) := h.cell 17
  have f16 := h.frozen 16
  have f17 := h.frozen 17
  clear h
  go_enter Tryz.func72, Tryz.ntmps72
  go_wp2
  go_end0
  refine ⟨rfl, ?_, ?_⟩
  · exact ((HB.out.set_ 17 _).set_ 16 _).set_ 16 _
  · exact Only.setAt (S := fun x => x = bf) (Only.setAt (S := fun x => x = bf) (Only.setAt (S := fun x => x = bf) (Only.refl _ w) (show bf = bf from rfl) _ _) (show bf = bf from rfl) _ _) (show bf = bf from rfl) _ _

/-- What a state function leaves, whose callee failed: the frame turned, all else by Q. -/
theorem fr_fresh_no (bf : Nat) (f : FrM) (w : World) (Q : World → Prop) (h : FrAt w bf f)
    (hF : ∀ w1, Only Nobody w w1 → Calls Tryz.prog 144 #[.pointer (some ⟨f.bh, 0, none⟩), planV f.plan] w1 fun e w' => e = .returned (.tuple #[.int .u64 0, .int .i64 4]) ∧ Only Nobody w1 w') :
    Calls Tryz.prog 118 #[.pointer (some ⟨bf, 0, none⟩)] w fun x w' => x = .returned (.tuple #[]) ∧ FrAt w' bf { f with state := sLook } ∧ Only (· = bf) w w' := by
  obtain ⟨bs, top, word, tag, me, bh, kind, addr0, n, align, zero, force, ⟨pc, ps, pn, pu⟩, state, list, sv, inV, moved, ra, re, steps⟩ := f
  dsimp only at hF
  have HB := Lib.hid h
  have HF := Lib.hid hF
  have c5 : w.cell? ⟨bf, 5, none⟩ = some (.pointer (some ⟨bh, 0, none⟩)) := h.cell 5
  have c12 : w.cell? ⟨bf, 12, none⟩ = some (.int .i64 pc) := h.cell 12
  have c13 : w.cell? ⟨bf, 13, none⟩ = some (.int .i64 ps) := h.cell 13
  have c14 : w.cell? ⟨bf, 14, none⟩ = some (.int .i64 pn) := h.cell 14
  have c15 : w.cell? ⟨bf, 15, none⟩ = some (.int .u64 pu) := h.cell 15
  clear h hF
  go_enter Tryz.func118, Tryz.ntmps118
  go_wp2
  go_region_held3 (fun w' => w'.cell? ⟨bf, 5, none⟩ = some (.pointer (some ⟨bh, 0, none⟩)) ∧ w'.cell? ⟨bf, 12, none⟩ = some (.int .i64 pc) ∧ w'.cell? ⟨bf, 13, none⟩ = some (.int .i64 ps) ∧ w'.cell? ⟨bf, 14, none⟩ = some (.int .i64 pn) ∧ w'.cell? ⟨bf, 15, none⟩ = some (.int .u64 pu)) (first | exact ⟨c5, c12, c13, c14, c15⟩ | exact ⟨HB1.out.cell 5, HB1.out.cell 12, HB1.out.cell 13, HB1.out.cell 14, HB1.out.cell 15⟩) (first | (go_at_call 144; refine (HF.out _ ((Only.refl _ w).drew)).mono ?_; rintro e w1 ⟨rfl, ho⟩; have HO1 := Lib.hid (((Only.refl Nobody w).drew).trans ho); have HB1 := Lib.hid (HB.out.drew.only ho (fun h => h)); clear ho) | (go_at_call 141; refine (fr_got_no bf 0 4 (by decide) _).mono ?_; rintro e w2 ⟨rfl, rfl⟩))
  have d16 : w1.cell? ⟨bf, 16, none⟩ = some (.string state) := HB1.out.cell 16
  have f16 := HB1.out.frozen 16
  go_wp2
  go_end0
  exact ⟨rfl, HB1.out.set_ 16 _, Only.setAt (S := fun x => x = bf) (HO1.out.mono fun x h => h.elim) (show bf = bf from rfl) _ _⟩

/-- Nobody's segments: none; a Malloc grows. -/
theorem fr_look_grow (bf : Nat) (f : FrM) (cs : Array Value) (tag : Nat) (k : Int) (w : World) (h : FrAt w bf f) (hs : Blk w f.bs 101 cs) (h2 : cs[2]? = some (.int .u64 0)) (h3 : cs[3]? = some (.int .u64 tag)) (h4 : cs[4]? = some (.int .i64 k)) (hk0 : 0 ≤ k) (hk : k < 1000000000000) (hkd : f.kind = 1) :
    Calls Tryz.prog 121 #[.pointer (some ⟨bf, 0, none⟩)] w fun x w' => x = .returned (.tuple #[]) ∧ FrAt w' bf { f with top := -1, tag := tag, state := sGrow } ∧ Blk w' f.bs 101 (cs.setIfInBounds 4 (.int .i64 (k + 1))) ∧ Only (fun g => g = bf ∨ g = f.bs) w w' := by
  obtain ⟨bs, top, word, tag0, me, bh, kind, addr0, n, align, zero, force, ⟨pc, ps, pn, pu⟩, state, list, sv, inV, moved, ra, re, steps⟩ := f
  dsimp only at hs hkd ⊢
  subst hkd
  have HL := Lib.hid (stack_Look bs 2 _ cs 0 tag k w hs h2 (by decide) h3 h4 hk0 hk)
  have HB := Lib.hid h
  have HS := Lib.hid hs
  have c0 : w.cell? ⟨bf, 0, none⟩ = some (.pointer (some ⟨bs, 0, none⟩)) := h.cell 0
  clear h hs h2 h3 h4 hk0 hk
  go_enter Tryz.func121, Tryz.ntmps121
  go_wp2_with (first | (go_at_call 147; refine HL.out.mono ?_; rintro e w1 ⟨rfl, hb, ho⟩; have HSB := Lib.hid hb; have HO := Lib.hid ho; have HB1 := Lib.hid (HB.out.away ho (Of.one HS.out) (by decide)); have d1 : w1.cell? ⟨bf, 1, none⟩ = some (.int .i64 top) := HB1.out.cell 1; have d3 : w1.cell? ⟨bf, 3, none⟩ = some (.int .u64 tag0) := HB1.out.cell 3; have d6 : w1.cell? ⟨bf, 6, none⟩ = some (.int .i64 1) := HB1.out.cell 6; have d16 : w1.cell? ⟨bf, 16, none⟩ = some (.string state) := HB1.out.cell 16; have f1 := HB1.out.frozen 1; have f3 := HB1.out.frozen 3; have f16 := HB1.out.frozen 16; clear hb ho))
  go_end0
  have hne : bf ≠ bs := HB1.out.ne_ HSB.out (by decide)
  refine ⟨rfl, ((HB1.out.set_ 1 _).set_ 3 _).set_ 16 _, ?_, ?_⟩
  · exact ((HSB.out.far (fun e => hne e.symm) _).far (fun e => hne e.symm) _).far (fun e => hne e.symm) _
  · exact Only.setAt (S := fun g => g = bf ∨ g = bs) (Only.setAt (S := fun g => g = bf ∨ g = bs) (Only.setAt (S := fun g => g = bf ∨ g = bs) (HO.out.mono fun x h => .inr h) (.inl rfl) _ _) (.inl rfl) _ _) (.inl rfl) _ _
end Go.Proofs.YtfplalgoopkmaaaGreat

namespace Go.Proofs.YtfplalgoopkmaaaGreat
open Go.RowKit

set_option maxHeartbeats 2000000 in
/-- No page of the class: on to a page anew. -/
theorem fr_local_no (bf bm ba : Nat) (f : FrM) (H : HeapM) (c : Nat) (w : World) (h : FrAt w bf f) (hh : HeapAt w f.bh bm ba H) (hpc : f.plan.cls = c) (hc : c < 12) (hl : H.L c = []) (hfl : H.FL c = []) (hlist : ∃ a n c, f.list = .slice a n c) :
    Calls Tryz.prog 116 #[.pointer (some ⟨bf, 0, none⟩)] w fun x w' => x = .returned (.tuple #[]) ∧ FrAt w' bf { f with state := sFresh, list := .slice none 0 0 } ∧ Only (· = bf) w w' := by
  have HTH := Lib.hid (fun w h => fr_through_nil bf f sGather sFresh w h hlist)
  obtain ⟨bs, top, word, tag, me, bh, kind, addr0, n, align, zero, force, ⟨pc, ps, pn, pu⟩, state, list, sv, inV, moved, ra, re, steps⟩ := f
  dsimp only at hpc hh HTH ⊢
  subst hpc
  have hri : rowIx (c : Int) = c := by unfold rowIx; rw [if_neg (by omega)]; omega
  have HL := Lib.hid (fun w1 (ho : Only Nobody w w1) => heap_Local_nil bh bm ba c H w1 (hh.quiet ho) hc hl)
  have HP := Lib.hid (fun w1 g (ho : Only Nobody w w1) (hg : Blk w1 g 3 #[.int .i64 c]) => heap_Pages_nil bh bm ba g c H w1 (hh.quiet ho) hg (by omega) (by rw [hri]; exact hl) (by rw [hri]; exact hfl))
  have HB := Lib.hid h
  have c5 : w.cell? ⟨bf, 5, none⟩ = some (.pointer (some ⟨bh, 0, none⟩)) := h.cell 5
  have c12 : w.cell? ⟨bf, 12, none⟩ = some (.int .i64 c) := h.cell 12
  clear h hh hl hfl hri hlist
  go_enter Tryz.func116, Tryz.ntmps116
  go_wp2
  go_region_held3 (fun w' => w'.cell? ⟨bf, 5, none⟩ = some (.pointer (some ⟨bh, 0, none⟩)) ∧ w'.cell? ⟨bf, 12, none⟩ = some (.int .i64 c)) (first | exact ⟨c5, c12⟩ | exact ⟨HB1.out.cell 5, HB1.out.cell 12⟩) (first | (go_at_call 142; refine (HL.out _ ((Only.refl _ w).drew)).mono ?_; rintro e w1 ⟨rfl, ho⟩; have HO1 := Lib.hid (((Only.refl Nobody w).drew).trans ho); have HB1 := Lib.hid (HB.out.drew.only ho (fun h => h)); clear ho) | (go_at_call 141; refine (fr_got_no bf 0 4 (by decide) _).mono ?_; rintro e w2 ⟨rfl, rfl⟩))
  have d5 : w1.cell? ⟨bf, 5, none⟩ = some (.pointer (some ⟨bh, 0, none⟩)) := HB1.out.cell 5
  have d12 : w1.cell? ⟨bf, 12, none⟩ = some (.int .i64 c) := HB1.out.cell 12
  go_wp2
  go_region_held3 (fun w' => w'.cell? ⟨bf, 5, none⟩ = some (.pointer (some ⟨bh, 0, none⟩)) ∧ w'.cell? ⟨bf, 12, none⟩ = some (.int .i64 c)) (first | exact ⟨d5, d12⟩ | exact ⟨HB3.out.cell 5, HB3.out.cell 12⟩ | exact ⟨HB2.out.cell 5, HB2.out.cell 12⟩ | exact ⟨(HB1.out.drew.alloc _).cell 5, (HB1.out.drew.alloc _).cell 12⟩) (first | (go_at_call 73; refine (HP.out _ w1.heap.size ((HO1.out.drew).alloc _) (Blk.new w1.drew _ _)).mono ?_; rintro e w2 ⟨rfl, ho⟩; have HO2 := Lib.hid (((HO1.out.drew).alloc (.cells #[.int .i64 c] 3)).trans ho); have HB2 := Lib.hid ((HB1.out.drew.alloc (.cells #[.int .i64 c] 3)).only ho (fun h => h)); clear ho) | (go_at_call 72; refine (HTH.out _ HB2.out).mono ?_; rintro e w3 ⟨rfl, hb, ho⟩; have HB3 := Lib.hid hb; have HO3 := Lib.hid ((HO2.out.mono (S' := fun x => x = bf) (fun x h => h.elim)).trans ho); clear hb ho))
  go_end0
  exact ⟨rfl, HB3.out, HO3.out⟩

set_option maxHeartbeats 2000000 in
/-- A block of a page that it has. -/
theorem fr_local_ok (bf bm bb sz addr : Nat) (f : FrM) (g : Nat → Nat) (cs : Array Value) (c : Nat) (w : World) (Q : World → Prop) (h : FrAt w bf f) (hpc : f.plan.cls = c) (h0 : cs[0]? = some (.pointer (some ⟨bm, 0, none⟩))) (ha : addr + f.plan.usable ≤ sz ∧ addr < sz)
    (hL : ∀ w0, Only Nobody w w0 → Calls Tryz.prog 142 #[.pointer (some ⟨f.bh, 0, none⟩), .int .i64 c] w0 fun e w1 => e = .returned (.tuple #[.int .u64 addr, .int .i64 0]) ∧ Q w1)
    (hQ : ∀ w1, Q w1 → FrAt w1 bf f ∧ Blk w1 f.bs 101 cs ∧ MemAt w1 bm bb sz g) :
    Calls Tryz.prog 116 #[.pointer (some ⟨bf, 0, none⟩)] w fun x w' => x = .returned (.tuple #[]) ∧ ∃ w1, Q w1 ∧ FrAt w' bf { f with state := sDone, ra := addr, re := 0 } ∧ MemAt w' bm bb sz (overMem f addr 0 g) ∧ Only (fun x => x = bf ∨ x = bb) w1 w' := by
  have HG := Lib.hid (fun w1 (hq : Q w1) => fr_got_ok bf bm bb sz g f addr cs w1 (hQ w1 hq).1 (hQ w1 hq).2.1 h0 (hQ w1 hq).2.2 ha)
  have HQ := Lib.hid hQ
  obtain ⟨bs, top, word, tag, me, bh, kind, addr0, n, align, zero, force, ⟨pc, ps, pn, pu⟩, state, list, sv, inV, moved, ra, re, steps⟩ := f
  dsimp only at hpc hL
  subst hpc
  have HL := Lib.hid hL
  have HB := Lib.hid h
  have c5 : w.cell? ⟨bf, 5, none⟩ = some (.pointer (some ⟨bh, 0, none⟩)) := h.cell 5
  have c12 : w.cell? ⟨bf, 12, none⟩ = some (.int .i64 c) := h.cell 12
  clear h hL hQ
  go_enter Tryz.func116, Tryz.ntmps116
  go_wp2
  go_region_held3 (fun w' => w'.cell? ⟨bf, 5, none⟩ = some (.pointer (some ⟨bh, 0, none⟩)) ∧ w'.cell? ⟨bf, 12, none⟩ = some (.int .i64 c)) (first | exact ⟨c5, c12⟩ | exact ⟨HF2.out.1.cell 5, HF2.out.1.cell 12⟩ | exact ⟨HF1.out.cell 5, HF1.out.cell 12⟩) (first | (go_at_call 142; refine (HL.out _ ((Only.refl _ w).drew)).mono ?_; rintro e w1 ⟨rfl, hq⟩; have HQ1 := Lib.hid hq; have HF1 := Lib.hid (HQ.out _ hq).1; clear hq) | (go_at_call 141; refine (HG.out _ HQ1.out).mono ?_; rintro e w2 ⟨rfl, h1, h2, h3⟩; have HF2 := Lib.hid (And.intro h1 (And.intro h2 h3)); clear h1 h2 h3))
  go_wp2
  go_end0
  exact ⟨rfl, w1, HQ1.out, HF2.out⟩

set_option maxHeartbeats 2000000 in
/-- A segment more, and a page of it. -/
theorem fr_grow_ok (bf bm bb sz addr : Nat) (f : FrM) (g : Nat → Nat) (cs : Array Value) (w : World) (Q1 Q : World → Prop) (h : FrAt w bf f) (h0 : cs[0]? = some (.pointer (some ⟨bm, 0, none⟩))) (ha : addr + f.plan.usable ≤ sz ∧ addr < sz)
    (hG : Calls Tryz.prog 146 #[.pointer (some ⟨f.bh, 0, none⟩)] w fun e w1 => e = .returned (.int .i64 0) ∧ Q1 w1) (hQ1 : ∀ w1, Q1 w1 → FrAt w1 bf f)
    (hF : ∀ w1 w0, Q1 w1 → Only Nobody w1 w0 → Calls Tryz.prog 144 #[.pointer (some ⟨f.bh, 0, none⟩), planV f.plan] w0 fun e w2 => e = .returned (.tuple #[.int .u64 addr, .int .i64 0]) ∧ Q w2)
    (hQ : ∀ w1, Q w1 → FrAt w1 bf f ∧ Blk w1 f.bs 101 cs ∧ MemAt w1 bm bb sz g) :
    Calls Tryz.prog 120 #[.pointer (some ⟨bf, 0, none⟩)] w fun x w' => x = .returned (.tuple #[]) ∧ ∃ w1, Q w1 ∧ FrAt w' bf { f with state := sDone, ra := addr, re := 0 } ∧ MemAt w' bm bb sz (overMem f addr 0 g) ∧ Only (fun x => x = bf ∨ x = bb) w1 w' := by
  have HO := Lib.hid (fun w1 (hq : Q w1) => fr_over_all bf bm bb sz g f addr 0 cs w1 (hQ w1 hq).1 (hQ w1 hq).2.1 h0 (hQ w1 hq).2.2 (fun _ => ha))
  have HQ := Lib.hid hQ
  have HQ1 := Lib.hid hQ1
  obtain ⟨bs, top, word, tag, me, bh, kind, addr0, n, align, zero, force, ⟨pc, ps, pn, pu⟩, state, list, sv, inV, moved, ra, re, steps⟩ := f
  dsimp only at hG hF
  have HG := Lib.hid hG
  have HF := Lib.hid hF
  have c5 : w.cell? ⟨bf, 5, none⟩ = some (.pointer (some ⟨bh, 0, none⟩)) := h.cell 5
  clear h hG hF hQ hQ1
  go_enter Tryz.func120, Tryz.ntmps120
  go_wp2_with (first | (go_at_call 146; refine HG.out.mono ?_; rintro e w1 ⟨rfl, hq⟩; have HB1 := Lib.hid (HQ1.out _ hq); have HQQ := Lib.hid hq; clear hq))
  have d5 : w1.cell? ⟨bf, 5, none⟩ = some (.pointer (some ⟨bh, 0, none⟩)) := HB1.out.cell 5
  have d12 : w1.cell? ⟨bf, 12, none⟩ = some (.int .i64 pc) := HB1.out.cell 12
  have d13 : w1.cell? ⟨bf, 13, none⟩ = some (.int .i64 ps) := HB1.out.cell 13
  have d14 : w1.cell? ⟨bf, 14, none⟩ = some (.int .i64 pn) := HB1.out.cell 14
  have d15 : w1.cell? ⟨bf, 15, none⟩ = some (.int .u64 pu) := HB1.out.cell 15
  go_region_held3 (fun w' => w'.cell? ⟨bf, 5, none⟩ = some (.pointer (some ⟨bh, 0, none⟩)) ∧ w'.cell? ⟨bf, 12, none⟩ = some (.int .i64 pc) ∧ w'.cell? ⟨bf, 13, none⟩ = some (.int .i64 ps) ∧ w'.cell? ⟨bf, 14, none⟩ = some (.int .i64 pn) ∧ w'.cell? ⟨bf, 15, none⟩ = some (.int .u64 pu)) (first | exact ⟨d5, d12, d13, d14, d15⟩ | exact ⟨HF3.out.1.cell 5, HF3.out.1.cell 12, HF3.out.1.cell 13, HF3.out.1.cell 14, HF3.out.1.cell 15⟩ | exact ⟨HF2.out.cell 5, HF2.out.cell 12, HF2.out.cell 13, HF2.out.cell 14, HF2.out.cell 15⟩) (first | (go_at_call 144; refine (HF.out _ _ HQQ.out ((Only.refl _ w1).drew)).mono ?_; rintro e w2 ⟨rfl, hq⟩; have HQ2 := Lib.hid hq; have HF2 := Lib.hid (HQ.out _ hq).1; clear hq) | (go_at_call 140; refine (HO.out _ HQ2.out).mono ?_; rintro e w3 ⟨rfl, h1, h2, h3⟩; have HF3 := Lib.hid (And.intro h1 (And.intro h2 h3)); clear h1 h2 h3))
  go_wp2
  go_end0
  exact ⟨rfl, w2, HQ2.out, HF3.out⟩
end Go.Proofs.YtfplalgoopkmaaaGreat

namespace Go.Proofs.YtfplalgoopkmaaaGreat
open Go.RowKit

set_option maxHeartbeats 2000000 in
theorem fr_huge_no (bf : Nat) (f : FrM) (cs : Array Value) (ba : Nat) (k : Int) (hk : k ≠ 0) (w : World) (Q : World → Prop) (h : FrAt w bf f) (hs : Blk w f.bs 101 cs) (h1 : cs[1]? = some (.pointer (some ⟨ba, 0, none⟩)))
    (hR : ∀ w0, Only Nobody w w0 → Calls Tryz.prog 35 #[.pointer (some ⟨ba, 0, none⟩), .int .i64 f.plan.segs] w0 fun e w1 => e = .returned (.tuple #[.int .i64 0, .int .i64 k]) ∧ Q w1)
    (hQ : ∀ w1, Q w1 → FrAt w1 bf f ∧ Blk w1 f.bs 101 cs) :
    Calls Tryz.prog 115 #[.pointer (some ⟨bf, 0, none⟩)] w fun x w' => x = .returned (.tuple #[]) ∧ ∃ w1, Q w1 ∧ FrAt w' bf { f with state := sDone, ra := 0, re := k } ∧ Only (· = bf) w1 w' := by
  have HOV := Lib.hid (fun w1 hq => fr_over bf f 0 k w1 (hQ w1 hq).1 (.inr (.inr hk)))
  have HQ := Lib.hid hQ
  have hb : (k == 0) = false := by rw [beq_eq_false_iff_ne]; exact hk
  obtain ⟨bs, top, word, tag, me, bh, kind, addr0, n, align, zero, force, ⟨pc, ps, pn, pu⟩, state, list, sv, inV, moved, ra, re, steps⟩ := f
  dsimp only at hR hs
  have HR := Lib.hid hR
  have c0 : w.cell? ⟨bf, 0, none⟩ = some (.pointer (some ⟨bs, 0, none⟩)) := h.cell 0
  have c14 : w.cell? ⟨bf, 14, none⟩ = some (.int .i64 pn) := h.cell 14
  have e1 : w.cell? ⟨bs, 1, none⟩ = some (.pointer (some ⟨ba, 0, none⟩)) := (hs.cell 1).trans h1
  have H1 := Lib.hid h1
  clear h hs hR hQ h1 hk
  go_enter Tryz.func115, Tryz.ntmps115
  go_wp2
  go_region_held3 (fun w' => w'.cell? ⟨bf, 0, none⟩ = some (.pointer (some ⟨bs, 0, none⟩)) ∧ w'.cell? ⟨bf, 14, none⟩ = some (.int .i64 pn) ∧ w'.cell? ⟨bs, 1, none⟩ = some (.pointer (some ⟨ba, 0, none⟩))) (first | exact ⟨c0, c14, e1⟩ | exact ⟨(HQ.out _ HQ1.out).1.cell 0, (HQ.out _ HQ1.out).1.cell 14, ((HQ.out _ HQ1.out).2.cell 1).trans H1.out⟩) (first | (go_at_call 35; refine (HR.out _ ((Only.refl _ w).drew)).mono ?_; rintro e w1 ⟨rfl, hq⟩; have HQ1 := Lib.hid hq; clear hq))
  go_wp2_with (first | (go_at_call 140; refine (HOV.out _ HQ1.out).mono ?_; rintro e w2 ⟨rfl, h1, h2⟩; have H := Lib.hid (And.intro h1 h2); clear h1 h2))
  go_end0
  exact ⟨rfl, w1, HQ1.out, H.out⟩

set_option maxHeartbeats 4000000 in
theorem fr_huge_ok (bf bm bb sz : Nat) (f : FrM) (g : Nat → Nat) (cs : Array Value) (S : SysM) (at_ : Nat) (w : World) (Q : World → Prop) (h : FrAt w bf f) (hs : Blk w f.bs 101 cs) (hv : SysV cs 8 S) (hbm : S.bm = bm) (hat : at_ < 64) (ha : at_ * 16384 + f.plan.usable ≤ sz ∧ at_ * 16384 < sz)
    (hR : ∀ w0, Only Nobody w w0 → Calls Tryz.prog 35 #[.pointer (some ⟨S.ba, 0, none⟩), .int .i64 f.plan.segs] w0 fun e w1 => e = .returned (.tuple #[.int .i64 at_, .int .i64 0]) ∧ Q w1)
    (hQ : ∀ w1, Q w1 → FrAt w1 bf f ∧ Blk w1 f.bs 101 cs ∧ MemAt w1 bm bb sz g) :
    Calls Tryz.prog 115 #[.pointer (some ⟨bf, 0, none⟩)] w fun x w' => x = .returned (.tuple #[]) ∧ ∃ w1, Q w1 ∧ FrAt w' bf { f with state := sDone, ra := at_ * 16384, re := 0 } ∧ MemAt w' bm bb sz (overMem f (at_ * 16384) 0 g) ∧ Blk w' f.bs 101 (cs.setIfInBounds (206 + at_) (.int .i64 f.plan.segs)) ∧ Only (fun x => x = bf ∨ x = bb ∨ x = f.bs) w1 w' := by
  have hv2 := hv.setHuge (Nat.le_refl 8) at_ hat f.plan.segs
  have HOV := Lib.hid (fun w1 hf hs hm => fr_over_all bf bm bb sz g f (at_ * 16384) 0 _ w1 hf hs (hbm ▸ hv2.h0) hm (fun _ => ha))
  have HQ := Lib.hid hQ
  obtain ⟨bs, top, word, tag, me, bh, kind, addr0, n, align, zero, force, ⟨pc, ps, pn, pu⟩, state, list, sv, inV, moved, ra, re, steps⟩ := f
  dsimp only at hR hs HOV HQ ⊢
  have HR := Lib.hid hR
  have HV := Lib.hid hv
  have c0 : w.cell? ⟨bf, 0, none⟩ = some (.pointer (some ⟨bs, 0, none⟩)) := h.cell 0
  have c14 : w.cell? ⟨bf, 14, none⟩ = some (.int .i64 pn) := h.cell 14
  have e1 : w.cell? ⟨bs, 1, none⟩ = some (.pointer (some ⟨S.ba, 0, none⟩)) := (hs.cell 1).trans hv.h1
  clear h hs hR hQ hv hv2
  go_enter Tryz.func115, Tryz.ntmps115
  go_wp2
  go_region_held3 (fun w' => w'.cell? ⟨bf, 0, none⟩ = some (.pointer (some ⟨bs, 0, none⟩)) ∧ w'.cell? ⟨bf, 14, none⟩ = some (.int .i64 pn) ∧ w'.cell? ⟨bs, 1, none⟩ = some (.pointer (some ⟨S.ba, 0, none⟩))) (first | exact ⟨c0, c14, e1⟩ | exact ⟨(HQ.out _ HQ1.out).1.cell 0, (HQ.out _ HQ1.out).1.cell 14, ((HQ.out _ HQ1.out).2.1.cell 1).trans HV.out.h1⟩) (first | (go_at_call 35; refine (HR.out _ ((Only.refl _ w).drew)).mono ?_; rintro e w1 ⟨rfl, hq⟩; have HQ1 := Lib.hid hq; clear hq))
  have d0 : w1.cell? ⟨bf, 0, none⟩ = some (.pointer (some ⟨bs, 0, none⟩)) := (HQ.out _ HQ1.out).1.cell 0
  have d14 : w1.cell? ⟨bf, 14, none⟩ = some (.int .i64 pn) := (HQ.out _ HQ1.out).1.cell 14
  have d2 : w1.cell? ⟨bs, 206 + at_, none⟩ = some (.int .i64 (S.huge at_)) := ((HQ.out _ HQ1.out).2.1.cell _).trans (HV.out.hu at_ hat)
  have f2 := (HQ.out _ HQ1.out).2.1.frozen (206 + at_)
  have HSB := Lib.hid ((HQ.out _ HQ1.out).2.1.set_ (206 + at_) (.int .i64 pn))
  have HFB := Lib.hid ((HQ.out _ HQ1.out).1.far (p := ⟨bs, 206 + at_, none⟩) ((HQ.out _ HQ1.out).1.ne_ (HQ.out _ HQ1.out).2.1 (by decide)) (.int .i64 pn))
  have HMB := Lib.hid ((HQ.out _ HQ1.out).2.2.away (p := ⟨bs, 206 + at_, none⟩) ((HQ.out _ HQ1.out).2.2.st.ne_ (HQ.out _ HQ1.out).2.1 (by decide)) ((HQ.out _ HQ1.out).2.2.by_.ne_ (HQ.out _ HQ1.out).2.1 (by decide)) (.int .i64 pn))
  have hat2 : (at_ : Int) < 64 := by omega
  have hat3 : (0 : Int) ≤ at_ := by omega
  have d2' : w1.drew.cell? ⟨bs, 206 + at_, none⟩ = some (.int .i64 (S.huge at_)) := d2
  have f2' : w1.drew.frozen? ⟨bs, 206 + at_, none⟩ = false := f2
  go_wp2
  go_region_held3 (fun w' => w'.cell? ⟨bf, 0, none⟩ = some (.pointer (some ⟨bs, 0, none⟩)) ∧ w'.cell? ⟨bf, 14, none⟩ = some (.int .i64 pn)) (first | exact ⟨d0, d14⟩ | exact ⟨HFB.out.cell 0, HFB.out.cell 14⟩) (fail)
  go_wp2_with (first | (go_at_call 140; refine (HOV.out _ HFB.out.drew HSB.out.drew HMB.out.drew).mono ?_; rintro e w2 ⟨rfl, h1, h2, h3⟩; have HF2 := Lib.hid (And.intro h1 (And.intro h2 h3)); clear h1 h2 h3))
  go_end0
  obtain ⟨h1, h2, h3⟩ := HF2.out
  have hbs := HSB.out.drew.away h3 ((Of.one HFB.out.drew).or (Of.one HMB.out.drew.by_)) (by decide)
  refine ⟨rfl, w1, HQ1.out, h1, h2, hbs, ?_⟩
  have ho := ((Only.refl (fun x => x = bf ∨ x = bb ∨ x = bs) w1).setAt (b := bs) (.inr (.inr rfl)) (206 + at_) (.int .i64 pn)).drew
  exact ho.trans (h3.mono fun x h => h.elim (fun h => .inl h) (fun h => .inr (.inl h)))
end Go.Proofs.YtfplalgoopkmaaaGreat
