/- Noughts all over. A call, step by step: its cells. Conditions: none. -/
import Derived.Test.YtfplalgoopkmaaaGreatPart06
import Derived.Laws.IdiomCopy
import Derived.Test.YtfplalgoopkmaaaGreatPart15

set_option linter.unusedVariables false
set_option linter.unusedSimpArgs false

namespace Go.Proofs.YtfplalgoopkmaaaGreat
open Go.RowKit

theorem Tryz.infoByte : (Tryz.prog.info? 5).map (·.size) = some 1 := by kernel_rfl

theorem copy_one (w : World) (ty : TypeId) (bb g a r c n : Nat) (f : Nat → Nat) (hb : Blk w bb 5 (bytesArr n f)) (ha : a < n) (hg : Blk w g 5 #[.int .u8 0]) :
    (Builtin.copy_ #[36, 36] ty #[.slice (some ⟨bb, a, none⟩) (r + 1) c, .slice (some ⟨g, 0, none⟩) 1 1]).run Tryz.prog w = .ok (.int .i64 1) (w.setCell ⟨bb, a, none⟩ (.int .u8 0)) := by
  have h := run_copy_cells (P := Tryz.prog) w 36 36 ty 5 bb a (r + 1) c ⟨g, 0, none⟩ 1 1 [.int .u8 0] Tryz.underlying36 Tryz.infoByte (by simp [Nat.min_def]) (fun j v hj => by
    match j, hj with
    | 0, hj => cases hj; exact hg.cell 0) (fun j hj => by
    have : j = 0 := by simpa using hj
    subst this
    rw [Nat.add_zero, hb.cell, bytesArr_get _ _ _ ha]; rfl) (fun j hj => hb.frozen _) (by intro v hv; simp at hv; subst hv; rfl)
  exact h

set_option maxHeartbeats 1000000 in
theorem mem_Fill (bm bb n a k : Nat) (f : Nat → Nat) (w : World) (hm : MemAt w bm bb n f) (hak : a + k ≤ n) (han : a < n) :
    Calls Tryz.prog 167 #[.pointer (some ⟨bm, 0, none⟩), .int .u64 a, .int .u64 k, .slice none 0 0] w fun e w' => e = .returned (.int .i64 0) ∧ MemAt w' bm bb n (fillN f a k) ∧ Only (· = bb) w w' := by
  have HIN := Lib.hid (Mem.in_ok w hm a k hak han)
  have HM := Lib.hid hm
  clear hm
  go_enter Tryz.func167, Tryz.ntmps167
  go_wp2_with (first | (go_at_call 43; refine HIN.out.mono ?_; rintro e w1 ⟨rfl, rfl⟩))
  have HG := Lib.hid (Blk.new w 5 #[.int .u8 0])
  have HMA := Lib.hid (HM.out.alloc (.cells #[.int .u8 0] 5))
  have HO := Lib.hid ((Only.refl (fun x => x = bb) w).alloc (.cells #[.int .u8 0] 5))
  have hgb : w.heap.size ≠ bb := by have := HM.out.by_.lt; omega
  have HGB := Lib.hid hgb
  generalize w.alloc (.cells #[.int .u8 0] 5) = wa at *
  generalize w.heap.size = g at *
  clear hgb
  go_loopw [9] (fun v wr => ∃ (j r c : Nat) (x : Option Addr), v = .slice x r c ∧ j + r = k ∧ (1 ≤ r → x = some ⟨bb, a + j, none⟩ ∧ c = n - (a + j)) ∧ Blk wr bb 5 (bytesArr n (fillN f a j)) ∧ Only (fun x => x = bb) wa wr) (fun v _ => match v with | .slice _ r _ => r | _ => 0)
  case atStart => exact ⟨0, k, n - a, some ⟨bb, a, none⟩, rfl, by omega, fun _ => ⟨rfl, rfl⟩, by rw [fillN_zero]; exact HMA.out.by_, Only.refl _ _⟩
  case round =>
    obtain ⟨j, r, c, x, rfl, hjr, hx, hb, ho⟩ := hrel
    have HB := Lib.hid hb
    have HOR := Lib.hid ho
    clear hb ho
    cases r with
    | zero =>
      have HJ := Lib.hid hjr
      clear hx hjr
      go_wp2
      go_ret
      have e : j = k := by have := HJ.out; omega
      subst e
      have hne := HM.out.ne
      exact ⟨rfl, ⟨HMA.out.st.only HOR.out hne, HB.out, fun i => fillN_lt HM.out.lt a j i, HM.out.le⟩, HO.out.trans HOR.out⟩
    | succ r =>
      obtain ⟨rfl, rfl⟩ := hx (by omega)
      have hcp := copy_one wr 3 bb g (a + j) r (n - (a + j)) n (fillN f a j) HB.out (by omega) (HG.out.only HOR.out HGB.out)
      have hlt : a + j < n := by omega
      clear hx
      go_wp2
      refine ⟨⟨j + 1, r, n - (a + j) - 1, _, rfl, by omega, fun h1 => ⟨?_, by omega⟩, ?_, Only.setAt (S := fun x => x = bb) HOR.out (show bb = bb from rfl) _ _⟩, by show r < r + 1; omega⟩
      · rw [if_neg (by omega)]
        rfl
      · have h := HB.out.set_ (a + j) (.int .u8 0)
        have e := bytesArr_set n (fillN f a j) (a + j) 0
        rw [show (fun i => if i = a + j then 0 else fillN f a j i) = fillN f a (j + 1) from funext fun i => fillN_succ f a j i] at e
        rw [← e]
        exact h
end Go.Proofs.YtfplalgoopkmaaaGreat

namespace Go.Proofs.YtfplalgoopkmaaaGreat
open Go.RowKit

structure FrM where
  bs : Nat
  top : Int
  word : Nat
  tag : Nat
  me : Nat
  bh : Nat
  kind : Int
  addr : Nat
  n : Nat
  align : Nat
  zero : Bool
  force : Bool
  plan : Plan
  state : ByteArray
  list : Value
  sv : Value
  inV : Value
  moved : Nat
  ra : Nat
  re : Int
  steps : Nat

abbrev frV (f : FrM) : Array Value := #[.pointer (some ⟨f.bs, 0, none⟩), .int .i64 f.top, .int .u64 f.word, .int .u64 f.tag, .int .i64 f.me, .pointer (some ⟨f.bh, 0, none⟩),
  .int .i64 f.kind, .int .u64 f.addr, .int .u64 f.n, .int .u64 f.align, .bool f.zero, .bool f.force, .int .i64 f.plan.cls, .int .i64 f.plan.slices, .int .i64 f.plan.segs, .int .u64 f.plan.usable,
  .string f.state, f.list, f.sv, f.inV, .int .u64 f.moved, .int .u64 f.ra, .int .i64 f.re, .int .i64 f.steps]
abbrev FrAt (w : World) (bf : Nat) (f : FrM) : Prop := Blk w bf 174 (frV f)
def sDone : ByteArray := ⟨#[100, 111, 110, 101]⟩

set_option maxHeartbeats 1000000 in
/-- A call ends; no noughts are asked for. -/
theorem fr_over (bf : Nat) (f : FrM) (addr : Nat) (e : Int) (w : World) (h : FrAt w bf f) (hz : f.kind = 1 ∧ f.zero = false ∨ f.kind ≠ 1 ∨ e ≠ 0) :
    Calls Tryz.prog 140 #[.pointer (some ⟨bf, 0, none⟩), .int .u64 addr, .int .i64 e] w fun x w' => x = .returned (.tuple #[]) ∧ FrAt w' bf { f with state := sDone, ra := addr, re := e } ∧ Only (· = bf) w w' := by
  obtain ⟨bs, top, word, tag, me, bh, kind, addr0, n, align, zero, force, plan, state, list, sv, inV, moved, ra, re, steps⟩ := f
  dsimp only at hz
  have HB := Lib.hid h
  have c16 : w.cell? ⟨bf, 16, none⟩ = some (.string state) := h.cell 16
  have c21 : w.cell? ⟨bf, 21, none⟩ = some (.int .u64 ra) := h.cell 21
  have c22 : w.cell? ⟨bf, 22, none⟩ = some (.int .i64 re) := h.cell 22
  have c6 : w.cell? ⟨bf, 6, none⟩ = some (.int .i64 kind) := h.cell 6
  have c10 : w.cell? ⟨bf, 10, none⟩ = some (.bool zero) := h.cell 10
  have f16 := h.frozen 16
  have f21 := h.frozen 21
  have f22 := h.frozen 22
  clear h
  have hcase : (kind == 1) = false ∨ (kind = 1 ∧ zero = false) ∨ (kind = 1 ∧ zero = true ∧ (e == 0) = false) := by
    by_cases hk : kind = 1
    · cases zero
      · exact .inr (.inl ⟨hk, rfl⟩)
      · refine .inr (.inr ⟨hk, rfl, ?_⟩)
        rw [beq_eq_false_iff_ne]
        rcases hz with hz | hz | hz
        · cases hz.2
        · exact absurd hk hz
        · exact hz
    · exact .inl (by rw [beq_eq_false_iff_ne]; exact hk)
  clear hz
  rcases hcase with hk | ⟨rfl, rfl⟩ | ⟨rfl, rfl, he⟩
  all_goals
    go_enter Tryz.func140, Tryz.ntmps140
    go_wp2
    go_end0
    exact ⟨rfl, ((HB.out.set_ 16 _).set_ 21 _).set_ 22 _, Only.setAt (S := fun x => x = bf) (Only.setAt (S := fun x => x = bf) (Only.setAt (S := fun x => x = bf) (Only.refl _ _) (show bf = bf from rfl) _ _) (show bf = bf from rfl) _ _) (show bf = bf from rfl) _ _⟩

set_option maxHeartbeats 2000000 in
/-- A call that found a block, with noughts. -/
theorem fr_over_zero (bf bm bb sz : Nat) (g : Nat → Nat) (f : FrM) (addr : Nat) (cs : Array Value) (w : World) (h : FrAt w bf f) (hs : Blk w f.bs 101 cs) (h0 : cs[0]? = some (.pointer (some ⟨bm, 0, none⟩))) (hm : MemAt w bm bb sz g) (hk : f.kind = 1) (hz : f.zero = true) (ha : addr + f.plan.usable ≤ sz) (ha2 : addr < sz) :
    Calls Tryz.prog 140 #[.pointer (some ⟨bf, 0, none⟩), .int .u64 addr, .int .i64 0] w fun x w' => x = .returned (.tuple #[]) ∧ FrAt w' bf { f with state := sDone, ra := addr, re := 0 } ∧ MemAt w' bm bb sz (fillN g addr f.plan.usable) ∧ Only (fun x => x = bf ∨ x = bb) w w' := by
  obtain ⟨bs, top, word, tag, me, bh, kind, addr0, n, align, zero, force, ⟨pc, ps, pn, pu⟩, state, list, sv, inV, moved, ra, re, steps⟩ := f
  dsimp only at hk hz ha hs ⊢
  subst hk hz
  have HB := Lib.hid h
  have c16 : w.cell? ⟨bf, 16, none⟩ = some (.string state) := h.cell 16
  have c21 : w.cell? ⟨bf, 21, none⟩ = some (.int .u64 ra) := h.cell 21
  have c22 : w.cell? ⟨bf, 22, none⟩ = some (.int .i64 re) := h.cell 22
  have c6 : w.cell? ⟨bf, 6, none⟩ = some (.int .i64 1) := h.cell 6
  have c10 : w.cell? ⟨bf, 10, none⟩ = some (.bool true) := h.cell 10
  have f16 := h.frozen 16
  have f21 := h.frozen 21
  have f22 := h.frozen 22
  have h1 := ((h.set_ 16 (.string sDone)).set_ 21 (.int .u64 addr)).set_ 22 (.int .i64 0)
  have ho1 := Only.setAt (S := fun x => x = bf) (Only.setAt (S := fun x => x = bf) (Only.setAt (S := fun x => x = bf) (Only.refl _ w) (show bf = bf from rfl) 16 (.string sDone)) (show bf = bf from rfl) 21 (.int .u64 addr)) (show bf = bf from rfl) 22 (.int .i64 0)
  have HF1 := Lib.hid h1
  have HO1 := Lib.hid ho1
  have HS1 := Lib.hid (hs.away ho1 (Of.one h) (by decide))
  have HM1 := Lib.hid (hm.awayOf ho1 (Of.one h) (by decide) (by decide))
  have H0 := Lib.hid h0
  clear h hs h0 hm h1 ho1
  go_enter Tryz.func140, Tryz.ntmps140
  go_wp2
  change Code.wp _ _ _ _ (((w.setCell ⟨bf, 16, none⟩ (.string sDone)).setCell ⟨bf, 21, none⟩ (.int .u64 addr)).setCell ⟨bf, 22, none⟩ (.int .i64 0))
  generalize ((w.setCell ⟨bf, 16, none⟩ (.string sDone)).setCell ⟨bf, 21, none⟩ (.int .u64 addr)).setCell ⟨bf, 22, none⟩ (.int .i64 0) = w1 at *
  have d0 : w1.cell? ⟨bf, 0, none⟩ = some (.pointer (some ⟨bs, 0, none⟩)) := HF1.out.cell 0
  have d15 : w1.cell? ⟨bf, 15, none⟩ = some (.int .u64 pu) := HF1.out.cell 15
  have e0 : w1.cell? ⟨bs, 0, none⟩ = some (.pointer (some ⟨bm, 0, none⟩)) := (HS1.out.cell 0).trans H0.out
  clear c16 c21 c22 c6 c10 f16 f21 f22
  go_region_held3 (fun w' => w'.cell? ⟨bf, 0, none⟩ = some (.pointer (some ⟨bs, 0, none⟩)) ∧ w'.cell? ⟨bf, 15, none⟩ = some (.int .u64 pu) ∧ w'.cell? ⟨bs, 0, none⟩ = some (.pointer (some ⟨bm, 0, none⟩))) (first | exact ⟨d0, d15, e0⟩ | exact ⟨HF2.out.cell 0, HF2.out.cell 15, HE2.out⟩) (first | (go_at_call 167; refine (mem_Fill bm bb sz addr pu g _ HM1.out.drew ha ha2).mono ?_; rintro e w2 ⟨rfl, hm2, ho2⟩; have HM2 := Lib.hid hm2; have HO2 := Lib.hid (((HO1.out.mono (S' := fun x => x = bf ∨ x = bb) (fun x h => .inl h)).drew).trans (ho2.mono (fun x h => .inr h))); have HF2 := Lib.hid (HF1.out.drew.away ho2 (Of.one HM1.out.drew.by_) (by decide)); have HE2 := Lib.hid (((HS1.out.drew.away ho2 (Of.one HM1.out.drew.by_) (by decide)).cell 0).trans H0.out); clear hm2 ho2))
  go_end0
  exact ⟨rfl, HF2.out, HM2.out, HO2.out⟩

/-- Memory behind a call's end. -/
def overMem (f : FrM) (addr : Nat) (e : Int) (g : Nat → Nat) : Nat → Nat := if f.kind = 1 ∧ f.zero = true ∧ e = 0 then fillN g addr f.plan.usable else g

theorem fr_over_all (bf bm bb sz : Nat) (g : Nat → Nat) (f : FrM) (addr : Nat) (e : Int) (cs : Array Value) (w : World) (h : FrAt w bf f) (hs : Blk w f.bs 101 cs) (h0 : cs[0]? = some (.pointer (some ⟨bm, 0, none⟩))) (hm : MemAt w bm bb sz g) (ha : e = 0 → addr + f.plan.usable ≤ sz ∧ addr < sz) :
    Calls Tryz.prog 140 #[.pointer (some ⟨bf, 0, none⟩), .int .u64 addr, .int .i64 e] w fun x w' => x = .returned (.tuple #[]) ∧ FrAt w' bf { f with state := sDone, ra := addr, re := e } ∧ MemAt w' bm bb sz (overMem f addr e g) ∧ Only (fun x => x = bf ∨ x = bb) w w' := by
  unfold overMem
  by_cases hc : f.kind = 1 ∧ f.zero = true ∧ e = 0
  · rw [if_pos hc]
    obtain ⟨hk, hz, rfl⟩ := hc
    exact fr_over_zero bf bm bb sz g f addr cs w h hs h0 hm hk hz (ha rfl).1 (ha rfl).2
  · rw [if_neg hc]
    refine (fr_over bf f addr e w h ?_).mono fun x w' ⟨h1, h2, h3⟩ => ⟨h1, h2, ?_, h3.mono fun x h => .inl h⟩
    · by_cases hk : f.kind = 1
      · cases hz : f.zero
        · exact .inl ⟨hk, rfl⟩
        · exact .inr (.inr (fun he => hc ⟨hk, hz, he⟩))
      · exact .inr (.inl hk)
    · exact hm.awayOf h3 (Of.one h) (by decide) (by decide)

set_option maxHeartbeats 1000000 in
theorem fr_got_ok (bf bm bb sz : Nat) (g : Nat → Nat) (f : FrM) (addr : Nat) (cs : Array Value) (w : World) (h : FrAt w bf f) (hs : Blk w f.bs 101 cs) (h0 : cs[0]? = some (.pointer (some ⟨bm, 0, none⟩))) (hm : MemAt w bm bb sz g) (ha : addr + f.plan.usable ≤ sz ∧ addr < sz) :
    Calls Tryz.prog 141 #[.pointer (some ⟨bf, 0, none⟩), .int .u64 addr, .int .i64 0] w fun x w' => x = .returned (.bool true) ∧ FrAt w' bf { f with state := sDone, ra := addr, re := 0 } ∧ MemAt w' bm bb sz (overMem f addr 0 g) ∧ Only (fun x => x = bf ∨ x = bb) w w' := by
  have HO := Lib.hid (fr_over_all bf bm bb sz g f addr 0 cs w h hs h0 hm (fun _ => ha))
  clear h hs h0 hm ha
  go_enter Tryz.func141, Tryz.ntmps141
  go_wp2_with (first | (go_at_call 140; refine HO.out.mono ?_; rintro e w1 ⟨rfl, h1, h2, h3⟩; have H := Lib.hid (And.intro h1 (And.intro h2 h3)); clear h1 h2 h3))
  go_ret
  exact ⟨rfl, H.out⟩
theorem fr_got_no (bf : Nat) (addr : Nat) (e : Int) (he : e ≠ 0) (w : World) :
    Calls Tryz.prog 141 #[.pointer (some ⟨bf, 0, none⟩), .int .u64 addr, .int .i64 e] w fun x w' => x = .returned (.bool false) ∧ w = w' := by
  have hb : (e == 0) = false := by rw [beq_eq_false_iff_ne]; exact he
  clear he
  go_enter Tryz.func141, Tryz.ntmps141
  go_wp2
  go_ret
  exact ⟨rfl, rfl⟩
end Go.Proofs.YtfplalgoopkmaaaGreat
