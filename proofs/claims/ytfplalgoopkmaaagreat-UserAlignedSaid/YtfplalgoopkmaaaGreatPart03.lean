/- Layer 2: a word is loaded: a range over slices.Backward. Layer 3: the lowest free row is taken: a range over rows of free places. Conditions: none. -/
import Derived.Test.YtfplalgoopkmaaaGreatPart02
import Derived.RangeFuncNested
import Derived.RangeFuncBound
import Derived.RangeFuncCalls
import Derived.RangeFuncLeaves
import Derived.Shelf.Abstract
import Derived.Shelf.RegionOpen
import Derived.OwnWalkIn
import Derived.TacticsInMore
import Derived.LoopNIn
import Derived.LoopIn

set_option linter.unusedVariables false
set_option linter.unusedSimpArgs false

namespace Go.Proofs.YtfplalgoopkmaaaGreat
open Go.RowKit Go.Shelf
attribute [local go_sem] Oper.semAt_some

/-- Blocks below n1 but bx lie as they lay. -/
def Keep (n1 bx : Nat) (W W' : World) : Prop := ∀ b, b < n1 → b ≠ bx → W'.heap[b]? = W.heap[b]?
theorem Keep.trans {n1 bx : Nat} {A B C : World} (h : Keep n1 bx A B) (k : Keep n1 bx B C) : Keep n1 bx A C := fun b h1 h2 => (k b h1 h2).trans (h b h1 h2)
theorem Keep.put {n1 bx : Nat} (W : World) (l : Nat) (o o' : Obj) (hl : n1 ≤ l) (_ : W.heap[l]? = some o) (_ : o.isCells = false) (_ : o.isWalk = false) : Keep n1 bx W (W.putObj l o') :=
  fun b h1 _ => World.putObj_heap_other (by omega)
theorem Keep.cell {n1 bx : Nat} {W W' : World} (h : Keep n1 bx W W') {b o : Nat} (h1 : b < n1) (h2 : b ≠ bx) : W'.cell? ⟨b, o, none⟩ = W.cell? ⟨b, o, none⟩ :=
  World.cell?_of_block (h b h1 h2)

abbrev IB := { p : Nat × Nat // p.2 < 256 }
def encIB (x : IB) : Array Value := #[.int .i64 x.1.1, .int .u8 x.1.2]
/-- k bytes from place j on, of those that begin at a, the last one first. -/
def back (f : Nat → Nat) (hf : ∀ i, f i < 256) (a : Nat) : Nat → Nat → List IB
  | _, 0 => []
  | j, k + 1 => back f hf a (j + 1) k ++ [⟨(j, f (a + j)), hf _⟩]
theorem back_length (f : Nat → Nat) (hf : ∀ i, f i < 256) (a j k : Nat) : (back f hf a j k).length = k := by
  induction k generalizing j with
  | zero => rfl
  | succ k ih => simp [back, ih]

set_option maxRecDepth 100000 in
set_option maxHeartbeats 2000000 in
theorem Bw.stops (F : Fence) (n : Nat) (h240 : F.fn 240) (hro : F.round = none) (hn : 1 ≤ n) (Bs n1 bx bb a c m : Nat) (f : Nat → Nat) (hf : ∀ i, f i < 256) (w : World)
    (hm : m ≤ 1048576) (hBs : w.cell? ⟨Bs, 0, none⟩ = some (.slice (some ⟨bb, a, none⟩) m c)) (hBn : Bs < n1) (hBx : Bs ≠ bx) (hbn : bb < n1) (hbx : bb ≠ bx) (hn1 : n1 ≤ w.heap.size)
    (hc : ∀ i, i < m → w.cell? ⟨bb, a + i, none⟩ = some (.int .u8 (f (a + i)))) :
    SeqStopsK F n Tryz.prog 240 #[.pointer (some ⟨Bs, 0, none⟩)] encIB (Keep n1 bx) (fun xs => xs = back f hf a 0 m) (fun _ => True) m w := by
  intro l J Jx W hW hJ hJx hY h0
  have hBs1 : W.cell? ⟨Bs, 0, none⟩ = some (.slice (some ⟨bb, a, none⟩) m c) := (hW.cell (p := ⟨Bs, 0, none⟩) (by show Bs < _; omega)).trans hBs
  have hc1 : ∀ i, i < m → W.cell? ⟨bb, a + i, none⟩ = some (.int .u8 (f (a + i))) := fun i hi => (hW.cell (p := ⟨bb, a + i, none⟩) (by show bb < _; omega)).trans (hc i hi)
  have HC1 := Lib.hid hc1
  clear hc1 hc hBs hW
  refine callsIn_of_wp Tryz.func240 rfl h240 ?_ hro
  simp only [Tryz.ntmps240, List.size_toArray, List.length_cons, List.length_nil, Nat.reduceAdd, Nat.reduceSub, Array.replicate_succ, Array.replicate_zero, List.push_toArray, List.append_toArray, List.nil_append, List.cons_append]
  gi_wp2
  gi_loopw [3] (fun i wr => ∃ j k : Nat, Hid (j + k = m) ∧ i = .int .i64 ((j : Int) - 1) ∧ J (back f hf a j k) wr ∧ Keep n1 bx W wr) (fun i _ => ((intOf i) + 1).toNat)
  case atStart => exact ⟨m, 0, rfl, rfl, h0, fun _ _ _ => rfl⟩
  case round =>
    obtain ⟨j, k, hm2, rfl, hj, hkeep⟩ := hrel
    have HK := Lib.hid hkeep
    clear hkeep
    cases j with
    | zero =>
      gi_wp2
      go_end0
      have := hm2.out
      exact ⟨⟨_, rfl⟩, .inl ⟨_, rfl, by rw [Nat.zero_add] at this; subst this; exact hj⟩⟩
    | succ j =>
      have hjm : j < m := by have := hm2.out; omega
      obtain ⟨fn, tmps, assign, body, hy, hR⟩ := hY (back f hf a (j + 1) k) ⟨(j, f (a + j)), hf _⟩ wr hj (by rw [back_length]; have := hm2.out; omega)
      have hb2 : wr.cell? ⟨Bs, 0, none⟩ = some (.slice (some ⟨bb, a, none⟩) m c) := (HK.out.cell hBn hBx).trans hBs1
      have hcc : wr.cell? ⟨bb, a + j, none⟩ = some (.int .u8 (f (a + j))) := (HK.out.cell hbn hbx).trans (HC1.out j hjm)
      dsimp only [encIB] at hy
      gi_wp2
      refine hR.mono ?_
      rintro e W3 (⟨rfl, hJ3, hk3⟩ | ⟨rfl, hJx3⟩)
      · have HK3 := Lib.hid hk3
        clear hk3
        gi_wp2
        go_roundw
        case rel => exact ⟨j, k + 1, by have := hm2.out; unfold Hid; omega, by simp, hJ3, HK.out.trans HK3.out⟩
        case measure => simp [intOf]
      · gi_wp2
        refine bodyPost_ret (results_none rfl _ _ _) rfl ?_
        exact ⟨⟨_, rfl⟩, .inr ⟨_, trivial, hJx3⟩⟩

theorem MemAt.alloc {w : World} {bm bb n : Nat} {f : Nat → Nat} (h : MemAt w bm bb n f) (o : Obj) : MemAt (w.alloc o) bm bb n f := ⟨h.st.alloc o, h.by_.alloc o, h.lt, h.le⟩
theorem Bw.make (v : Value) (w : World) (hv : ∃ a n c, v = .slice a n c) :
    Calls Tryz.prog 234 #[v] w fun e w' => e = .returned (.func (.func 240) #[] #[.pointer (some ⟨w.heap.size, 0, none⟩)]) ∧ w' = w.alloc (.cells #[v] 36) := by
  obtain ⟨a, n, c, rfl⟩ := hv
  go_enter Tryz.func234, Tryz.ntmps234
  go_wp2
  go_ret
  exact ⟨rfl, rfl⟩

/-- What a loop over such bytes makes of them. -/
def fold8 (x0 : Nat) (xs : List IB) : Nat := xs.foldl (fun x p => x * 256 + p.1.2) x0
theorem fold8_snoc (x0 : Nat) (xs : List IB) (p : IB) : fold8 x0 (xs ++ [p]) = fold8 x0 xs * 256 + p.1.2 := by simp [fold8]
theorem fold8_lt (n : Nat) (xs : List IB) (h : xs.length = n) : fold8 0 xs < 256 ^ n := by
  induction n generalizing xs with
  | zero => obtain rfl := List.eq_nil_of_length_eq_zero h; simp [fold8]
  | succ n ih =>
    obtain ⟨ys, p, rfl⟩ : ∃ ys p, xs = ys ++ [p] := ⟨xs.dropLast, xs.getLast (by intro e; subst e; simp at h), (List.dropLast_concat_getLast _).symm⟩
    have h1 := ih ys (by simpa using h)
    have := p.2
    rw [fold8_snoc, Nat.pow_succ]
    omega
theorem shl_or (p c : Nat) (hp : p < 72057594037927936) (hc : c < 256) : bits .or .u64 (IntKind.u64.wrap ((p : Int) * 256)) c = ((p * 256 + c : Nat) : Int) := by
  have h1 : IntKind.u64.wrap ((p : Int) * 256) = ((p * 256 : Nat) : Int) := by
    rw [IntWalk.u64_in _ (by omega)]; simp
  rw [h1, u64_or_nat _ _ (by omega) (by omega)]
  have := Nat.shiftLeft_add_eq_or_of_lt (a := p) (b := c) (i := 8) hc
  rw [Nat.shiftLeft_eq] at this
  rw [show (2 : Nat) ^ 8 = 256 from rfl] at this
  rw [this]
theorem pow256_le {n : Nat} (h : n < 8) : 256 ^ n ≤ 72057594037927936 :=
  Nat.le_trans (Nat.pow_le_pow_right (by decide) (show n ≤ 7 by omega)) (by decide)

set_option maxRecDepth 100000 in
set_option maxHeartbeats 2000000 in
theorem Mem.load8 {bm bb n : Nat} {f : Nat → Nat} (w : World) (h : MemAt w bm bb n f) (a : Nat) (hk : a + 8 ≤ n) :
    Calls Tryz.prog 222 #[.pointer (some ⟨bm, 0, none⟩), .int .u64 a, .int .i64 8] w fun e w' => e = .returned (.tuple #[.int .u64 (fold8 0 (back f h.lt a 0 8)), .int .i64 0]) ∧ Only Nobody w w' := by
  have hn := h.le
  have hlt := h.lt
  have hbb := h.by_.lt
  have hcell : ∀ i, i < 8 → w.cell? ⟨bb, a + i, none⟩ = some (.int .u8 (f (a + i))) := fun i hi => by
    rw [h.by_.cell, bytesArr_get _ _ _ (by omega)]
  have hs : Calls Tryz.prog 43 #[.pointer (some ⟨bm, 0, none⟩), .int .u64 a, .int .u64 (8 : Nat)] (w.alloc (.cells #[.int .u64 0] 22)) _ := Mem.in_ok (w.alloc (.cells #[.int .u64 0] 22)) (MemAt.alloc h _) a 8 (by omega) (by omega)
  have Hs := Lib.hid hs
  have HC := Lib.hid hcell
  clear hs hcell
  refine (callsIn_wide (n := 3)).1 ?_
  refine callsIn_of_wp_marks Tryz.func222 rfl trivial ?_ rfl
  simp only [Tryz.ntmps222, List.size_toArray, List.length_cons, List.length_nil, Nat.reduceAdd, Nat.reduceSub, Array.replicate_succ, Array.replicate_zero, List.push_toArray, List.append_toArray, List.nil_append, List.cons_append]
  gi_wp2_with (first | (refine ⟨trivial, ?_⟩; gi_at_call 43; refine (callsIn_wide.2 Hs.out).mono ?_; rintro e w' ⟨rfl, rfl⟩) | (refine ⟨trivial, ?_⟩; gi_at_call 219; refine (callsIn_wide.2 (Mem.may8 _)).mono ?_; rintro e w' ⟨rfl, rfl⟩) | (refine ⟨trivial, ?_⟩; gi_at_call 234; refine (callsIn_wide.2 (Bw.make _ _ ⟨_, _, _, rfl⟩)).mono ?_; rintro e w' ⟨rfl, rfl⟩))
  have hx0 : Blk ((w.alloc (.cells #[.int .u64 0] 22)).alloc (.cells #[.slice (some ⟨bb, a, none⟩) 8 (n - a)] 36)) w.heap.size 22 #[.int .u64 0] := (Blk.new _ _ _).alloc _
  have hs0 : Blk ((w.alloc (.cells #[.int .u64 0] 22)).alloc (.cells #[.slice (some ⟨bb, a, none⟩) 8 (n - a)] 36)) (w.heap.size + 1) 36 #[.slice (some ⟨bb, a, none⟩) 8 (n - a)] := by
    have := Blk.new (w.alloc (.cells #[.int .u64 0] 22)) 36 #[.slice (some ⟨bb, a, none⟩) 8 (n - a)]
    rwa [World.size_alloc] at this
  have hB0 : Only Nobody w ((w.alloc (.cells #[.int .u64 0] 22)).alloc (.cells #[.slice (some ⟨bb, a, none⟩) 8 (n - a)] 36)) := ((Only.refl _ _).alloc _).alloc _
  refine wpIn_rangeFunc_ownF rfl (by decide) (gf := 240) (lb := #[.pointer (some ⟨w.heap.size + 1, 0, none⟩)]) rfl trivial (enters_of Tryz.func240 (by kernel_rfl) rfl)
    (Bw.stops Fence.wide 2 trivial rfl (by decide) (w.heap.size + 1) (w.heap.size + 2) w.heap.size bb a (n - a) 8 f hlt _ (by decide) (hs0.cell 0) (by omega) (by omega) (by omega) (by omega) (by simp) (fun i hi => by
      rw [World.cell?_alloc_lt _ _ _ (by simp; omega), World.cell?_alloc_lt _ _ _ (by simpa using hbb)]; exact HC.out i hi))
    Keep.trans (fun W l o o' hl h1 h2 h3 => Keep.put W l o o' (by simpa using hl) h1 h2 h3) (Below.refl _ _) (fun _ => rfl)
    (fun pre W => Blk W w.heap.size 22 #[.int .u64 (fold8 0 pre)] ∧ Only Nobody w W)
    (fun _ _ _ => False)
    (fun s A B row hs hg hr => ⟨(hg.block _ hs.1.lt (fun e => by obtain ⟨_, o, ho, hc⟩ := hr _ e.symm; rw [show A.heap[w.heap.size]? = _ from hs.1] at ho; cases ho; cases hc)).trans hs.1,
      hs.2.grown hg (fun k e hk => by obtain ⟨hk2, _⟩ := hr k e; simp at hk2; omega)⟩)
    (fun _ _ _ _ _ hs _ _ => hs)
    ⟨hx0, hB0⟩
    (fun x => { tmps := #[.pointer (some ⟨bm, 0, none⟩), .int .u64 a, .int .i64 8, undef, undef, undef, .pointer (some ⟨w.heap.size, 0, none⟩), .int .i64 0,
          .slice (some ⟨bb, a, none⟩) 8 (n - a), undef, .int .u8 x.1.2,
          .pointer (some ⟨bm, 0, none⟩), .bool true, .bool true, .int .i64 8, .bool true, .bool false, .bool false,
          .tuple #[.slice (some ⟨bb, a, none⟩) 8 (n - a), .int .i64 0], .pointer (some ⟨bm, 0, none⟩), .int .u64 a, .int .i64 8, .int .i64 8, .int .u64 8,
          .tuple #[.slice (some ⟨bb, a, none⟩) 8 (n - a), .int .i64 0], .slice (some ⟨bb, a, none⟩) 8 (n - a), .int .i64 0, .slice (some ⟨bb, a, none⟩) 8 (n - a),
          .func (.func 240) #[] #[.pointer (some ⟨w.heap.size + 1, 0, none⟩)], .int .i64 x.1.1, .int .u8 x.1.2,
          undef, undef, undef, undef, undef, undef, undef], defers := [] }) ?assign ?body ?done ?stop
  case assign =>
    intro l x W K hK
    simp only [encIB]
    gi_wp2
    exact hK
  case body =>
    rintro l pre x W ⟨hb, ho⟩ hlen
    have hc := hb.cell 0
    have hfz := hb.frozen 0
    have HB := Lib.hid hb
    have HO := Lib.hid ho
    have hx := x.2
    have hp := fold8_lt pre.length pre rfl
    clear hb ho hx0 hs0 hB0 Hs HC
    gi_wp2
    have hp8 := pow256_le hlen
    have he := shl_or (fold8 0 pre) x.1.2 (by omega) hx
    rw [he]
    refine ⟨KeepsOthers.setCell _ _ _, fun b _ h2 => Below.heap_setCell _ _ _ _ h2, ?_, HO.out.setCell (fun h => absurd h (by simp)) _⟩
    rw [fold8_snoc]
    exact HB.out.set_ 0 _
  case done =>
    rintro D ys W hD rfl ⟨hb, hB⟩ hK
    have hc := hb.cell 0
    have hfz := hb.frozen 0
    have HBo := Lib.hid hB
    have HB2 := Lib.hid hb
    clear hb hB hx0 hs0 hB0 Hs HC
    gi_wp2
    have hK' := (KeepsOthers.setCell W ⟨w.heap.size, 0, none⟩ (.int .u64 (fold8 0 (back f hlt a 0 8)))).same D _ hK rfl
    refine ⟨by simp, .inl ⟨_, _, rfl, run_takeDeferred hK', ?_⟩⟩
    have hc5 := cell_kept (World.cell?_setCell_same' W ⟨w.heap.size, 0, none⟩ (.int .u64 (fold8 0 (back f hlt a 0 8))) (by rw [hc]; rfl)) (grownBy_putObj' _ D (.deferred none)) (fun r e => by cases e; exact ⟨_, hK', rfl⟩)
    refine ⟨.tuple #[.int .u64 (fold8 0 (back f hlt a 0 8)), .int .i64 0], ?_, rfl,
      (HBo.out.setCell (fun h => absurd h (by simp)) _).grown (grownBy_putObj' _ D (.deferred none)) (fun k e hk => by cases e; simp at hD; omega)⟩
    simp [results, Tryz.f222, go_sem, hc5]
  case stop =>
    rintro D c pre W _ _ h _
    exact h.elim
end Go.Proofs.YtfplalgoopkmaaaGreat

namespace Go.Proofs.YtfplalgoopkmaaaGreat
open Go.RowKit Go.Shelf
attribute [local go_sem] Oper.semAt_some

def encRow {T : Nat → Bool} {n : Nat} (x : Row T n) : Array Value := #[.int .i64 x.1.1, .int .i64 x.1.2]
theorem rows_make (v : Value) (w : World) (hv : ∃ a, v = .pointer a) :
    Calls Tryz.prog 62 #[v] w fun e w' => e = .returned (.func (.func 83) #[] #[.pointer (some ⟨w.heap.size, 0, none⟩)]) ∧ w' = w.alloc (.cells #[v] 123) := by
  obtain ⟨a, rfl⟩ := hv
  go_enter Tryz.func62, Tryz.ntmps62
  go_wp2
  go_ret
  exact ⟨rfl, rfl⟩

set_option maxRecDepth 100000 in
set_option maxHeartbeats 4000000 in
theorem Rows.stops (Bm n1 bk bt n : Nat) (T : Nat → Bool) (left : Int) (w : World)
    (h : MarksAt w bk bt n T left) (hB : w.cell? ⟨Bm, 0, none⟩ = some (.pointer (some ⟨bk, 0, none⟩))) (hBn : Bm < n1) (hkn : bk < n1) (htn : bt < n1) (hn1 : n1 ≤ w.heap.size) :
    SeqStopsK Fence.wide 2 Tryz.prog 83 #[.pointer (some ⟨Bm, 0, none⟩)] (encRow (T := T) (n := n)) (Keep n1 n1) (fun xs => xs = rowsOf T n) (fun pre => pre <+: rowsOf T n) (rowsOf T n).length w := by
  intro l J Jx W hW hJ hJx hY h0
  have hn := h.le
  have hB1 : W.cell? ⟨Bm, 0, none⟩ = some (.pointer (some ⟨bk, 0, none⟩)) := (hW.cell (p := ⟨Bm, 0, none⟩) (by show Bm < _; omega)).trans hB
  have hk1 : Blk W bk _ _ := h.st.below hW (by omega)
  have ht1 : Blk W bt _ _ := h.pl.below hW (by omega)
  have HK1 := Lib.hid hk1
  have HT1 := Lib.hid ht1
  clear hk1 ht1 hB hW h
  refine callsIn_of_wp Tryz.func83 rfl trivial ?_ rfl
  simp only [Tryz.ntmps83, List.size_toArray, List.length_cons, List.length_nil, Nat.reduceAdd, Nat.reduceSub, Array.replicate_succ, Array.replicate_zero, List.push_toArray, List.append_toArray, List.nil_append, List.cons_append]
  gi_wp2
  gi_loopw [3, 4] (fun i _ wr => ∃ (a d : Nat) (pre : List (Row T n)), i = .int .i64 a ∧ a ≤ n + 1 ∧ Hid (n ≤ a + d ∧ rowsOf T n = pre ++ rowsFrom T n d a) ∧ J pre wr ∧ Keep n1 n1 W wr) (fun i _ _ => n + 1 - (intOf i).toNat)
  case atStart => exact ⟨0, n, [], rfl, by omega, ⟨by omega, rfl⟩, h0, fun _ _ _ => rfl⟩
  case round =>
    obtain ⟨a, d, pre, rfl, ha, hr, hj, hkeep⟩ := hrel
    have HK := Lib.hid hkeep
    clear hkeep
    have hcB : wr.cell? ⟨Bm, 0, none⟩ = some (.pointer (some ⟨bk, 0, none⟩)) := (HK.out.cell hBn (by omega)).trans hB1
    have hcK : wr.cell? ⟨bk, 0, none⟩ = some (.slice (some ⟨bt, 0, none⟩) n n) := (HK.out.cell hkn (by omega)).trans (HK1.out.cell 0)
    have hcT : ∀ i, i < n - a → wr.cell? ⟨bt, a + i, none⟩ = some (.bool (T (a + i))) := fun i hi => (HK.out.cell htn (by omega)).trans (by rw [HT1.out.cell, boolArr_get _ _ _ (by omega)])
    by_cases hlt : a < n
    · have hna : ¬ n = a := by omega
      have hix := index_bool bt a (n - a) (n - a) T true wr (by omega) hcT
      have hrl := rowLen_ok T n a hlt
      cases d with
      | zero => exact absurd hr.out.1 (by omega)
      | succ d =>
      have hx : rowLen T n a = if idx (fun i => T (a + i) == true) (n - a) < 0 then n - a else (idx (fun i => T (a + i) == true) (n - a)).toNat := rfl
      rcases idx_cases (fun i => T (a + i) == true) (n - a) with ⟨c, h1, h2, h3, h4⟩ | ⟨h1, h2⟩
      · rw [h2] at hix hx
        rw [if_neg (by omega)] at hx
        simp only [Int.toNat_natCast] at hx
        have HX := Lib.hid hx
        have HI := Lib.hid hix
        have HL := Lib.hid hrl
        have HC := Lib.hid hcT
        clear hix hx hrl hcT h2 h3 h4
        cases c with
        | zero =>
          gi_wp2_with (refine ⟨trivial, ?_⟩; gi_at_call 84; refine (callsIn_wide.2 HI.out).mono ?_; rintro e w' ⟨rfl, rfl⟩)
          refine ⟨fun _ h => (by cases h), ?_⟩
          gi_wp2
          go_roundw
          case rel =>
            refine ⟨a + 1, d, pre, by go_num, by omega, ⟨by have := hr.out.1; omega, ?_⟩, hj, HK.out⟩
            rw [hr.out.2, rowsFrom_zero T n d a hlt HX.out]
          case measure => simp [intOf]; omega
        | succ c =>
          have h5 : 1 ≤ rowLen T n a := by rw [HX.out]; omega
          obtain ⟨fn, tmps, assign, body, hy, hR⟩ := hY pre ⟨(a, rowLen T n a), h5, HL.out⟩ wr hj (by rw [hr.out.2, rowsFrom_pos T n d a hlt h5]; simp)
          dsimp only [encRow] at hy
          rw [HX.out, show ((c + 1 : Nat) : Int) = (c : Int) + 1 from rfl] at hy
          gi_wp2_with (refine ⟨trivial, ?_⟩; gi_at_call 84; refine (callsIn_wide.2 HI.out).mono ?_; rintro e w' ⟨rfl, rfl⟩)
          refine hR.mono ?_
          rintro e W3 (⟨rfl, hJ3, hk3⟩ | ⟨rfl, hJx3⟩)
          · have HK3 := Lib.hid hk3
            clear hk3
            gi_wp2
            go_roundw
            case rel =>
              refine ⟨a + (c + 1) + 1, d, _, by go_num, by omega, ⟨by have := hr.out.1; omega, ?_⟩, hJ3, HK.out.trans HK3.out⟩
              have e1 : a + rowLen T n a + 1 = a + (c + 1) + 1 := by rw [HX.out]
              rw [hr.out.2, rowsFrom_pos T n d a hlt h5, e1]
              simp
            case measure => simp [intOf]; omega
          · gi_wp2
            refine bodyPost_ret (results_none rfl _ _ _) rfl ?_
            exact ⟨⟨_, rfl⟩, .inr ⟨_, ⟨rowsFrom T n d (a + rowLen T n a + 1), by rw [hr.out.2, rowsFrom_pos T n d a hlt h5]; simp⟩, hJx3⟩⟩
      · rw [h1] at hix hx
        rw [if_pos (by omega)] at hx
        have HX := Lib.hid hx
        have HI := Lib.hid hix
        have HL := Lib.hid hrl
        have HC := Lib.hid hcT
        have h5 : 1 ≤ rowLen T n a := by rw [hx]; omega
        clear hix hx hrl hcT h2 h1
        obtain ⟨fn, tmps, assign, body, hy, hR⟩ := hY pre ⟨(a, rowLen T n a), h5, HL.out⟩ wr hj (by rw [hr.out.2, rowsFrom_pos T n d a hlt h5]; simp)
        dsimp only [encRow] at hy
        rw [HX.out, show ((n - a : Nat) : Int) = (n : Int) - a from by omega] at hy
        gi_wp2_with (refine ⟨trivial, ?_⟩; gi_at_call 84; refine (callsIn_wide.2 HI.out).mono ?_; rintro e w' ⟨rfl, rfl⟩)
        refine hR.mono ?_
        rintro e W3 (⟨rfl, hJ3, hk3⟩ | ⟨rfl, hJx3⟩)
        · have HK3 := Lib.hid hk3
          clear hk3
          gi_wp2
          go_roundw
          case rel =>
            refine ⟨n + 1, d, _, by first | (congr 1; omega) | rfl, by omega, ⟨by have := hr.out.1; omega, ?_⟩, hJ3, HK.out.trans HK3.out⟩
            have e1 : a + rowLen T n a + 1 = n + 1 := by rw [HX.out]; omega
            rw [hr.out.2, rowsFrom_pos T n d a hlt h5, e1]
            simp
          case measure => simp [intOf]; omega
        · gi_wp2
          refine bodyPost_ret (results_none rfl _ _ _) rfl ?_
          exact ⟨⟨_, rfl⟩, .inr ⟨_, ⟨rowsFrom T n d (a + rowLen T n a + 1), by rw [hr.out.2, rowsFrom_pos T n d a hlt h5]; simp⟩, hJx3⟩⟩
    · clear hcT
      gi_wp2
      go_end0
      exact ⟨⟨_, rfl⟩, .inl ⟨_, by rw [hr.out.2, rowsFrom_end T n d a (by omega), List.append_nil], hj⟩⟩
end Go.Proofs.YtfplalgoopkmaaaGreat
