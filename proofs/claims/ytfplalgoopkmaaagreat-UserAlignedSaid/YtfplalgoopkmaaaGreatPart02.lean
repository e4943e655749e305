/- Words on memory: a block known whole, what a call may change. Layer 3: marks. Layer 2: memory. Conditions: none. -/
import Derived.Test.YtfplalgoopkmaaaGreatProg
import Derived.WalkKit
import Derived.Deep.QuietTactic
import Derived.BigQuiet
import Derived.StillTailTactics
import Derived.Lib.Hide
import Derived.Deep.DeepMust
import Derived.Deep.LoopGhost
import Derived.Deep.DeepFit
import Derived.Deep.Draws
import Derived.Laws.OwnMore
import Derived.Laws.Rows
import Derived.Test.YtfplalgoopkmaaaGreatPart01

set_option linter.unusedVariables false
set_option linter.unusedSimpArgs false

namespace Go.Proofs.YtfplalgoopkmaaaGreat
open Go.RowKit

def Blk (w : World) (g : Nat) (t : TypeId) (cs : Array Value) : Prop := w.heap[g]? = some (.cells cs t (0, 0))

section
variable {w w' : World} {g : Nat} {t : TypeId} {cs : Array Value}
theorem Blk.lt (h : Blk w g t cs) : g < w.heap.size := by
  rcases Nat.lt_or_ge g w.heap.size with hlt | hge
  · exact hlt
  · unfold Blk at h; rw [Array.getElem?_eq_none hge] at h; cases h
theorem Blk.cell (h : Blk w g t cs) (i : Nat) : w.cell? ⟨g, i, none⟩ = cs[i]? := cell_of_row w g i cs t (0, 0) h
theorem Blk.frozen (h : Blk w g t cs) (i : Nat) : w.frozen? ⟨g, i, none⟩ = false := by
  unfold Blk at h
  simp [World.frozen?, h]
theorem Blk.new (w : World) (t : TypeId) (cs : Array Value) : Blk (w.alloc (.cells cs t)) w.heap.size t cs := heap_alloc_new w _
theorem Blk.drew (h : Blk w g t cs) : Blk w.drew g t cs := h
theorem Blk.drewN (h : Blk w g t cs) (n : Nat) : Blk (w.drewN n) g t cs := h
theorem Blk.alloc (h : Blk w g t cs) (o : Obj) : Blk (w.alloc o) g t cs := (Below.heap_alloc w o g h.lt).trans h
theorem Blk.set_ (h : Blk w g t cs) (i : Nat) (u : Value) : Blk (w.setCell ⟨g, i, none⟩ u) g t (cs.setIfInBounds i u) := by
  unfold Blk at h ⊢
  simp [World.setCell, Array.getElem?_modify, h]
theorem Blk.far (h : Blk w g t cs) {p : Addr} (hp : g ≠ p.block) (u : Value) : Blk (w.setCell p u) g t cs := (Below.heap_setCell w p u g hp).trans h
theorem Blk.below {B : Nat} (h : Blk w g t cs) (hb : Below B w w') (hg : g < B) : Blk w' g t cs := (hb.block g hg).trans h
theorem Blk.ne_ {g' : Nat} {t' : TypeId} {cs' : Array Value} (h : Blk w g t cs) (h' : Blk w g' t' cs') (hne : t ≠ t') : g ≠ g' := by
  rintro rfl
  unfold Blk at h h'
  rw [h] at h'
  injection h' with h'
  injection h' with _ ht
  exact hne ht
theorem Blk.grown {row : Option Nat} (h : Blk w g t cs) (hg : w.grownBy w' row) (hne : some g ≠ row) : Blk w' g t cs := (hg.block g h.lt hne).trans h
theorem Blk.cs_eq {t' : TypeId} {cs' : Array Value} (h : Blk w g t cs) (h' : Blk w g t' cs') : t = t' ∧ cs = cs' := by
  unfold Blk at h h'
  rw [h] at h'
  injection h' with h'
  injection h' with h1 h2
  exact ⟨h2, h1⟩
end

/-- What a call may change of what lay there: the blocks of S alone. -/
structure Only (S : Nat → Prop) (w w' : World) : Prop where
  os : w'.os = w.os
  tape : w'.tape = w.tape
  output : w'.output = w.output
  size : w.heap.size ≤ w'.heap.size
  same : ∀ b, b < w.heap.size → ¬ S b → w'.heap[b]? = w.heap[b]?

section
variable {S S' : Nat → Prop} {a w w' : World} {g : Nat} {t : TypeId} {cs : Array Value}
theorem Only.refl (S : Nat → Prop) (w : World) : Only S w w := ⟨rfl, rfl, rfl, Nat.le_refl _, fun _ _ _ => rfl⟩
theorem Only.trans {c : World} (h : Only S a w) (k : Only S w c) : Only S a c :=
  ⟨k.os.trans h.os, k.tape.trans h.tape, k.output.trans h.output, Nat.le_trans h.size k.size, fun b hb hs => (k.same b (Nat.lt_of_lt_of_le hb h.size) hs).trans (h.same b hb hs)⟩
/-- What a second call changes of blocks that were not there ahead of the first one doesn't count. -/
theorem Only.trans_new {c : World} (h : Only S a w) (k : Only S' w c) (hs : ∀ b, b < a.heap.size → S' b → S b) : Only S a c :=
  ⟨k.os.trans h.os, k.tape.trans h.tape, k.output.trans h.output, Nat.le_trans h.size k.size, fun b hb hn => (k.same b (Nat.lt_of_lt_of_le hb h.size) (fun x => hn (hs b hb x))).trans (h.same b hb hn)⟩
theorem Only.mono (h : Only S w w') (hs : ∀ b, S b → S' b) : Only S' w w' :=
  ⟨h.os, h.tape, h.output, h.size, fun b hb hn => h.same b hb (fun x => hn (hs b x))⟩
theorem Only.drew (h : Only S a w) : Only S a w.drew := ⟨h.os, h.tape, h.output, h.size, h.same⟩
theorem Only.drewN (h : Only S a w) (n : Nat) : Only S a (w.drewN n) := ⟨h.os, h.tape, h.output, h.size, h.same⟩
theorem Only.alloc (h : Only S a w) (o : Obj) : Only S a (w.alloc o) :=
  ⟨h.os, h.tape, h.output, by simp; exact Nat.le_succ_of_le h.size, fun b hb hs => (Below.heap_alloc w o b (Nat.lt_of_lt_of_le hb h.size)).trans (h.same b hb hs)⟩
theorem Only.setCell (h : Only S a w) {p : Addr} (hp : p.block < a.heap.size → S p.block) (u : Value) : Only S a (w.setCell p u) :=
  ⟨h.os, h.tape, h.output, by simp; exact h.size, fun b hb hs => (Below.heap_setCell w p u b (fun e => by subst e; exact hs (hp hb))).trans (h.same b hb hs)⟩
theorem Only.setAt (h : Only S a w) {b : Nat} (hs : S b) (o : Nat) (u : Value) : Only S a (w.setCell ⟨b, o, none⟩ u) := h.setCell (fun _ => hs) u
theorem Only.setNew (h : Only S a w) {p : Addr} (hp : a.heap.size ≤ p.block) (u : Value) : Only S a (w.setCell p u) := h.setCell (fun hl => absurd hl (by omega)) u
theorem Only.grown {row : Option Nat} (h : Only S a w) (hg : w.grownBy w' row) (hr : ∀ k, row = some k → k < a.heap.size → S k) : Only S a w' := by
  refine ⟨hg.os.trans h.os, hg.tape.trans h.tape, hg.output.trans h.output, Nat.le_trans h.size hg.size, fun b hb hs => ?_⟩
  refine (hg.block b (Nat.lt_of_lt_of_le hb h.size) ?_).trans (h.same b hb hs)
  intro e
  exact hs (hr b e.symm hb)
theorem Only.below {B : Nat} (h : Only S w w') (hB : ∀ b, S b → B ≤ b) (hw : B ≤ w.heap.size) : Below B w w' :=
  ⟨h.os, h.tape, h.output, h.size, fun k hk => h.same k (Nat.lt_of_lt_of_le hk hw) (fun s => by have := hB k s; omega)⟩
theorem Below.only (h : Below w.heap.size w w') : Only S w w' := ⟨h.os, h.tape, h.output, h.size, fun b hb _ => h.block b hb⟩
theorem Blk.only (h : Blk w g t cs) (ho : Only S w w') (hg : ¬ S g) : Blk w' g t cs := (ho.same g h.lt hg).trans h
end

theorem ret1 {a c : Value} (h1 : a = c) : Ending.returned a = .returned c := by rw [h1]
theorem ret2 {a b c d : Value} (h1 : a = c) (h2 : b = d) : Ending.returned (.tuple #[a, b]) = .returned (.tuple #[c, d]) := by rw [h1, h2]
theorem ret3 {a b c d e f : Value} (h1 : a = c) (h2 : b = d) (h3 : e = f) : Ending.returned (.tuple #[a, b, e]) = .returned (.tuple #[c, d, f]) := by rw [h1, h2, h3]
theorem intv {k : IntKind} {a b : Int} (h : a = b) : Value.int k a = .int k b := by rw [h]
theorem boolv {a b : Bool} (h : a = b) : Value.bool a = .bool b := by rw [h]
theorem madeCells_one (z : Value) (n : Nat) : madeCells #[z] n = (Array.range n).map fun _ => z := by
  apply Array.ext_getElem?
  intro j
  by_cases hj : j < n
  · simp [madeCells, hj, Nat.mod_one]
  · simp [madeCells, hj]
theorem quiet_left {P : Program} {f : FuncId} {args : Array Value} {w : World} {n : Nat} {v : Value}
    (h : Calls P f args (w.drewN n) fun e w' => e = .returned v ∧ w.drewN n = w') : Calls P f args (w.drewN n) fun e w'' => e = .returned v ∧ ∃ m, w'' = w.drewN m :=
  h.mono fun _ _ ⟨he, hm⟩ => ⟨he, n, hm.symm⟩
theorem quiet_draws {P : Program} {f : FuncId} {args : Array Value} {w : World} {n : Nat} {v : Value}
    (h : Calls P f args (w.drewN n) fun e w' => e = .returned v ∧ ∃ m, (w.drewN n).drewN m = w') : Calls P f args (w.drewN n) fun e w'' => e = .returned v ∧ ∃ m, w'' = w.drewN m :=
  h.mono fun _ _ ⟨he, m, hm⟩ => ⟨he, n + m, by rw [← hm, World.drewN_drewN]⟩
theorem quiet_add_left {P : Program} {f : FuncId} {args : Array Value} {w : World} {a n : Nat} {v : Value}
    (h : Calls P f args (w.drewN (a + n)) fun e w' => e = .returned v ∧ w.drewN (a + n) = w') :
    Calls P f args (w.drewN (a + n)) fun e w'' => e = .returned v ∧ ∃ m, w'' = w.drewN (a + m) :=
  h.mono fun _ _ ⟨he, hm⟩ => ⟨he, n, hm.symm⟩
theorem quiet_add_draws {P : Program} {f : FuncId} {args : Array Value} {w : World} {a n : Nat} {v : Value}
    (h : Calls P f args (w.drewN (a + n)) fun e w' => e = .returned v ∧ ∃ m, (w.drewN (a + n)).drewN m = w') :
    Calls P f args (w.drewN (a + n)) fun e w'' => e = .returned v ∧ ∃ m, w'' = w.drewN (a + m) :=
  h.mono fun _ _ ⟨he, m, hm⟩ => ⟨he, n + m, by rw [← hm, World.drewN_drewN, Nat.add_assoc]⟩
abbrev Nobody : Nat → Prop := fun _ => False
end Go.Proofs.YtfplalgoopkmaaaGreat

namespace Go.Proofs.YtfplalgoopkmaaaGreat
open Go.RowKit

def boolArr (n : Nat) (T : Nat → Bool) : Array Value := (Array.range n).map (fun i => Value.bool (T i))
theorem boolArr_get (n : Nat) (T : Nat → Bool) (i : Nat) (h : i < n) : (boolArr n T)[i]? = some (.bool (T i)) := by simp [boolArr, h]
theorem boolArr_set (n : Nat) (T : Nat → Bool) (i : Nat) (v : Bool) : (boolArr n T).setIfInBounds i (.bool v) = boolArr n (fun j => if j = i then v else T j) := by
  apply Array.ext_getElem?
  intro j
  simp only [boolArr, Array.getElem?_setIfInBounds, Array.getElem?_map, Array.size_map, Array.size_range, Array.getElem?_range]
  by_cases hji : i = j
  · subst hji; by_cases hi : i < n <;> simp [hi]
  · have : ¬ j = i := fun e => hji e.symm
    by_cases hj : j < n <;> simp [hji, this, hj]

/-- Marks lie there: the struct in block bk, the places in block bt. -/
structure MarksAt (w : World) (bk bt n : Nat) (T : Nat → Bool) (left : Int) : Prop where
  st : Blk w bk 158 #[.slice (some ⟨bt, 0, none⟩) n n, .int .i64 left]
  pl : Blk w bt 4 (boolArr n T)
  n1 : 1 ≤ n
  le : n ≤ 256
  lb : 0 ≤ left
  lu : left ≤ 256
theorem MarksAt.ne {w : World} {bk bt n : Nat} {T : Nat → Bool} {left : Int} (h : MarksAt w bk bt n T left) : bk ≠ bt := h.st.ne_ h.pl (by decide)

set_option maxHeartbeats 400000 in
theorem index_bool (bt o k c : Nat) (T : Nat → Bool) (v : Bool) (w : World) (hk : k ≤ 256) (hc : ∀ i, i < k → w.cell? ⟨bt, o + i, none⟩ = some (.bool (T (o + i)))) :
    Calls Tryz.prog 84 #[.slice (some ⟨bt, o, none⟩) k c, .bool v] w fun e w' => e = .returned (.int .i64 (idx (fun i => T (o + i) == v) k)) ∧ w = w' := by
  have HC := Lib.hid hc
  clear hc
  go_enter Tryz.func84, Tryz.ntmps84
  go_wp2
  go_loop [5, 8] (fun _ i => ∃ j : Nat, j ≤ k ∧ i = .int .i64 j ∧ ∀ l, l < j → (T (o + l) == v) = false) (fun _ i => k - (intOf i).toNat)
  case atStart => exact ⟨0, by omega, rfl, fun l h => absurd h (by omega)⟩
  case round =>
    obtain ⟨j, hj, rfl, hno⟩ := hrel
    have HN := Lib.hid hno
    clear hno
    by_cases hlt : j < k
    · have hcj := HC.out j hlt
      cases ht : (T (o + j) == v) with
      | true =>
        have hp := idx_of (fun i => T (o + i) == v) k j hlt HN.out ht
        have HP := Lib.hid hp
        have HT := Lib.hid ht
        have ht2 : (v == T (o + j)) = true := by rw [beq_iff_eq] at ht ⊢; exact ht.symm
        clear hp ht
        go_wp2
        go_ret
        exact ⟨by rw [HP.out]; rfl, rfl⟩
      | false =>
        have HT := Lib.hid ht
        have ht2 : (v == T (o + j)) = false := by
          rw [beq_eq_false_iff_ne] at ht ⊢; exact fun e => ht e.symm
        clear ht
        go_wp2
        go_round
        case rel =>
          refine ⟨j + 1, by omega, by go_num, fun l hl => ?_⟩
          by_cases e : l = j
          · subst e; exact HT.out
          · exact HN.out l (by omega)
        case measure => simp [intOf]; omega
    · obtain rfl : j = k := by omega
      have hp := idx_no (fun i => T (o + i) == v) j HN.out
      have HP := Lib.hid hp
      clear hp
      go_wp2
      go_ret
      exact ⟨by rw [HP.out]; rfl, rfl⟩

theorem contains_bool (bt o k c : Nat) (T : Nat → Bool) (v : Bool) (w : World) (hk : k ≤ 256) (hc : ∀ i, i < k → w.cell? ⟨bt, o + i, none⟩ = some (.bool (T (o + i)))) :
    Calls Tryz.prog 105 #[.slice (some ⟨bt, o, none⟩) k c, .bool v] w fun e w' => e = .returned (.bool (anyOf (fun i => T (o + i) == v) k)) ∧ w = w' := by
  have hi := index_bool bt o k c T v w hk hc
  unfold anyOf
  generalize idx (fun i => T (o + i) == v) k = x at *
  have HI := Lib.hid hi
  clear hi hc
  go_enter Tryz.func105, Tryz.ntmps105
  go_wp2_with (go_at_call 84; refine HI.out.mono ?_; rintro e w' ⟨rfl, rfl⟩)
  go_ret
  exact ⟨rfl, rfl⟩

theorem setB_apply_out (T : Nat → Bool) (a k : Nat) (b : Bool) (i : Nat) (h : i < a ∨ a + k ≤ i) : setB T a k b i = T i := by unfold setB; rw [if_neg (by omega)]

/-- What the marks are left with. -/
def leftOf (left : Int) (k : Nat) (b : Bool) : Int := if b then left - k else left + k

set_option maxHeartbeats 1000000 in
theorem marks_set (bk bt n a k c : Nat) (T : Nat → Bool) (left : Int) (b : Bool) (w : World) (h : MarksAt w bk bt n T left) (hk : a + k ≤ n) (hl : 0 ≤ leftOf left k b ∧ leftOf left k b ≤ 256) :
    Calls Tryz.prog 86 #[.pointer (some ⟨bk, 0, none⟩), .slice (some ⟨bt, a, none⟩) k c, .bool b] w fun e w' => e = .returned (.tuple #[]) ∧ MarksAt w' bk bt n (setB T a k b) (leftOf left k b) ∧ Only (fun g => g = bk ∨ g = bt) w w' := by
  have hne := h.ne
  have hn := h.le
  have hlb := h.lb
  have hlu := h.lu
  have HM := Lib.hid h
  clear h
  have hk2 : k ≤ 256 := by omega
  go_enter Tryz.func86, Tryz.ntmps86
  go_wp2
  go_loopw [6, 9] (fun _ i wr => ∃ j : Nat, j ≤ k ∧ i = .int .i64 j ∧ Blk wr bt 4 (boolArr n (setB T a j b)) ∧ Only (fun g => g = bk ∨ g = bt) w wr ∧ Blk wr bk 158 #[.slice (some ⟨bt, 0, none⟩) n n, .int .i64 left]) (fun _ i _ => k - (intOf i).toNat)
  case atStart => exact ⟨0, by omega, rfl, by rw [setB_zero]; exact HM.out.pl, Only.refl _ _, HM.out.st⟩
  case round =>
    obtain ⟨j, hj, rfl, hb, ho, hs⟩ := hrel
    have HO := Lib.hid ho
    have HB := Lib.hid hb
    have HS := Lib.hid hs
    clear ho
    by_cases hlt : j < k
    · have hc := hb.cell (a + j)
      rw [boolArr_get _ _ _ (by omega)] at hc
      have hf := hb.frozen (a + j)
      clear hb hs
      go_wp2
      go_roundw
      case rel =>
        refine ⟨j + 1, by omega, by go_num, ?_, HO.out.setCell (fun _ => Or.inr rfl) _, HS.out.far hne _⟩
        have := HB.out.set_ (a + j) (.bool b)
        rw [boolArr_set] at this
        simp only [setB_succ] at this
        exact this
      case measure => simp [intOf]; omega
    · obtain rfl : j = k := by omega
      have hc := hs.cell
      have hf := hs.frozen
      clear hb hs
      cases b with
      | true =>
        have hl2 : 0 ≤ left - j ∧ left - j ≤ 256 := hl
        clear hl
        go_wp2
        go_end0
        refine ⟨rfl, ⟨?_, HB.out.far (fun e => hne e.symm) _, HM.out.n1, hn, hl2.1, hl2.2⟩, HO.out.setCell (fun _ => Or.inl rfl) _⟩
        exact HS.out.set_ 1 (.int .i64 (left - j))
      | false =>
        have hl2 : 0 ≤ left + j ∧ left + j ≤ 256 := hl
        clear hl
        go_wp2
        go_end0
        refine ⟨rfl, ⟨?_, HB.out.far (fun e => hne e.symm) _, HM.out.n1, hn, hl2.1, hl2.2⟩, HO.out.setCell (fun _ => Or.inl rfl) _⟩
        exact HS.out.set_ 1 (.int .i64 (left + j))

def rowBad (n a k : Nat) : Bool := decide (k < 1 ∨ n ≤ a ∨ n - a < k)

theorem row_bad (bk bt n a k : Nat) (T : Nat → Bool) (left : Int) (nt : Bool) (no : Int) (w : World) (h : MarksAt w bk bt n T left) (hb : k < 1 ∨ n ≤ a ∨ n - a < k) (ha : a ≤ 1048576) (hk : k ≤ 1048576) :
    Calls Tryz.prog 85 #[.pointer (some ⟨bk, 0, none⟩), .int .i64 a, .int .i64 k, .bool nt, .int .i64 no] w fun e w' => e = .returned (.tuple #[.slice none 0 0, .int .i64 2]) ∧ w = w' := by
  have hc := h.st.cell
  have hn := h.le
  clear h
  by_cases h1 : k < 1
  · clear hb
    go_enter Tryz.func85, Tryz.ntmps85
    go_wp2
    go_ret2
    exact ⟨rfl, rfl⟩
  · by_cases h2 : n ≤ a
    · clear hb
      go_enter Tryz.func85, Tryz.ntmps85
      go_wp2
      go_ret2
      exact ⟨rfl, rfl⟩
    · have h3 : n < a + k := by omega
      clear hb
      go_enter Tryz.func85, Tryz.ntmps85
      go_wp2
      go_ret2
      exact ⟨rfl, rfl⟩

theorem row_any (bk bt n a k : Nat) (T : Nat → Bool) (left : Int) (nt : Bool) (no : Int) (w : World) (h : MarksAt w bk bt n T left) (h1 : 1 ≤ k) (h2 : a + k ≤ n) (ht : anyOf (fun i => T (a + i) == nt) k = true) :
    Calls Tryz.prog 85 #[.pointer (some ⟨bk, 0, none⟩), .int .i64 a, .int .i64 k, .bool nt, .int .i64 no] w fun e w' => e = .returned (.tuple #[.slice none 0 0, .int .i64 no]) ∧ w = w' := by
  have hc := h.st.cell
  have hn := h.le
  have hna : ¬ n = a := by omega
  have hcon := contains_bool bt a k (n - a) T nt w (by omega) (fun i hi => by rw [h.pl.cell, boolArr_get _ _ _ (by omega)])
  rw [ht] at hcon
  have HC := Lib.hid hcon
  clear h hcon ht
  go_enter Tryz.func85, Tryz.ntmps85
  go_wp2_with (go_at_call 105; rw [show a + k - a = k from by omega]; refine HC.out.mono ?_; rintro e w' ⟨rfl, rfl⟩)
  go_ret2
  exact ⟨rfl, rfl⟩

theorem row_ok (bk bt n a k : Nat) (T : Nat → Bool) (left : Int) (nt : Bool) (no : Int) (w : World) (h : MarksAt w bk bt n T left) (h1 : 1 ≤ k) (h2 : a + k ≤ n) (ht : anyOf (fun i => T (a + i) == nt) k = false) :
    Calls Tryz.prog 85 #[.pointer (some ⟨bk, 0, none⟩), .int .i64 a, .int .i64 k, .bool nt, .int .i64 no] w fun e w' => e = .returned (.tuple #[.slice (some ⟨bt, a, none⟩) k (n - a), .int .i64 0]) ∧ w = w' := by
  have hc := h.st.cell
  have hn := h.le
  have hna : ¬ n = a := by omega
  have hcon := contains_bool bt a k (n - a) T nt w (by omega) (fun i hi => by rw [h.pl.cell, boolArr_get _ _ _ (by omega)])
  rw [ht] at hcon
  have HC := Lib.hid hcon
  clear h hcon ht
  go_enter Tryz.func85, Tryz.ntmps85
  go_wp2_with (go_at_call 105; rw [show a + k - a = k from by omega]; refine HC.out.mono ?_; rintro e w' ⟨rfl, rfl⟩)
  go_ret2
  exact ⟨ret2 (by simp) rfl, rfl⟩

/-- What Mark answers, and leaves. -/
def markErr (n : Nat) (T : Nat → Bool) (a k : Nat) : Int := if rowBad n a k then 2 else if anyOf (fun i => T (a + i) == true) k then 6 else 0
def freeErr (n : Nat) (T : Nat → Bool) (a k : Nat) : Int := if rowBad n a k then 2 else if anyOf (fun i => T (a + i) == false) k then 5 else 0

theorem marks_Mark_ok (bk bt n a k : Nat) (T : Nat → Bool) (left : Int) (w : World) (h : MarksAt w bk bt n T left) (h1 : 1 ≤ k) (h2 : a + k ≤ n) (ht : anyOf (fun i => T (a + i) == true) k = false) (hl : k ≤ left) :
    Calls Tryz.prog 63 #[.pointer (some ⟨bk, 0, none⟩), .int .i64 a, .int .i64 k] w fun e w' => e = .returned (.int .i64 0) ∧ MarksAt w' bk bt n (setB T a k true) (left - k) ∧ Only (fun g => g = bk ∨ g = bt) w w' := by
  have hr := row_ok bk bt n a k T left true 6 w h h1 h2 ht
  have hs := marks_set bk bt n a k (n - a) T left true w h h2 ⟨by unfold leftOf; simp; omega, by have := h.lu; unfold leftOf; simp; omega⟩
  have HR := Lib.hid hr
  have HS := Lib.hid hs
  clear hr hs h ht
  go_enter Tryz.func63, Tryz.ntmps63
  go_wp2_with (first | (go_at_call 85; refine HR.out.mono ?_; rintro e w' ⟨rfl, rfl⟩) | (go_at_call 86; refine HS.out.mono ?_; rintro e w1 ⟨rfl, hm, ho⟩; have HM := Lib.hid hm; have HO := Lib.hid ho; clear hm ho))
  go_ret
  exact ⟨rfl, HM.out, HO.out⟩

theorem marks_Free_ok (bk bt n a k : Nat) (T : Nat → Bool) (left : Int) (w : World) (h : MarksAt w bk bt n T left) (h1 : 1 ≤ k) (h2 : a + k ≤ n) (ht : anyOf (fun i => T (a + i) == false) k = false) (hl : left + k ≤ 256) :
    Calls Tryz.prog 187 #[.pointer (some ⟨bk, 0, none⟩), .int .i64 a, .int .i64 k] w fun e w' => e = .returned (.int .i64 0) ∧ MarksAt w' bk bt n (setB T a k false) (left + k) ∧ Only (fun g => g = bk ∨ g = bt) w w' := by
  have hr := row_ok bk bt n a k T left false 5 w h h1 h2 ht
  have hs := marks_set bk bt n a k (n - a) T left false w h h2 ⟨by have := h.lb; unfold leftOf; simp; omega, by unfold leftOf; simp; omega⟩
  have HR := Lib.hid hr
  have HS := Lib.hid hs
  clear hr hs h ht
  go_enter Tryz.func187, Tryz.ntmps187
  go_wp2_with (first | (go_at_call 85; refine HR.out.mono ?_; rintro e w' ⟨rfl, rfl⟩) | (go_at_call 86; refine HS.out.mono ?_; rintro e w1 ⟨rfl, hm, ho⟩; have HM := Lib.hid hm; have HO := Lib.hid ho; clear hm ho))
  go_ret
  exact ⟨rfl, HM.out, HO.out⟩

theorem Tryz.infoBool : (Tryz.prog.info? 4).map (fun i => (i.zero, i.size, i.bytes)) = some (some (.bool false), 1, 1) := by kernel_rfl
theorem makeBools (n : Nat) (h2 : n ≤ 256) (w : World) : (Instr.makeSlice 127 (.int .i64 (n : Int)) (.int .i64 (n : Int))).run Tryz.prog w = .ok (.slice (some ⟨w.heap.size, 0, none⟩) n n) (w.alloc (.cells (boolArr n fun _ => false) 4)) := by
  obtain ⟨i0, hi, hz0, hz1, hz2⟩ := info_parts Tryz.infoBool
  have h := run_make (P := Tryz.prog) w 127 4 i0 (.bool false) Tryz.underlying127 hi hz0 .i64 .i64 n n (by omega) (Int.le_refl _) (by rw [hz2]; omega) (by omega)
  rw [h, hz1]
  simp only [Int.toNat_natCast, Nat.mul_one]
  rw [show (Value.bool false).cells = #[.bool false] from rfl, madeCells_one]
  rfl

theorem marks_New (n : Nat) (h1 : 1 ≤ n) (h2 : n ≤ 256) (w : World) :
    Calls Tryz.prog 45 #[.int .i64 n] w fun e w' => e = .returned (.tuple #[.pointer (some ⟨w.heap.size + 1, 0, none⟩), .int .i64 0]) ∧ MarksAt w' (w.heap.size + 1) w.heap.size n (fun _ => false) n ∧ Only Nobody w w' ∧ w'.heap.size = w.heap.size + 2 := by
  have hm := fun w => makeBools n h2 w
  go_enter Tryz.func45, Tryz.ntmps45
  go_wp2
  go_ret2
  refine ⟨ret2 (by simp) rfl, ⟨?_, ?_, h1, h2, by omega, by omega⟩, ((Only.refl _ _).alloc _).alloc _, by simp⟩
  · have := Blk.new (w.alloc (.cells (boolArr n fun _ => false) 4)) 158 #[.slice (some ⟨w.heap.size, 0, none⟩) n n, .int .i64 n]
    rwa [World.size_alloc] at this
  · exact (Blk.new w 4 (boolArr n fun _ => false)).alloc _
end Go.Proofs.YtfplalgoopkmaaaGreat

namespace Go.Proofs.YtfplalgoopkmaaaGreat
open Go.RowKit

def bytesArr (n : Nat) (f : Nat → Nat) : Array Value := (Array.range n).map (fun i => Value.int .u8 (f i))
theorem bytesArr_size (n : Nat) (f : Nat → Nat) : (bytesArr n f).size = n := by simp [bytesArr]
theorem bytesArr_get (n : Nat) (f : Nat → Nat) (i : Nat) (h : i < n) : (bytesArr n f)[i]? = some (.int .u8 (f i)) := by
  simp [bytesArr, h]
theorem bytesArr_set (n : Nat) (f : Nat → Nat) (i v : Nat) : (bytesArr n f).setIfInBounds i (.int .u8 v) = bytesArr n (fun j => if j = i then v else f j) := by
  apply Array.ext_getElem?
  intro j
  simp only [bytesArr, Array.getElem?_setIfInBounds, Array.getElem?_map, Array.size_map, Array.size_range, Array.getElem?_range]
  by_cases hji : i = j
  · subst hji; by_cases hi : i < n <;> simp [hi]
  · have : ¬ j = i := fun e => hji e.symm
    by_cases hj : j < n <;> simp [hji, this, hj]

/-- A memory lies there: its struct in block bm, its bytes in block bb. -/
structure MemAt (w : World) (bm bb n : Nat) (f : Nat → Nat) : Prop where
  st : Blk w bm 122 #[.slice (some ⟨bb, 0, none⟩) n n]
  by_ : Blk w bb 5 (bytesArr n f)
  lt : ∀ i, f i < 256
  le : n ≤ 1048576

theorem MemAt.ne {w : World} {bm bb n : Nat} {f : Nat → Nat} (h : MemAt w bm bb n f) : bm ≠ bb := h.st.ne_ h.by_ (by decide)

-- Size
theorem Mem.size {bm bb n : Nat} {f : Nat → Nat} (w : World) (h : MemAt w bm bb n f) :
    Calls Tryz.prog 57 #[.pointer (some ⟨bm, 0, none⟩)] w fun e w' => e = .returned (.int .u64 n) ∧ w = w' := by
  have h0 : w.cell? ⟨bm, 0, none⟩ = some (.slice (some ⟨bb, 0, none⟩) n n) := h.st.cell 0
  have hn := h.le
  clear h
  go_enter Tryz.func57, Tryz.ntmps57
  go_wp2
  go_ret
  exact ⟨rfl, rfl⟩

theorem Mem.in_ok {bm bb n : Nat} {f : Nat → Nat} (w : World) (h : MemAt w bm bb n f) (a k : Nat) (hk : a + k ≤ n) (ha : a < n) :
    Calls Tryz.prog 43 #[.pointer (some ⟨bm, 0, none⟩), .int .u64 a, .int .u64 k] w fun e w' => e = .returned (.tuple #[.slice (some ⟨bb, a, none⟩) k (n - a : Nat), .int .i64 0]) ∧ w = w' := by
  have h0 : w.cell? ⟨bm, 0, none⟩ = some (.slice (some ⟨bb, 0, none⟩) n n) := h.st.cell 0
  have hn := h.le
  have hna : ¬ n = a := by omega
  have hs := Mem.size w h
  have Hs := Lib.hid hs
  clear h hs
  go_enter Tryz.func43, Tryz.ntmps43
  go_wp2_with (go_at_call 57; refine Hs.out.mono ?_; rintro e w' ⟨rfl, rfl⟩)
  go_ret2
  exact ⟨by simp, rfl⟩

theorem Mem.in_out {bm bb n : Nat} {f : Nat → Nat} (w : World) (h : MemAt w bm bb n f) (a k : Nat) (hk : n < a + k) (ha : a < 18446744073709551616) (hk2 : k < 18446744073709551616) :
    Calls Tryz.prog 43 #[.pointer (some ⟨bm, 0, none⟩), .int .u64 a, .int .u64 k] w fun e w' => e = .returned (.tuple #[.slice none 0 0, .int .i64 3]) ∧ w = w' := by
  have h0 : w.cell? ⟨bm, 0, none⟩ = some (.slice (some ⟨bb, 0, none⟩) n n) := h.st.cell 0
  have hn := h.le
  have hs := Mem.size w h
  have Hs := Lib.hid hs
  clear h hs
  by_cases hc : n < a
  all_goals
    go_enter Tryz.func43, Tryz.ntmps43
    go_wp2_with (go_at_call 57; refine Hs.out.mono ?_; rintro e w' ⟨rfl, rfl⟩)
    go_ret2
    exact ⟨rfl, rfl⟩

theorem st_cell (x k : Nat) : Value.int .u8 ((x : Int) / 2 ^ (8 * k) % 256) = .int .u8 ((x / 256 ^ k % 256 : Nat) : Int) := by
  congr 1
  have : (2 : Nat) ^ (8 * k) = 256 ^ k := by rw [Nat.pow_mul]
  rw [← this]
  simp

theorem Mem.may8 (w : World) : Calls Tryz.prog 219 #[.int .i64 8] w fun e w' => e = .returned (.bool true) ∧ w = w' := by
  go_enter Tryz.func219, Tryz.ntmps219
  go_wp2
  go_ret
  exact ⟨rfl, rfl⟩

set_option maxHeartbeats 1000000 in
theorem Mem.store8 {bm bb n : Nat} {f : Nat → Nat} (w : World) (h : MemAt w bm bb n f) (a x : Nat) (hk : a + 8 ≤ n) (hx : x < 18446744073709551616) :
    Calls Tryz.prog 193 #[.pointer (some ⟨bm, 0, none⟩), .int .u64 a, .int .i64 8, .int .u64 x] w fun e w' => e = .returned (.int .i64 0) ∧ Blk w' bb 5 (bytesArr n (stN f a x 8)) ∧ Only (· = bb) w w' := by
  have hn := h.le
  have hs := Mem.in_ok w h a 8 (by omega) (by omega)
  have Hs := Lib.hid hs
  have hb0 := h.by_
  have HB := Lib.hid hb0
  clear h hs hb0
  go_enter Tryz.func193, Tryz.ntmps193
  go_wp2_with (first | (go_at_call 43; refine Hs.out.mono ?_; rintro e w' ⟨rfl, rfl⟩) | (go_at_call 219; refine (Mem.may8 _).mono ?_; rintro e w' ⟨rfl, rfl⟩))
  go_loopw [11, 42] (fun _ i wr => ∃ k : Nat, k ≤ 8 ∧ i = .int .i64 k ∧ Blk wr bb 5 (bytesArr n (stN f a x k)) ∧ Only (· = bb) w wr) (fun _ i _ => 8 - (intOf i).toNat)
  case atStart => exact ⟨0, by omega, rfl, by rw [stN_zero]; exact HB.out, Only.refl _ _⟩
  case round =>
    obtain ⟨k, hk, rfl, hb, ho⟩ := hrel
    have HO := Lib.hid ho
    clear ho
    by_cases hlt : k < 8
    · have hc := hb.cell (a + k)
      rw [bytesArr_get _ _ _ (by omega)] at hc
      have hf := hb.frozen (a + k)
      have HB2 := Lib.hid hb
      clear hb HB Hs
      go_wp2
      go_roundw
      case rel =>
        refine ⟨k + 1, by omega, by go_num, ?_, ?_⟩
        · have := HB2.out.set_ (a + k) (.int .u8 ((x / 256 ^ k % 256 : Nat) : Int))
          rw [bytesArr_set] at this
          simp only [stN_succ] at this
          rw [st_cell]
          exact this
        · exact HO.out.setCell (fun _ => rfl) _
      case measure => simp [intOf]; omega
    · obtain rfl : k = 8 := by omega
      have HB2 := Lib.hid hb
      clear hb HB Hs
      go_wp2
      go_ret
      exact ⟨rfl, HB2.out, HO.out⟩
end Go.Proofs.YtfplalgoopkmaaaGreat
