/- A system anew. Conditions: none. -/
import Derived.Test.YtfplalgoopkmaaaGreatPart13

set_option linter.unusedVariables false
set_option linter.unusedSimpArgs false

namespace Go.Proofs.YtfplalgoopkmaaaGreat
open Go.RowKit

/-- A system with nothing given but the first segment, its own. -/
structure SysNew (w w' : World) (bs bm bb ba bk bt n lim : Nat) (cs : Array Value) (hp : Nat → Nat) (vr : Value) : Prop where
  blk : Blk w' bs 101 cs
  val : SysV cs 8 (sysM0 bm ba hp)
  heap : ∀ t, t < 8 → HeapAt w' (hp t) bm ba (heapNew (t + 1))
  ne : ∀ t u, t < 8 → u < 8 → hp t = hp u → t = u
  mem : MemAt w' bm bb (n * 16384) (fun _ => 0)
  arena : ArenaAt w' ba bk bt vr (.slice none 0 0) (arena1 n lim)
  only : Only Nobody w w'
  vr1 : ∀ g, vr.ownBlock = some g → w.heap.size ≤ g
  new : w.heap.size ≤ bs ∧ w.heap.size ≤ bm ∧ w.heap.size ≤ bb ∧ w.heap.size ≤ ba ∧ w.heap.size ≤ bk ∧ w.heap.size ≤ bt ∧ ∀ t, t < 8 → w.heap.size ≤ hp t

theorem ArenaAt.awayNil {w w' : World} {S : Nat → Prop} {ts : List TypeId} {ba bk bt : Nat} {vr vt : Value} {A : ArenaM} (h : ArenaAt w ba bk bt vr vt A) (ht : A.told = []) (ho : Only S w w') (hof : Of w S ts) (h0 : 129 ∉ ts) (h1 : 158 ∉ ts) (h2 : 4 ∉ ts) (h3 : 147 ∉ ts) : ArenaAt w' ba bk bt vr vt A :=
  ⟨h.st.away ho hof h0, h.marks.away ho hof h1 h2, h.rg.away ho hof h3, by have h := h.tl; rw [ht] at h ⊢; exact h.nil, h.rise, h.few, h.segs1, h.lim, h.ref, h.leq⟩
theorem ArenaAt.of {w : World} {ba bk bt : Nat} {vr vt : Value} {A : ArenaM} (h : ArenaAt w ba bk bt vr vt A) : Of w (fun g => g = ba ∨ g = bk ∨ g = bt) [129, 158, 4] :=
  (Of.one h.st).or ((Of.one h.marks.st).or (Of.one h.marks.pl))

set_option maxRecDepth 100000 in
set_option maxHeartbeats 4000000 in
theorem call_New (n lim : Nat) (h2 : 2 ≤ n) (hn : n ≤ 64) (hl1 : 1 ≤ lim) (hl : lim ≤ n) (w : World) :
    Calls Tryz.prog 19 #[.int .i64 n, .int .i64 lim] w fun e w' => ∃ bs bm bb ba bk bt cs hp vr, e = .returned (.tuple #[.pointer (some ⟨bs, 0, none⟩), .int .i64 0]) ∧ SysNew w w' bs bm bb ba bk bt n lim cs hp vr := by
  have HMN := Lib.hid (fun w => mem_New n (by omega) hn w)
  have HAN := Lib.hid (fun w => arena_New n lim (by omega) hn hl w)
  have hd1 : decide ((n : Int) < 2) = false := by rw [decide_eq_false_iff_not]; omega
  have hd2 : decide ((64 : Int) < n) = false := by rw [decide_eq_false_iff_not]; omega
  have hd3 : decide ((lim : Int) < 1) = false := by rw [decide_eq_false_iff_not]; omega
  have hd4 : decide (n < lim) = false := by rw [decide_eq_false_iff_not]; omega
  have hd5 : decide (64 < n) = false := by rw [decide_eq_false_iff_not]; omega
  go_enter Tryz.func19, Tryz.ntmps19
  go_wp2_with (first | (go_at_call 32; refine (HMN.out _).mono ?_; rintro e w1 ⟨rfl, hm, ho⟩; have HM := Lib.hid hm; have HO := Lib.hid ho; clear hm ho) | (go_at_call 33; refine (HAN.out _).mono ?_; rintro e w2 ⟨ba, bk, bt, rfl, b1, b2, b3, ha, ho⟩; have HA := Lib.hid ha; have HM2 := Lib.hid (HM.out.only ho (fun h => h) (fun h => h)); have HO2 := Lib.hid (HO.out.trans ho); have HB := Lib.hid (And.intro b1 (And.intro b2 b3)); clear b1 b2 b3 ha ho))
  have HSB := Lib.hid (Blk.new w2 101 (((Tryz.zeroCells101).setIfInBounds 0 (.pointer (some ⟨w.heap.size + 1, 0, none⟩))).setIfInBounds 1 (.pointer (some ⟨ba, 0, none⟩))))
  have HSV := Lib.hid (sys_zero (w.heap.size + 1) ba (fun _ => 0))
  have HO3 := Lib.hid (HO2.out.alloc (.cells (((Tryz.zeroCells101).setIfInBounds 0 (.pointer (some ⟨w.heap.size + 1, 0, none⟩))).setIfInBounds 1 (.pointer (some ⟨ba, 0, none⟩))) 101))
  have HO23 := Lib.hid ((Only.refl Nobody w2).alloc (.cells (((Tryz.zeroCells101).setIfInBounds 0 (.pointer (some ⟨w.heap.size + 1, 0, none⟩))).setIfInBounds 1 (.pointer (some ⟨ba, 0, none⟩))) 101))
  have HZ := Lib.hid (World.size_alloc w2 (.cells (((Tryz.zeroCells101).setIfInBounds 0 (.pointer (some ⟨w.heap.size + 1, 0, none⟩))).setIfInBounds 1 (.pointer (some ⟨ba, 0, none⟩))) 101))
  have HBS := Lib.hid HO2.out.size
  have HW1 := Lib.hid HO.out.size
  generalize w2.alloc (.cells (((Tryz.zeroCells101).setIfInBounds 0 (.pointer (some ⟨w.heap.size + 1, 0, none⟩))).setIfInBounds 1 (.pointer (some ⟨ba, 0, none⟩))) 101) = w3 at *
  generalize ((Tryz.zeroCells101).setIfInBounds 0 (.pointer (some ⟨w.heap.size + 1, 0, none⟩))).setIfInBounds 1 (.pointer (some ⟨ba, 0, none⟩)) = cs0 at *
  generalize w2.heap.size = bs at *
  go_loopw [7, 10, 50] (fun e _ i wr => ∃ (k : Nat) (cs : Array Value) (hp : Nat → Nat), i = .int .i64 k ∧ k ≤ 8 ∧ Blk wr bs 101 cs ∧ SysV cs k (sysM0 (w.heap.size + 1) ba hp) ∧ Hid (∀ t, t < k → HeapAt wr (hp t) (w.heap.size + 1) ba (heapNew (t + 1))) ∧ Hid (∀ t, t < k → hp t = bs + 1 + t) ∧ Hid (wr.heap.size = bs + 1 + k) ∧ Only (fun x => x = bs) w3 wr) (fun _ _ i _ => (8 - intOf i).toNat)
  case atStart => exact ⟨0, cs0, fun _ => 0, rfl, by omega, HSB.out, HSV.out, Lib.hid (fun t ht => absurd ht (by omega)), Lib.hid (fun t ht => absurd ht (by omega)), HZ, Only.refl _ _⟩
  case round =>
    obtain ⟨k, cs, hp, rfl, hk, hb, hv, HHP, HEQ, HSZ, ho⟩ := hrel
    have HB1 := Lib.hid hb
    have HV1 := Lib.hid hv
    have HO1 := Lib.hid ho
    clear hb hv ho
    by_cases hk8 : k = 8
    · subst hk8
      have ha := ((HA.out.awayNil rfl HO23.out Of.nobody (by decide) (by decide) (by decide) (by decide)).awayNil rfl HO1.out (Of.one HSB.out) (by decide) (by decide) (by decide) (by decide))
      have HAR := Lib.hid ha
      clear ha
      go_wp2_with (first | (go_at_call 35; refine (reserve_first ba bk bt n lim (by omega) hl1 _ HAR.out).mono ?_; rintro e w5 ⟨vr, rfl, ha, ho, hv5⟩; have HA5 := Lib.hid ha; have HO5 := Lib.hid ho; have HV5 := Lib.hid hv5; clear ha ho hv5))
      go_ret2
      have hof := HAR.out.of
      have hmm := ((HM2.out.only HO23.out (fun h => h) (fun h => h)).awayOf HO1.out (Of.one HSB.out) (by decide) (by decide)).awayOf HO5.out hof (by decide) (by decide)
      refine ⟨bs, w.heap.size + 1, w.heap.size, ba, bk, bt, cs, hp, vr, rfl, HB1.out.away HO5.out hof (by decide), HV1.out, fun t ht => (HHP.out t ht).away HO5.out hof (by decide) (by decide) (by decide), fun t u h1 h2 e => ?_, hmm, HA5.out, ?_, ?_, ?_⟩
      · rw [HEQ.out t h1, HEQ.out u h2] at e; omega
      · have hz := HBS.out
        have hb := HB.out
        have hw := HW1.out
        exact (HO3.out.trans_new HO1.out (fun b hb2 h => absurd h (by omega))).trans_new HO5.out (fun b hb2 h => absurd h (by omega))
      · intro g hg
        have h1 := HV5.out g hg
        have h2 := HO3.out.size
        have h3 := HO1.out.size
        omega
      · have hz := HBS.out
        have hb := HB.out
        have hw := HW1.out
        refine ⟨by omega, by omega, by omega, by omega, by omega, by omega, fun t ht => ?_⟩
        rw [HEQ.out t ht]; omega
    · have hlt : (k : Int) < 8 := by omega
      have hconv : IntKind.u64.wrap (k : Int) = k := IntWalk.u64_in _ (by omega)
      have hsum : IntKind.u64.wrap ((k : Int) + 1) = (k : Int) + 1 := IntWalk.u64_in _ (by omega)
      have c1 : wr.cell? ⟨bs, 134 + k, none⟩ = some (.pointer none) := (HB1.out.cell _).trans (HV1.out.hn k (Nat.le_refl _) (by omega))
      have f1 := HB1.out.frozen (134 + k)
      have hnew : ∀ w0, Calls Tryz.prog 34 #[.pointer (some ⟨w.heap.size + 1, 0, none⟩), .pointer (some ⟨ba, 0, none⟩), .int .u64 ((k : Int) + 1)] w0 fun e w' => e = .returned (.tuple #[.pointer (some ⟨w0.heap.size, 0, none⟩), .int .i64 0]) ∧ HeapAt w' w0.heap.size (w.heap.size + 1) ba (heapNew (k + 1)) ∧ Only Nobody w0 w' ∧ w'.heap.size = w0.heap.size + 1 := fun w0 => by
        have h := heap_New (w.heap.size + 1) ba (k + 1) (by omega) w0
        rw [show ((k + 1 : Nat) : Int) = (k : Int) + 1 from by omega] at h
        exact h
      have HNEW := Lib.hid hnew
      clear hnew
      go_wp2
      go_region_held3 (fun w' => w'.frozen? ⟨bs, 134 + k, none⟩ = false) (first | exact f1 | exact HC2.out.2 | exact (HB4.out.set_ _ _).frozen _) (first | (go_at_call 34; refine (HNEW.out _).mono ?_; rintro e w4 ⟨rfl, hh, ho, hz⟩; have HH4 := Lib.hid hh; have HO4 := Lib.hid (((Only.refl Nobody wr).drew).trans ho); have HZ4 := Lib.hid hz; have HB4 := Lib.hid (HB1.out.drew.only ho (fun h => h)); have HC2 := Lib.hid (And.intro ((HB4.out.cell _).trans (HV1.out.hn k (Nat.le_refl _) (by omega))) (HB4.out.frozen (134 + k))); have c4 := HC2.out.1; clear hh ho hz))
      go_wp2
      refine ⟨⟨k + 1, _, fun t => if t = k then wr.heap.size else hp t, by go_num, by omega, HB4.out.set_ _ _, HV1.out.setHeap (by omega) wr.heap.size, Lib.hid fun t ht => ?_, Lib.hid fun t ht => ?_, ?_, ?_⟩, by show (8 - intOf (Value.int IntKind.i64 ((k : Int) + 1))).toNat < (8 - intOf (Value.int IntKind.i64 (k : Int))).toNat; simp [intOf]; omega⟩
      · by_cases e : t = k
        · subst e
          dsimp only
          rw [if_pos rfl]
          exact HH4.out.away (Only.setAt (S := fun x => x = bs) (Only.refl _ _) (show bs = bs from rfl) _ _) (Of.one HB4.out) (by decide) (by decide) (by decide)
        · dsimp only
          rw [if_neg e]
          exact ((HHP.out t (by omega)).quiet HO4.out).away (Only.setAt (S := fun x => x = bs) (Only.refl _ _) (show bs = bs from rfl) _ _) (Of.one HB4.out) (by decide) (by decide) (by decide)
      · by_cases e : t = k
        · subst e; dsimp only; rw [if_pos rfl]; exact HSZ.out
        · dsimp only; rw [if_neg e]; exact HEQ.out t (by omega)
      · have h1 := HSZ.out
        have h2 := HZ4.out
        refine Lib.hid ?_
        simp
        simp at h2
        omega
      · exact Only.setAt (S := fun x => x = bs) (HO1.out.trans (HO4.out.mono (fun x h => h.elim))) (show bs = bs from rfl) _ _
end Go.Proofs.YtfplalgoopkmaaaGreat
