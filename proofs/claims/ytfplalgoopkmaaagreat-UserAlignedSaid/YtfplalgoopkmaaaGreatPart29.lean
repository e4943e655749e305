/- A call begins. The ledger's blocks are looked up. Layer 15: the ledger. Conditions: none. -/
import Derived.Test.YtfplalgoopkmaaaGreatPart28

set_option linter.unusedVariables false
set_option linter.unusedSimpArgs false

namespace Go.Proofs.YtfplalgoopkmaaaGreat
open Go.RowKit

theorem sys_Heap (A : St) (t : Nat) (ht : t < 8) (w : World) (L : Lay) (h : Rep w L A) :
    Calls Tryz.prog 69 #[ptrV L.bs, .int .i64 t] w fun e w' => e = .returned (.tuple #[ptrV (L.hp t), .int .i64 0]) ∧ w = w' := by
  obtain ⟨cs, hcs, hc⟩ := h.sysblk
  have c1 : w.cell? ⟨L.bs, 134 + t, none⟩ = some (.pointer (some ⟨L.hp t, 0, none⟩)) := (hcs.cell _).trans (hc.hp t ht)
  show Calls _ _ #[.pointer (some ⟨L.bs, 0, none⟩), .int .i64 t] w _
  generalize L.bs = bs at *
  generalize L.hp t = bh at *
  have ht2 : (t : Int) < 8 := by omega
  have ht3 : (0 : Int) ≤ t := by omega
  clear h hcs hc
  go_enter Tryz.func69, Tryz.ntmps69
  go_wp2
  go_ret2
  exact ⟨rfl, rfl⟩

abbrev callV (c : CallM) : Value := .agg #[.int .i64 c.kind, .int .u64 c.addr, .int .u64 c.n, .int .u64 c.align, .bool c.zero, .bool c.force]
/-- A call's frame anew. -/
abbrev frNew (L : Lay) (t : Nat) (c : CallM) (p : Plan) (s : ByteArray) : FrM := ⟨L.bs, 0, 0, 0, t, L.hp t, c.kind, c.addr, c.n, c.align, c.zero, c.force, p, s, .slice none 0 0, .pointer none, .pointer none, 0, 0, 0, 0⟩
def zeroPlan : Plan := ⟨0, 0, 0, 0⟩
/-- By which plan a Malloc goes; none: it may not be. -/
def mallocPlan (n al : Nat) : Option Plan := if pw2 (max al 1) = true ∧ max al 1 ≤ 1024 ∧ n ≤ 1048576 then some (planOf n (max al 1)) else none
def mallocState (o : Option Plan) : ByteArray := match o with
  | none => sRefuse
  | some p => if 0 < p.segs then sHuge else if 0 ≤ p.cls then sLocal else sFresh

theorem class_For_any (n al : Nat) (hn : n < 18446744073709551616) (hal : al < 18446744073709551616) (w : World) :
    Calls Tryz.prog 70 #[.int .u64 n, .int .u64 (max al 1 : Nat)] w fun e w' => e = .returned (.tuple #[planV ((mallocPlan n al).getD zeroPlan), .int .i64 (if (mallocPlan n al).isSome then 0 else 2)]) ∧ Only Nobody w w' := by
  unfold mallocPlan
  by_cases h : pw2 (max al 1) = true ∧ max al 1 ≤ 1024 ∧ n ≤ 1048576
  · rw [if_pos h]
    obtain ⟨h1, h2, h3⟩ := h
    rcases Nat.eq_zero_or_pos n with e | e
    · subst e; exact class_For_zero _ h2 h1 w
    · exact class_For_ok n _ e h3 h2 h1 w
  · rw [if_neg h]
    refine class_For_bad n _ hn (by omega) ?_ w
    by_cases h1 : pw2 (max al 1) = true
    · by_cases h2 : max al 1 ≤ 1024
      · right; right
        have : ¬ n ≤ 1048576 := fun h3 => h ⟨h1, h2, h3⟩
        omega
      · right; left; omega
    · left; simpa using h1

set_option maxRecDepth 100000 in
set_option maxHeartbeats 2000000 in
theorem sys_Begin_malloc (A : St) (t : Nat) (c : CallM) (ht : t < 8) (hk : c.kind = 1) (hn : c.n < 18446744073709551616) (hal : c.align < 18446744073709551616) (w : World) (L : Lay) (h : Rep w L A) :
    Calls Tryz.prog 51 #[ptrV L.bs, .int .i64 t, callV c] w fun e w' => ∃ bf, e = .returned (.tuple #[ptrV bf, .int .i64 0]) ∧ w.heap.size ≤ bf ∧ FrAt w' bf (frNew L t c ((mallocPlan c.n c.align).getD zeroPlan) (mallocState (mallocPlan c.n c.align))) ∧ Only Nobody w w' := by
  have HHP : Hid (∀ w1, Only Nobody w w1 → Calls Tryz.prog 69 #[.pointer (some ⟨L.bs, 0, none⟩), .int .i64 t] w1 fun e w' => e = .returned (.tuple #[.pointer (some ⟨L.hp t, 0, none⟩), .int .i64 0]) ∧ w1 = w') := Lib.hid fun w1 ho => sys_Heap A t ht w1 L (h.quiet ho)
  have HFOR := Lib.hid (class_For_any c.n c.align hn hal)
  show Calls _ _ #[.pointer (some ⟨L.bs, 0, none⟩), .int .i64 t, callV c] w _
  unfold frNew
  generalize L.bs = bs at *
  generalize L.hp t = bh at *
  obtain ⟨kind, addr, n, align, zero, force⟩ := c
  dsimp only at hk hn hal HFOR ⊢
  subst hk
  have hmx : (if (align : Int) < 1 then (1 : Int) else align) = ((max align 1 : Nat) : Int) := by split <;> omega
  clear h
  have hb2 : Blk ((w.alloc (.cells #[.int .i64 1, .int .u64 addr, .int .u64 n, .int .u64 align, .bool zero, .bool force] 50)).alloc (.cells (frV ⟨bs, 0, 0, 0, t, bh, 1, addr, n, align, zero, force, ⟨0, 0, 0, 0⟩, ⟨#[]⟩, .slice none 0 0, .pointer none, .pointer none, 0, 0, 0, 0⟩) 174)) (w.heap.size + 1) 174 (frV ⟨bs, 0, 0, 0, t, bh, 1, addr, n, align, zero, force, ⟨0, 0, 0, 0⟩, ⟨#[]⟩, .slice none 0 0, .pointer none, .pointer none, 0, 0, 0, 0⟩) := by
    have := Blk.new (w.alloc (.cells #[.int .i64 1, .int .u64 addr, .int .u64 n, .int .u64 align, .bool zero, .bool force] 50)) 174 (frV ⟨bs, 0, 0, 0, t, bh, 1, addr, n, align, zero, force, ⟨0, 0, 0, 0⟩, ⟨#[]⟩, .slice none 0 0, .pointer none, .pointer none, 0, 0, 0, 0⟩)
    rw [World.size_alloc] at this
    exact this
  have HB2 := Lib.hid hb2
  have HO2 := Lib.hid (((Only.refl Nobody w).alloc (.cells #[.int .i64 1, .int .u64 addr, .int .u64 n, .int .u64 align, .bool zero, .bool force] 50)).alloc (.cells (frV ⟨bs, 0, 0, 0, t, bh, 1, addr, n, align, zero, force, ⟨0, 0, 0, 0⟩, ⟨#[]⟩, .slice none 0 0, .pointer none, .pointer none, 0, 0, 0, 0⟩) 174))
  clear hb2
  cases hpl : mallocPlan n align with
  | none =>
    rw [hpl] at HFOR
    simp only [Option.getD_none, Option.isSome_none] at HFOR
    go_enter Tryz.func51, Tryz.ntmps51
    go_wp2_with (first | (go_at_call 69; refine (HHP.out _ ((Only.refl _ w).alloc _)).mono ?_; rintro e w1 ⟨rfl, rfl⟩) | (go_at_call 70; (try rw [hmx]); refine (HFOR.out _).mono ?_; rintro e w3 ⟨rfl, ho⟩; have HB3 := Lib.hid (HB2.out.only ho (fun h => h)); have HO3 := Lib.hid (HO2.out.trans ho); have c12 := HB3.out.cell 12; have c13 := HB3.out.cell 13; have c14 := HB3.out.cell 14; have c15 := HB3.out.cell 15; have c16 := HB3.out.cell 16; have f12 := HB3.out.frozen 12; have f13 := HB3.out.frozen 13; have f14 := HB3.out.frozen 14; have f15 := HB3.out.frozen 15; have f16 := HB3.out.frozen 16; clear ho))
    go_ret2
    refine ⟨w.heap.size + 1, rfl, by omega, ((((HB3.out.set_ 12 _).set_ 13 _).set_ 14 _).set_ 15 _).set_ 16 _, ?_⟩
    exact ((((HO3.out.setNew (p := ⟨w.heap.size + 1, 12, none⟩) (by show _ ≤ w.heap.size + 1; omega) _).setNew (p := ⟨w.heap.size + 1, 13, none⟩) (by show _ ≤ w.heap.size + 1; omega) _).setNew (p := ⟨w.heap.size + 1, 14, none⟩) (by show _ ≤ w.heap.size + 1; omega) _).setNew (p := ⟨w.heap.size + 1, 15, none⟩) (by show _ ≤ w.heap.size + 1; omega) _).setNew (p := ⟨w.heap.size + 1, 16, none⟩) (by show _ ≤ w.heap.size + 1; omega) _
  | some p =>
    rw [hpl] at HFOR
    simp only [Option.getD_some, Option.isSome_some, if_true] at HFOR
    obtain ⟨cls, slices, segs, usable⟩ := p
    have HFI := Lib.hid (fun wx h => fr_first (w.heap.size + 1) ⟨bs, 0, 0, 0, t, bh, 1, addr, n, align, zero, force, ⟨cls, slices, segs, usable⟩, ⟨#[]⟩, .slice none 0 0, .pointer none, .pointer none, 0, 0, 0, 0⟩ wx h)
    by_cases hs : 0 < segs
    · have e0 : mallocState (some ⟨cls, slices, segs, usable⟩) = sHuge := by unfold mallocState; dsimp only; rw [if_pos hs]
      rw [e0]
      clear HFI
      go_enter Tryz.func51, Tryz.ntmps51
      go_wp2_with (first | (go_at_call 69; refine (HHP.out _ ((Only.refl _ w).alloc _)).mono ?_; rintro e w1 ⟨rfl, rfl⟩) | (go_at_call 70; (try rw [hmx]); refine (HFOR.out _).mono ?_; rintro e w3 ⟨rfl, ho⟩; have HB3 := Lib.hid (HB2.out.only ho (fun h => h)); have HO3 := Lib.hid (HO2.out.trans ho); have c12 := HB3.out.cell 12; have c13 := HB3.out.cell 13; have c14 := HB3.out.cell 14; have c15 := HB3.out.cell 15; have c16 := HB3.out.cell 16; have f12 := HB3.out.frozen 12; have f13 := HB3.out.frozen 13; have f14 := HB3.out.frozen 14; have f15 := HB3.out.frozen 15; have f16 := HB3.out.frozen 16; clear ho))
      go_ret2
      refine ⟨w.heap.size + 1, rfl, by omega, ((((HB3.out.set_ 12 _).set_ 13 _).set_ 14 _).set_ 15 _).set_ 16 _, ?_⟩
      exact ((((HO3.out.setNew (p := ⟨w.heap.size + 1, 12, none⟩) (by show _ ≤ w.heap.size + 1; omega) _).setNew (p := ⟨w.heap.size + 1, 13, none⟩) (by show _ ≤ w.heap.size + 1; omega) _).setNew (p := ⟨w.heap.size + 1, 14, none⟩) (by show _ ≤ w.heap.size + 1; omega) _).setNew (p := ⟨w.heap.size + 1, 15, none⟩) (by show _ ≤ w.heap.size + 1; omega) _).setNew (p := ⟨w.heap.size + 1, 16, none⟩) (by show _ ≤ w.heap.size + 1; omega) _
    · have e0 : mallocState (some ⟨cls, slices, segs, usable⟩) = if 0 ≤ cls then sLocal else sFresh := by unfold mallocState; dsimp only; rw [if_neg hs]
      rw [e0]
      dsimp only at HFI
      clear e0
      generalize hq : (if 0 ≤ cls then sLocal else sFresh) = q at *
      clear hq
      go_enter Tryz.func51, Tryz.ntmps51
      go_wp2_with (first | (go_at_call 69; refine (HHP.out _ ((Only.refl _ w).alloc _)).mono ?_; rintro e w1 ⟨rfl, rfl⟩) | (go_at_call 70; (try rw [hmx]); refine (HFOR.out _).mono ?_; rintro e w3 ⟨rfl, ho⟩; have HB3 := Lib.hid (HB2.out.only ho (fun h => h)); have HO3 := Lib.hid (HO2.out.trans ho); have c12 := HB3.out.cell 12; have c13 := HB3.out.cell 13; have c14 := HB3.out.cell 14; have c15 := HB3.out.cell 15; have c16 := HB3.out.cell 16; have f12 := HB3.out.frozen 12; have f13 := HB3.out.frozen 13; have f14 := HB3.out.frozen 14; have f15 := HB3.out.frozen 15; have f16 := HB3.out.frozen 16; have HB4 := Lib.hid ((((HB3.out.set_ 12 (.int .i64 cls)).set_ 13 (.int .i64 slices)).set_ 14 (.int .i64 segs)).set_ 15 (.int .u64 usable)); clear ho) | (go_at_call 71; refine (HFI.out _ HB4.out).mono ?_; rintro e w5 ⟨rfl, rfl⟩))
      go_ret2
      refine ⟨w.heap.size + 1, rfl, by omega, ((((HB3.out.set_ 12 _).set_ 13 _).set_ 14 _).set_ 15 _).set_ 16 _, ?_⟩
      exact ((((HO3.out.setNew (p := ⟨w.heap.size + 1, 12, none⟩) (by show _ ≤ w.heap.size + 1; omega) _).setNew (p := ⟨w.heap.size + 1, 13, none⟩) (by show _ ≤ w.heap.size + 1; omega) _).setNew (p := ⟨w.heap.size + 1, 14, none⟩) (by show _ ≤ w.heap.size + 1; omega) _).setNew (p := ⟨w.heap.size + 1, 15, none⟩) (by show _ ≤ w.heap.size + 1; omega) _).setNew (p := ⟨w.heap.size + 1, 16, none⟩) (by show _ ≤ w.heap.size + 1; omega) _

set_option maxRecDepth 100000 in
set_option maxHeartbeats 2000000 in
theorem sys_Begin_free (A : St) (t : Nat) (c : CallM) (ht : t < 8) (hk : c.kind = 2) (w : World) (L : Lay) (h : Rep w L A) :
    Calls Tryz.prog 51 #[ptrV L.bs, .int .i64 t, callV c] w fun e w' => ∃ bf, e = .returned (.tuple #[ptrV bf, .int .i64 0]) ∧ w.heap.size ≤ bf ∧ FrAt w' bf (frNew L t c zeroPlan sFind) ∧ Only Nobody w w' := by
  have HHP : Hid (∀ w1, Only Nobody w w1 → Calls Tryz.prog 69 #[.pointer (some ⟨L.bs, 0, none⟩), .int .i64 t] w1 fun e w' => e = .returned (.tuple #[.pointer (some ⟨L.hp t, 0, none⟩), .int .i64 0]) ∧ w1 = w') := Lib.hid fun w1 ho => sys_Heap A t ht w1 L (h.quiet ho)
  show Calls _ _ #[.pointer (some ⟨L.bs, 0, none⟩), .int .i64 t, callV c] w _
  unfold frNew zeroPlan
  generalize L.bs = bs at *
  generalize L.hp t = bh at *
  obtain ⟨kind, addr, n, align, zero, force⟩ := c
  dsimp only at hk ⊢
  subst hk
  clear h
  have hb2 : Blk ((w.alloc (.cells #[.int .i64 2, .int .u64 addr, .int .u64 n, .int .u64 align, .bool zero, .bool force] 50)).alloc (.cells (frV ⟨bs, 0, 0, 0, t, bh, 2, addr, n, align, zero, force, ⟨0, 0, 0, 0⟩, sFind, .slice none 0 0, .pointer none, .pointer none, 0, 0, 0, 0⟩) 174)) (w.heap.size + 1) 174 (frV ⟨bs, 0, 0, 0, t, bh, 2, addr, n, align, zero, force, ⟨0, 0, 0, 0⟩, sFind, .slice none 0 0, .pointer none, .pointer none, 0, 0, 0, 0⟩) := by
    have := Blk.new (w.alloc (.cells #[.int .i64 2, .int .u64 addr, .int .u64 n, .int .u64 align, .bool zero, .bool force] 50)) 174 (frV ⟨bs, 0, 0, 0, t, bh, 2, addr, n, align, zero, force, ⟨0, 0, 0, 0⟩, sFind, .slice none 0 0, .pointer none, .pointer none, 0, 0, 0, 0⟩)
    rw [World.size_alloc] at this
    exact this
  have HB2 := Lib.hid hb2
  have HO2 := Lib.hid (((Only.refl Nobody w).alloc (.cells #[.int .i64 2, .int .u64 addr, .int .u64 n, .int .u64 align, .bool zero, .bool force] 50)).alloc (.cells (frV ⟨bs, 0, 0, 0, t, bh, 2, addr, n, align, zero, force, ⟨0, 0, 0, 0⟩, sFind, .slice none 0 0, .pointer none, .pointer none, 0, 0, 0, 0⟩) 174))
  clear hb2
  go_enter Tryz.func51, Tryz.ntmps51
  go_wp2_with (go_at_call 69; refine (HHP.out _ ((Only.refl _ w).alloc _)).mono ?_; rintro e w1 ⟨rfl, rfl⟩)
  go_ret2
  exact ⟨w.heap.size + 1, rfl, by omega, HB2.out, HO2.out⟩
end Go.Proofs.YtfplalgoopkmaaaGreat

namespace Go.Proofs.YtfplalgoopkmaaaGreat
open Go.RowKit

/-- Address and length. -/
abbrev entKey (e : Ent) : Nat × Nat := (e.addr, e.n)

theorem cmp_u64 (x y : Nat) (w : World) :
    Calls Tryz.prog 82 #[.int .u64 x, .int .u64 y] w fun e w' => e = .returned (.int .i64 (cmpI x y)) ∧ w = w' := by
  unfold cmpI
  by_cases h1 : (x : Int) < y
  · rw [if_pos h1]
    go_enter Tryz.func82, Tryz.ntmps82
    go_wp2
    go_ret
    exact ⟨rfl, rfl⟩
  · rw [if_neg h1]
    by_cases h2 : (y : Int) < x
    · rw [if_pos h2]
      go_enter Tryz.func82, Tryz.ntmps82
      go_wp2
      go_ret
      exact ⟨rfl, rfl⟩
    · rw [if_neg h2]
      go_enter Tryz.func82, Tryz.ntmps82
      go_wp2
      go_ret
      exact ⟨rfl, rfl⟩

theorem place_cmp (a n al : Nat) (h : Bool) (x : Nat) (w : World) :
    Calls Tryz.prog 81 #[.agg #[.int .u64 a, .int .u64 n, .int .u64 al, .bool h], .int .u64 x] w fun e w' => e = .returned (.int .i64 (cmpI a x)) ∧ Only Nobody w w' := by
  go_enter Tryz.func81, Tryz.ntmps81
  go_wp2_with (go_at_call 82; refine (cmp_u64 _ _ _).mono ?_; rintro e w1 ⟨rfl, rfl⟩)
  go_ret
  exact ⟨rfl, (Only.refl _ _).alloc _⟩

set_option maxHeartbeats 1000000 in
theorem search_ents (br n c x : Nat) (le : List Ent) (w : World) (hx64 : x < 18446744073709551616) (hn : le.length = n) (hn2 : n ≤ 1000) (hrise : Rising (le.map entKey))
    (h0 : ∀ i e, le[i]? = some e → w.cell? ⟨br, i * 4, none⟩ = some (.int .u64 e.addr) ∧ w.cell? ⟨br, i * 4 + 1, none⟩ = some (.int .u64 e.n) ∧ w.cell? ⟨br, i * 4 + 2, none⟩ = some (.int .u64 e.align) ∧ w.cell? ⟨br, i * 4 + 3, none⟩ = some (.bool e.held)) (hbr : br < w.heap.size) :
    Calls Tryz.prog 80 #[.slice (some ⟨br, 0, none⟩) n c, .int .u64 x, .func (.func 81) #[] #[]] w fun e w' =>
      e = .returned (.tuple #[.int .i64 (regIx (le.map entKey) x), .bool (regHas (le.map entKey) x)]) ∧ Only Nobody w w' := by
  have H0 := Lib.hid h0
  obtain ⟨l, hl⟩ : ∃ l, l = le.map entKey := ⟨_, rfl⟩
  rw [← hl] at hrise ⊢
  have HL : Hid (∀ i, i < n → ∃ e, le[i]? = some e ∧ l[i]? = some (entKey e)) := Lib.hid fun i hi => ⟨le[i]'(by omega), List.getElem?_eq_getElem (by omega), by rw [hl, List.getElem?_map, List.getElem?_eq_getElem (by omega)]; rfl⟩
  have hn : l.length = n := by rw [hl, List.length_map]; exact hn
  clear hl
  have HN := Lib.hid hn
  have HR := Lib.hid hrise
  clear h0 hn hrise
  go_enter Tryz.func80, Tryz.ntmps80
  go_wp2
  go_loopw [9, 10, 11] (fun i j _ wr => ∃ lo hi : Nat, i = .int .i64 lo ∧ j = .int .i64 hi ∧ lo ≤ hi ∧ hi ≤ n ∧ Hid ((∀ k, k < lo → ∀ r, l[k]? = some r → r.1 < x) ∧ (∀ k, hi ≤ k → ∀ r, l[k]? = some r → x ≤ r.1)) ∧ Only Nobody w wr) (fun i j _ _ => ((intOf j) - (intOf i)).toNat)
  case atStart => exact ⟨0, n, rfl, rfl, by omega, by omega, ⟨fun k hk => absurd hk (by omega), fun k hk r hr => by have := HN.out; rw [List.getElem?_eq_none (by omega)] at hr; cases hr⟩, Only.refl _ _⟩
  case round =>
    obtain ⟨lo, hi, rfl, rfl, hle, hhi, hinv, ho⟩ := hrel
    have HO := Lib.hid ho
    clear ho
    by_cases hlt : lo < hi
    · obtain ⟨m, hm⟩ : ∃ m, m = (lo + hi) / 2 := ⟨_, rfl⟩
      have hm1 : lo ≤ m := by omega
      have hm2 : m < hi := by omega
      have hme : ((lo : Int) + hi) / 2 = m := by omega
      obtain ⟨⟨ra, rn, rg, rh⟩, hre, hr⟩ := HL.out m (by omega)
      have hc := H0.out m _ hre; dsimp only [entKey] at hr hc
      have hc1 := (World.cell?_of_block (a := ⟨br, m * 4, none⟩) (HO.out.same br hbr (fun h => h))).trans hc.1
      have hc2 := (World.cell?_of_block (a := ⟨br, m * 4 + 1, none⟩) (HO.out.same br hbr (fun h => h))).trans hc.2.1
      have hc3 := (World.cell?_of_block (a := ⟨br, m * 4 + 2, none⟩) (HO.out.same br hbr (fun h => h))).trans hc.2.2.1
      have hc4 := (World.cell?_of_block (a := ⟨br, m * 4 + 3, none⟩) (HO.out.same br hbr (fun h => h))).trans hc.2.2.2
      have HR2 := Lib.hid hr
      have HM := Lib.hid hm
      clear hr hre hm hc
      have hcall := fun w => place_cmp ra rn rg rh x w
      by_cases hx : ra < x
      · have hv : cmpI ra x = -1 := by unfold cmpI; rw [if_pos (by omega)]
        rw [hv] at hcall
        have HCA := Lib.hid hcall
        clear hcall hv
        go_wp2_with (go_at_call 81; refine (HCA.out _).mono ?_; rintro e w1 ⟨rfl, ho⟩; have HO2 := Lib.hid ho; clear ho)
        go_roundw
        case rel =>
          refine ⟨m + 1, hi, by go_num, rfl, by omega, hhi, ⟨fun k hk r hrk => ?_, hinv.out.2⟩, HO.out.trans HO2.out⟩
          exact rising_le HR.out HR2.out hrk (by omega) hx
        case measure => simp [intOf]; omega
      · have hv : ¬ cmpI ra x < 0 := by unfold cmpI; rw [if_neg (by omega)]; split <;> omega
        have hv2 : (0 : Int) ≤ cmpI ra x := by omega
        generalize cmpI (ra : Int) x = cv at *
        have HCA := Lib.hid hcall
        clear hcall hv
        go_wp2_with (go_at_call 81; refine (HCA.out _).mono ?_; rintro e w1 ⟨rfl, ho⟩; have HO2 := Lib.hid ho; clear ho)
        go_roundw
        case rel =>
          refine ⟨lo, m, rfl, rfl, by omega, by omega, ⟨hinv.out.1, fun k hk r hrk => ?_⟩, HO.out.trans HO2.out⟩
          exact rising_ge HR.out HR2.out hrk hk (by omega)
        case measure => simp [intOf]; omega
    · obtain rfl : lo = hi := by omega
      have hix := regIx_of l x lo (by have := HN.out; omega) (fun i hi r hr => hinv.out.1 i hi r hr) (fun r hr => hinv.out.2 lo (Nat.le_refl _) r hr)
      by_cases hlast : lo < n
      · obtain ⟨⟨ra, rn, rg, rh⟩, hre, hr⟩ := HL.out lo (by omega)
        have hc := H0.out lo _ hre; dsimp only [entKey] at hr hc
        have hc1 := (World.cell?_of_block (a := ⟨br, lo * 4, none⟩) (HO.out.same br hbr (fun h => h))).trans hc.1
        have hc2 := (World.cell?_of_block (a := ⟨br, lo * 4 + 1, none⟩) (HO.out.same br hbr (fun h => h))).trans hc.2.1
        have hc3 := (World.cell?_of_block (a := ⟨br, lo * 4 + 2, none⟩) (HO.out.same br hbr (fun h => h))).trans hc.2.2.1
        have hc4 := (World.cell?_of_block (a := ⟨br, lo * 4 + 3, none⟩) (HO.out.same br hbr (fun h => h))).trans hc.2.2.2
        have hhas : regHas l x = decide (ra = x) := by unfold regHas; rw [hix, hr]
        have HIX := Lib.hid hix
        have HHAS := Lib.hid hhas
        clear hix hhas
        have hcall := fun w => place_cmp ra rn rg rh x w
        by_cases hx : ra = x
        · have hv : cmpI ra x = 0 := by unfold cmpI; rw [if_neg (by omega), if_neg (by omega)]
          rw [hv] at hcall
          have HX := Lib.hid hx
          have HCA := Lib.hid hcall
          clear hcall hv hc hr hre hx
          go_wp2_with (go_at_call 81; refine (HCA.out _).mono ?_; rintro e w1 ⟨rfl, ho⟩; have HO2 := Lib.hid ho; clear ho)
          go_ret2
          exact ⟨ret2 (intv (by rw [HIX.out])) (boolv (by rw [HHAS.out, decide_eq_true HX.out])), HO.out.trans HO2.out⟩
        · have hv : (cmpI (ra : Int) x == 0) = false := by
            rw [beq_eq_false_iff_ne]; unfold cmpI; split <;> (try split) <;> omega
          have HX := Lib.hid hx
          generalize cmpI (ra : Int) x = cv at *
          have HCA := Lib.hid hcall
          clear hcall hc hr hre hx
          go_wp2_with (go_at_call 81; refine (HCA.out _).mono ?_; rintro e w1 ⟨rfl, ho⟩; have HO2 := Lib.hid ho; clear ho)
          go_ret2
          exact ⟨ret2 (intv (by rw [HIX.out])) (boolv (by rw [HHAS.out, decide_eq_false HX.out])), HO.out.trans HO2.out⟩
      · have hhas : regHas l x = false := by unfold regHas; rw [hix, List.getElem?_eq_none (by have := HN.out; omega)]
        have HIX := Lib.hid hix
        have HHAS := Lib.hid hhas
        clear hix hhas
        go_wp2
        go_ret2
        exact ⟨ret2 (intv (by rw [HIX.out])) (boolv (by rw [HHAS.out])), HO.out⟩
end Go.Proofs.YtfplalgoopkmaaaGreat

namespace Go.Proofs.YtfplalgoopkmaaaGreat
open Go.RowKit

/-- Behind all that a block takes. -/
abbrev entEnd (e : Ent) : Nat := e.addr + max e.n 1

theorem search_ents_nil (x : Nat) (w : World) :
    Calls Tryz.prog 80 #[.slice none 0 0, .int .u64 x, .func (.func 81) #[] #[]] w fun e w' =>
      e = .returned (.tuple #[.int .i64 0, .bool false]) ∧ w = w' := by
  go_enter Tryz.func80, Tryz.ntmps80
  go_wp2
  refine wp_loop_rounds 1 ?_
  rw [rounds_succ]
  go_wp2
  go_ret2
  exact ⟨rfl, rfl⟩

theorem entCells_at (l : List Ent) : ∀ i e, l[i]? = some e → (l.flatMap entCells)[i * 4]? = some (.int .u64 e.addr) ∧ (l.flatMap entCells)[i * 4 + 1]? = some (.int .u64 e.n) ∧ (l.flatMap entCells)[i * 4 + 2]? = some (.int .u64 e.align) ∧ (l.flatMap entCells)[i * 4 + 3]? = some (.bool e.held) := by
  induction l with
  | nil => intro i r h; simp at h
  | cons x l ih =>
    intro i r h
    cases i with
    | zero => simp at h; subst h; exact ⟨rfl, rfl, rfl, rfl⟩
    | succ i =>
      have := ih i r (by simpa using h)
      have e (k : Nat) : (List.flatMap entCells (x :: l))[(i + 1) * 4 + k]? = (l.flatMap entCells)[i * 4 + k]? := by
        rw [List.flatMap_cons, List.getElem?_append_right (by simp; omega)]
        congr 1
        simp; omega
      exact ⟨(e 0).trans this.1, (e 1).trans this.2.1, (e 2).trans this.2.2.1, (e 3).trans this.2.2.2⟩
theorem entCells_all (l : List Ent) : ∀ u ∈ l.flatMap entCells, Value.oneCell' u = true := by
  intro u hu
  obtain ⟨r, _, hr⟩ := List.mem_flatMap.1 hu
  simp [entCells] at hr
  rcases hr with rfl | rfl | rfl | rfl <;> rfl

/-- The ledger, in a world. -/
structure LedAt (w : World) (bw : Nat) (vl : Value) (l : List Ent) : Prop where
  st : ∃ cs, Blk w bw 57 cs ∧ cs[0]? = some vl
  row : RowAt w 79 4 vl l.length (l.flatMap entCells)
  rise : Rising (l.map entKey)
  few : l.length ≤ 990
theorem LedAt.quiet {w w' : World} {bw : Nat} {vl : Value} {l : List Ent} (h : LedAt w bw vl l) (ho : Only Nobody w w') : LedAt w' bw vl l :=
  ⟨h.st.imp fun _ hb => ⟨hb.1.only ho (fun h => h), hb.2⟩, RowAt.only h.row ho (fun _ _ h => h), h.rise, h.few⟩
theorem LedAt.cell {w : World} {bw : Nat} {vl : Value} {l : List Ent} (h : LedAt w bw vl l) : w.cell? ⟨bw, 0, none⟩ = some vl := by
  obtain ⟨cs, hb, h0⟩ := h.st
  exact (hb.cell 0).trans h0
theorem LedAt.ent {w : World} {bw n c g : Nat} {l : List Ent} (h : LedAt w bw (.slice (some ⟨g, 0, none⟩) n c) l) (i : Nat) (e : Ent) (hi : l[i]? = some e) :
    w.cell? ⟨g, i * 4, none⟩ = some (.int .u64 e.addr) ∧ w.cell? ⟨g, i * 4 + 1, none⟩ = some (.int .u64 e.n) ∧ w.cell? ⟨g, i * 4 + 2, none⟩ = some (.int .u64 e.align) ∧ w.cell? ⟨g, i * 4 + 3, none⟩ = some (.bool e.held) := by
  have := entCells_at l i e hi
  exact ⟨row_cell h.row rfl this.1, row_cell h.row rfl this.2.1, row_cell h.row rfl this.2.2.1, row_cell h.row rfl this.2.2.2⟩

theorem ledger_place (bw x : Nat) (vl : Value) (l : List Ent) (w : World) (hx : x < 18446744073709551616) (h : LedAt w bw vl l) :
    Calls Tryz.prog 58 #[.pointer (some ⟨bw, 0, none⟩), .int .u64 x] w fun e w' => e = .returned (.tuple #[.int .i64 (regIx (l.map entKey) x), .bool (regHas (l.map entKey) x)]) ∧ Only Nobody w w' := by
  have hc := h.cell
  rcases h.row.2 with ⟨rfl, hl⟩ | ⟨g, cap, cur, rfl, _, hh, _, _, _, hcur⟩
  · obtain rfl := List.eq_nil_of_length_eq_zero hl
    clear h
    go_enter Tryz.func58, Tryz.ntmps58
    go_wp2_with (go_at_call 80; refine (search_ents_nil _ _).mono ?_; rintro e w1 ⟨rfl, rfl⟩)
    go_ret2
    exact ⟨rfl, Only.refl _ _⟩
  · have HS := Lib.hid (search_ents g l.length cap x l w hx rfl (by have := h.few; omega) h.rise (fun i r hir => h.ent i r hir) (Blk.lt (t := 79) hh))
    clear hh hcur h
    go_enter Tryz.func58, Tryz.ntmps58
    go_wp2_with (go_at_call 80; refine HS.out.mono ?_; rintro e w1 ⟨rfl, ho⟩; have HO := Lib.hid ho; clear ho)
    go_ret2
    exact ⟨rfl, HO.out⟩

theorem entry_end (a n al : Nat) (h : Bool) (ha : a + max n 1 < 18446744073709551616) (w : World) :
    Calls Tryz.prog 59 #[.agg #[.int .u64 a, .int .u64 n, .int .u64 al, .bool h]] w fun e w' => e = .returned (.int .u64 (a + max n 1 : Nat)) ∧ Only Nobody w w' := by
  have hm : (if (n : Int) < 1 then (1 : Int) else n) = ((max n 1 : Nat) : Int) := by split <;> omega
  go_enter Tryz.func59, Tryz.ntmps59
  go_wp2
  go_ret
  exact ⟨rfl, (Only.refl _ _).alloc _⟩

theorem ledger_may (a n al : Nat) (hn : n ≤ 1048576) (ha : a ≤ 1048576) (he : a + max n 1 ≤ 1048576) (hp : pw2 al = true) (hal : al ≤ 1024) (hd : a &&& (al - 1) = 0) (w : World) :
    Calls Tryz.prog 133 #[.agg #[.int .u64 a, .int .u64 n, .int .u64 al]] w fun e w' => e = .returned (.bool true) ∧ Only Nobody w w' := by
  have HP := Lib.hid (fun w => pow2_calls al (by omega) w)
  rw [hp] at HP
  have HE := Lib.hid (fun w => entry_end a n al false (by omega) w)
  generalize he2 : a + max n 1 = en at *
  have b1 : decide ((n : Int) ≤ 1048576) = true := by rw [decide_eq_true_iff]; omega
  have b2 : decide ((a : Int) ≤ 1048576) = true := by rw [decide_eq_true_iff]; omega
  have b3 : decide ((en : Int) ≤ 1048576) = true := by rw [decide_eq_true_iff]; omega
  have b4 : decide ((al : Int) ≤ 1024) = true := by rw [decide_eq_true_iff]; omega
  have hal1 := pw2_pos hp
  have h5 : IntKind.u64.wrap ((al : Int) - 1) = ((al - 1 : Nat) : Int) := by rw [Int.ofNat_sub hal1]; unfold IntKind.wrap; simp [IntKind.bits]; omega
  have h6 : (bits .and .u64 (a : Int) ((al - 1 : Nat) : Int) == 0) = true := by
    rw [and_u64 a (al - 1) (by omega) (by omega), hd]; rfl
  have hal3 : (al : Int) - 1 < 18446744073709551616 := by omega
  have hal4 : (0 : Int) ≤ (al : Int) - 1 := by omega
  have HB := Lib.hid (Blk.new w 61 #[.int .u64 a, .int .u64 n, .int .u64 al])
  clear hn ha he hal hd he2
  go_enter Tryz.func133, Tryz.ntmps133
  go_wp2_with (first | (go_at_call 89; refine (HP.out _).mono ?_; rintro e w1 ⟨rfl, rfl⟩) | (go_at_call 59; refine (HE.out _).mono ?_; rintro e w1 ⟨rfl, ho⟩; have HO := Lib.hid ho; have d0 := (HB.out.only ho (fun h => h)).cell 0; have d2 := (HB.out.only ho (fun h => h)).cell 2; clear ho))
  go_ret
  exact ⟨rfl, ((Only.refl _ _).alloc _).trans HO.out⟩
end Go.Proofs.YtfplalgoopkmaaaGreat
