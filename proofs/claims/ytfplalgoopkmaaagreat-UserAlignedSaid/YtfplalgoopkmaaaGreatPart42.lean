/- Layers 2, 16, 19: bytes of a block. Layer 19: noughts; a block at a multiple. Layer 19: a second block that isn't made. A world with one page: blocks of it, given out and back. Conditions: none. -/
import Derived.Test.YtfplalgoopkmaaaGreatPart41
import Derived.Test.YtfplalgoopkmaaaGreatPart40
import Derived.Test.YtfplalgoopkmaaaGreatPart28

set_option linter.unusedVariables false
set_option linter.unusedSimpArgs false

namespace Go.Proofs.YtfplalgoopkmaaaGreat
open Go.RowKit

abbrev bytesAt (f : Nat → Nat) (a n : Nat) : List Value := (List.range n).map fun i => Value.int .u8 (f (a + i))
set_option maxRecDepth 100000 in
set_option maxHeartbeats 1000000 in
theorem clone_bytes (bm bb sz a n cap : Nat) (f : Nat → Nat) (w : World) (h : MemAt w bm bb sz f) (han : a + n ≤ sz) :
    Calls Tryz.prog 44 #[.slice (some ⟨bb, a, none⟩) n cap] w fun e w' => ∃ v', e = .returned v' ∧ w'.ownsRow w.heap.size 5 1 v' n (bytesAt f a n) ∧ Only Nobody w w' := by
  obtain ⟨i0, hi, hz0, hz1, hz2⟩ := info_parts Tryz.infoU8
  have heq := fun (w : World) (a : Option Addr) (n c : Nat) => Lib.run_eql_slice_nil (P := Tryz.prog) w 36 5 a n c 0 0 Tryz.underlying36
  have hle := h.le
  have HN : Hid (∀ j u, (bytesAt f a n)[j]? = some u → (w.alloc (.cells #[] 5)).cell? ((⟨bb, a, none⟩ : Addr).add j) = some u) := Lib.hid fun j u hj => by
    have hb := (h.alloc (.cells #[] 5)).by_
    have hj2 : j < n := by
      rcases Nat.lt_or_ge j n with h1 | h1
      · exact h1
      · rw [List.getElem?_eq_none (by simp; exact h1)] at hj; cases hj
    rw [List.getElem?_map, List.getElem?_range hj2] at hj
    injection hj with hj
    subst hj
    rw [show ((⟨bb, a, none⟩ : Addr).add j) = ⟨bb, a + j, none⟩ from by simp [Addr.add], hb.cell, bytesArr_get _ _ _ (by omega)]
  have hone : ∀ u ∈ bytesAt f a n, Value.oneCell' u = true := by
    intro u hu
    obtain ⟨i, _, rfl⟩ := List.mem_map.1 hu
    rfl
  have hlen : (bytesAt f a n).length = n := by simp
  generalize bytesAt f a n = xs at *
  clear h
  go_enter Tryz.func44, Tryz.ntmps44
  go_wp2_with (at_builtin; refine wpList_append_own_at _ rfl _ _ 36 rfl w.heap.size 5 i0 (.int .u8 0) 1 1 Tryz.underlying36 hi hz0 hz1 hz2 rfl (by decide) _ 0 [] rfl ⟨rfl, .inr ⟨w.heap.size, 0, #[], rfl, Nat.le_refl _, Blk.new w _ _, Nat.le_refl _, Nat.zero_le _, rfl, rfl⟩⟩ ⟨bb, a, none⟩ n cap xs rfl (by rw [hlen, Nat.mul_one]) HN.out hone (by unfold maxLen; omega) (by omega) (by simp) ?_; intro v' w1 hown hgr _ _)
  go_ret
  rw [Nat.zero_add, List.nil_append] at hown
  refine ⟨_, rfl, hown, ((Only.refl _ _).alloc _).grown hgr (fun k hk hlt => ?_)⟩
  cases hk
  exact absurd hlt (Nat.lt_irrefl _)

set_option maxRecDepth 100000 in
set_option maxHeartbeats 1000000 in
theorem mem_Get (bm bb sz a n : Nat) (f : Nat → Nat) (w : World) (h : MemAt w bm bb sz f) (han : a + n ≤ sz) (ha : a < sz) :
    Calls Tryz.prog 31 #[.pointer (some ⟨bm, 0, none⟩), .int .u64 a, .int .u64 n] w fun e w' => ∃ v', e = .returned (.tuple #[v', .int .i64 0]) ∧ w'.ownsRow w.heap.size 5 1 v' n (bytesAt f a n) ∧ Only Nobody w w' := by
  have HI := Lib.hid (Mem.in_ok w h a n (by omega) (by omega))
  have HC := Lib.hid (clone_bytes bm bb sz a n (sz - a) f w h han)
  generalize bytesAt f a n = xs at *
  generalize sz - a = cap at *
  clear h
  go_enter Tryz.func31, Tryz.ntmps31
  go_wp2_with (first | (go_at_call 43; refine HI.out.mono ?_; rintro e w1 ⟨rfl, rfl⟩) | (go_at_call 44; refine HC.out.mono ?_; rintro e w2 ⟨v', rfl, hrow, ho⟩; obtain ⟨ra, rc, rfl⟩ := rowShapeN hrow; have HROW := Lib.hid hrow; have HO := Lib.hid ho; clear hrow ho))
  go_ret2
  exact ⟨_, rfl, HROW.out, HO.out⟩

set_option maxRecDepth 100000 in
set_option maxHeartbeats 1000000 in
theorem world_Read (A : St) (t i n : Nat) (E : Ent) (w : World) (L : Lay) (h : Rep w L A) (ht : t < A.wl.nth) (h1 : (A.wl.th t).is = 1) (h2 : A.fr false t = none) (hr : Rising (A.wl.led.map entKey)) (hf : A.wl.led.length ≤ 990)
    (hi : A.wl.led[i]? = some E) (hh : E.held = false) (hx : E.addr + max E.n 1 < 18446744073709551616) (hn : n ≤ E.n) (hm : E.addr + n ≤ A.n * 16384) (ha : E.addr < A.n * 16384) :
    Calls Tryz.prog 18 #[.pointer (some ⟨L.bw, 0, none⟩), .int .i64 t, .int .u64 E.addr, .int .u64 n] w fun e w' => ∃ v', e = .returned (.tuple #[v', .int .i64 0]) ∧ w'.ownsRow w.heap.size 5 1 v' n (bytesAt A.f E.addr n) ∧ Only Nobody w w' := by
  have HM := Lib.hid (world_may A t i n E w L h ht h1 h2 hr hf hi hh hx hn)
  have HC1 : Hid (∀ w1, Only Nobody w w1 → w1.cell? ⟨L.bw, 1, none⟩ = some (.pointer (some ⟨L.bs, 0, none⟩))) := Lib.hid fun w1 ho => (show WldOK w1 L A.wl _ from (h.quiet ho).all .wld).st.cell 1
  have HSM : Hid (∀ w1, Only Nobody w w1 → Calls Tryz.prog 30 #[.pointer (some ⟨L.bs, 0, none⟩)] w1 fun e w' => e = .returned (.pointer (some ⟨L.bm, 0, none⟩)) ∧ w1 = w') := Lib.hid fun w1 ho => sys_Mem A w1 L (h.quiet ho)
  have HG : Hid (∀ w1, Only Nobody w w1 → Calls Tryz.prog 31 #[.pointer (some ⟨L.bm, 0, none⟩), .int .u64 E.addr, .int .u64 n] w1 fun e w' => ∃ v', e = .returned (.tuple #[v', .int .i64 0]) ∧ w'.ownsRow w.heap.size 5 1 v' n (bytesAt A.f E.addr n) ∧ Only Nobody w w') := Lib.hid fun w1 ho => by
    refine (mem_Get _ _ _ _ _ _ w1 ((h.quiet ho).mem) hm ha).mono ?_
    rintro e w' ⟨v', rfl, hrow, ho2⟩
    refine ⟨v', rfl, ⟨hrow.1, ?_⟩, ho.trans ho2⟩
    rcases hrow.2 with h0 | ⟨g', cap, cur, hv, hB, h3⟩
    · exact .inl h0
    · exact .inr ⟨g', cap, cur, hv, Nat.le_trans ho.size hB, h3⟩
  generalize bytesAt A.f E.addr n = xs at *
  obtain ⟨ea, en, eg, eh⟩ := E
  dsimp only at *
  generalize L.bw = bw at *
  generalize L.bs = bs at *
  generalize L.bm = bm at *
  clear h hi hr hf hh hx hn hm h1 h2 ha
  go_enter Tryz.func18, Tryz.ntmps18
  go_wp2_with (first | (go_at_call 29; refine HM.out.mono ?_; rintro e w1 ⟨rfl, ho⟩; have HO := Lib.hid ho; have c1 := HC1.out _ ho; clear ho) | (go_at_call 30; refine (HSM.out _ HO.out).mono ?_; rintro e w2 ⟨rfl, rfl⟩) | (go_at_call 31; refine (HG.out _ HO.out).mono ?_; rintro e w3 ⟨v', rfl, hrow, ho3⟩; obtain ⟨ra, rc, rfl⟩ := rowShapeN hrow; have HROW := Lib.hid hrow; have HO3 := Lib.hid ho3; clear hrow ho3))
  go_ret2
  exact ⟨_, rfl, HROW.out, HO3.out⟩

set_option maxRecDepth 100000 in
set_option maxHeartbeats 1000000 in
theorem user_Get (A : St) (bu t i n : Nat) (E : Ent) (w : World) (L : Lay) (h : Rep w L A) (hu : UserAt w bu L t) (ht : t < A.wl.nth) (h1 : (A.wl.th t).is = 1) (h2 : A.fr false t = none) (hr : Rising (A.wl.led.map entKey)) (hf : A.wl.led.length ≤ 990)
    (hi : A.wl.led[i]? = some E) (hh : E.held = false) (hx : E.addr + max E.n 1 < 18446744073709551616) (hn : n ≤ E.n) (hm : E.addr + n ≤ A.n * 16384) (ha : E.addr < A.n * 16384) :
    Calls Tryz.prog 11 #[.pointer (some ⟨bu, 0, none⟩), .int .u64 E.addr, .int .u64 n] w fun e w' => ∃ v', e = .returned (.tuple #[v', .int .i64 0]) ∧ w'.ownsRow w.heap.size 5 1 v' n (bytesAt A.f E.addr n) ∧ Only Nobody w w' := by
  have HR : Hid (∀ w1, Only Nobody w w1 → Calls Tryz.prog 18 #[.pointer (some ⟨L.bw, 0, none⟩), .int .i64 t, .int .u64 E.addr, .int .u64 n] w1 fun e w' => ∃ v', e = .returned (.tuple #[v', .int .i64 0]) ∧ w'.ownsRow w.heap.size 5 1 v' n (bytesAt A.f E.addr n) ∧ Only Nobody w w') := Lib.hid fun w1 ho => by
    refine (world_Read A t i n E w1 L (h.quiet ho) ht h1 h2 hr hf hi hh hx hn hm ha).mono ?_
    rintro e w' ⟨v', rfl, hrow, ho2⟩
    refine ⟨v', rfl, ⟨hrow.1, ?_⟩, ho.trans ho2⟩
    rcases hrow.2 with h0 | ⟨g', cap, cur, hv, hB, h3⟩
    · exact .inl h0
    · exact .inr ⟨g', cap, cur, hv, Nat.le_trans ho.size hB, h3⟩
  have c0 : w.cell? ⟨bu, 0, none⟩ = some (.pointer (some ⟨L.bw, 0, none⟩)) := hu.cell 0
  have c1 : w.cell? ⟨bu, 1, none⟩ = some (.int .i64 t) := hu.cell 1
  generalize bytesAt A.f E.addr n = xs at *
  obtain ⟨ea, en, eg, eh⟩ := E
  dsimp only at *
  generalize L.bw = bw at *
  have HO0 := Lib.hid (Only.refl Nobody w)
  clear h hu hi hr hf hh hx hn hm h1 h2 ha
  go_enter Tryz.func11, Tryz.ntmps11
  go_wp2
  go_region_law (go_simp; go_at_call 18; refine (HR.out _ HO0.out.drew).mono ?_; rintro e w3 ⟨v', rfl, hrow, ho3⟩; obtain ⟨ra, rc, rfl⟩ := rowShapeN hrow; have HROW := Lib.hid hrow; have HO3 := Lib.hid ho3; clear hrow ho3)
  all_goals
    go_wp2
    go_ret2
    exact ⟨_, rfl, HROW.out, HO3.out⟩
end Go.Proofs.YtfplalgoopkmaaaGreat

namespace Go.Proofs.YtfplalgoopkmaaaGreat
open Go.RowKit

section
variable {A C : St} {t bu n each : Nat} {r : ResM}
theorem mulHid (hx : n < 18446744073709551616) (hy : each < 18446744073709551616) (w : World) : Calls Tryz.prog 15 #[.slice (some ⟨w.heap.size, 0, none⟩) 2 2] (w.alloc (.cells #[.int .u64 n, .int .u64 each] 22)) fun e w' => e = .returned (.tuple #[.int .u64 (mul2 n each).1, .int .i64 (mul2 n each).2]) ∧ w.alloc (.cells #[.int .u64 n, .int .u64 each] 22) = w' :=
  calc_Mul2 w.heap.size n each 2 hx hy _ (Blk.new w 22 _)

set_option maxRecDepth 100000 in
set_option maxHeartbeats 1000000 in
theorem user_Zeroed_ok (hx : n < 18446744073709551616) (hy : each < 18446744073709551616) (h0 : (mul2 n each).2 = 0) (hd : Done t ⟨1, 0, (mul2 n each).1, 1, true, false⟩ A r C) (w : World) (L : Lay) (h : Rep w L A) (hu : UserAt w bu L t) :
    Calls Tryz.prog 7 #[.pointer (some ⟨bu, 0, none⟩), .int .u64 n, .int .u64 each] w fun e w' => ∃ L', e = .returned (.tuple #[.int .u64 r.addr, .int .i64 r.err]) ∧ Run w L A w' L' C := by
  have HM := Lib.hid (mulHid hx hy w)
  rw [h0] at HM
  have hoo := (Only.refl Nobody w).alloc (.cells #[.int .u64 n, .int .u64 each] 22)
  have HDO : Hid (Calls Tryz.prog 16 #[.pointer (some ⟨bu, 0, none⟩), callV ⟨1, 0, (mul2 n each).1, 1, true, false⟩] (w.alloc (.cells #[.int .u64 n, .int .u64 each] 22)) fun e w' => ∃ L2, e = .returned (.tuple #[.int .u64 r.addr, .int .i64 r.err]) ∧ Run w L A w' L2 C) := Lib.hid (by
    refine (user_do hd _ L (h.quiet hoo) (hu.alloc _)).mono ?_
    rintro e w' ⟨L2, rfl, hr2⟩
    exact ⟨L2, rfl, hr2.quiet_left hoo h⟩)
  generalize (mul2 n each).1 = k at *
  obtain ⟨ra, re, rs⟩ := r
  dsimp only at *
  clear h hd hu h0 hoo
  go_enter Tryz.func7, Tryz.ntmps7
  go_wp2_with (first | (go_at_call 15; refine HM.out.mono ?_; rintro e w1 ⟨rfl, rfl⟩) | (go_at_call 16; refine HDO.out.mono ?_; rintro e w2 ⟨L2, rfl, hr2⟩; have HR2 := Lib.hid hr2; clear hr2))
  go_ret2
  exact ⟨L2, rfl, HR2.out⟩

set_option maxRecDepth 100000 in
set_option maxHeartbeats 1000000 in
theorem user_Zeroed_no (hx : n < 18446744073709551616) (hy : each < 18446744073709551616) (h0 : (mul2 n each).2 = 3) (w : World) :
    Calls Tryz.prog 7 #[.pointer (some ⟨bu, 0, none⟩), .int .u64 n, .int .u64 each] w fun e w' => e = .returned (.tuple #[.int .u64 0, .int .i64 2]) ∧ Only Nobody w w' := by
  have HM := Lib.hid (mulHid hx hy w)
  rw [h0] at HM
  generalize (mul2 n each).1 = k at *
  clear h0
  go_enter Tryz.func7, Tryz.ntmps7
  go_wp2_with (first | (go_at_call 15; refine HM.out.mono ?_; rintro e w1 ⟨rfl, rfl⟩))
  go_ret2
  exact ⟨rfl, (Only.refl _ _).alloc _⟩

set_option maxRecDepth 100000 in
set_option maxHeartbeats 1000000 in
theorem user_Aligned_ok (h0 : each ≠ 0) (hd : Done t ⟨1, 0, n, each, false, false⟩ A r C) (w : World) (L : Lay) (h : Rep w L A) (hu : UserAt w bu L t) :
    Calls Tryz.prog 10 #[.pointer (some ⟨bu, 0, none⟩), .int .u64 n, .int .u64 each] w fun e w' => ∃ L', e = .returned (.tuple #[.int .u64 r.addr, .int .i64 r.err]) ∧ Run w L A w' L' C := by
  have HDO : Hid (Calls Tryz.prog 16 #[.pointer (some ⟨bu, 0, none⟩), callV ⟨1, 0, n, each, false, false⟩] w fun e w' => ∃ L2, e = .returned (.tuple #[.int .u64 r.addr, .int .i64 r.err]) ∧ Run w L A w' L2 C) := Lib.hid (user_do hd _ L h hu)
  have b0 : ((each : Int) == 0) = false := by rw [beq_eq_false_iff_ne]; omega
  obtain ⟨ra, re, rs⟩ := r
  dsimp only at *
  clear h hd hu h0
  go_enter Tryz.func10, Tryz.ntmps10
  go_wp2_with (first | (go_at_call 16; refine HDO.out.mono ?_; rintro e w2 ⟨L2, rfl, hr2⟩; have HR2 := Lib.hid hr2; clear hr2))
  go_ret2
  exact ⟨L2, rfl, HR2.out⟩

theorem user_Aligned_no (w : World) :
    Calls Tryz.prog 10 #[.pointer (some ⟨bu, 0, none⟩), .int .u64 n, .int .u64 0] w fun e w' => e = .returned (.tuple #[.int .u64 0, .int .i64 2]) ∧ w = w' := by
  go_enter Tryz.func10, Tryz.ntmps10
  go_wp2
  go_ret2
  exact ⟨rfl, rfl⟩

theorem user_Alloc_nil (ga : Option Addr) (m c : Nat) (w : World) :
    Calls Tryz.prog 14 #[.pointer none, .slice ga m c] w fun e w' => e = .returned (.tuple #[.slice none 0 0, .int .i64 1]) ∧ w = w' := by
  go_enter Tryz.func14, Tryz.ntmps14
  go_wp2
  go_ret2
  exact ⟨rfl, rfl⟩
end
end Go.Proofs.YtfplalgoopkmaaaGreat

namespace Go.Proofs.YtfplalgoopkmaaaGreat
open Go.RowKit

theorem reverse_one (a : Option Addr) (c : Nat) (w : World) : Calls Tryz.prog 23 #[.slice a 1 c] w fun e w' => e = .returned (.tuple #[]) ∧ w = w' := by
  go_enter Tryz.func23, Tryz.ntmps23
  go_wp2
  refine wp_loop_rounds 1 ?_
  rw [rounds_succ]
  go_wp2
  go_end0
  exact ⟨rfl, rfl⟩

set_option maxRecDepth 100000 in
set_option maxHeartbeats 2000000 in
theorem user_Alloc_second {A B C D : St} {t bu bg n1 n2 a s x s2 : Nat} {r : ResM} (hd1 : Done t (cMalloc n1) A ⟨a, 0, s⟩ B) (hd2 : Done t (cMalloc n2) B r D) (hr : r.err ≠ 0) (hd3 : Done t (cFree a) D ⟨x, 0, s2⟩ C) (cap : Nat) (w : World) (L : Lay) (h : Rep w L A) (hu : UserAt w bu L t) (hun : ∀ i, ¬ Foot L A i bu)
    (hg : Blk w bg 22 #[.int .u64 n1, .int .u64 n2]) (hgn : ∀ i, ¬ Foot L A i bg) :
    Calls Tryz.prog 14 #[.pointer (some ⟨bu, 0, none⟩), .slice (some ⟨bg, 0, none⟩) 2 cap] w fun e w' => ∃ L', e = .returned (.tuple #[.slice none 0 0, .int .i64 r.err]) ∧ Run w L A w' L' C := by
  obtain ⟨i0, hi, hz0, hz1, hz2⟩ := info_parts Tryz.infoU64
  have HC1 : Hid (∀ w' L' B, Run w L A w' L' B → w'.cell? ⟨bg, 1, none⟩ = some (.int .u64 n2)) := Lib.hid fun w' L' B hr => (hr.keep hg hgn).1.cell 1
  have c0 : w.cell? ⟨bg, 0, none⟩ = some (.int .u64 n1) := hg.cell 0
  have HDO1 : Hid (Calls Tryz.prog 16 #[.pointer (some ⟨bu, 0, none⟩), callV (cMalloc n1)] w fun e w' => ∃ L2, e = .returned (.tuple #[.int .u64 a, .int .i64 0]) ∧ Run w L A w' L2 B) := Lib.hid (user_do hd1 w L h hu)
  have HDO2 : Hid (∀ wr L', Run w L A wr L' B → Calls Tryz.prog 16 #[.pointer (some ⟨bu, 0, none⟩), callV (cMalloc n2)] wr fun e w' => ∃ L2, e = .returned (.tuple #[.int .u64 r.addr, .int .i64 r.err]) ∧ Run w L A w' L2 D ∧ Run wr L' B w' L2 D) := Lib.hid fun wr L' hr => by
    refine (user_do hd2 wr L' hr.rep (hu.keep hr hun)).mono ?_
    rintro e w' ⟨L2, rfl, hr2⟩
    exact ⟨L2, rfl, hr.trans hr2, hr2⟩
  have HFR : Hid (∀ wr L' ga c v, Run w L A wr L' D → wr.ownsRow w.heap.size 22 1 v 1 [u64V a] → (∀ g, v.ownBlock = some g → ∀ i, ¬ Foot L' D i g) → v = .slice ga 1 c → Calls Tryz.prog 24 #[.pointer (some ⟨bu, 0, none⟩), .slice ga 1 c] wr fun e w' => ∃ L', e = .returned (.int .i64 0) ∧ Run w L A w' L' C) := Lib.hid fun wr L' ga c v hrun hrow hfo hv => by
    subst hv
    obtain ⟨g, cur, rfl, hb, hcur⟩ : ∃ g cur, ga = some ⟨g, 0, none⟩ ∧ Blk wr g 22 cur ∧ cur[0]? = some (u64V a) := by
      rcases hrow.2 with ⟨_, h0⟩ | ⟨g, cp, cur, hv, hB, hh, hcap, _, hs, hx⟩
      · cases h0
      · injection hv with h1 h2 h3
        refine ⟨g, cur, h1, hh, ?_⟩
        have h1 : (cur.toList.take (1 * 1))[0]? = ([u64V a] : List Value)[0]? := by rw [hx]
        rw [List.getElem?_take, if_pos (by omega)] at h1
        rw [← Array.getElem?_toList, h1]; rfl
    refine (user_Free_ok (bg := g) (bs_ := [a]) (.cons hd3 (.nil _)) cur (some ⟨g, 0, none⟩) c (fun _ => rfl) wr L' hrun.rep (hu.keep hrun hun) (hrun.keep hu hun).2 (fun _ => ⟨hb, hfo g rfl, fun j b hj => ?_⟩) (by simp)).mono ?_
    · match j, hj with
      | 0, hj => cases hj; exact hcur
    · rintro e w' ⟨L2, rfl, hr2⟩
      exact ⟨L2, rfl, hrun.trans hr2⟩
  obtain ⟨ra, re, rs⟩ := r
  dsimp only at *
  have b1 : (re != 0) = true := by rw [bne_iff_ne]; exact hr
  have b2 : (re == 0) = false := by rw [beq_eq_false_iff_ne]; exact hr
  clear h hu hun hg hgn hd1 hd2 hd3 hr
  go_enter Tryz.func14, Tryz.ntmps14
  go_wp2
  refine wp_loop_rounds 2 ?_
  rw [rounds_succ]
  go_wp2_with (first | (go_at_call 16; refine HDO1.out.mono ?_; rintro e w3 ⟨L3, rfl, hr3⟩; have HR3 := Lib.hid hr3; have HROW3 : Hid (w3.ownsRow w.heap.size 22 1 (.slice none 0 0) 0 []) := Lib.hid ⟨rfl, .inl ⟨rfl, rfl⟩⟩; have HA := Lib.hid (HROW3.out.alloc (.cells #[.int .u64 a] 22)); clear hr3) | (at_builtin; refine wpList_append_own_at _ rfl _ _ 44 rfl w.heap.size 22 i0 (.int .u64 0) 1 8 Tryz.underlying44 hi hz0 hz1 hz2 rfl (by decide) _ _ _ rfl HA.out ⟨w3.heap.size, 0, none⟩ 1 1 [u64V a] rfl rfl (fun k u hk => (by match k, hk with | 0, hk => cases hk; exact (Blk.new w3 22 #[.int .u64 a]).cell 0)) (by intro u hu; simp at hu; subst hu; rfl) (by unfold maxLen; omega) (by omega) (by simp; have := HR3.out.only.size; omega) ?_; intro v' w1 hown hgr _ hwho; have HW := Lib.hid hown; have HG := Lib.hid hgr; have HWHO := Lib.hid hwho; clear hown hgr hwho))
  have ho1 : Only (fun y => (Value.slice none 0 0).ownBlock = some y) w3 w1 := ((Only.refl _ w3).alloc (.cells #[.int .u64 a] 22)).grown HG.out (fun k hk _ => hk)
  have HR1 := Lib.hid (HR3.out.outS ho1 (fun y hy => by cases hy) (fun y hy => by cases hy))
  have hfo1 : ∀ g, v'.ownBlock = some g → ∀ i, ¬ Foot L3 B i g := fun g hg i hi => by
    rcases HWHO.out with hw | hw
    · rw [hw] at hg; cases hg
    · rw [hw] at hg
      injection hg with hg
      have := HR3.out.rep.lt hi
      rw [World.size_alloc] at hg
      omega
  have HFO1 := Lib.hid hfo1
  obtain ⟨va, vc, rfl⟩ := rowShapeN HW.out
  have c1 := HC1.out _ _ _ HR1.out
  have HD2 := Lib.hid (HDO2.out _ _ HR1.out)
  clear ho1 hfo1
  rw [rounds_succ]
  go_wp2_with (first | (go_at_call 16; refine HD2.out.mono ?_; rintro e w4 ⟨L4, rfl, hr4, hr5⟩; have HR4 := Lib.hid hr4; have HF4 := Lib.hid (HFR.out w4 L4 va vc _ hr4 (row_only HW.out hr5.only (fun g hg ⟨i, hi⟩ => HFO1.out g hg i hi)) (fun g hg i hi => by
          rcases hr5.foot i g hi with ⟨k, hk⟩ | hk
          · exact HFO1.out g hg k hk
          · have := row_ne HW.out hg; omega) rfl); clear hr4 hr5) | (go_at_call 23; refine (reverse_one _ _ _).mono ?_; rintro e w5 ⟨rfl, rfl⟩) | (go_at_call 24; refine HF4.out.mono ?_; rintro e w6 ⟨L6, rfl, hr6⟩; have HR6 := Lib.hid hr6; clear hr6))
  go_ret2
  exact ⟨L6, rfl, HR6.out⟩
end Go.Proofs.YtfplalgoopkmaaaGreat

namespace Go.Proofs.YtfplalgoopkmaaaGreat
open Go.RowKit

section
variable {A B A2 : St} {t : Nat} {F : Fr}
theorem SP.setSeg (h : SP A) {p : Nat} {s : Sg} (hs : A.seg p = some s) (k : Nat) (hk : k ≤ 100000000000) : SP (A.setSeg p { s with oa := k }) := by
  refine ⟨h.n64, fun q s2 hs2 => ?_, fun j g hg => ?_⟩
  · by_cases e : q = p
    · subst e
      obtain rfl : ({ s with oa := k } : Sg) = s2 := by have := hs2; simp only [St.setSeg, upd_same, Option.some.injEq] at this; exact this
      have := (h.sg q s hs).1
      exact ⟨⟨this.n64, this.pn, this.of0, this.ofk, this.own, this.left, this.ot, hk, this.ow⟩, (h.sg q s hs).2⟩
    · have hs3 : A.seg q = some s2 := by have := hs2; simp only [St.setSeg, upd_ne _ _ e] at this; exact this
      have := (h.sg q s2 hs3).1
      exact ⟨⟨this.n64, this.pn, this.of0, this.ofk, this.own, this.left, this.ot, this.oa, this.ow⟩, (h.sg q s2 hs3).2⟩
  · obtain ⟨h1, h2⟩ := h.pg j g hg
    refine ⟨h1, ?_⟩
    show (upd A.seg p _ (j / 16)).isSome
    by_cases e : j / 16 = p
    · rw [e, upd_same]; rfl
    · rw [upd_ne _ _ e]; exact h2
theorem HP.setSeg {v : Nat} (h : HP A v) (p : Nat) (s : Sg) : HP (A.setSeg p s) v := by
  refine ⟨fun q hq => ?_, h.nd, h.rows, h.mem⟩
  show (upd A.seg p _ q).isSome
  by_cases e : q = p
  · rw [e, upd_same]; rfl
  · rw [upd_ne _ _ e]; exact h.live q hq

/-- A block of a page of its own is given back; the page has others. -/
theorem ws_find_used {k : Nat} {g : Pg} {s : Sg} (hu : Up1 B t) (hst : F.st = sFind) (hn : F.r.steps < 1000000000000) (hp : B.page k = some g) (hb : IsBlock k g F.c.addr) (hreg : regAt B.ar.regs (F.c.addr / 16384) = some (k / 16)) (hr64 : ∀ r, r ∈ B.ar.regs → r.1 ≤ 64 ∧ r.2 ≤ 64) (hhu : B.sy.huge (k / 16) = 0) (hkn : B.sy.kn (k / 16) = true) (hsp : SP B) (hhp : HP B t)
    (hs : B.seg (k / 16) = some s) (hm : k / 16 ∈ (B.heap t).segs) (how : s.ow = t + 1) (hoa : s.oa < 100000000000) (hus : 2 ≤ g.used) (hk3 : F.c.kind ≠ 1)
    (hE : EndOK t ((((B.setSeg (k / 16) { s with oa := s.oa + 1 }).given t k F.c.addr g).know t).uncall t ⟨0, 0, F.r.steps + 1⟩) A2) : WStep t (B.setFr false t F) A2 := by
  have hA' : ((B.setFr false t F.tick).setSeg (k / 16) { s with oa := s.oa + 1 }).page k = some g := hp
  have htd : ∀ w L, Rep w L (((B.setFr false t F.tick).setSeg (k / 16) { s with oa := s.oa + 1 }).given t k F.c.addr g) → Calls Tryz.prog 191 #[ptrV (L.hp t), ptrV (L.sg (k / 16)), ptrV (L.ow k)] w fun e w' => ∃ L', e = .returned (.tuple #[]) ∧ Ste w L (((B.setFr false t F.tick).setSeg (k / 16) { s with oa := s.oa + 1 }).given t k F.c.addr g) w' L' (((B.setFr false t F.tick).setSeg (k / 16) { s with oa := s.oa + 1 }).given t k F.c.addr g) := fun w L h => by
    have hpg : (((B.setFr false t F.tick).setSeg (k / 16) { s with oa := s.oa + 1 }).given t k F.c.addr g).page k = some (g.give F.c.addr) := by
      show upd B.page k (some (g.give F.c.addr)) k = _
      exact upd_same _ _ _
    exact sys_tidy_used hpg (by show 1 ≤ g.used - 1; omega) w L h
  have hfree := sys_Free ((B.setFr false t F.tick).setSeg (k / 16) { s with oa := s.oa + 1 }) _ t k F.c.addr g hu.t8 ((hsp.setFr false t).setSeg hs (s.oa + 1) (by omega)) ((hhp.setFr false t).setSeg _ _) hA' hm hb (by omega) htd
  have hs1 := st_find_own (A := B.setFr false t F.tick) (i := false) (F := F.tick) (setFr_same _ _ _ _) hu.t8 hp hb hreg hr64 hhu hkn (hsp.setFr false t) hs how hoa hfree (setFr_same _ _ _ _) hk3
  have hlive : LiveOK ((B.setSeg (k / 16) { s with oa := s.oa + 1 }).given t k F.c.addr g) t := fun q hq => by
    have hw : (((B.setSeg (k / 16) { s with oa := s.oa + 1 }).given t k F.c.addr g).heap t).segs = (B.heap t).segs := by
      show (upd B.heap t ((B.heap t).woken (rowIx g.cls) k) t).segs = _
      rw [upd_same]
      unfold Hp.woken
      split <;> rfl
    rw [hw] at hq
    have h1 := hhp.liveOK hsp q hq
    refine ⟨h1.1, ?_⟩
    show (upd B.seg (k / 16) _ q).isSome
    by_cases e : q = k / 16
    · rw [e, upd_same]; rfl
    · rw [upd_ne _ _ e]; exact h1.2
  have hs2 := step_find (A := B.setFr false t F) (A1 := (((B.setFr false t F.tick).setSeg (k / 16) { s with oa := s.oa + 1 }).given t k F.c.addr g).setFr false t (F.tick.over 0 0)) (i := false) (t := t) (F := F) (F1 := F.tick.over 0 0) (setFr_same _ _ _ _) hu.t8 hst hn (by rw [setFr_setFr]; exact hs1) (setFr_same _ _ _ _) hlive
  refine wstep_done (F1 := F.tick.over 0 0) hu hs2 (setFr_same _ _ _ _) rfl isDone_done ?_
  show EndOK t ((((((B.setSeg (k / 16) { s with oa := s.oa + 1 }).given t k F.c.addr g).know t).setFr false t F.tick).setFr false t (F.tick.over 0 0)).uncall t _) A2
  rw [setFr_uncall, setFr_uncall]
  exact hE
end

/-- A world whose first thread has one page, of the least class. -/
structure One (A : St) (n used : Nat) (free : List Nat) (led : List Ent) : Prop where
  n64 : n ≤ 64
  nn : A.n = n
  sp : SP A
  hp : HP A 0
  L : (A.heap 0).L 0 = [17]
  segs : (A.heap 0).segs = [1]
  pg : A.page 17 = some ⟨0, 1, 16, 64, 4, used, free, [], [], 0, 0⟩
  regs : A.ar.regs = [(0, 1), (1, 1)]
  huge : A.sy.huge 1 = 0
  kn : A.sy.kn 1 = true
  seg : ∃ s, A.seg 1 = some s ∧ s.ow = 1 ∧ s.oa ≤ 1000
  up : Up1 A 0
  fr : A.fr = fun _ _ => none
  led : A.wl.led = led

theorem plan8 : mallocPlan 8 1 = some ⟨0, 1, 0, 16⟩ := by kernel_rfl
theorem planMuch : mallocPlan 1099511627776 1 = none := by kernel_rfl
theorem One.of_first {B3 : St} {n s : Nat} (hB : Bare B3 n) (hled : B3.wl.led = []) (hhu : B3.sy.huge 1 = 0) : One (B3.got1 n ⟨0, 1, 0, 16⟩ (cMalloc 8) s) n 1 [17424, 17440, 17456] [⟨17408, 8, 1, false⟩] := by
  have hpl : PlanOK ⟨0, 1, 0, 16⟩ := .inl ⟨0, by omega, rfl⟩
  obtain ⟨h1, h2⟩ := hB.block1_sp hpl
  have hfill : (Fr.new (cMalloc 8) ⟨0, 1, 0, 16⟩ sFresh).fills 17408 0 (B3.block1 n ⟨0, 1, 0, 16⟩).f = (B3.block1 n ⟨0, 1, 0, 16⟩).f := by
    unfold Fr.fills
    rw [if_neg (by intro h; cases h.2.1)]
  refine ⟨hB.n64, hB.nn, h1.eq rfl (by show (Fr.new (cMalloc 8) ⟨0, 1, 0, 16⟩ sFresh).fills 17408 0 (B3.block1 n ⟨0, 1, 0, 16⟩).f = _; rw [hfill]) rfl rfl, h2.eq rfl rfl rfl, ?_, ?_, ?_, rfl, hhu, ?_, ⟨{ sgNew 0 with of := setOf (sgNew 0).of 1 1 (some 1), left := 14 }, ?_, rfl, by show 1 ≤ 1000; omega⟩, ⟨by omega, hB.up.ht, ?_⟩, ?_, ?_⟩
  · show (upd (upd B3.heap 0 ((B3.heap 0).more 1)) 0 _ 0).L 0 = [17]
    rw [upd_same]
    show updL ((upd B3.heap 0 ((B3.heap 0).more 1)) 0).L 0 (((upd B3.heap 0 ((B3.heap 0).more 1)) 0).L 0 ++ [17]) 0 = [17]
    unfold updL
    rw [if_pos rfl, upd_same, hB.heap]; rfl
  · show (upd (upd B3.heap 0 ((B3.heap 0).more 1)) 0 _ 0).segs = [1]
    rw [upd_same]
    show ((upd B3.heap 0 ((B3.heap 0).more 1)) 0).segs = [1]
    rw [upd_same, hB.heap]; rfl
  · show upd (upd B3.page 17 (some (pgFor ⟨0, 1, 0, 16⟩))) 17 (some (pgAlloc B3.f 17 (pgFor ⟨0, 1, 0, 16⟩)).2.1) 17 = _
    rw [upd_same]; rfl
  · show (decide (1 ∈ ((upd (upd B3.heap 0 ((B3.heap 0).more 1)) 0 (((upd B3.heap 0 ((B3.heap 0).more 1)) 0).push 0 17)) 0).segs) || B3.sy.kn 1) = true
    rw [upd_same]
    show (decide (1 ∈ ((upd B3.heap 0 ((B3.heap 0).more 1)) 0).segs) || B3.sy.kn 1) = true
    rw [upd_same, hB.heap]; rfl
  · show upd (upd B3.seg 1 (some (sgNew 0))) 1 _ 1 = _
    rw [upd_same]; rfl
  · show (upd B3.wl.th 0 _ 0).is = 1
    rw [upd_same]; exact hB.up.up
  · show updF B3.fr false 0 none = _
    rw [hB.fr]; exact updF_id rfl
  · show B3.wl.led ++ _ = _
    rw [hled]; rfl
end Go.Proofs.YtfplalgoopkmaaaGreat
