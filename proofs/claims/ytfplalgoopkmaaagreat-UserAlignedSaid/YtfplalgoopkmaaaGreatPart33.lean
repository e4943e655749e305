/- Layer 16: what a world says of a thread. Layer 16: a call is over. Layer 16: end. Layer 16: the last call's result. Layer 17: how many steps a call takes at most. Layer 19: a user. Layer 16: all blocks that are handed out. Layer 19: how many bytes were asked for. Layer 16: a thread may read a block. Conditions: none. -/
import Derived.Test.YtfplalgoopkmaaaGreatPart32

set_option linter.unusedVariables false
set_option linter.unusedSimpArgs false

namespace Go.Proofs.YtfplalgoopkmaaaGreat
open Go.RowKit

theorem world_Pending (A : St) (t : Nat) (w : World) (L : Lay) (h : Rep w L A) (ht : t < A.wl.nth) :
    Calls Tryz.prog 22 #[.pointer (some ⟨L.bw, 0, none⟩), .int .i64 t] w fun e w' => e = .returned (.bool (A.fr false t).isSome) ∧ w = w' := by
  have HOF := Lib.hid (world_of A t w L h ht)
  have hw : WldOK w L A.wl _ := h.all .wld
  have c7 : w.cell? ⟨L.bth, t * 12 + 7, none⟩ = some (frV_ L (A.fr false t).isSome t) := (hw.ths.cell (t * 12 + 7)).trans (thsV_at L A.wl _ t 7 ht (by omega))
  generalize L.bw = bw at *
  generalize L.bth = bth at *
  unfold frV_ at c7
  generalize L.fr false t = bf at c7
  generalize (A.fr false t).isSome = b at c7 ⊢
  clear h hw
  cases b
  · simp only [Bool.false_eq_true, if_false] at c7
    go_enter Tryz.func22, Tryz.ntmps22
    go_wp2_with (first | (go_at_call 36; refine HOF.out.mono ?_; rintro e w1 ⟨rfl, rfl⟩))
    go_ret
    exact ⟨rfl, rfl⟩
  · simp only [if_true] at c7
    go_enter Tryz.func22, Tryz.ntmps22
    go_wp2_with (first | (go_at_call 36; refine HOF.out.mono ?_; rintro e w1 ⟨rfl, rfl⟩))
    go_ret
    exact ⟨rfl, rfl⟩

theorem world_Up (A : St) (t : Nat) (w : World) (L : Lay) (h : Rep w L A) (ht : t < A.wl.nth) (h1 : (A.wl.th t).is = 1) :
    Calls Tryz.prog 21 #[.pointer (some ⟨L.bw, 0, none⟩), .int .i64 t] w fun e w' => e = .returned (.bool true) ∧ w = w' := by
  have HOF := Lib.hid (world_of A t w L h ht)
  have hw : WldOK w L A.wl _ := h.all .wld
  have c0 : w.cell? ⟨L.bth, t * 12, none⟩ = some (.int .i64 1) := by
    have := (hw.ths.cell (t * 12)).trans (thsV_at L A.wl _ t 0 ht (by omega))
    rw [this]; show some (Value.int .i64 _) = _; rw [h1]; rfl
  generalize L.bw = bw at *
  generalize L.bth = bth at *
  clear h hw
  go_enter Tryz.func21, Tryz.ntmps21
  go_wp2_with (first | (go_at_call 36; refine HOF.out.mono ?_; rintro e w1 ⟨rfl, rfl⟩))
  go_ret
  exact ⟨rfl, rfl⟩

theorem world_Sys (A : St) (w : World) (L : Lay) (h : Rep w L A) :
    Calls Tryz.prog 56 #[.pointer (some ⟨L.bw, 0, none⟩)] w fun e w' => e = .returned (ptrV L.bs) ∧ w = w' := by
  have hw : WldOK w L A.wl _ := h.all .wld
  have c1 : w.cell? ⟨L.bw, 1, none⟩ = some (.pointer (some ⟨L.bs, 0, none⟩)) := hw.st.cell 1
  show Calls _ _ _ _ fun e w' => e = .returned (.pointer (some ⟨L.bs, 0, none⟩)) ∧ w = w'
  generalize L.bw = bw at *
  generalize L.bs = bs at *
  clear h hw
  go_enter Tryz.func56, Tryz.ntmps56
  go_wp2
  go_ret
  exact ⟨rfl, rfl⟩

theorem world_Threads (A : St) (w : World) (L : Lay) (h : Rep w L A) :
    Calls Tryz.prog 53 #[.pointer (some ⟨L.bw, 0, none⟩)] w fun e w' => e = .returned (.int .i64 A.wl.nth) ∧ w = w' := by
  have hw : WldOK w L A.wl _ := h.all .wld
  have c2 : w.cell? ⟨L.bw, 2, none⟩ = some (.slice (some ⟨L.bth, 0, none⟩) A.wl.nth A.wl.nth) := hw.st.cell 2
  generalize A.wl.nth = n at *
  generalize L.bw = bw at *
  generalize L.bth = bth at *
  clear h hw
  go_enter Tryz.func53, Tryz.ntmps53
  go_wp2
  go_ret
  exact ⟨rfl, rfl⟩
end Go.Proofs.YtfplalgoopkmaaaGreat

namespace Go.Proofs.YtfplalgoopkmaaaGreat
open Go.RowKit

abbrev Th.told (x : Th) (r : ResM) : Th := { x with res := r, has := true }
abbrev St.uncall (A : St) (t : Nat) (r : ResM) : St := { A with wl := A.wl.setTh t ((A.wl.th t).told r), fr := updF A.fr false t none }

theorem Rep.uncall {w w' : World} {L : Lay} {A : St} (h : Rep w L A) (t : Nat) (r : ResM) (ho : Only (fun x => x = L.bth) w w')
    (hth : Blk w' L.bth 112 (thsV L (A.wl.setTh t ((A.wl.th t).told r)) fun u => ((updF A.fr false t none) false u).isSome)) :
    Ste w L A w' L (A.uncall t r) := by
  have hw : WldOK w L A.wl _ := h.all .wld
  refine Ste.chg (fun i => i = .wld ∨ i = .fr false t) h ho (fun x hx _ => ⟨.wld, .inl rfl, .inr (.inl hx)⟩) ?_ ?_ ?_ ?_ ?_ (Fix.refl _)
  · intro i hi hh
    cases i with
    | wld => exact absurd (.inl rfl) hi
    | fr i u =>
      have hne : ¬ (i = false ∧ u = t) := fun ⟨e1, e2⟩ => hi (.inr (by rw [e1, e2]))
      intro G hG
      have hG2 : A.fr i u = some G := by have := hG; simp only [updF_ne _ _ hne] at this; exact this
      have hins : ((A.uncall t r).fr true u).isSome = (A.fr true u).isSome := by show ((updF A.fr false t none) true u).isSome = _; rw [updF_ne _ _ (by simp)]
      rw [hins]
      exact hh G hG2
    | _ => exact hh
  · intro i x hi hx
    cases i with
    | wld => exact absurd (.inl rfl) hi
    | fr i u =>
      have hne : ¬ (i = false ∧ u = t) := fun ⟨e1, e2⟩ => hi (.inr (by rw [e1, e2]))
      obtain ⟨h1, h2⟩ := hx
      exact ⟨by have := h1; simp only [updF_ne _ _ hne] at this; exact this, h2⟩
    | _ => exact hx
  · rintro i (rfl | rfl)
    · exact ⟨hw.st.only ho (fun e => hw.st.ne_ hw.ths (by decide) e), hw.led.only ho (fun g hg e => row_blk_ne hw.led hw.ths (by decide) (by rw [hg, e])), hth, hw.n8⟩
    · intro G hG
      have := hG
      simp only [updF_same] at this
      cases this
  · rintro i x (rfl | rfl) hx
    · exact .inl ⟨.wld, .inl rfl, hx⟩
    · have := hx.1
      simp only [updF_same] at this
      cases this
  · rintro i j x (rfl | rfl) (rfl | rfl) h1 h2
    · rfl
    · have := h2.1
      simp only [updF_same] at this
      cases this
    · have := h1.1
      simp only [updF_same] at this
      cases this
    · rfl

/-- What Step writes into a thread at a call's end. -/
theorem thsV_over (L : Lay) (A : St) (t : Nat) (r : ResM) (ht : t < A.wl.nth) :
    thsV L (A.wl.setTh t ((A.wl.th t).told r)) (fun u => ((updF A.fr false t none) false u).isSome) =
    (((((thsV L A.wl (fun u => (A.fr false u).isSome)).setIfInBounds (t * 12 + 8) (.int .u64 r.addr)).setIfInBounds (t * 12 + 9) (.int .i64 r.err)).setIfInBounds (t * 12 + 10) (.int .i64 r.steps)).setIfInBounds (t * 12 + 11) (.bool true)).setIfInBounds (t * 12 + 7) (.pointer none) := by
  have h1 : ∀ i, i ≠ t → thCells ((A.wl.setTh t ((A.wl.th t).told r)).th i) (frV_ L ((updF A.fr false t none) false i).isSome i) = thCells (A.wl.th i) (frV_ L (A.fr false i).isSome i) := fun i hi => by
    have hne : ¬ (false = false ∧ i = t) := fun h => hi h.2
    show thCells (upd A.wl.th t _ i) (frV_ L ((updF A.fr false t none) false i).isSome i) = _
    rw [upd_ne _ _ hi, updF_ne _ _ hne]
  have h2 : thCells ((A.wl.setTh t ((A.wl.th t).told r)).th t) (frV_ L ((updF A.fr false t none) false t).isSome t) = [((8 : Nat), Value.int .u64 r.addr), (9, .int .i64 r.err), (10, .int .i64 r.steps), (11, .bool true), (7, .pointer none)].foldl (fun l p => l.set p.1 p.2) (thCells (A.wl.th t) (frV_ L (A.fr false t).isSome t)) := by
    show thCells (upd A.wl.th t _ t) (frV_ L ((updF A.fr false t none) false t).isSome t) = _
    rw [upd_same, updF_same]
    rfl
  have e := thsV_sets L L A.wl (A.wl.setTh t ((A.wl.th t).told r)) (fun u => (A.fr false u).isSome) (fun u => ((updF A.fr false t none) false u).isSome) t _ rfl ht (by simp) h1 h2
  rw [e]
  simp only [List.foldl_cons, List.foldl_nil]
end Go.Proofs.YtfplalgoopkmaaaGreat

namespace Go.Proofs.YtfplalgoopkmaaaGreat
open Go.RowKit

set_option maxRecDepth 100000 in
set_option maxHeartbeats 2000000 in
/-- A malloc that was refused changes nothing. -/
theorem world_end_no (A : St) (t : Nat) (w : World) (L : Lay) (h : Rep w L A) (ht : t < A.wl.nth) (hk : (A.wl.th t).asked.kind = 1) (he : (A.wl.th t).res.err ≠ 0) :
    Calls Tryz.prog 79 #[.pointer (some ⟨L.bw, 0, none⟩), .pointer (some ⟨L.bth, t * 12, none⟩)] w fun e w' => e = .returned (.tuple #[]) ∧ Only Nobody w w' := by
  have hw : WldOK w L A.wl _ := h.all .wld
  have c1 : w.cell? ⟨L.bth, t * 12 + 1, none⟩ = some (.int .i64 1) := by
    have := (hw.ths.cell (t * 12 + 1)).trans (thsV_at L A.wl _ t 1 ht (by omega))
    rw [this]; show some (Value.int .i64 _) = _; rw [hk]
  have c2 : w.cell? ⟨L.bth, t * 12 + 2, none⟩ = some _ := (hw.ths.cell (t * 12 + 2)).trans (thsV_at L A.wl _ t 2 ht (by omega))
  have c3 : w.cell? ⟨L.bth, t * 12 + 3, none⟩ = some _ := (hw.ths.cell (t * 12 + 3)).trans (thsV_at L A.wl _ t 3 ht (by omega))
  have c4 : w.cell? ⟨L.bth, t * 12 + 4, none⟩ = some _ := (hw.ths.cell (t * 12 + 4)).trans (thsV_at L A.wl _ t 4 ht (by omega))
  have c5 : w.cell? ⟨L.bth, t * 12 + 5, none⟩ = some _ := (hw.ths.cell (t * 12 + 5)).trans (thsV_at L A.wl _ t 5 ht (by omega))
  have c6 : w.cell? ⟨L.bth, t * 12 + 6, none⟩ = some _ := (hw.ths.cell (t * 12 + 6)).trans (thsV_at L A.wl _ t 6 ht (by omega))
  have c8 : w.cell? ⟨L.bth, t * 12 + 8, none⟩ = some _ := (hw.ths.cell (t * 12 + 8)).trans (thsV_at L A.wl _ t 8 ht (by omega))
  have c9 : w.cell? ⟨L.bth, t * 12 + 9, none⟩ = some _ := (hw.ths.cell (t * 12 + 9)).trans (thsV_at L A.wl _ t 9 ht (by omega))
  have c10 : w.cell? ⟨L.bth, t * 12 + 10, none⟩ = some _ := (hw.ths.cell (t * 12 + 10)).trans (thsV_at L A.wl _ t 10 ht (by omega))
  have hlt : L.bth < w.heap.size := hw.ths.lt
  generalize A.wl.th t = x at *
  obtain ⟨xi, ⟨xk, xa, xn, xl, xz, xf⟩, ⟨ra, re, rs⟩, xh⟩ := x
  dsimp only at *
  subst hk
  have b1 : (re == 0) = false := by rw [beq_eq_false_iff_ne]; exact he
  generalize L.bw = bw at *
  generalize L.bth = bth at *
  clear h hw
  go_enter Tryz.func79, Tryz.ntmps79
  go_wp2
  go_region
  all_goals
    go_wp2
    go_end0
    exact ⟨rfl, (((Only.refl _ _).alloc _).alloc _).drew⟩
end Go.Proofs.YtfplalgoopkmaaaGreat

namespace Go.Proofs.YtfplalgoopkmaaaGreat
open Go.RowKit

theorem wres_result (w : World) (b : Nat) (tmps : Array Value) (a : Nat) (e s : Int) (hb : Blk w b 74 #[.int .u64 a, .int .i64 e, .int .i64 s]) (h4 : tmps[4]? = some (.pointer (some ⟨b, 0, none⟩))) (h5 : tmps[5]? = some (.int .i64 0)) :
    (results Tryz.f55 tmps).run Tryz.prog w = .ok (.tuple #[.agg #[.int .u64 a, .int .i64 e, .int .i64 s], .int .i64 0]) w := by
  have hc := hb.cell
  simp [results, Tryz.f55, go_sem, h4, h5, hc]

abbrev resMV (r : ResM) : Value := .agg #[.int .u64 r.addr, .int .i64 r.err, .int .i64 r.steps]
set_option maxRecDepth 100000 in
set_option maxHeartbeats 1000000 in
theorem world_Result (A : St) (t : Nat) (w : World) (L : Lay) (h : Rep w L A) (ht : t < A.wl.nth) (hh : (A.wl.th t).has = true) :
    Calls Tryz.prog 55 #[.pointer (some ⟨L.bw, 0, none⟩), .int .i64 t] w fun e w' => e = .returned (.tuple #[resMV (A.wl.th t).res, .int .i64 0]) ∧ Only Nobody w w' := by
  have ho := (Only.refl Nobody w).alloc (.cells #[.int .u64 0, .int .i64 0, .int .i64 0] 74)
  have hr := h.quiet ho
  have HOF := Lib.hid (world_of A t _ L hr ht)
  have hw : WldOK (w.alloc (.cells #[.int .u64 0, .int .i64 0, .int .i64 0] 74)) L A.wl _ := hr.all .wld
  have c8 : (w.alloc (.cells #[.int .u64 0, .int .i64 0, .int .i64 0] 74)).cell? ⟨L.bth, t * 12 + 8, none⟩ = some _ := (hw.ths.cell (t * 12 + 8)).trans (thsV_at L A.wl _ t 8 ht (by omega))
  have c9 : (w.alloc (.cells #[.int .u64 0, .int .i64 0, .int .i64 0] 74)).cell? ⟨L.bth, t * 12 + 9, none⟩ = some _ := (hw.ths.cell (t * 12 + 9)).trans (thsV_at L A.wl _ t 9 ht (by omega))
  have c10 : (w.alloc (.cells #[.int .u64 0, .int .i64 0, .int .i64 0] 74)).cell? ⟨L.bth, t * 12 + 10, none⟩ = some _ := (hw.ths.cell (t * 12 + 10)).trans (thsV_at L A.wl _ t 10 ht (by omega))
  have c11 : (w.alloc (.cells #[.int .u64 0, .int .i64 0, .int .i64 0] 74)).cell? ⟨L.bth, t * 12 + 11, none⟩ = some (.bool true) := by
    have := (hw.ths.cell (t * 12 + 11)).trans (thsV_at L A.wl _ t 11 ht (by omega))
    rw [this]; show some (Value.bool _) = _; rw [hh]
  generalize A.wl.th t = x at *
  obtain ⟨xi, xc, ⟨ra, re, rs⟩, xh⟩ := x
  dsimp only at *
  have HB := Lib.hid (Blk.new w 74 #[.int .u64 ra, .int .i64 re, .int .i64 rs])
  generalize L.bw = bw at *
  generalize L.bth = bth at *
  clear h hw hr ho hh
  go_enter Tryz.func55, Tryz.ntmps55
  go_wp2_with (first | (go_at_call 36; refine HOF.out.mono ?_; rintro e w1 ⟨rfl, rfl⟩))
  exact bodyPost_ret (wres_result _ _ _ _ _ _ HB.out rfl rfl) rfl ⟨rfl, (Only.refl _ _).alloc _⟩
end Go.Proofs.YtfplalgoopkmaaaGreat

namespace Go.Proofs.YtfplalgoopkmaaaGreat
open Go.RowKit

theorem sys_Mem (A : St) (w : World) (L : Lay) (h : Rep w L A) :
    Calls Tryz.prog 30 #[.pointer (some ⟨L.bs, 0, none⟩)] w fun e w' => e = .returned (.pointer (some ⟨L.bm, 0, none⟩)) ∧ w = w' := by
  obtain ⟨cs, hcs, hc⟩ := h.sysblk
  have c0 : w.cell? ⟨L.bs, 0, none⟩ = some (.pointer (some ⟨L.bm, 0, none⟩)) := (hcs.cell 0).trans hc.h0
  generalize L.bs = bs at *
  generalize L.bm = bm at *
  clear h hcs hc
  go_enter Tryz.func30, Tryz.ntmps30
  go_wp2
  go_ret
  exact ⟨rfl, rfl⟩

theorem trace_Bound (A : St) (w : World) (L : Lay) (h : Rep w L A) (hn : A.n ≤ 64) :
    Calls Tryz.prog 40 #[.pointer (some ⟨L.bw, 0, none⟩)] w fun e w' => e = .returned (.int .i64 (40 * (A.n + 2) * (A.n + 2) : Nat)) ∧ w = w' := by
  have H1 := Lib.hid (world_Sys A w L h)
  have H2 := Lib.hid (sys_Mem A w L h)
  have hm : MemAt w L.bm L.bb (A.n * 16384) A.f := h.all .mem
  have H3 := Lib.hid (Mem.size w hm)
  generalize A.n = n at *
  have hle : 40 * (n + 2) * (n + 2) ≤ 40 * 66 * 66 := Nat.mul_le_mul (Nat.mul_le_mul (Nat.le_refl 40) (by omega)) (by omega)
  have hwr : wrap64 (40 * ((n : Int) + 2) * ((n : Int) + 2)) = ((40 * (n + 2) * (n + 2) : Nat) : Int) := by
    have e : 40 * ((n : Int) + 2) * ((n : Int) + 2) = ((40 * (n + 2) * (n + 2) : Nat) : Int) := by push_cast; rfl
    rw [e]
    generalize 40 * (n + 2) * (n + 2) = m at hle
    unfold wrap64
    omega
  have HWR := Lib.hid hwr
  clear hle hwr
  have hq : ((n * 16384 : Nat) : Int) / 16384 = n := by omega
  generalize hsz : n * 16384 = sz at *
  generalize L.bw = bw at *
  generalize L.bs = bs at *
  generalize L.bm = bm at *
  have hsz2 : sz ≤ 1048576 := by omega
  clear h hm
  go_enter Tryz.func40, Tryz.ntmps40
  go_wp2_with (first | (go_at_call 56; refine H1.out.mono ?_; rintro e w1 ⟨rfl, rfl⟩) | (go_at_call 30; refine H2.out.mono ?_; rintro e w1 ⟨rfl, rfl⟩) | (go_at_call 57; refine H3.out.mono ?_; rintro e w1 ⟨rfl, rfl⟩))
  go_ret
  exact ⟨congrArg Ending.returned (intv HWR.out), rfl⟩
end Go.Proofs.YtfplalgoopkmaaaGreat

namespace Go.Proofs.YtfplalgoopkmaaaGreat
open Go.RowKit

set_option maxRecDepth 100000 in
set_option maxHeartbeats 1000000 in
theorem user_New (A : St) (t : Nat) (w : World) (L : Lay) (h : Rep w L A) (ht : t < A.wl.nth) (h0 : (A.wl.th t).is = 0) (h2 : A.fr false t = none) :
    Calls Tryz.prog 13 #[.pointer (some ⟨L.bw, 0, none⟩), .int .i64 t] w fun e w' => ∃ bu, e = .returned (.tuple #[.pointer (some ⟨bu, 0, none⟩), .int .i64 0]) ∧ w.heap.size ≤ bu ∧ Blk w' bu 59 #[.pointer (some ⟨L.bw, 0, none⟩), .int .i64 t] ∧ Ste w L A w' L (A.setWl (A.wl.setTh t ((A.wl.th t).up 1))) := by
  have ho := (Only.refl Nobody w).alloc (.cells #[.int .i64 t] 3)
  have HS := Lib.hid (world_Start A t w.heap.size _ L (h.quiet ho) ht h0 (Blk.new w 3 #[.int .i64 t]))
  have hup : ((A.wl.setTh t ((A.wl.th t).up 1)).th t).is = 1 := by show (upd A.wl.th t _ t).is = 1; rw [upd_same]
  have HUP := Lib.hid (fun w1 (hr : Rep w1 L (A.setWl (A.wl.setTh t ((A.wl.th t).up 1)))) => world_Up _ t w1 L hr ht hup)
  have HPE := Lib.hid (fun w1 (hr : Rep w1 L (A.setWl (A.wl.setTh t ((A.wl.th t).up 1)))) => world_Pending _ t w1 L hr ht)
  have e2 : ((A.setWl (A.wl.setTh t ((A.wl.th t).up 1))).fr false t).isSome = false := by show (A.fr false t).isSome = false; rw [h2]; rfl
  rw [e2] at HPE
  have HST0 := Lib.hid (Ste.refl h ho)
  generalize hbw : L.bw = bw at *
  clear h ho e2 hup
  go_enter Tryz.func13, Tryz.ntmps13
  go_wp2_with (first | (go_at_call 20; refine HS.out.mono ?_; rintro e w1 ⟨rfl, hst⟩; have HST := Lib.hid (HST0.out.trans hst); clear hst) | (go_at_call 21; refine (HUP.out _ HST.out.rep).mono ?_; rintro e w2 ⟨rfl, rfl⟩) | (go_at_call 22; refine (HPE.out _ HST.out.rep).mono ?_; rintro e w2 ⟨rfl, rfl⟩))
  go_ret2
  exact ⟨w1.heap.size, rfl, HST.out.only.size, Blk.new w1 59 #[.pointer (some ⟨bw, 0, none⟩), .int .i64 t], HST.out.quiet_right ((Only.refl _ _).alloc _)⟩
end Go.Proofs.YtfplalgoopkmaaaGreat

namespace Go.Proofs.YtfplalgoopkmaaaGreat
open Go.RowKit

theorem world_Live (A : St) (w : World) (L : Lay) (h : Rep w L A) (hr : Rising (A.wl.led.map entKey)) (hf : A.wl.led.length ≤ 990) :
    Calls Tryz.prog 8 #[.pointer (some ⟨L.bw, 0, none⟩)] w fun e w' => ∃ v', e = .returned v' ∧ w'.ownsRow w.heap.size 61 3 v' A.wl.led.length (A.wl.led.flatMap blkCells) ∧ Only Nobody w w' := by
  have HA := Lib.hid (ledger_All L.bw L.vl A.wl.led w (h.ledAt hr hf))
  generalize L.bw = bw at *
  clear h
  go_enter Tryz.func8, Tryz.ntmps8
  go_wp2_with (first | (go_at_call 17; refine HA.out.mono ?_; rintro e w1 ⟨v', rfl, hrow, ho⟩; obtain ⟨ra, rc, rfl⟩ := rowShapeN hrow; have HROW := Lib.hid hrow; have HO := Lib.hid ho; clear hrow ho))
  go_ret
  exact ⟨_, rfl, HROW.out, HO.out⟩
end Go.Proofs.YtfplalgoopkmaaaGreat

namespace Go.Proofs.YtfplalgoopkmaaaGreat
open Go.RowKit

theorem blkCells_at (l : List Ent) : ∀ i e, l[i]? = some e → (l.flatMap blkCells)[i * 3]? = some (.int .u64 e.addr) ∧ (l.flatMap blkCells)[i * 3 + 1]? = some (.int .u64 e.n) ∧ (l.flatMap blkCells)[i * 3 + 2]? = some (.int .u64 e.align) := by
  induction l with
  | nil => intro i r h; simp at h
  | cons x l ih =>
    intro i r h
    cases i with
    | zero => simp at h; subst h; exact ⟨rfl, rfl, rfl⟩
    | succ i =>
      have := ih i r (by simpa using h)
      have e (k : Nat) : (List.flatMap blkCells (x :: l))[(i + 1) * 3 + k]? = (l.flatMap blkCells)[i * 3 + k]? := by
        rw [List.flatMap_cons, List.getElem?_append_right (by simp; omega)]
        congr 1
        simp; omega
      exact ⟨(e 0).trans this.1, (e 1).trans this.2.1, (e 2).trans this.2.2⟩

set_option maxRecDepth 100000 in
set_option maxHeartbeats 1000000 in
/-- Of a block that is the first one at its address. -/
theorem user_Size (A : St) (bu a k : Nat) (t : Int) (E : Ent) (w : World) (L : Lay) (h : Rep w L A) (hr : Rising (A.wl.led.map entKey)) (hf : A.wl.led.length ≤ 990) (hu : Blk w bu 59 #[.pointer (some ⟨L.bw, 0, none⟩), .int .i64 t])
    (hk : A.wl.led[k]? = some E) (ha : E.addr = a) (hfirst : ∀ i e, i < k → A.wl.led[i]? = some e → e.addr ≠ a) :
    Calls Tryz.prog 9 #[.pointer (some ⟨bu, 0, none⟩), .int .u64 a] w fun e w' => e = .returned (.tuple #[.int .u64 E.n, .int .i64 0]) ∧ Only Nobody w w' := by
  have HL := Lib.hid (world_Live A w L h hr hf)
  have c0 : w.cell? ⟨bu, 0, none⟩ = some (.pointer (some ⟨L.bw, 0, none⟩)) := hu.cell 0
  have HK := Lib.hid hk
  have HF := Lib.hid hfirst
  have hkl : k < A.wl.led.length := (List.getElem?_eq_some_iff.1 hk).1
  generalize A.wl.led = l at *
  generalize L.bw = bw at *
  clear h hr hu hk hfirst
  go_enter Tryz.func9, Tryz.ntmps9
  go_wp2_with (first | (go_at_call 8; refine HL.out.mono ?_; rintro e w1 ⟨v', rfl, hrow, ho⟩; obtain ⟨ra, rc, rfl⟩ := rowShapeN hrow; have HROW := Lib.hid hrow; have HO := Lib.hid ho; clear hrow ho))
  obtain ⟨g, rfl⟩ : ∃ g, ra = some ⟨g, 0, none⟩ := by
    rcases HROW.out.2 with ⟨hv, h0⟩ | ⟨g, cap, cur, hv, _⟩
    · omega
    · injection hv with hv; exact ⟨g, hv⟩
  go_loopw [7, 16] (fun _ i wr => ∃ j : Nat, j ≤ k ∧ i = .int .i64 j ∧ Only Nobody w1 wr) (fun _ i _ => l.length - (intOf i).toNat)
  case atStart => exact ⟨0, by omega, rfl, Only.refl _ _⟩
  case round =>
    obtain ⟨j, hj, rfl, ho⟩ := hrel
    have HOW := Lib.hid ho
    have hje : l[j]? = some l[j] := List.getElem?_eq_getElem (by omega)
    generalize l[j] = e at hje
    have hgl := (HROW.out.lt g rfl).2
    obtain ⟨k1, k2, k3⟩ := blkCells_at l j e hje
    have q1 : wr.cell? ⟨g, j * 3, none⟩ = some (.int .u64 e.addr) := (World.cell?_of_block (ho.same g hgl (fun h => h))).trans (by have := World.ownsRow.cells HROW.out (g := g) rfl _ _ k1; rw [Addr.add_lit, Nat.zero_add] at this; exact this)
    have q2 : wr.cell? ⟨g, j * 3 + 1, none⟩ = some (.int .u64 e.n) := (World.cell?_of_block (ho.same g hgl (fun h => h))).trans (by have := World.ownsRow.cells HROW.out (g := g) rfl _ _ k2; rw [Addr.add_lit, Nat.zero_add] at this; exact this)
    have q3 : wr.cell? ⟨g, j * 3 + 2, none⟩ = some (.int .u64 e.align) := (World.cell?_of_block (ho.same g hgl (fun h => h))).trans (by have := World.ownsRow.cells HROW.out (g := g) rfl _ _ k3; rw [Addr.add_lit, Nat.zero_add] at this; exact this)
    obtain ⟨ea, en, eg, eh⟩ := e
    dsimp only at q1 q2 q3
    by_cases hjk : j = k
    · subst hjk
      have e0 : (⟨ea, en, eg, eh⟩ : Ent) = E := by have := HK.out; rw [hje] at this; injection this
      subst e0
      dsimp only at ha
      subst ha
      clear ho hje k1 k2 k3 hgl
      go_wp2
      go_ret2
      exact ⟨rfl, HO.out.trans (HOW.out.alloc _)⟩
    · have hne : ea ≠ a := HF.out j _ (by omega) hje
      have hne2 : ((ea : Int) == (a : Int)) = false := by rw [beq_eq_false_iff_ne]; omega
      clear ho hje k1 k2 k3 hgl
      go_wp2
      exact ⟨⟨j + 1, by omega, by go_num, HOW.out.alloc _⟩, by show l.length - (intOf (Value.int IntKind.i64 ((j : Int) + 1))).toNat < l.length - (intOf (Value.int IntKind.i64 (j : Int))).toNat; simp [intOf]; omega⟩
end Go.Proofs.YtfplalgoopkmaaaGreat

namespace Go.Proofs.YtfplalgoopkmaaaGreat
open Go.RowKit

set_option maxRecDepth 100000 in
set_option maxHeartbeats 1000000 in
theorem world_may (A : St) (t i n : Nat) (E : Ent) (w : World) (L : Lay) (h : Rep w L A) (ht : t < A.wl.nth) (h1 : (A.wl.th t).is = 1) (h2 : A.fr false t = none) (hr : Rising (A.wl.led.map entKey)) (hf : A.wl.led.length ≤ 990)
    (hi : A.wl.led[i]? = some E) (hh : E.held = false) (hx : E.addr + max E.n 1 < 18446744073709551616) (hn : n ≤ E.n) :
    Calls Tryz.prog 29 #[.pointer (some ⟨L.bw, 0, none⟩), .int .i64 t, .int .u64 E.addr, .int .u64 n] w fun e w' => e = .returned (.int .i64 0) ∧ Only Nobody w w' := by
  have HR := Lib.hid (world_ready A t w L h ht h1 h2)
  have HI := Lib.hid (ledger_In L.bw E.addr i E L.vl A.wl.led w (h.ledAt hr hf) hi rfl hh hx)
  generalize L.bw = bw at *
  generalize L.bth = bth at *
  clear h hi hr hf
  obtain ⟨ea, en, eg, eh⟩ := E
  dsimp only at *
  have b1 : decide (en < n) = false := by rw [decide_eq_false_iff_not]; omega
  go_enter Tryz.func29, Tryz.ntmps29
  go_wp2_with (first | (go_at_call 41; refine HR.out.mono ?_; rintro e w1 ⟨rfl, rfl⟩) | (go_at_call 42; refine HI.out.mono ?_; rintro e w2 ⟨rfl, ho⟩; have HO := Lib.hid ho; clear ho))
  all_goals
    first
    | (go_ret; exact ⟨rfl, HO.out.alloc _⟩)
    | skip
end Go.Proofs.YtfplalgoopkmaaaGreat
