/- Layer 16: a step of a thread's call. Layer 16: end of a malloc that went well, of a free. Layer 17: a call, alone. Conditions: none. -/
import Derived.Test.YtfplalgoopkmaaaGreatPart34
import Derived.Test.YtfplalgoopkmaaaGreatPart35

set_option linter.unusedVariables false
set_option linter.unusedSimpArgs false

namespace Go.Proofs.YtfplalgoopkmaaaGreat
open Go.RowKit

section
variable {A A1 : St} {t : Nat} {F F1 : Fr}
set_option maxRecDepth 100000 in
set_option maxHeartbeats 1000000 in
/-- The call isn't over. -/
theorem world_Step (hF : A.fr false t = some F) (ht : t < A.wl.nth) (h1 : (A.wl.th t).is = 1)
    (hS : SysCalls 76 (fun L => #[ptrV (L.fr false t)]) A (fun _ => .bool true) A1) (hF1 : A1.fr false t = some F1) (hwl : A1.wl = A.wl) (hd : isDone F1.st = false) :
    SysCalls 54 (fun L => #[.pointer (some ⟨L.bw, 0, none⟩), .int .i64 t]) A (fun _ => .tuple #[.bool false, .int .i64 0]) A1 := by
  intro w L h
  have HOF := Lib.hid (world_of A t w L h ht)
  have hw : WldOK w L A.wl _ := h.all .wld
  have c0 : w.cell? ⟨L.bth, t * 12, none⟩ = some (.int .i64 1) := by
    have := (hw.ths.cell (t * 12)).trans (thsV_at L A.wl _ t 0 ht (by omega))
    rw [this]; show some (Value.int .i64 _) = _; rw [h1]; rfl
  have c7 : w.cell? ⟨L.bth, t * 12 + 7, none⟩ = some (.pointer (some ⟨L.fr false t, 0, none⟩)) := by
    have := (hw.ths.cell (t * 12 + 7)).trans (thsV_at L A.wl _ t 7 ht (by omega))
    rw [this]; show some (frV_ L (A.fr false t).isSome t) = _; rw [hF]; rfl
  have HS : Hid (Calls Tryz.prog 76 #[.pointer (some ⟨L.fr false t, 0, none⟩)] w fun e w' => ∃ L', e = .returned (.bool true) ∧ Ste w L A w' L' A1) := Lib.hid (hS w L h)
  have HN : Hid (∀ w' L', Ste w L A w' L' A1 → w'.cell? ⟨L.bth, t * 12 + 7, none⟩ = some (.pointer (some ⟨L.fr false t, 0, none⟩)) ∧ Calls Tryz.prog 77 #[.pointer (some ⟨L.fr false t, 0, none⟩)] w' fun x w'' => x = .returned (.bool false) ∧ w' = w'') := Lib.hid fun w' L' hs => by
    have hw : WldOK w' L' A1.wl _ := hs.rep.all .wld
    have c7 := (hw.ths.cell (t * 12 + 7)).trans (thsV_at L' A1.wl _ t 7 (by rw [hwl]; exact ht) (by omega))
    rw [hs.fix.bth] at c7
    refine ⟨by rw [c7]; show some (frV_ L' (A1.fr false t).isSome t) = _; rw [hF1]; show some (ptrV (L'.fr false t)) = _; rw [hs.fix.fr], ?_⟩
    obtain ⟨s0, o0, hb0, _⟩ := (hs.rep.fr hF1).blk
    have := fr_Done _ _ w' hb0
    rw [show (frM L' t F1 (L'.fl false t) (ownV s0) (ownV o0)).state = F1.st from rfl, hd, hs.fix.fr] at this
    exact this
  show Calls _ _ #[.pointer (some ⟨L.bw, 0, none⟩), .int .i64 t] w _
  generalize hbf : L.fr false t = bf at *
  generalize hbw : L.bw = bw at *
  generalize hbt : L.bth = bth at *
  clear h hw hS
  go_enter Tryz.func54, Tryz.ntmps54
  go_wp2_with (first | (go_at_call 36; refine HOF.out.mono ?_; rintro e w1 ⟨rfl, rfl⟩) | (go_at_call 76; refine HS.out.mono ?_; rintro e w2 ⟨L2, rfl, hst⟩; have HST := Lib.hid hst; have HN2 := Lib.hid (HN.out _ _ hst); have d7 := (HN.out _ _ hst).1; clear hst) | (go_at_call 77; refine HN2.out.2.mono ?_; rintro e w3 ⟨rfl, rfl⟩))
  go_ret2
  exact ⟨L2, rfl, HST.out⟩
end

abbrev EndOK (t : Nat) (A A' : St) : Prop := ∀ w L, Rep w L A → Calls Tryz.prog 79 #[.pointer (some ⟨L.bw, 0, none⟩), .pointer (some ⟨L.bth, t * 12, none⟩)] w fun e w' => ∃ L', e = .returned (.tuple #[]) ∧ Ste w L A w' L' A'
section
variable {A A1 A2 : St} {t : Nat} {F F1 : Fr}
set_option maxRecDepth 100000 in
set_option maxHeartbeats 2000000 in
/-- The call is over. -/
theorem world_Step_done (hF : A.fr false t = some F) (ht : t < A.wl.nth) (h1 : (A.wl.th t).is = 1)
    (hS : SysCalls 76 (fun L => #[ptrV (L.fr false t)]) A (fun _ => .bool true) A1) (hF1 : A1.fr false t = some F1) (hwl : A1.wl = A.wl) (hd : isDone F1.st = true) (hE : EndOK t (A1.uncall t F1.r) A2) :
    SysCalls 54 (fun L => #[.pointer (some ⟨L.bw, 0, none⟩), .int .i64 t]) A (fun _ => .tuple #[.bool true, .int .i64 0]) A2 := by
  intro w L h
  have HOF := Lib.hid (world_of A t w L h ht)
  have hw : WldOK w L A.wl _ := h.all .wld
  have c0 : w.cell? ⟨L.bth, t * 12, none⟩ = some (.int .i64 1) := by
    have := (hw.ths.cell (t * 12)).trans (thsV_at L A.wl _ t 0 ht (by omega))
    rw [this]; show some (Value.int .i64 _) = _; rw [h1]; rfl
  have c7 : w.cell? ⟨L.bth, t * 12 + 7, none⟩ = some (.pointer (some ⟨L.fr false t, 0, none⟩)) := by
    have := (hw.ths.cell (t * 12 + 7)).trans (thsV_at L A.wl _ t 7 ht (by omega))
    rw [this]; show some (frV_ L (A.fr false t).isSome t) = _; rw [hF]; rfl
  have HS : Hid (Calls Tryz.prog 76 #[.pointer (some ⟨L.fr false t, 0, none⟩)] w fun e w' => ∃ L', e = .returned (.bool true) ∧ Ste w L A w' L' A1) := Lib.hid (hS w L h)
  have HN : Hid (∀ w' L', Ste w L A w' L' A1 → w'.cell? ⟨L.bth, t * 12 + 7, none⟩ = some (.pointer (some ⟨L.fr false t, 0, none⟩)) ∧ (Calls Tryz.prog 77 #[.pointer (some ⟨L.fr false t, 0, none⟩)] w' fun x w'' => x = .returned (.bool true) ∧ w' = w'') ∧ (∀ w1, Only Nobody w' w1 → Calls Tryz.prog 78 #[.pointer (some ⟨L.fr false t, 0, none⟩)] w1 fun x w'' => x = .returned (resMV F1.r) ∧ Only Nobody w1 w'') ∧ ∀ w1, Only Nobody w' w1 → Blk w1 L.bth 112 (thsV L' A1.wl (fun u => (A1.fr false u).isSome))) := Lib.hid fun w' L' hs => by
    have hw : WldOK w' L' A1.wl _ := hs.rep.all .wld
    have c7 := (hw.ths.cell (t * 12 + 7)).trans (thsV_at L' A1.wl _ t 7 (by rw [hwl]; exact ht) (by omega))
    rw [hs.fix.bth] at c7
    obtain ⟨s0, o0, hb0, _⟩ := (hs.rep.fr hF1).blk
    have := fr_Done _ _ w' hb0
    rw [show (frM L' t F1 (L'.fl false t) (ownV s0) (ownV o0)).state = F1.st from rfl, hd, hs.fix.fr] at this
    refine ⟨by rw [c7]; show some (frV_ L' (A1.fr false t).isSome t) = _; rw [hF1]; show some (ptrV (L'.fr false t)) = _; rw [hs.fix.fr], this, fun w1 ho => ?_, fun w1 ho => ?_⟩
    · have := fr_Result _ _ w1 (hb0.only ho (fun h => h)) hd
      rw [hs.fix.fr] at this
      exact this
    · have := hw.ths.only ho (fun h => h)
      rw [hs.fix.bth] at this
      exact this
  have HT := Lib.hid (fun (L' : Lay) k (hk : k < 12) => thsV_at L' A1.wl (fun u => (A1.fr false u).isSome) t k (by rw [hwl]; exact ht) hk)
  have HU : Hid (∀ w' L', Ste w L A w' L' A1 → ∀ w1, Only (fun x => x = L.bth) w' w1 → Blk w1 L.bth 112 ((((((thsV L' A1.wl (fun u => (A1.fr false u).isSome)).setIfInBounds (t * 12 + 8) (.int .u64 F1.r.addr)).setIfInBounds (t * 12 + 9) (.int .i64 F1.r.err)).setIfInBounds (t * 12 + 10) (.int .i64 F1.r.steps)).setIfInBounds (t * 12 + 11) (.bool true)).setIfInBounds (t * 12 + 7) (.pointer none)) → Ste w L A w1 L' (A1.uncall t F1.r) ∧ Calls Tryz.prog 79 #[.pointer (some ⟨L.bw, 0, none⟩), .pointer (some ⟨L.bth, t * 12, none⟩)] w1 fun e w' => ∃ L'', e = .returned (.tuple #[]) ∧ Ste w L A w' L'' A2) := Lib.hid fun w' L' hs w1 ho hb => by
    have e1 : L'.bth = L.bth := hs.fix.bth
    have e2 : L'.bw = L.bw := hs.fix.bw
    rw [← thsV_over L' A1 t F1.r (by rw [hwl]; exact ht), ← e1] at hb
    have hu := Rep.uncall hs.rep t F1.r (by rw [e1]; exact ho) hb
    refine ⟨hs.trans hu, ?_⟩
    have := hE w1 L' hu.rep
    rw [e1, e2] at this
    refine this.mono ?_
    rintro e w2 ⟨L2, rfl, h2⟩
    exact ⟨L2, rfl, (hs.trans hu).trans h2⟩
  show Calls _ _ #[.pointer (some ⟨L.bw, 0, none⟩), .int .i64 t] w _
  generalize F1.r = R at *
  obtain ⟨ra, re, rs⟩ := R
  generalize hbf : L.fr false t = bf at *
  generalize hbw : L.bw = bw at *
  generalize hbt : L.bth = bth at *
  clear h hw hS
  go_enter Tryz.func54, Tryz.ntmps54
  go_wp2_with (first | (go_at_call 36; refine HOF.out.mono ?_; rintro e w1 ⟨rfl, rfl⟩) | (go_at_call 76; refine HS.out.mono ?_; rintro e w2 ⟨L2, rfl, hst⟩; have HST := Lib.hid hst; have HN2 := Lib.hid (HN.out _ _ hst); have d7 := (HN.out _ _ hst).1; clear hst) | (go_at_call 77; refine HN2.out.2.1.mono ?_; rintro e w3 ⟨rfl, rfl⟩) | (go_at_call 78; refine (HN2.out.2.2.1 _ (Only.refl _ _)).mono ?_; rintro e w5 ⟨rfl, ho5⟩; have HO5 := Lib.hid ho5; have HB5 := Lib.hid (HN2.out.2.2.2 _ ho5); have g7 := (HB5.out.cell _).trans (HT.out L2 7 (by omega)); have g8 := (HB5.out.cell _).trans (HT.out L2 8 (by omega)); have g9 := (HB5.out.cell _).trans (HT.out L2 9 (by omega)); have g10 := (HB5.out.cell _).trans (HT.out L2 10 (by omega)); have g11 := (HB5.out.cell _).trans (HT.out L2 11 (by omega)); have f7 := HB5.out.frozen (t * 12 + 7); have f8 := HB5.out.frozen (t * 12 + 8); have f9 := HB5.out.frozen (t * 12 + 9); have f10 := HB5.out.frozen (t * 12 + 10); have f11 := HB5.out.frozen (t * 12 + 11); clear ho5) | (go_at_call 79; refine (HU.out w2 L2 HST.out _ (Only.setAt (Only.setAt (Only.setAt (Only.setAt (Only.setAt (S := fun g => g = bth) (HO5.out.mono (fun _ h => h.elim)) rfl _ _) rfl _ _) rfl _ _) rfl _ _) rfl _ _) (((((HB5.out.set_ (t * 12 + 8) (.int .u64 ra)).set_ (t * 12 + 8 + 1) (.int .i64 re)).set_ (t * 12 + 8 + 2) (.int .i64 rs)).set_ (t * 12 + 11) (.bool true)).set_ (t * 12 + 7) (.pointer none))).2.mono ?_; rintro e w6 ⟨L6, rfl, hst6⟩; have HST6 := Lib.hid hst6; clear hst6))
  go_ret2
  exact ⟨L6, rfl, HST6.out⟩
end
end Go.Proofs.YtfplalgoopkmaaaGreat

namespace Go.Proofs.YtfplalgoopkmaaaGreat
open Go.RowKit

abbrev entOf (x : Th) : Ent := ⟨x.res.addr, x.asked.n, max x.asked.align 1, false⟩
theorem end_no {A : St} {t : Nat} (ht : t < A.wl.nth) (hk : (A.wl.th t).asked.kind = 1) (he : (A.wl.th t).res.err ≠ 0) : EndOK t A A := fun w L h =>
  (world_end_no A t w L h ht hk he).mono fun _ _ ⟨h1, h2⟩ => ⟨L, h1, Ste.refl h h2⟩

set_option maxRecDepth 100000 in
set_option maxHeartbeats 2000000 in
/-- A malloc that went well is written down. -/
theorem end_add {A : St} {t : Nat} (ht : t < A.wl.nth) (hk : (A.wl.th t).asked.kind = 1) (he : (A.wl.th t).res.err = 0)
    (hadd : ∀ w L, Rep w L A → Calls Tryz.prog 101 #[.pointer (some ⟨L.bw, 0, none⟩), blkV (entOf (A.wl.th t))] w fun x w' => ∃ L', x = .returned (.int .i64 0) ∧ Ste w L A w' L' (A.setWl (A.wl.setLed (A.wl.led ++ [entOf (A.wl.th t)]))) ∧ Kept L L') :
    EndOK t A (A.setWl (A.wl.setLed (A.wl.led ++ [entOf (A.wl.th t)]))) := by
  intro w L h
  have hw : WldOK w L A.wl _ := h.all .wld
  have c1 : w.cell? ⟨L.bth, t * 12 + 1, none⟩ = some (.int .i64 1) := by
    have := (hw.ths.cell (t * 12 + 1)).trans (thsV_at L A.wl _ t 1 ht (by omega))
    rw [this]; show some (Value.int .i64 _) = _; rw [hk]
  have c2 : w.cell? ⟨L.bth, t * 12 + 2, none⟩ = some _ := (hw.ths.cell (t * 12 + 2)).trans (thsV_at L A.wl _ t 2 ht (by omega))
  have c3 : w.cell? ⟨L.bth, t * 12 + 3, none⟩ = some _ := (hw.ths.cell (t * 12 + 3)).trans (thsV_at L A.wl _ t 3 ht (by omega))
  have c4 : w.cell? ⟨L.bth, t * 12 + 4, none⟩ = some _ := (hw.ths.cell (t * 12 + 4)).trans (thsV_at L A.wl _ t 4 ht (by omega))
  have c5 : w.cell? ⟨L.bth, t * 12 + 5, none⟩ = some _ := (hw.ths.cell (t * 12 + 5)).trans (thsV_at L A.wl _ t 5 ht (by omega))
  have c6 : w.cell? ⟨L.bth, t * 12 + 6, none⟩ = some _ := (hw.ths.cell (t * 12 + 6)).trans (thsV_at L A.wl _ t 6 ht (by omega))
  have c8 : w.cell? ⟨L.bth, t * 12 + 8, none⟩ = some _ := (hw.ths.cell (t * 12 + 8)).trans (thsV_at L A.wl _ t 8 ht (by omega))
  have c9 : w.cell? ⟨L.bth, t * 12 + 9, none⟩ = some _ := (hw.ths.cell (t * 12 + 9)).trans (thsV_at L A.wl _ t 9 ht (by omega))
  have c10 : w.cell? ⟨L.bth, t * 12 + 10, none⟩ = some _ := (hw.ths.cell (t * 12 + 10)).trans (thsV_at L A.wl _ t 10 ht (by omega))
  have hlt : L.bth < w.heap.size := hw.ths.lt
  obtain ⟨ml, hml⟩ : ∃ m : Nat, m = max (A.wl.th t).asked.align 1 := ⟨_, rfl⟩
  have HADD : Hid (∀ w1, Only Nobody w w1 → Calls Tryz.prog 101 #[.pointer (some ⟨L.bw, 0, none⟩), .agg #[.int .u64 (A.wl.th t).res.addr, .int .u64 (A.wl.th t).asked.n, .int .u64 ml]] w1 fun x w' => ∃ L', x = .returned (.int .i64 0) ∧ Ste w L A w' L' (A.setWl (A.wl.setLed (A.wl.led ++ [entOf (A.wl.th t)])))) := Lib.hid fun w1 ho => by
    rw [hml]
    refine (hadd w1 L (h.quiet ho)).mono ?_
    rintro x w' ⟨L', rfl, hs, _⟩
    exact ⟨L', rfl, hs.quiet_left ho h⟩
  clear hadd
  generalize hA2 : A.setWl (A.wl.setLed (A.wl.led ++ [entOf (A.wl.th t)])) = A2 at *
  clear hA2
  generalize A.wl.th t = x at *
  obtain ⟨xi, ⟨xk, xa, xn, xl, xz, xf⟩, ⟨ra, re, rs⟩, xh⟩ := x
  dsimp only at *
  subst hk
  subst he
  have hml2 : (ml : Int) = (if (xl : Int) < 1 then 1 else (xl : Int)) := by
    rw [hml]; split <;> omega
  rw [hml2] at HADD
  clear hml2 hml ml
  have HBS := Lib.hid (fun (o1 o2 : Obj) => ((Only.refl Nobody w).alloc o1).alloc o2)
  show Calls _ _ #[.pointer (some ⟨L.bw, 0, none⟩), .pointer (some ⟨L.bth, t * 12, none⟩)] w _
  generalize L.bw = bw at *
  generalize L.bth = bth at *
  clear h hw
  go_enter Tryz.func79, Tryz.ntmps79
  go_wp2
  go_region
  all_goals go_wp2
  all_goals
    go_region_law (go_simp; go_at_call 101; refine (HADD.out _ (HBS.out _ _).drew.drew).mono ?_; rintro e w3 ⟨L3, rfl, hst3⟩; have HST3 := Lib.hid hst3; clear hst3)
    all_goals
      go_end0
      exact ⟨L3, rfl, HST3.out⟩

set_option maxRecDepth 100000 in
set_option maxHeartbeats 2000000 in
/-- A free that is over is struck. -/
theorem end_drop {A : St} {t i : Nat} {e : Ent} (ht : t < A.wl.nth) (hk : (A.wl.th t).asked.kind = 2) (hr : Rising (A.wl.led.map entKey)) (hf : A.wl.led.length ≤ 990) (hi : A.wl.led[i]? = some e) (he : e.addr = (A.wl.th t).asked.addr) (hx : e.addr < 18446744073709551616) :
    EndOK t A (A.setWl (A.wl.setLed (A.wl.led.eraseIdx i))) := by
  intro w L h
  have hw : WldOK w L A.wl _ := h.all .wld
  have c1 : w.cell? ⟨L.bth, t * 12 + 1, none⟩ = some (.int .i64 2) := by
    have := (hw.ths.cell (t * 12 + 1)).trans (thsV_at L A.wl _ t 1 ht (by omega))
    rw [this]; show some (Value.int .i64 _) = _; rw [hk]
  have c2 : w.cell? ⟨L.bth, t * 12 + 2, none⟩ = some _ := (hw.ths.cell (t * 12 + 2)).trans (thsV_at L A.wl _ t 2 ht (by omega))
  have c3 : w.cell? ⟨L.bth, t * 12 + 3, none⟩ = some _ := (hw.ths.cell (t * 12 + 3)).trans (thsV_at L A.wl _ t 3 ht (by omega))
  have c4 : w.cell? ⟨L.bth, t * 12 + 4, none⟩ = some _ := (hw.ths.cell (t * 12 + 4)).trans (thsV_at L A.wl _ t 4 ht (by omega))
  have c5 : w.cell? ⟨L.bth, t * 12 + 5, none⟩ = some _ := (hw.ths.cell (t * 12 + 5)).trans (thsV_at L A.wl _ t 5 ht (by omega))
  have c6 : w.cell? ⟨L.bth, t * 12 + 6, none⟩ = some _ := (hw.ths.cell (t * 12 + 6)).trans (thsV_at L A.wl _ t 6 ht (by omega))
  have c8 : w.cell? ⟨L.bth, t * 12 + 8, none⟩ = some _ := (hw.ths.cell (t * 12 + 8)).trans (thsV_at L A.wl _ t 8 ht (by omega))
  have c9 : w.cell? ⟨L.bth, t * 12 + 9, none⟩ = some _ := (hw.ths.cell (t * 12 + 9)).trans (thsV_at L A.wl _ t 9 ht (by omega))
  have c10 : w.cell? ⟨L.bth, t * 12 + 10, none⟩ = some _ := (hw.ths.cell (t * 12 + 10)).trans (thsV_at L A.wl _ t 10 ht (by omega))
  have hlt : L.bth < w.heap.size := hw.ths.lt
  have HDR : Hid (∀ w1, Only Nobody w w1 → w1.heap.size = w.heap.size + 1 + 1 → Calls Tryz.prog 102 #[.pointer (some ⟨L.bw, 0, none⟩), .slice (some ⟨w.heap.size + 1 + 1, 0, none⟩) 1 1] (w1.alloc (.cells #[.int .u64 (A.wl.th t).asked.addr] 22)) fun x w' => ∃ L', x = .returned (.int .i64 0) ∧ Ste w L A w' L' (A.setWl (A.wl.setLed (A.wl.led.eraseIdx i)))) := Lib.hid fun w1 ho hsz => by
    rw [← hsz]
    refine (sys_Drop A (A.wl.th t).asked.addr i w1.heap.size e _ L (h.quiet (ho.alloc _)) hr hf hi he (by omega) (Blk.new w1 22 _)).mono ?_
    rintro x w' ⟨L', rfl, hs, _⟩
    exact ⟨L', rfl, hs.quiet_left (ho.alloc _) h⟩
  generalize hA2 : A.setWl (A.wl.setLed (A.wl.led.eraseIdx i)) = A2 at *
  clear hA2 he hi hr hf hx
  generalize A.wl.th t = x at *
  obtain ⟨xi, ⟨xk, xa, xn, xl, xz, xf⟩, ⟨ra, re, rs⟩, xh⟩ := x
  dsimp only at *
  subst hk
  have HBS := Lib.hid (fun (o1 o2 : Obj) => ((Only.refl Nobody w).alloc o1).alloc o2)
  have b1 : (re == 0) = true ∨ (re == 0) = false := by cases re == 0 <;> simp
  show Calls _ _ #[.pointer (some ⟨L.bw, 0, none⟩), .pointer (some ⟨L.bth, t * 12, none⟩)] w _
  generalize L.bw = bw at *
  generalize L.bth = bth at *
  clear h hw
  rcases b1 with b1 | b1
  all_goals
    go_enter Tryz.func79, Tryz.ntmps79
    go_wp2
    go_region
    all_goals go_wp2
    all_goals
      go_region_law (go_simp; go_at_call 102; refine (HDR.out _ (HBS.out _ _).drew.drew (by simp)).mono ?_; rintro e w3 ⟨L3, rfl, hst3⟩; have HST3 := Lib.hid hst3; clear hst3)
      all_goals
        go_end0
        exact ⟨L3, rfl, HST3.out⟩
end Go.Proofs.YtfplalgoopkmaaaGreat

namespace Go.Proofs.YtfplalgoopkmaaaGreat
open Go.RowKit

/-- A thread's step of the world. -/
def WStep (t : Nat) (A A' : St) : Prop := ∀ w L, Rep w L A → Calls Tryz.prog 54 #[.pointer (some ⟨L.bw, 0, none⟩), .int .i64 t] w fun e w' => ∃ L' b, e = .returned (.tuple #[.bool b, .int .i64 0]) ∧ Ste w L A w' L' A'
/-- So many steps, the last one of which ends the call. -/
inductive Chain (t : Nat) : Nat → St → St → Prop
  | nil {A : St} : A.fr false t = none → Chain t 0 A A
  | cons {k : Nat} {A B C : St} : (A.fr false t).isSome = true → WStep t A B → B.wl.nth = A.wl.nth → Chain t k B C → Chain t (k + 1) A C
theorem Chain.nth {t k : Nat} {A C : St} (h : Chain t k A C) : C.wl.nth = A.wl.nth := by
  induction h with
  | nil => rfl
  | cons _ _ h1 _ ih => rw [ih, h1]
theorem Chain.fin {t k : Nat} {A C : St} (h : Chain t k A C) : C.fr false t = none := by
  induction h with
  | nil h => exact h
  | cons _ _ _ _ ih => exact ih
theorem Chain.some {t k : Nat} {A C : St} (h : Chain t k A C) : (A.fr false t).isSome = decide (0 < k) := by
  cases h with
  | nil h => rw [h]; rfl
  | cons h _ _ _ => rw [h]; simp

theorem alone_result (w : World) (b : Nat) (tmps : Array Value) (a : Nat) (e s : Int) (hb : Blk w b 74 #[.int .u64 a, .int .i64 e, .int .i64 s]) (h4 : tmps[6]? = some (.pointer (some ⟨b, 0, none⟩))) (h5 : tmps[7]? = some (.int .i64 0)) :
    (results Tryz.f39 tmps).run Tryz.prog w = .ok (.tuple #[.agg #[.int .u64 a, .int .i64 e, .int .i64 s], .int .i64 0]) w := by
  have hc := hb.cell
  simp [results, Tryz.f39, go_sem, h4, h5, hc]

set_option maxRecDepth 100000 in
set_option maxHeartbeats 1000000 in
theorem trace_Alone (A C : St) (t k most : Nat) (hc : Chain t (k + 1) A C) (hm : k + 1 ≤ most) (hm2 : most ≤ 1000000) (ht : t < A.wl.nth) (hres : (C.wl.th t).has = true) (w : World) (L : Lay) (h : Rep w L A) :
    Calls Tryz.prog 39 #[.pointer (some ⟨L.bw, 0, none⟩), .int .i64 t, .int .i64 most] w fun e w' => ∃ L', e = .returned (.tuple #[resMV (C.wl.th t).res, .int .i64 0]) ∧ Ste w L A w' L' C := by
  have hoo := (Only.refl Nobody w).alloc (.cells #[.int .u64 0, .int .i64 0, .int .i64 0] 74)
  have h0 := h.quiet hoo
  have HTH := Lib.hid (world_Threads A _ L h0)
  have HPE0 := Lib.hid (world_Pending A t _ L h0 ht)
  rw [hc.some, show decide (0 < k + 1) = true from by simp] at HPE0
  have HPE : Hid (∀ B wr L', Rep wr L' B → L'.bw = L.bw → B.wl.nth = A.wl.nth → Calls Tryz.prog 22 #[.pointer (some ⟨L.bw, 0, none⟩), .int .i64 t] wr fun e w' => e = .returned (.bool (B.fr false t).isSome) ∧ wr = w') := Lib.hid fun B wr L' hr e1 e2 => by
    rw [← e1]; exact world_Pending B t wr L' hr (by rw [e2]; exact ht)
  have HST : Hid (∀ B D wr L', WStep t B D → Rep wr L' B → L'.bw = L.bw → Calls Tryz.prog 54 #[.pointer (some ⟨L.bw, 0, none⟩), .int .i64 t] wr fun e w' => ∃ L2 b, e = .returned (.tuple #[.bool b, .int .i64 0]) ∧ Ste wr L' B w' L2 D) := Lib.hid fun B D wr L' hs hr e1 => by
    rw [← e1]; exact hs wr L' hr
  have HRE : Hid (∀ wr L', Rep wr L' C → L'.bw = L.bw → Calls Tryz.prog 55 #[.pointer (some ⟨L.bw, 0, none⟩), .int .i64 t] wr fun e w' => e = .returned (.tuple #[resMV (C.wl.th t).res, .int .i64 0]) ∧ Only Nobody wr w') := Lib.hid fun wr L' hr e1 => by
    rw [← e1]; exact world_Result C t wr L' hr (by rw [hc.nth]; exact ht) hres
  have HS0 := Lib.hid (Ste.refl h0 (Only.refl Nobody _))
  have HFIN : Hid (∀ w' L', Ste (w.alloc (.cells #[.int .u64 0, .int .i64 0, .int .i64 0] 74)) L A w' L' C → ∀ w'' u0 u1 u2, Only Nobody w' w'' → Ste w L A (((w''.setCell ⟨w.heap.size, 0, none⟩ u0).setCell ⟨w.heap.size, 1, none⟩ u1).setCell ⟨w.heap.size, 2, none⟩ u2) L' C ∧ Blk (((w''.setCell ⟨w.heap.size, 0, none⟩ u0).setCell ⟨w.heap.size, 1, none⟩ u1).setCell ⟨w.heap.size, 2, none⟩ u2) w.heap.size 74 #[u0, u1, u2]) := Lib.hid fun w' L' hs w'' u0 u1 u2 ho => by
    have hb := (hs.run.keep (Blk.new w 74 #[.int .u64 0, .int .i64 0, .int .i64 0]) (fun i hi => by have := h.lt hi; omega)).1.only ho (fun h => h)
    have hs2 := (hs.quiet_left hoo h).quiet_right ho
    refine ⟨⟨⟨fun i => (hs2.rep.all i).keep (S := fun x => x = w.heap.size) (Only.setAt (S := fun x => x = w.heap.size) (Only.setAt (S := fun x => x = w.heap.size) (Only.setAt (S := fun x => x = w.heap.size) (Only.refl _ _) rfl _ _) rfl _ _) rfl _ _) (fun x hx e => ?_), hs2.rep.ap⟩, ?_, hs2.foot, hs2.fix⟩, ((hb.set_ 0 u0).set_ 1 u1).set_ 2 u2⟩
    · rw [e] at hx
      rcases hs.foot i _ hx with ⟨j, hj⟩ | hj
      · have := h.lt hj; omega
      · rw [World.size_alloc] at hj; omega
    · exact hs2.only.trans_new (Only.setAt (S := fun x => x = w.heap.size) (Only.setAt (S := fun x => x = w.heap.size) (Only.setAt (S := fun x => x = w.heap.size) (Only.refl _ _) rfl _ _) rfl _ _) rfl _ _) (fun b hb e => by omega)
  have HBL : Hid (∀ w' L', Ste (w.alloc (.cells #[.int .u64 0, .int .i64 0, .int .i64 0] 74)) L A w' L' C → ∀ w'', Only Nobody w' w'' → Blk w'' w.heap.size 74 #[.int .u64 0, .int .i64 0, .int .i64 0]) := Lib.hid fun w' L' hs w'' ho =>
    (hs.run.keep (Blk.new w 74 #[.int .u64 0, .int .i64 0, .int .i64 0]) (fun i hi => by have := h.lt hi; omega)).1.only ho (fun h => h)
  have HC := Lib.hid hc
  have hn8 := (show WldOK w L A.wl _ from h.all .wld).n8
  have d1 : decide ((t : Int) < 0) = false := by rw [decide_eq_false_iff_not]; omega
  generalize (C.wl.th t).res = R at *
  obtain ⟨ra, re, rs⟩ := R
  generalize hnn : A.wl.nth = nth at *
  generalize hbw : L.bw = bw at *
  have d2 : decide ((nth : Int) ≤ t) = false := by rw [decide_eq_false_iff_not]; omega
  have d3 : decide (nth ≤ t) = false := by rw [decide_eq_false_iff_not]; omega
  clear h hc hres hoo h0
  go_enter Tryz.func39, Tryz.ntmps39
  go_wp2_with (first | (go_at_call 53; refine HTH.out.mono ?_; rintro e w1 ⟨rfl, rfl⟩) | (go_at_call 22; refine HPE0.out.mono ?_; rintro e w1 ⟨rfl, rfl⟩))
  generalize hw0 : w.alloc (.cells #[.int .u64 0, .int .i64 0, .int .i64 0] 74) = w0 at *
  go_loopw [8] (fun i wr => ∃ j B L', i = .int .i64 (j : Nat) ∧ j ≤ k + 1 ∧ Chain t (k + 1 - j) B C ∧ B.wl.nth = nth ∧ Ste w0 L A wr L' B) (fun i _ => k + 1 - (intOf i).toNat)
  case atStart => exact ⟨0, A, L, rfl, by omega, HC.out, hnn, HS0.out⟩
  case round =>
    obtain ⟨j, B, L', rfl, hj, hch, hnB, hst⟩ := hrel
    have HST1 := Lib.hid hst
    have HP1 := Lib.hid (HPE.out B wr L' hst.rep (by rw [hst.fix.bw, hbw]) hnB)
    rw [hch.some] at HP1
    have hbw1 : L'.bw = bw := by rw [hst.fix.bw, hbw]
    clear hst
    by_cases hjk : j = k + 1
    · have hz : k + 1 - j = 0 := by omega
      have hBC : B = C := by
        rw [hz] at hch
        cases hch with
        | nil _ => rfl
      subst hBC
      rw [hz, show decide (0 < 0) = false from rfl] at HP1
      have HR1 := Lib.hid (HRE.out wr L' HST1.out.rep (by rw [HST1.out.fix.bw, hbw]))
      have hcase : decide (j < most) = true ∨ decide (j < most) = false := by cases decide (j < most) <;> simp
      clear hch hjk hz
      rcases hcase with hcase | hcase
      all_goals
        go_wp2_with (first | (go_at_call 22; refine HP1.out.mono ?_; rintro e w1 ⟨rfl, rfl⟩) | (go_at_call 55; refine HR1.out.mono ?_; rintro e w3 ⟨rfl, ho3⟩; have HO3 := Lib.hid ho3; have HB3 := Lib.hid (HBL.out _ _ HST1.out _ ho3); have g0 := HB3.out.cell 0; have g1 := HB3.out.cell 1; have g2 := HB3.out.cell 2; have f0 := HB3.out.frozen 0; have f1 := HB3.out.frozen 1; have f2 := HB3.out.frozen 2; clear ho3))
        have hfin := HFIN.out _ _ HST1.out _ (.int .u64 ra) (.int .i64 re) (.int .i64 rs) HO3.out
        exact bodyPost_ret (alone_result _ _ _ _ _ _ hfin.2 rfl rfl) rfl ⟨_, rfl, hfin.1⟩
    · rw [show decide (0 < k + 1 - j) = true from by rw [decide_eq_true_eq]; omega] at HP1
      obtain ⟨m, hm3⟩ : ∃ m, k + 1 - j = m + 1 := ⟨k - j, by omega⟩
      rw [hm3] at hch
      cases hch with
      | @cons _ _ D _ h1 h2 h3 h4 =>
        have HS1 := Lib.hid (HST.out B D wr L' h2 HST1.out.rep (by rw [HST1.out.fix.bw, hbw]))
        have hlt : decide (j < most) = true := by rw [decide_eq_true_eq]; omega
        have HCH := Lib.hid h4
        have HNB := Lib.hid (h3.trans hnB)
        clear h1 h2 h3 h4
        go_wp2_with (first | (go_at_call 22; refine HP1.out.mono ?_; rintro e w1 ⟨rfl, rfl⟩) | (go_at_call 54; refine HS1.out.mono ?_; rintro e w3 ⟨L2, b, rfl, hst2⟩; have HST2 := Lib.hid (HST1.out.trans hst2); clear hst2))
        exact ⟨⟨j + 1, D, L2, by go_num, by omega, by rw [show k + 1 - (j + 1) = m from by omega]; exact HCH.out, HNB.out, HST2.out⟩, by show k + 1 - (intOf (Value.int IntKind.i64 ((j : Int) + 1))).toNat < k + 1 - (intOf (Value.int IntKind.i64 (j : Int))).toNat; simp [intOf]; omega⟩
end Go.Proofs.YtfplalgoopkmaaaGreat
