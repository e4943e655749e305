/- Each state's step, as a step of the world. Plans, without Go: which there are. A world's first block. Conditions: none. -/
import Derived.Test.YtfplalgoopkmaaaGreatPart37
import Derived.Test.YtfplalgoopkmaaaGreatPart38
import Derived.Test.YtfplalgoopkmaaaGreatPart29
import Derived.Test.YtfplalgoopkmaaaGreatPart21

set_option linter.unusedVariables false
set_option linter.unusedSimpArgs false

namespace Go.Proofs.YtfplalgoopkmaaaGreat
open Go.RowKit

theorem updF_updF (g : Bool → Nat → Option Fr) (i : Bool) (t : Nat) (x y : Option Fr) : updF (updF g i t x) i t y = updF g i t y := by
  funext j u
  by_cases e : j = i ∧ u = t
  · obtain ⟨rfl, rfl⟩ := e
    rw [updF_same, updF_same]
  · rw [updF_ne _ _ e, updF_ne _ _ e, updF_ne _ _ e]
theorem updF_id {g : Bool → Nat → Option Fr} {i : Bool} {t : Nat} {x : Option Fr} (h : g i t = x) : updF g i t x = g := by
  funext j u
  by_cases e : j = i ∧ u = t
  · obtain ⟨rfl, rfl⟩ := e
    rw [updF_same, h]
  · rw [updF_ne _ _ e]
theorem setFr_setFr (A : St) (i : Bool) (t : Nat) (F G : Fr) : (A.setFr i t F).setFr i t G = A.setFr i t G := by
  show ({ A with fr := updF (updF A.fr i t (some F)) i t (some G) } : St) = _
  rw [updF_updF]; rfl
theorem setFr_uncall (A : St) (t : Nat) (F : Fr) (r : ResM) : (A.setFr false t F).uncall t r = A.uncall t r := by
  show ({ A with wl := A.wl.setTh t ((A.wl.th t).told r), fr := updF (updF A.fr false t (some F)) false t none } : St) = _
  rw [updF_updF]
theorem setFr_same (A : St) (i : Bool) (t : Nat) (F : Fr) : (A.setFr i t F).fr i t = some F := updF_same _ _ _ _

theorem freshGo_none {t : Nat} {pl : Plan} {p : Nat} {r : List Nat} {A : St} (h : takeRow (A.segD p).T 16 (plSl pl) = none) : St.freshGo t pl (p :: r) A = St.freshGo t pl r A := by
  rw [St.freshGo]
  rw [h]
theorem freshGo_some {t : Nat} {pl : Plan} {p : Nat} {r : List Nat} {A : St} {x : Row (A.segD p).T 16} (h : takeRow (A.segD p).T 16 (plSl pl) = some x) : St.freshGo t pl (p :: r) A =
    ((pgAlloc A.f (p * 16 + x.1.1) (pgFor pl)).1.getD 0, 0, ((A.newPage p (A.segD p) x.1.1 pl).setHeap t ((A.heap t).push (rowIx pl.cls) (p * 16 + x.1.1))).setPage (p * 16 + x.1.1) (pgAlloc A.f (p * 16 + x.1.1) (pgFor pl)).2.1 (pgAlloc A.f (p * 16 + x.1.1) (pgFor pl)).2.2) := by
  rw [St.freshGo]
  rw [h]
theorem freshGo_setFr (t : Nat) (pl : Plan) (i : Bool) (u : Nat) (F : Fr) : ∀ (l : List Nat) (A : St), St.freshGo t pl l (A.setFr i u F) = ((St.freshGo t pl l A).1, (St.freshGo t pl l A).2.1, (St.freshGo t pl l A).2.2.setFr i u F) := by
  intro l
  induction l with
  | nil => intro A; rfl
  | cons p r ih =>
    intro A
    cases h : takeRow (A.segD p).T 16 (plSl pl) with
    | none =>
      rw [freshGo_none h, freshGo_none (A := A.setFr i u F) h]
      exact ih A
    | some x =>
      rw [freshGo_some h, freshGo_some (A := A.setFr i u F) h]
      rfl
theorem fresh_setFr (A : St) (t : Nat) (pl : Plan) (i : Bool) (u : Nat) (F : Fr) : (A.setFr i u F).fresh t pl = ((A.fresh t pl).1, (A.fresh t pl).2.1, (A.fresh t pl).2.2.setFr i u F) := freshGo_setFr t pl i u F _ A
theorem localGo_setFr (t c : Nat) (i : Bool) (u : Nat) (F : Fr) : ∀ (l : List Nat) (A : St), St.localGo t c l (A.setFr i u F) = ((St.localGo t c l A).1, (St.localGo t c l A).2.1, (St.localGo t c l A).2.2.setFr i u F) := by
  intro l
  induction l with
  | nil => intro A; rfl
  | cons k r ih =>
    intro A
    unfold St.localGo
    have hp : (A.setFr i u F).page k = A.page k := rfl
    have hf : (A.setFr i u F).f = A.f := rfl
    rw [hp, hf]
    cases A.page k with
    | none => rfl
    | some p =>
      dsimp only
      rcases pgAlloc A.f k p with ⟨o, p', f'⟩
      cases o with
      | none =>
        dsimp only
        exact ih (A.setHeap t ((A.heap t).fill c k))
      | some a => rfl
theorem local_setFr (A : St) (t c : Nat) (i : Bool) (u : Nat) (F : Fr) : (A.setFr i u F).local_ t c = ((A.local_ t c).1, (A.local_ t c).2.1, (A.local_ t c).2.2.setFr i u F) := localGo_setFr t c i u F _ A
theorem grown_setFr (A : St) (t : Nat) (i : Bool) (u : Nat) (F : Fr) : (A.setFr i u F).grown t = ((A.grown t).1, (A.grown t).2.setFr i u F) := by
  unfold St.grown
  have h : (A.setFr i u F).ar = A.ar := rfl
  rw [h]
  rcases A.ar.reserve 1 with ⟨o, ar⟩
  cases o <;> rfl

/-- What stays of states: their size, threads. -/
structure Up1 (B : St) (t : Nat) : Prop where
  t8 : t < 8
  ht : t < B.wl.nth
  up : (B.wl.th t).is = 1
theorem wstep {B A1 : St} {t : Nat} {F F1 : Fr} (hu : Up1 B t) (hS : SysCalls 76 (fun L => #[ptrV (L.fr false t)]) (B.setFr false t F) (fun _ => .bool true) A1) (hF1 : A1.fr false t = some F1) (hwl : A1.wl = B.wl) (hd : isDone F1.st = false) : WStep t (B.setFr false t F) A1 := fun w L h =>
  (world_Step (setFr_same _ _ _ _) hu.ht hu.up hS hF1 hwl hd w L h).mono fun _ _ ⟨L', h1, h2⟩ => ⟨L', false, h1, h2⟩
theorem wstep_done {B A1 A2 : St} {t : Nat} {F F1 : Fr} (hu : Up1 B t) (hS : SysCalls 76 (fun L => #[ptrV (L.fr false t)]) (B.setFr false t F) (fun _ => .bool true) A1) (hF1 : A1.fr false t = some F1) (hwl : A1.wl = B.wl) (hd : isDone F1.st = true) (hE : EndOK t (A1.uncall t F1.r) A2) : WStep t (B.setFr false t F) A2 := fun w L h =>
  (world_Step_done (setFr_same _ _ _ _) hu.ht hu.up hS hF1 hwl hd hE w L h).mono fun _ _ ⟨L', h1, h2⟩ => ⟨L', true, h1, h2⟩

section
variable {B A2 : St} {t : Nat} {F : Fr}
theorem SP.setFr (h : SP B) (i : Bool) (u : Nat) : SP (B.setFr i u F) := h.eq rfl rfl rfl rfl
theorem HP.setFr {v : Nat} (h : HP B v) (i : Bool) (u : Nat) : HP (B.setFr i u F) v := h.eq rfl rfl rfl
abbrev LiveOK (B : St) (t : Nat) : Prop := ∀ p, p ∈ (B.heap t).segs → p < 64 ∧ (B.seg p).isSome
theorem HP.liveOK (h : HP B t) (hs : SP B) : LiveOK B t := fun p hp => by
  have h1 := h.live p hp
  obtain ⟨s, h2⟩ := Option.isSome_iff_exists.1 h1
  have := (hs.sg p s h2).1.pn
  have := hs.n64
  exact ⟨by omega, h1⟩

theorem ws_refuse (hu : Up1 B t) (hst : F.st = sRefuse) (hn : F.r.steps < 1000000000000) (hl : LiveOK B t) (hE : EndOK t ((B.know t).uncall t ⟨0, 2, F.r.steps + 1⟩) A2) : WStep t (B.setFr false t F) A2 := by
  refine wstep_done hu (step_refuse (setFr_same _ _ _ _) hu.t8 hst hn (st_refuse (setFr_same _ _ _ _)) (setFr_same _ _ _ _) hl) (setFr_same _ _ _ _) rfl isDone_done ?_
  rw [setFr_setFr, setFr_setFr]
  show EndOK t (((B.know t).setFr false t _).uncall t _) A2
  rw [setFr_uncall]
  exact hE

theorem ws_local_none (hu : Up1 B t) (hst : F.st = sLocal) (hn : F.r.steps < 1000000000000) (c : Nat) (hc : c < 12) (hcl : F.plan.cls = c) (h1 : (B.heap t).L c = []) (h2 : (B.heap t).FL c = []) (hl : LiveOK B t) :
    WStep t (B.setFr false t F) ((B.know t).setFr false t { F.tick.to sFresh with list := [] }) := by
  have h := wstep (F1 := { F.tick.to sFresh with list := [] }) hu (step_local (setFr_same _ _ _ _) hu.t8 hst hn (st_local_none (setFr_same _ _ _ _) hu.t8 c hc hcl h1 h2) (setFr_same _ _ _ _) hl) (setFr_same _ _ _ _) rfl isDone_other.2.2.1
  rw [setFr_setFr, setFr_setFr] at h
  exact h

theorem ws_fresh_no (hu : Up1 B t) (hst : F.st = sFresh) (hn : F.r.steps < 1000000000000) (hpl : PlanOK F.plan) (hsp : SP B) (hhp : HP B t) (he : (B.heap t).segs = []) :
    WStep t (B.setFr false t F) ((B.know t).setFr false t (F.tick.to sLook)) := by
  have h := wstep (F1 := F.tick.to sLook) hu (step_fresh (setFr_same _ _ _ _) hu.t8 hst hn (st_fresh_no (setFr_same _ _ _ _) hu.t8 hpl ((hsp.setFr _ _).setFr _ _) ((hhp.setFr _ _).setFr _ _) he) (setFr_same _ _ _ _) (hhp.liveOK hsp)) (setFr_same _ _ _ _) rfl isDone_other.1
  rw [setFr_setFr, setFr_setFr] at h
  exact h

theorem ws_look (hu : Up1 B t) (hst : F.st = sLook) (hn : F.r.steps < 1000000000000) (hk : F.c.kind = 1) (hw : B.sy.sw = 0) (ha : B.sy.sa < 100000000000) (hl : LiveOK B t) :
    WStep t (B.setFr false t F) (({ B with sy := { B.sy with sa := B.sy.sa + 1 } }.know t).setFr false t { F.tick.to sGrow with top := -1, tag := B.sy.stg }) := by
  have h := wstep (F1 := { F.tick.to sGrow with top := -1, tag := B.sy.stg }) hu (step_look (setFr_same _ _ _ _) hu.t8 hst hn (st_look_none (setFr_same _ _ _ _) hk hw ha) (setFr_same _ _ _ _) hl) (setFr_same _ _ _ _) rfl isDone_other.2.1
  rw [setFr_setFr, setFr_setFr] at h
  exact h

theorem ws_local_ok (hu : Up1 B t) (hst : F.st = sLocal) (hn : F.r.steps < 1000000000000) (c : Nat) (hc : c < 12) (hcl : F.plan.cls = c) (hsp : SP B) (hhp : HP B t) (he : (B.local_ t c).2.1 = 0) (ha : (B.local_ t c).1 + F.plan.usable ≤ B.n * 16384 ∧ (B.local_ t c).1 < B.n * 16384)
    (hwl : (B.local_ t c).2.2.wl = B.wl) (hl : LiveOK (B.local_ t c).2.2 t)
    (hE : EndOK t (({ (B.local_ t c).2.2 with f := F.fills (B.local_ t c).1 0 (B.local_ t c).2.2.f }.know t).uncall t ⟨(B.local_ t c).1, 0, F.r.steps + 1⟩) A2) : WStep t (B.setFr false t F) A2 := by
  have hs := st_local_ok (A := (B.setFr false t F).setFr false t F.tick) (i := false) (F := F.tick) (setFr_same _ _ _ _) hu.t8 c hc hcl ((hsp.setFr _ _).setFr _ _) ((hhp.setFr _ _).setFr _ _) (by rw [setFr_setFr, local_setFr]; exact he) (by rw [setFr_setFr, local_setFr]; exact ha)
  have e : ((B.setFr false t F).setFr false t F.tick).local_ t c = ((B.local_ t c).1, (B.local_ t c).2.1, (B.local_ t c).2.2.setFr false t F.tick) := by rw [setFr_setFr, local_setFr]
  rw [e] at hs
  refine wstep_done (F1 := F.tick.over (B.local_ t c).1 0) hu (step_local (setFr_same _ _ _ _) hu.t8 hst hn hs (setFr_same _ _ _ _) hl) (setFr_same _ _ _ _) hwl isDone_done ?_
  show EndOK t (((({ (B.local_ t c).2.2 with f := F.fills (B.local_ t c).1 0 (B.local_ t c).2.2.f }.know t).setFr false t F.tick).setFr false t (F.tick.over (B.local_ t c).1 0)).uncall t _) A2
  rw [setFr_uncall, setFr_uncall]
  exact hE

theorem ws_grow_ok {A1 : St} (hu : Up1 B t) (hst : F.st = sGrow) (hn : F.r.steps < 1000000000000) (hpl : PlanOK F.plan) (hg1 : B.grown t = (0, A1))
    (hG : SysCalls 146 (fun L => #[ptrV (L.hp t)]) (B.setFr false t F.tick) (fun _ => .int .i64 ((B.setFr false t F.tick).grown t).1) ((B.setFr false t F.tick).grown t).2)
    (hsp : SP A1) (hhp : HP A1 t) (he : (A1.fresh t F.plan).2.1 = 0) (ha : (A1.fresh t F.plan).1 + F.plan.usable ≤ A1.n * 16384 ∧ (A1.fresh t F.plan).1 < A1.n * 16384)
    (hwl : (A1.fresh t F.plan).2.2.wl = B.wl) (hl : LiveOK (A1.fresh t F.plan).2.2 t)
    (hE : EndOK t (({ (A1.fresh t F.plan).2.2 with f := F.fills (A1.fresh t F.plan).1 0 (A1.fresh t F.plan).2.2.f }.know t).uncall t ⟨(A1.fresh t F.plan).1, 0, F.r.steps + 1⟩) A2) : WStep t (B.setFr false t F) A2 := by
  have eg : (B.setFr false t F.tick).grown t = (0, A1.setFr false t F.tick) := by rw [grown_setFr, hg1]
  have hs := st_grow_ok (A := B.setFr false t F.tick) (i := false) (F := F.tick) (setFr_same _ _ _ _) hu.t8 hpl eg hG (setFr_same _ _ _ _) (hsp.setFr _ _) (hhp.setFr _ _) (by rw [fresh_setFr]; exact he) (by rw [fresh_setFr]; exact ha)
  rw [show F.tick.plan = F.plan from rfl, fresh_setFr] at hs
  have hs2 := step_grow (A := B.setFr false t F) (A1 := ((A1.fresh t F.plan).2.2.setFr false t F.tick).over false t F.tick (A1.fresh t F.plan).1 0) (i := false) (t := t) (F := F) (F1 := F.tick.over (A1.fresh t F.plan).1 0) (setFr_same _ _ _ _) hu.t8 hst hn (by rw [setFr_setFr]; exact hs) (setFr_same _ _ _ _) hl
  refine wstep_done (F1 := F.tick.over (A1.fresh t F.plan).1 0) hu hs2 (setFr_same _ _ _ _) hwl isDone_done ?_
  show EndOK t (((({ (A1.fresh t F.plan).2.2 with f := F.fills (A1.fresh t F.plan).1 0 (A1.fresh t F.plan).2.2.f }.know t).setFr false t F.tick).setFr false t (F.tick.over (A1.fresh t F.plan).1 0)).uncall t _) A2
  rw [setFr_uncall, setFr_uncall]
  exact hE

theorem ws_huge_no (hu : Up1 B t) (hst : F.st = sHuge) (hn : F.r.steps < 1000000000000) (hres : ResOK (B.setFr false t F.tick) F.plan.segs) (hno : (B.ar.reserve F.plan.segs).1 = none) (hl : LiveOK B t)
    (hE : EndOK t (((B.setAr (B.ar.reserve F.plan.segs).2).know t).uncall t ⟨0, 4, F.r.steps + 1⟩) A2) : WStep t (B.setFr false t F) A2 := by
  have hs := st_huge_no (A := B.setFr false t F.tick) (i := false) (F := F.tick) (setFr_same _ _ _ _) hres hno
  have hs2 := step_huge (A := B.setFr false t F) (A1 := ((B.setFr false t F.tick).setAr (B.ar.reserve F.plan.segs).2).setFr false t (F.tick.over 0 4)) (i := false) (t := t) (F := F) (F1 := F.tick.over 0 4) (setFr_same _ _ _ _) hu.t8 hst hn (by rw [setFr_setFr]; exact hs) (setFr_same _ _ _ _) hl
  refine wstep_done (F1 := F.tick.over 0 4) hu hs2 (setFr_same _ _ _ _) rfl isDone_done ?_
  show EndOK t (((((B.setAr (B.ar.reserve F.plan.segs).2).know t).setFr false t F.tick).setFr false t (F.tick.over 0 4)).uncall t _) A2
  rw [setFr_uncall, setFr_uncall]
  exact hE

theorem ws_huge_ok {p : Nat} (hu : Up1 B t) (hst : F.st = sHuge) (hn : F.r.steps < 1000000000000) (hres : ResOK (B.setFr false t F.tick) F.plan.segs) (hyes : (B.ar.reserve F.plan.segs).1 = some p) (hp : p < 64) (ha : p * 16384 + F.plan.usable ≤ B.n * 16384 ∧ p * 16384 < B.n * 16384) (hl : LiveOK B t)
    (hE : EndOK t (({ B.setAr (B.ar.reserve F.plan.segs).2 with sy := { B.sy with huge := upd B.sy.huge p F.plan.segs }, f := F.fills (p * 16384) 0 B.f }.know t).uncall t ⟨p * 16384, 0, F.r.steps + 1⟩) A2) : WStep t (B.setFr false t F) A2 := by
  have hs := st_huge_ok (A := B.setFr false t F.tick) (i := false) (F := F.tick) (setFr_same _ _ _ _) hres hyes hp ha
  have hs2 := step_huge (A := B.setFr false t F) (A1 := { (B.setFr false t F.tick).setAr (B.ar.reserve F.plan.segs).2 with sy := { B.sy with huge := upd B.sy.huge p F.plan.segs } }.over false t F.tick (p * 16384) 0) (i := false) (t := t) (F := F) (F1 := F.tick.over (p * 16384) 0) (setFr_same _ _ _ _) hu.t8 hst hn (by rw [setFr_setFr]; exact hs) (setFr_same _ _ _ _) hl
  refine wstep_done (F1 := F.tick.over (p * 16384) 0) hu hs2 (setFr_same _ _ _ _) rfl isDone_done ?_
  show EndOK t (((({ B.setAr (B.ar.reserve F.plan.segs).2 with sy := { B.sy with huge := upd B.sy.huge p F.plan.segs }, f := F.fills (p * 16384) 0 B.f }.know t).setFr false t F.tick).setFr false t (F.tick.over (p * 16384) 0)).uncall t _) A2
  rw [setFr_uncall, setFr_uncall]
  exact hE
end
end Go.Proofs.YtfplalgoopkmaaaGreat

namespace Go.Proofs.YtfplalgoopkmaaaGreat

theorem classFrom_fits {n al k d : Nat} (hkd : k + d = 12) (h : classFrom n al k d < 12) : fits n al (sizeOf (classFrom n al k d)) = true := by
  induction d generalizing k with
  | zero => unfold classFrom at h; omega
  | succ d ih =>
    unfold classFrom at h ⊢
    cases e : fits n al (sizeOf k) with
    | true => simp [e]
    | false =>
      rw [e] at h
      simp only [Bool.false_eq_true, if_false] at h ⊢
      exact ih (by omega) h
/-- Where a block of so many bytes goes. -/
inductive PlanIs (n al : Nat) (p : Plan) : Prop
  | cls (c : Nat) (hc : c < 12) (hp : p = ⟨c, slicesOf c, 0, sizeOf c⟩) (hn : max n 1 ≤ sizeOf c) (ha : sizeOf c &&& (al - 1) = 0)
  | big (k : Nat) (h1 : 1 ≤ k) (h2 : k ≤ 15) (hp : p = ⟨-1, k, 0, k * 1024⟩) (hn : max n 1 ≤ k * 1024)
  | huge (k : Nat) (h1 : 1 ≤ k) (h2 : k ≤ 64) (hp : p = ⟨-1, 0, k, k * 16384⟩) (hn : max n 1 ≤ k * 16384) (hk : k * 16384 < max n 1 + 16384) (hb : 15360 < n)
theorem planOf_is (n al : Nat) (hn : n ≤ 1048576) : PlanIs n al (planOf n al) := by
  unfold planOf
  by_cases h : classFor (max n 1) al < 12
  · have hf := classFrom_fits (n := max n 1) (al := al) (k := 0) (d := 12) rfl h
    have hf2 : fits (max n 1) al (sizeOf (classFor (max n 1) al)) = true := hf
    unfold fits at hf2
    simp only [Bool.and_eq_true, decide_eq_true_eq] at hf2
    simp only [if_pos h]
    exact .cls _ h rfl hf2.1 hf2.2
  · simp only [if_neg h]
    by_cases h2 : max n 1 ≤ 15360
    · rw [if_pos h2]
      exact .big ((max n 1 + 1023) / 1024) (by omega) (by omega) rfl (by omega)
    · rw [if_neg h2]
      exact .huge ((max n 1 + 16383) / 16384) (by omega) (by omega) rfl (by omega) (by omega) (by omega)
theorem PlanIs.ok {n al : Nat} {p : Plan} (h : PlanIs n al p) (h0 : p.segs = 0) : PlanOK p := by
  cases h with
  | cls c hc hp hn ha => subst hp; exact .inl ⟨c, hc, rfl⟩
  | big k h1 h2 hp hn => subst hp; exact .inr ⟨rfl, h1, h2⟩
  | huge k h1 h2 hp hn hk hb => subst hp; have : k = 0 := h0; omega
theorem PlanIs.usable {n al : Nat} {p : Plan} (h : PlanIs n al p) (h0 : p.segs = 0) : p.usable ≤ 15360 ∧ max n 1 ≤ p.usable := by
  cases h with
  | cls c hc hp hn ha => subst hp; have := sizeOf_le hc; exact ⟨by show sizeOf c ≤ 15360; omega, hn⟩
  | big k h1 h2 hp hn => subst hp; exact ⟨by show k * 1024 ≤ 15360; omega, hn⟩
  | huge k h1 h2 hp hn hk hb => subst hp; have : k = 0 := h0; omega
theorem pw2_1024 : ∀ a, a < 1025 → pw2 a = true → 17408 &&& (a - 1) = 0 ∧ 16384 &&& (a - 1) = 0 := by decide +kernel
end Go.Proofs.YtfplalgoopkmaaaGreat

namespace Go.Proofs.YtfplalgoopkmaaaGreat
open Go.RowKit

/-- A world of so many segments, its first thread up. -/
abbrev S1 (n nth : Nat) : St := (St.new n n nth).setWl ((St.new n n nth).wl.setTh 0 (((St.new n n nth).wl.th 0).up 1))
abbrev arena2 (n k : Nat) : ArenaM := ⟨n, n, setB (setB (fun _ => false) 0 1 true) 1 k true, (n : Int) - 1 - k, [(0, 1), (1, k)], [], 0⟩
theorem arena1_take (n k : Nat) (hn : 2 ≤ n) (hk : k + 1 ≤ n) : ∃ r : Row (arena1 n n).T (arena1 n n).segs, takeRow (arena1 n n).T (arena1 n n).segs k = some r ∧ r.1.1 = 1 := by
  refine take_prefix _ n 1 k (by omega) (fun i hi => ?_) (by omega)
  show setB (fun _ => false) 0 1 true i = decide (i < 1)
  unfold setB
  by_cases e : i < 1
  · rw [if_pos (by omega)]; simp [e]
  · rw [if_neg (by omega)]; simp [e]
theorem arena1_reserve (n k : Nat) (hn : 2 ≤ n) (hk : k + 1 ≤ n) : (arena1 n n).reserve k = (some 1, arena2 n k) := by
  obtain ⟨r, h1, h2⟩ := arena1_take n k hn hk
  unfold ArenaM.reserve
  rw [if_pos ⟨rfl, by show (n : Int) - ((n : Int) - 1) + k ≤ n; omega⟩, h1]
  dsimp only
  rw [h2]
  rfl
theorem arena1_full (n k : Nat) (hk : n < k + 1) : (arena1 n n).reserve k = (none, { arena1 n n with refused := 1 }) := by
  unfold ArenaM.reserve
  rw [if_neg (by intro h; have := h.2; simp only at this; omega)]
  rfl
theorem arena1_good (n : Nat) (hn : 2 ≤ n) (h64 : n ≤ 64) : ArGood (arena1 n n) := by
  refine ⟨h64, Nat.le_refl _, by simp [Rising], by simp, fun r hr => ?_, ?_, by simp⟩
  · have : r = (0, 1) := by simpa using hr
    subst this
    refine ⟨by omega, by show 0 + 1 ≤ n; omega, fun j hj => ?_⟩
    have : j = 0 := by simpa using hj
    subst this
    rfl
  · show (n : Int) - 1 = (cnt (setB (fun _ => false) 0 1 true) n : Nat)
    have h0 : ∀ m, cnt (fun _ => false) m = m := fun m => by
      induction m with
      | zero => rfl
      | succ m ih => unfold cnt; rw [ih]; rfl
    have := cnt_take (fun _ => false) n 0 1 (by omega) (fun _ _ => rfl)
    rw [h0] at this
    omega
/-- What is given, of an arena whose own segment alone is taken. -/
theorem res_first {A : St} {n k : Nat} (hA : A.ar = arena1 n n) (hn : 2 ≤ n) (h64 : n ≤ 64) (h1 : 1 ≤ k) (hk : k ≤ n) : ResOK A k := fun w L h => by
  refine sys_Reserve A k (by rw [hA]; exact arena1_good n hn h64) h1 (by rw [hA]; exact hk) (by rw [hA]) ?_ w L h
  rw [hA]
  by_cases hlt : k + 1 ≤ n
  · obtain ⟨r, h2, h3⟩ := arena1_take n k hn hlt
    refine .inr ⟨r, h2, fun x hx => ?_, by simp⟩
    have : x = (0, 1) := by simpa using hx
    subst this
    rw [h3]; exact Nat.one_pos
  · left
    show (n : Int) < n - ((n : Int) - 1) + k
    omega

structure Bare (B : St) (n : Nat) : Prop where
  n2 : 2 ≤ n
  n64 : n ≤ 64
  nn : B.n = n
  ar : B.ar = arena1 n n
  sw : B.sy.sw = 0
  sa : B.sy.sa < 100000000000
  kn : ∀ i, B.sy.kn i = false
  heap : B.heap = fun _ => Hp.nil
  seg : B.seg = fun _ => none
  page : B.page = fun _ => none
  up : Up1 B 0
  fr : B.fr = fun _ _ => none
theorem bare_S1 (n nth : Nat) (h2 : 2 ≤ n) (h64 : n ≤ 64) (h1 : 1 ≤ nth) : Bare (S1 n nth) n :=
  ⟨h2, h64, rfl, rfl, rfl, by show 0 < 100000000000; omega, fun _ => rfl, rfl, rfl, rfl, ⟨by omega, h1, rfl⟩, rfl⟩
section
variable {B : St} {n : Nat}
theorem Bare.sp (h : Bare B n) : SP B := ⟨by rw [h.nn]; exact h.n64, fun p s hs => (by rw [h.seg] at hs; cases hs), fun k g hg => (by rw [h.page] at hg; cases hg)⟩
theorem Bare.hp (h : Bare B n) (t : Nat) : HP B t := by
  refine ⟨fun p hp => ?_, ?_, fun c hc => ?_, fun c k hc => ?_⟩
  · rw [h.heap] at hp; cases hp
  · rw [h.heap]; exact List.nodup_nil
  · rw [h.heap]; exact List.nodup_nil
  · rw [h.heap, h.page]
    constructor
    · rintro (h | h) <;> cases h
    · rintro ⟨g, h, _⟩; cases h
theorem Bare.live (h : Bare B n) : LiveOK B 0 := fun p hp => by rw [h.heap] at hp; cases hp
theorem Bare.know (h : Bare B n) : Bare (B.know 0) n :=
  ⟨h.n2, h.n64, h.nn, h.ar, h.sw, h.sa, fun i => by
    show (decide (i ∈ (B.heap 0).segs) || B.sy.kn i) = false
    rw [h.kn i, h.heap]; rfl, h.heap, h.seg, h.page, ⟨h.up.t8, h.up.ht, h.up.up⟩, h.fr⟩
/-- A call that is noted down. -/
abbrev St.asks (A : St) (t : Nat) (c : CallM) : St := { A with wl := A.wl.setTh t ((A.wl.th t).ask c) }
theorem Bare.asks (h : Bare B n) (c : CallM) : Bare (B.asks 0 c) n :=
  ⟨h.n2, h.n64, h.nn, h.ar, h.sw, h.sa, h.kn, h.heap, h.seg, h.page, ⟨h.up.t8, h.up.ht, by show (upd B.wl.th 0 _ 0).is = 1; rw [upd_same]; exact h.up.up⟩, h.fr⟩
theorem Bare.looked (h : Bare B n) (hsa : B.sy.sa + 1 < 100000000000) : Bare { B with sy := { B.sy with sa := B.sy.sa + 1 } } n :=
  ⟨h.n2, h.n64, h.nn, h.ar, h.sw, hsa, h.kn, h.heap, h.seg, h.page, ⟨h.up.t8, h.up.ht, h.up.up⟩, h.fr⟩

/-- With one segment more. -/
abbrev St.grow1 (B : St) (n : Nat) : St := (B.setAr (arena2 n 1)).newSeg 0 1
theorem Bare.grown (h : Bare B n) : B.grown 0 = (0, B.grow1 n) := by
  unfold St.grown
  rw [h.ar, arena1_reserve n 1 h.n2 (by have := h.n2; omega)]
theorem Bare.sp1 (h : Bare B n) : SP (B.grow1 n) := SP.newSeg (A := B.setAr (arena2 n 1)) (h.sp.eq rfl rfl rfl rfl) (by show 1 < B.n; rw [h.nn]; exact h.n2) (Nat.le_refl _) (by omega) (by show B.seg 1 = none; rw [h.seg])
theorem Bare.hp1 (h : Bare B n) : HP (B.grow1 n) 0 := HP.newSeg (A := B.setAr (arena2 n 1)) ((h.hp 0).eq rfl rfl rfl) (h.sp.eq rfl rfl rfl rfl) (by show B.seg 1 = none; rw [h.seg])
theorem seg1 (B : St) (n : Nat) : (B.grow1 n).seg 1 = some (sgNew 0) := by
  show upd B.seg 1 (some (sgNew 0)) 1 = _
  exact upd_same _ _ _
theorem segD1 (B : St) (n : Nat) : (B.grow1 n).segD 1 = sgNew 0 := by show ((B.grow1 n).seg 1).getD Sg.nil = _; rw [seg1]; rfl
theorem Bare.segs1 (h : Bare B n) : ((B.grow1 n).heap 0).segs = [1] := by
  show (upd B.heap 0 _ 0).segs = _
  rw [upd_same]
  show (B.heap 0).segs ++ [1] = _
  rw [h.heap]; rfl
theorem take_new (k : Nat) (hk : k ≤ 15) : ∃ r : Row (sgNew 0).T 16, takeRow (sgNew 0).T 16 k = some r ∧ r.1.1 = 1 :=
  take_prefix _ 16 1 k (by omega) (fun i hi => by
    show (decide (i = 0) || false) = decide (i < 1)
    by_cases e : i = 0
    · simp [e]
    · simp [e]) (by omega)
/-- With a page more, and a block of it given out. -/
abbrev St.page1 (B : St) (n : Nat) (pl : Plan) : St := ((B.grow1 n).newPage 1 (sgNew 0) 1 pl).setHeap 0 (((B.grow1 n).heap 0).push (rowIx pl.cls) 17)
abbrev St.block1 (B : St) (n : Nat) (pl : Plan) : St := (B.page1 n pl).setPage 17 (pgAlloc B.f 17 (pgFor pl)).2.1 (pgAlloc B.f 17 (pgFor pl)).2.2
theorem Bare.fresh1 (h : Bare B n) {pl : Plan} (hpl : PlanOK pl) : (B.grow1 n).fresh 0 pl = (17408, 0, B.block1 n pl) := by
  show St.freshGo 0 pl ((B.grow1 n).heap 0).segs (B.grow1 n) = _
  rw [h.segs1]
  have hsl := hpl.sl
  obtain ⟨r, h1, h2⟩ := take_new (plSl pl) hsl.2
  have hd := segD1 B n
  obtain ⟨r', h1', h2'⟩ : ∃ r : Row ((B.grow1 n).segD 1).T 16, takeRow ((B.grow1 n).segD 1).T 16 (plSl pl) = some r ∧ r.1.1 = 1 := by
    rw [hd]; exact ⟨r, h1, h2⟩
  rw [freshGo_some h1', h2', hd]
  have ha := pgAlloc_fresh (f := (B.grow1 n).f) (k := 1 * 16 + 1) hpl
  rw [ha]
  rfl
theorem Bare.page1_sp (h : Bare B n) {pl : Plan} (hpl : PlanOK pl) : SP (B.page1 n pl) ∧ HP (B.page1 n pl) 0 := by
  have hsl := hpl.sl
  have hT : ∀ j, j < plSl pl → (sgNew 0).T (1 + j) = false := fun j hj => by
    show (decide (1 + j = 0) || false) = false
    simp
  have hno := h.sp1.newPage_none (seg1 B n) (at_ := 1) (by omega) hpl hT
  exact ⟨(h.sp1.newPage (seg1 B n) (at_ := 1) (by omega) (by omega) hpl hT).setHeap 0 _, h.hp1.newPage (seg1 B n) hpl hno (by omega) (by rw [h.segs1]; simp)⟩
theorem page17 (B : St) (n : Nat) (pl : Plan) : (B.page1 n pl).page 17 = some (pgFor pl) := by
  show upd B.page (1 * 16 + 1) (some (pgFor pl)) 17 = _
  exact upd_same _ _ _
theorem Bare.block1_sp (h : Bare B n) {pl : Plan} (hpl : PlanOK pl) : SP (B.block1 n pl) ∧ HP (B.block1 n pl) 0 := by
  obtain ⟨h1, h2⟩ := h.page1_sp hpl
  have ha := pgAlloc_fresh (f := B.f) (k := 17) hpl
  obtain ⟨o, p', f', e⟩ : ∃ o p' f', pgAlloc B.f 17 (pgFor pl) = (o, p', f') := ⟨_, _, _, rfl⟩
  rw [e] at ha
  have ha2 : o = some (17 * 1024) := ha
  subst ha2
  have hg := (h1.pg 17 _ (page17 B n pl)).1.alloc (f := (B.page1 n pl).f) e
  show SP ((B.page1 n pl).setPage 17 (pgAlloc B.f 17 (pgFor pl)).2.1 (pgAlloc B.f 17 (pgFor pl)).2.2) ∧ HP ((B.page1 n pl).setPage 17 (pgAlloc B.f 17 (pgFor pl)).2.1 (pgAlloc B.f 17 (pgFor pl)).2.2) 0
  rw [e]
  exact ⟨h1.give_out (page17 B n pl) e, h2.setPage (page17 B n pl) hg.2.1⟩
end
end Go.Proofs.YtfplalgoopkmaaaGreat
