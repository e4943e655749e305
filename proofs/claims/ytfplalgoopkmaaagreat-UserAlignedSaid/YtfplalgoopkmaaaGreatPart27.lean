/- What the states do, over the whole state: look, grow, huge. A huge block, over the whole state. Conditions: none. -/
import Derived.Test.YtfplalgoopkmaaaGreatPart26

set_option linter.unusedVariables false
set_option linter.unusedSimpArgs false

namespace Go.Proofs.YtfplalgoopkmaaaGreat
open Go.RowKit

section
variable {A : St} {i : Bool} {t : Nat} {F : Fr}

/-- The system's own words, memory, and the frame change. -/
theorem Ste.sysfr {w w' : World} {L : Lay} {F' : Fr} {y : Sy} {cs : Array Value} {f' : Nat → Nat} (h : Rep w L A) (hF : A.fr i t = some F) (hcs : Blk w' L.bs 101 cs) (hc : SysC cs L y)
    (hn : FrOK w' L (A.fr true t).isSome i t F') (hm : MemAt w' L.bm L.bb (A.n * 16384) f') (ho : Only (fun x => x = L.fr i t ∨ x = L.bb ∨ x = L.bs) w w') :
    Ste w L A w' L { A.setFr i t F' with f := f', sy := y } := by
  have hs : (A.fr i t).isSome := by rw [hF]; rfl
  have hfo : ∀ j x, Foot L { A.setFr i t F' with f := f', sy := y } j x → Foot L A j x := by
    intro j x hx
    cases j with
    | fr j u =>
      obtain ⟨h1, h2⟩ := hx
      exact ⟨by have h1 : (updF A.fr i t (some F') j u).isSome := h1; rw [updF_isSome hF] at h1; exact h1, h2⟩
    | _ => exact hx
  refine Ste.chg (fun j => j = .mem ∨ j = .fr i t ∨ j = .sys) h ho ?_ ?_ (fun j x _ hx => hfo j x hx) ?_ (fun j x hj hx => .inl ⟨j, hj, hfo j x hx⟩) (fun j k x _ _ h1 h2 => h.ap j k x (hfo j x h1) (hfo k x h2)) (Fix.refl L)
  · rintro x (rfl | rfl | rfl) _
    · exact ⟨.fr i t, .inr (.inl rfl), hs, .inl rfl⟩
    · exact ⟨.mem, .inl rfl, .inr rfl⟩
    · exact ⟨.sys, .inr (.inr rfl), rfl⟩
  · intro j hj hh
    cases j with
    | mem => exact absurd (.inl rfl) hj
    | sys => exact absurd (.inr (.inr rfl)) hj
    | wld =>
      have e : (fun u => (updF A.fr i t (some F') false u).isSome) = fun u => (A.fr false u).isSome := funext fun u => updF_isSome hF false u
      show WldOK w' L A.wl fun u => (updF A.fr i t (some F') false u).isSome
      rw [e]; exact hh
    | fr j u =>
      have e : ¬ (j = i ∧ u = t) := fun e => hj (.inr (.inl (by rw [e.1, e.2])))
      intro G hG
      have hG2 : A.fr j u = some G := by have := hG; simp only [St.setFr, updF_ne _ _ e] at this; exact this
      show FrOK w' L (updF A.fr i t (some F') true u).isSome j u G
      rw [updF_isSome hF]
      exact hh G hG2
    | _ => exact hh
  · rintro j (rfl | rfl | rfl)
    · exact hm
    · intro G hG
      obtain rfl : F' = G := by have := hG; simp only [St.setFr, updF_same, Option.some.injEq] at this; exact this
      show FrOK w' L (updF A.fr i t (some F') true t).isSome i t F'
      rw [updF_isSome hF]
      exact hn
    · exact ⟨cs, hcs, hc⟩

theorem SysC.asked {cs : Array Value} {L : Lay} {y : Sy} (h : SysC cs L y) (n : Nat) : SysC (cs.setIfInBounds 4 (.int .i64 n)) L { y with sa := n } :=
  ⟨by simp [h.size], set_ne h.h0 (by omega), set_ne h.h1 (by omega), set_ne h.h2 (by omega), set_ne h.h3 (by omega), set_eq (by rw [h.size]; omega), fun j hj => set_ne (h.below j hj) (by omega), fun j hj => set_ne (h.inn j hj) (by omega), set_ne h.top (by omega), fun j hj => set_ne (h.hp j hj) (by omega), fun j hj => (h.sg j hj).imp fun o ho => ⟨set_ne ho.1 (by omega), ho.2⟩, fun j hj => set_ne (h.hu j hj) (by omega)⟩
theorem SysC.setHuge {cs : Array Value} {L : Lay} {y : Sy} (h : SysC cs L y) (k : Nat) (hk : k < 64) (n : Nat) : SysC (cs.setIfInBounds (206 + k) (.int .i64 n)) L { y with huge := upd y.huge k n } :=
  ⟨by simp [h.size], set_ne h.h0 (by omega), set_ne h.h1 (by omega), set_ne h.h2 (by omega), set_ne h.h3 (by omega), set_ne h.h4 (by omega), fun j hj => set_ne (h.below j hj) (by omega), fun j hj => set_ne (h.inn j hj) (by omega), set_ne h.top (by omega), fun j hj => set_ne (h.hp j hj) (by omega), fun j hj => (h.sg j hj).imp fun o ho => ⟨set_ne ho.1 (by omega), ho.2⟩, fun j hj => by
    by_cases e : j = k
    · subst e; show _ = some (Value.int .i64 ((upd y.huge j n j : Nat) : Int)); rw [upd_same]; exact set_eq (by rw [h.size]; omega)
    · show _ = some (Value.int .i64 ((upd y.huge k n j : Nat) : Int)); rw [upd_ne _ _ e]; exact set_ne (h.hu j hj) (by omega)⟩

/-- Nobody's segments: none; a Malloc grows. -/
theorem st_look_none (hF : A.fr i t = some F) (hk : F.c.kind = 1) (hw : A.sy.sw = 0) (ha : A.sy.sa < 100000000000) :
    SysCalls 121 (fun L => #[ptrV (L.fr i t)]) A (fun _ => .tuple #[]) { A.setFr i t { F.to sGrow with top := -1, tag := A.sy.stg } with sy := { A.sy with sa := A.sy.sa + 1 } } := by
  intro w L h
  have hf := h.fr hF
  obtain ⟨s, o, hb, hs, ho⟩ := hf.blk
  obtain ⟨cs, hcs, hc⟩ := h.sysblk
  have h2 := hc.h2
  rw [hw] at h2
  refine (fr_look_grow (L.fr i t) (frM L t F (L.fl i t) (ownV s) (ownV o)) cs A.sy.stg A.sy.sa w hb hcs h2 hc.h3 hc.h4 (by omega) (by omega) hk).mono ?_
  rintro x w' ⟨rfl, hb2, hcs2, ho2⟩
  have hd : ∀ g, (∃ j, j ≠ .fr i t ∧ j ≠ .sys ∧ Foot L A j g) → ¬ (g = L.fr i t ∨ g = L.bs) := by
    rintro g ⟨j, h1, h2, h3⟩ (rfl | rfl)
    · exact h1 (h.ap j (.fr i t) _ h3 ⟨by rw [hF]; rfl, .inl rfl⟩)
    · exact h2 (h.ap j .sys _ h3 rfl)
  have hm2 := h.mem.only ho2 (hd _ ⟨.mem, by simp, by simp, .inl rfl⟩) (hd _ ⟨.mem, by simp, by simp, .inr rfl⟩)
  refine ⟨L, rfl, Ste.sysfr (F' := { F.to sGrow with top := -1, tag := A.sy.stg }) (y := { A.sy with sa := A.sy.sa + 1 }) (f' := A.f) h hF hcs2 ?_ (hf.chg rfl hs ho hb2 ho2 ?_) hm2 (ho2.mono fun x hx => hx.elim .inl fun e => .inr (.inr e))⟩
  · exact hc.asked (A.sy.sa + 1)
  · rintro g hg (rfl | rfl)
    · exact hf.ne hg
    · exact Ix.noConfusion (h.ap (.fr i t) .sys L.bs ⟨by rw [hF]; rfl, .inr hg⟩ rfl)

set_option maxHeartbeats 2000000 in
/-- A segment more, and a page of it. -/
theorem st_grow_ok {A1 : St} (hF : A.fr i t = some F) (ht : t < 8) (hpl : PlanOK F.plan) (hg1 : A.grown t = (0, A1)) (hG : SysCalls 146 (fun L => #[ptrV (L.hp t)]) A (fun _ => .int .i64 (A.grown t).1) (A.grown t).2) (hF1 : A1.fr i t = some F) (hsp : SP A1) (hhp : HP A1 t) (he : (A1.fresh t F.plan).2.1 = 0) (ha : (A1.fresh t F.plan).1 + F.plan.usable ≤ A1.n * 16384 ∧ (A1.fresh t F.plan).1 < A1.n * 16384) :
    SysCalls 120 (fun L => #[ptrV (L.fr i t)]) A (fun _ => .tuple #[]) ((A1.fresh t F.plan).2.2.over i t F (A1.fresh t F.plan).1 0) := by
  intro w L h
  rw [hg1] at hG
  have hL := sys_Fresh A1 t F.plan ht hsp hhp hpl
  obtain ⟨k1, k2, _⟩ := freshGo_keeps t F.plan (A1.heap t).segs A1
  have hF2 : (A1.fresh t F.plan).2.2.fr i t = some F := by show (St.freshGo t _ _ A1).2.2.fr i t = _; rw [k1]; exact hF1
  have hn1 : (A1.fresh t F.plan).2.2.n = A1.n := k2
  have hO := (sys_over hF2 (A1.fresh t F.plan).1 0 (fun _ => by rw [hn1]; exact ha)).plain
  generalize (A1.fresh t F.plan).2.2 = A2 at *
  generalize (A1.fresh t F.plan).1 = addr at *
  rw [he] at hL
  have HGR : Hid (Calls Tryz.prog 146 #[.pointer (some ⟨L.hp t, 0, none⟩)] w fun e w1 => ∃ L1, e = .returned (.int .i64 0) ∧ Ste w L A w1 L1 A1) := Lib.hid (hG w L h)
  have HL : Hid (∀ w0 L0, Rep w0 L0 A1 → L0.hp t = L.hp t → Calls Tryz.prog 144 #[.pointer (some ⟨L.hp t, 0, none⟩), planV F.plan] w0 fun e w1 => ∃ L1, e = .returned (.tuple #[.int .u64 addr, .int .i64 0]) ∧ Ste w0 L0 A1 w1 L1 A2) := Lib.hid fun w0 L0 h0 e => by rw [← e]; exact hL w0 L0 h0
  have HO : Hid (∀ w0 L0, Rep w0 L0 A2 → L0.fr i t = L.fr i t → Calls Tryz.prog 140 #[.pointer (some ⟨L.fr i t, 0, none⟩), .int .u64 addr, .int .i64 0] w0 fun e w1 => ∃ L1, e = .returned (.tuple #[]) ∧ Ste w0 L0 A2 w1 L1 (A2.over i t F addr 0)) := Lib.hid fun w0 L0 h0 e => by rw [← e]; exact hO w0 L0 h0
  have hc1 := (h.frc hF).fr5
  have HREP := Lib.hid h
  have HF1 := Lib.hid hF1
  have HF2 := Lib.hid hF2
  have hFO : (A2.over i t F addr 0).fr i t = some (F.over addr 0) := updF_same _ _ _ _
  have HFO := Lib.hid hFO
  show Calls _ _ #[.pointer (some ⟨L.fr i t, 0, none⟩)] w _
  generalize hbf : L.fr i t = bf at *
  generalize hbh : L.hp t = bh at *
  have HBF := Lib.hid hbf
  have HBH := Lib.hid hbh
  have HC : Hid (∀ w1 L1 A' F', Rep w1 L1 A' → A'.fr i t = some F' → F'.plan = F.plan → L1.fr i t = bf → L1.hp t = bh → Fr5 w1 bf bh F.plan) := Lib.hid fun w1 L1 A' F' h1 hf ep e1 e2 => by
    have := (h1.frc hf).fr5
    rw [e1, e2, ep] at this
    exact this
  obtain ⟨⟨pc, ps, pn, pu⟩, hpq⟩ : ∃ p, F.plan = p := ⟨_, rfl⟩
  have HPQ := Lib.hid hpq
  rw [hpq] at HC HL hc1
  have c5 := hc1.c5
  clear h hG hg1 hL k1 k2 hF1 hF2 hn1 hO hc1 hF hsp hhp he ha hbf hbh hpl hFO hpq
  go_enter Tryz.func120, Tryz.ntmps120
  go_wp2_with (first | (go_at_call 146; refine HGR.out.mono ?_; rintro e w1 ⟨L1, rfl, hst⟩; have HS1 := Lib.hid hst; have HE1 := Lib.hid (And.intro ((congrFun (congrFun hst.fix.fr i) t).trans HBF.out) ((congrFun hst.fix.hp t).trans HBH.out)); have HX1 := Lib.hid (HC.out _ _ _ _ hst.rep HF1.out HPQ.out HE1.out.1 HE1.out.2); clear hst))
  have d5 := HX1.out.c5
  have d12 := HX1.out.c12
  have d13 := HX1.out.c13
  have d14 := HX1.out.c14
  have d15 := HX1.out.c15
  go_region_held3 (fun w' => w'.cell? ⟨bf, 5, none⟩ = some (.pointer (some ⟨bh, 0, none⟩)) ∧ w'.cell? ⟨bf, 12, none⟩ = some (.int .i64 pc) ∧ w'.cell? ⟨bf, 13, none⟩ = some (.int .i64 ps) ∧ w'.cell? ⟨bf, 14, none⟩ = some (.int .i64 pn) ∧ w'.cell? ⟨bf, 15, none⟩ = some (.int .u64 pu)) (first | exact ⟨d5, d12, d13, d14, d15⟩ | exact ⟨HX3.out.c5, HX3.out.c12, HX3.out.c13, HX3.out.c14, HX3.out.c15⟩ | exact ⟨HX2.out.c5, HX2.out.c12, HX2.out.c13, HX2.out.c14, HX2.out.c15⟩) (first | (go_at_call 144; refine (HL.out _ _ (HS1.out.rep.quiet ((Only.refl _ w1).drew)) HE1.out.2).mono ?_; rintro e w2 ⟨L2, rfl, hst⟩; have HS2 := Lib.hid ((HS1.out.quiet_right ((Only.refl _ w1).drew)).trans hst); have HE2 := Lib.hid (And.intro ((congrFun (congrFun hst.fix.fr i) t).trans HE1.out.1) ((congrFun hst.fix.hp t).trans HE1.out.2)); have HX2 := Lib.hid (HC.out _ _ _ _ hst.rep HF2.out HPQ.out HE2.out.1 HE2.out.2); clear hst) | (go_at_call 140; refine (HO.out _ _ HS2.out.rep HE2.out.1).mono ?_; rintro e w3 ⟨L3, rfl, hst⟩; have HS3 := Lib.hid (HS2.out.trans hst); have HX3 := Lib.hid (HC.out _ _ _ _ hst.rep HFO.out HPQ.out ((congrFun (congrFun hst.fix.fr i) t).trans HE2.out.1) ((congrFun hst.fix.hp t).trans HE2.out.2)); clear hst))
  go_wp2
  go_end0
  exact ⟨L3, rfl, HS3.out⟩
end
end Go.Proofs.YtfplalgoopkmaaaGreat

namespace Go.Proofs.YtfplalgoopkmaaaGreat
open Go.RowKit

section
variable {A : St} {i : Bool} {t : Nat} {F : Fr}

/-- The arena alone is another one. -/
theorem Only.arena_fr {w w1 : World} {L : Lay} (h : Rep w L A) (hF : A.fr i t = some F) (ho : Only (Foot L A .arena) w w1) : ∀ s o, FrAt w (L.fr i t) (frM L t F (L.fl i t) s o) → FrAt w1 (L.fr i t) (frM L t F (L.fl i t) s o) := fun s o hb =>
  Blk.only hb ho fun hx => Ix.noConfusion (h.ap .arena (.fr i t) (L.fr i t) hx ⟨by rw [hF]; rfl, .inl rfl⟩)

theorem st_huge_no (hF : A.fr i t = some F) (hres : ResOK A F.plan.segs) (hno : (A.ar.reserve F.plan.segs).1 = none) :
    SysCalls 115 (fun L => #[ptrV (L.fr i t)]) A (fun _ => .tuple #[]) ((A.setAr (A.ar.reserve F.plan.segs).2).setFr i t (F.over 0 4)) := by
  intro w L h
  obtain ⟨s, o, hb, hs, ho⟩ := (h.fr hF).blk
  obtain ⟨cs, hcs, hc⟩ := h.sysblk
  refine (fr_huge_no (L.fr i t) (frM L t F (L.fl i t) (ownV s) (ownV o)) cs L.ba 4 (by decide) w (fun w1 => ∃ vr' vt', Ste w L A w1 (L.arena vr' vt') (A.setAr (A.ar.reserve F.plan.segs).2) ∧ Only (Foot L A .arena) w w1) hb hcs hc.h1 (fun w0 ho0 => ?_) (fun w1 hq => ?_)).mono ?_
  · refine (hres w0 L (h.quiet ho0)).mono ?_
    rintro e w1 ⟨vr', vt', rfl, hst, ho1⟩
    exact ⟨by rw [hno]; rfl, vr', vt', Ste.quiet_left ho0 h hst, (ho0.mono fun _ hx => hx.elim).trans ho1⟩
  · obtain ⟨vr', vt', hst, ho1⟩ := hq
    refine ⟨Only.arena_fr h hF ho1 _ _ hb, hcs.only ho1 fun hx => ?_⟩
    exact Ix.noConfusion (h.ap .arena .sys L.bs hx rfl)
  · rintro x w' ⟨rfl, w1, ⟨vr', vt', hst, ho1⟩, hb2, ho2⟩
    refine ⟨L.arena vr' vt', rfl, hst.trans ?_⟩
    exact Ste.fr1 (A := A.setAr (A.ar.reserve F.plan.segs).2) (L := L.arena vr' vt') (F' := F.over 0 4) hst.rep hF rfl hs ho hb2 ho2

set_option maxHeartbeats 2000000 in
theorem st_huge_ok {p : Nat} (hF : A.fr i t = some F) (hres : ResOK A F.plan.segs) (hyes : (A.ar.reserve F.plan.segs).1 = some p) (hp : p < 64) (ha : p * 16384 + F.plan.usable ≤ A.n * 16384 ∧ p * 16384 < A.n * 16384) :
    SysCalls 115 (fun L => #[ptrV (L.fr i t)]) A (fun _ => .tuple #[]) ({ A.setAr (A.ar.reserve F.plan.segs).2 with sy := { A.sy with huge := upd A.sy.huge p F.plan.segs } }.over i t F (p * 16384) 0) := by
  intro w L h
  have hR := fun w0 => hres w0 L
  rw [hyes] at hR
  obtain ⟨s, o, hb, hs, ho⟩ := (h.fr hF).blk
  obtain ⟨cs, hcs, hc⟩ := h.sysblk
  have HR : Hid (∀ w0, Only Nobody w w0 → Calls Tryz.prog 35 #[.pointer (some ⟨L.ba, 0, none⟩), .int .i64 F.plan.segs] w0 fun e w1 => e = .returned (.tuple #[.int .i64 p, .int .i64 0]) ∧ ∃ vr' vt', Ste w L A w1 (L.arena vr' vt') (A.setAr (A.ar.reserve F.plan.segs).2) ∧ Only (Foot L A .arena) w w1) := Lib.hid fun w0 ho0 => by
    refine (hR w0 (h.quiet ho0)).mono ?_
    rintro e w1 ⟨vr', vt', rfl, hst, ho1⟩
    exact ⟨rfl, vr', vt', Ste.quiet_left ho0 h hst, (ho0.mono fun _ hx => hx.elim).trans ho1⟩
  have HW : Hid (∀ w1, Only (Foot L A .arena) w w1 → FrAt w1 (L.fr i t) (frM L t F (L.fl i t) (ownV s) (ownV o)) ∧ Blk w1 L.bs 101 cs) := Lib.hid fun w1 ho1 =>
    ⟨Only.arena_fr h hF ho1 _ _ hb, hcs.only ho1 fun hx => Ix.noConfusion (h.ap .arena .sys L.bs hx rfl)⟩
  obtain ⟨A1, hA1⟩ : ∃ x, x = A.setAr (A.ar.reserve F.plan.segs).2 := ⟨_, rfl⟩
  have HSY : Hid (∀ w1 L1, Rep w1 L1 A1 → L1.bs = L.bs → L1.bm = L.bm → L1.ba = L.ba → L1.hp = L.hp → L1.sg = L.sg → Blk w1 L.bs 101 cs → Ste w1 L1 A1 (w1.setCell ⟨L.bs, 206 + p, none⟩ (.int .i64 F.plan.segs)) L1 { A1 with sy := { A.sy with huge := upd A.sy.huge p F.plan.segs } }) := Lib.hid fun w1 L1 h1 e1 e2 e3 e4 e5 hb1 => by
    have ho2 : Only (fun x => x = L.bs) w1 (w1.setCell ⟨L.bs, 206 + p, none⟩ (.int .i64 F.plan.segs)) := Only.setAt (S := fun x => x = L.bs) (Only.refl _ _) (show L.bs = L.bs from rfl) _ _
    refine Ste.chg (fun j => j = .sys) h1 ho2 (fun x hx _ => ⟨.sys, rfl, by show x = L1.bs; rw [e1]; exact hx⟩) (fun j hj hh => ?_) (fun j x _ hx => ?_) ?_ (fun j x hj hx => ?_) ?_ (Fix.refl _)
    · cases j with
      | sys => exact absurd rfl hj
      | _ => exact hh
    · cases j <;> exact hx
    · rintro j rfl
      refine ⟨_, by rw [e1]; exact hb1.set_ (206 + p) (.int .i64 F.plan.segs), ?_⟩
      exact (hc.lay e2 e3 e4 (fun i _ => congrFun e5 i)).setHuge p hp F.plan.segs
    · subst hj; exact .inl ⟨.sys, rfl, hx⟩
    · rintro j k x rfl rfl _ _; rfl
  rw [← hA1] at HR
  have hF1 : A1.fr i t = some F := by rw [hA1]; exact hF
  have hn1 : A1.n = A.n := by rw [hA1]; rfl
  have hO := (sys_over (A := { A1 with sy := { A.sy with huge := upd A.sy.huge p F.plan.segs } }) (i := i) (t := t) (F := F) hF1 (p * 16384) 0 (fun _ => by show _ ≤ A1.n * _ ∧ _ < A1.n * _; rw [hn1]; exact ha)).plain
  have HO : Hid (∀ w0 L0, Rep w0 L0 { A1 with sy := { A.sy with huge := upd A.sy.huge p F.plan.segs } } → L0.fr i t = L.fr i t → Calls Tryz.prog 140 #[.pointer (some ⟨L.fr i t, 0, none⟩), .int .u64 (p * 16384 : Nat), .int .i64 0] w0 fun e w1 => ∃ L1, e = .returned (.tuple #[]) ∧ Ste w0 L0 { A1 with sy := { A.sy with huge := upd A.sy.huge p F.plan.segs } } w1 L1 ({ A1 with sy := { A.sy with huge := upd A.sy.huge p F.plan.segs } }.over i t F (p * 16384) 0)) := Lib.hid fun w0 L0 h0 e => by rw [← e]; exact hO w0 L0 h0
  have hfin : { A.setAr (A.ar.reserve F.plan.segs).2 with sy := { A.sy with huge := upd A.sy.huge p F.plan.segs } }.over i t F (p * 16384) 0 = { A1 with sy := { A.sy with huge := upd A.sy.huge p F.plan.segs } }.over i t F (p * 16384) 0 := by rw [hA1]
  rw [hfin]
  have HREP := Lib.hid h
  generalize { A1 with sy := { A.sy with huge := upd A.sy.huge p F.plan.segs } }.over i t F (p * 16384) 0 = A3 at *
  generalize { A1 with sy := { A.sy with huge := upd A.sy.huge p F.plan.segs } } = A2 at *
  have e1 : w.cell? ⟨L.bs, 1, none⟩ = some (.pointer (some ⟨L.ba, 0, none⟩)) := (hcs.cell 1).trans hc.h1
  have HC1 := Lib.hid hc.h1
  have HHU := Lib.hid (hc.hu p hp)
  have c0 : w.cell? ⟨L.fr i t, 0, none⟩ = some (.pointer (some ⟨L.bs, 0, none⟩)) := hb.cell 0
  have c14 : w.cell? ⟨L.fr i t, 14, none⟩ = some (.int .i64 F.plan.segs) := hb.cell 14
  show Calls _ _ #[.pointer (some ⟨L.fr i t, 0, none⟩)] w _
  obtain ⟨bf, hbf⟩ : ∃ x, x = L.fr i t := ⟨_, rfl⟩
  obtain ⟨bs, hbs⟩ : ∃ x, x = L.bs := ⟨_, rfl⟩
  obtain ⟨ba, hba⟩ : ∃ x, x = L.ba := ⟨_, rfl⟩
  obtain ⟨pn, hpn⟩ : ∃ x, x = F.plan.segs := ⟨_, rfl⟩
  have HBF := Lib.hid hbf
  have HBS := Lib.hid hbs
  have HBA := Lib.hid hba
  have HPN := Lib.hid hpn
  rw [← hbf] at HO c0 c14 HW ⊢
  rw [← hbs] at HW e1 c0 HSY
  rw [← hba] at HR e1 HC1
  rw [← hpn] at HR c14 HSY
  have hat2 : (p : Int) < 64 := by omega
  have hat3 : (0 : Int) ≤ p := by omega
  clear h hR hb hcs hF1 hn1 hO hfin hF hres hyes hA1 hbf hbs hba hpn ha
  go_enter Tryz.func115, Tryz.ntmps115
  go_wp2
  go_region_held3 (fun w' => w'.cell? ⟨bf, 0, none⟩ = some (.pointer (some ⟨bs, 0, none⟩)) ∧ w'.cell? ⟨bf, 14, none⟩ = some (.int .i64 pn) ∧ w'.cell? ⟨bs, 1, none⟩ = some (.pointer (some ⟨ba, 0, none⟩))) (first | exact ⟨c0, c14, e1⟩ | exact ⟨D1.out.1, D1.out.2.1, D1.out.2.2.1⟩) (first | (go_at_call 35; refine (HR.out _ ((Only.refl _ w).drew)).mono ?_; rintro e w1 ⟨rfl, vr', vt', hst, ho1⟩; have HS1 := Lib.hid hst; have HW1 := Lib.hid (HW.out w1 ho1); have D1 : Hid (w1.cell? ⟨bf, 0, none⟩ = some (.pointer (some ⟨bs, 0, none⟩)) ∧ w1.cell? ⟨bf, 14, none⟩ = some (.int .i64 pn) ∧ w1.cell? ⟨bs, 1, none⟩ = some (.pointer (some ⟨ba, 0, none⟩)) ∧ w1.cell? ⟨bs, 206 + p, none⟩ = some (.int .i64 (A.sy.huge p))) := Lib.hid (And.intro (by rw [HBS.out]; exact (HW.out w1 ho1).1.cell 0) (And.intro (by rw [HPN.out]; exact (HW.out w1 ho1).1.cell 14) (And.intro (((HW.out w1 ho1).2.cell 1).trans HC1.out) (((HW.out w1 ho1).2.cell _).trans HHU.out)))); clear hst ho1))
  have d0 := D1.out.1
  have d14 := D1.out.2.1
  have d2' : w1.drew.cell? ⟨bs, 206 + p, none⟩ = some (.int .i64 (A.sy.huge p)) := D1.out.2.2.2
  have f2' : w1.drew.frozen? ⟨bs, 206 + p, none⟩ = false := HW1.out.2.frozen _
  have hne : bf ≠ bs := HW1.out.1.ne_ HW1.out.2 (by decide)
  have HFB : Hid ((w1.setCell ⟨bs, 206 + p, none⟩ (.int .i64 pn)).cell? ⟨bf, 0, none⟩ = some (.pointer (some ⟨bs, 0, none⟩)) ∧ (w1.setCell ⟨bs, 206 + p, none⟩ (.int .i64 pn)).cell? ⟨bf, 14, none⟩ = some (.int .i64 pn)) := Lib.hid ⟨((HW1.out.1.far (p := ⟨bs, 206 + p, none⟩) hne (.int .i64 pn)).cell 0).trans ((HW1.out.1.cell 0).symm.trans D1.out.1), ((HW1.out.1.far (p := ⟨bs, 206 + p, none⟩) hne (.int .i64 pn)).cell 14).trans ((HW1.out.1.cell 14).symm.trans D1.out.2.1)⟩
  have HS2 := Lib.hid (HS1.out.trans (HSY.out w1 _ HS1.out.rep HBS.out.symm rfl rfl rfl rfl HW1.out.2))
  clear hne
  go_wp2
  go_region_held3 (fun w' => w'.cell? ⟨bf, 0, none⟩ = some (.pointer (some ⟨bs, 0, none⟩)) ∧ w'.cell? ⟨bf, 14, none⟩ = some (.int .i64 pn)) (first | exact ⟨d0, d14⟩ | exact HFB.out) (fail)
  go_wp2_with (first | (go_at_call 140; refine (HO.out _ _ (HS2.out.rep.quiet ((Only.refl _ _).drew)) ((congrFun (congrFun HS2.out.fix.fr i) t).trans HBF.out.symm)).mono ?_; rintro e w2 ⟨L2, rfl, hst⟩; have HS3 := Lib.hid ((HS2.out.quiet_right ((Only.refl _ _).drew)).trans hst); clear hst))
  go_end0
  exact ⟨L2, rfl, HS3.out⟩
end
end Go.Proofs.YtfplalgoopkmaaaGreat
