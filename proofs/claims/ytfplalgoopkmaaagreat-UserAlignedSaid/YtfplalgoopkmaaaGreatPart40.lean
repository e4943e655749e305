/- A world's first malloc. A world's first malloc: what it answers. Conditions: none. -/
import Derived.Test.YtfplalgoopkmaaaGreatPart39

set_option linter.unusedVariables false
set_option linter.unusedSimpArgs false

namespace Go.Proofs.YtfplalgoopkmaaaGreat
open Go.RowKit

section
variable {A B : St} {n : Nat} {F : Fr}
theorem Bare.grow_calls (h : Bare B n) (hsp : F.sp = none) : SysCalls 146 (fun L => #[ptrV (L.hp 0)]) (B.setFr false 0 F) (fun _ => .int .i64 ((B.setFr false 0 F).grown 0).1) ((B.setFr false 0 F).grown 0).2 := by
  refine sys_Grow (B.setFr false 0 F) 0 (by omega) (by show B.n ≤ 64; rw [h.nn]; exact h.n64) (res_first (n := n) h.ar h.n2 h.n64 (Nat.le_refl _) (by have := h.n2; omega)) (fun p hp => ?_) (fun u _ => ?_) (fun i hi => ?_) (fun i u G q hG hq => ?_) ?_
  · have h2 : ((B.setFr false 0 F).ar.reserve 1).1 = some 1 := by show (B.ar.reserve 1).1 = some 1; rw [h.ar, arena1_reserve n 1 h.n2 (by have := h.n2; omega)]
    rw [h2] at hp
    injection hp with hp
    subst hp
    exact ⟨by show 1 < B.n; rw [h.nn]; exact h.n2, by show B.seg 1 = none; rw [h.seg]⟩
  · intro p hp
    have hp2 : p ∈ (B.heap u).segs := hp
    rw [h.heap] at hp2; cases hp2
  · have hi2 : B.sy.kn i = true := hi
    rw [h.kn i] at hi2; cases hi2
  · have hG2 : updF B.fr false 0 (some F) i u = some G := hG
    by_cases e : i = false ∧ u = 0
    · obtain ⟨rfl, rfl⟩ := e
      rw [updF_same] at hG2
      injection hG2 with hG2
      subst hG2
      rw [hsp] at hq; cases hq
    · rw [updF_ne _ _ e, h.fr] at hG2; cases hG2
  · show (B.heap 0).segs.length < 64
    rw [h.heap]; exact Nat.zero_lt_succ _

/-- What is left behind a block given out: its call over, and written down. -/
def St.wrote (X : St) (t : Nat) (r : ResM) (e : Ent) : St := (X.uncall t r).setWl ((X.uncall t r).wl.setLed (X.wl.led ++ [e]))
theorem end_wrote {X : St} {t : Nat} {r : ResM} {e : Ent} (ht : t < X.wl.nth) (hk : (X.wl.th t).asked.kind = 1) (h0 : r.err = 0) (he : e = ⟨r.addr, (X.wl.th t).asked.n, max (X.wl.th t).asked.align 1, false⟩)
    (hr : Rising (X.wl.led.map entKey)) (hf : X.wl.led.length ≤ 980) (hn : e.n ≤ 1048576) (hend : e.addr + max e.n 1 ≤ 1048576) (hp : pw2 e.align = true) (hal : e.align ≤ 1024) (hd : e.addr &&& (e.align - 1) = 0) (hall : ∀ x ∈ X.wl.led, entEnd x ≤ e.addr) :
    EndOK t (X.uncall t r) (X.wrote t r e) := by
  have hth : (X.uncall t r).wl.th t = (X.wl.th t).told r := upd_same _ _ _
  have hent : entOf ((X.uncall t r).wl.th t) = e := by rw [hth, he]
  have := end_add (A := X.uncall t r) (t := t) ht (by rw [hth]; exact hk) (by rw [hth]; exact h0) (fun w L h => by
    rw [hent]
    exact sys_Add (X.uncall t r) e w L h hr hf (by rw [he]) hn (by omega) hend hp hal hd hall)
  rw [hent] at this
  exact this

/-- From the state fresh on: a segment more, a page more. -/
theorem Bare.chain_fresh (h : Bare B n) (hst : F.st = sFresh) (hs : F.r.steps ≤ 10) (hpl : PlanOK F.plan) (hu : F.plan.usable ≤ 15360) (hk : F.c.kind = 1) (hsp : F.sp = none) (hsa : B.sy.sa ≤ 1000) {e : Ent} (hask : (B.wl.th 0).asked.kind = 1)
    (he : e = ⟨17408, (B.wl.th 0).asked.n, max (B.wl.th 0).asked.align 1, false⟩) (hled : B.wl.led = []) (hn : e.n ≤ 1048576) (hend : e.n ≤ F.plan.usable) (hp : pw2 e.align = true) (hal : e.align ≤ 1024) :
    ∃ B3, Bare B3 n ∧ B3.wl = B.wl ∧ B3.f = B.f ∧ B3.sy.huge = B.sy.huge ∧ Chain 0 3 (B.setFr false 0 F) (({ B3.block1 n F.plan with f := F.fills 17408 0 (B3.block1 n F.plan).f }.know 0).wrote 0 ⟨17408, 0, F.r.steps + 3⟩ e) := by
  have h1 := h.know
  have h2 : Bare { B.know 0 with sy := { (B.know 0).sy with sa := (B.know 0).sy.sa + 1 } } n := h1.looked (by show B.sy.sa + 1 < 100000000000; omega)
  have h3 := h2.know
  have w1 := ws_fresh_no (F := F) h.up hst (by omega) hpl h.sp (h.hp 0) (by rw [h.heap]; rfl)
  have w2 := ws_look (F := F.tick.to sLook) h1.up rfl (by show F.r.steps + 1 < 1000000000000; omega) hk h1.sw h1.sa h1.live
  obtain ⟨B3, hB3⟩ : ∃ x, x = ({ B.know 0 with sy := { (B.know 0).sy with sa := (B.know 0).sy.sa + 1 } } : St).know 0 := ⟨_, rfl⟩
  have hwl3 : B3.wl = B.wl := by rw [hB3]; rfl
  have hf3 : B3.f = B.f := by rw [hB3]; rfl
  have hu3 : B3.sy.huge = B.sy.huge := by rw [hB3]; rfl
  rw [← hB3] at w2 h3
  obtain ⟨F3, hF3⟩ : ∃ x, x = ({ (F.tick.to sLook).tick.to sGrow with top := -1, tag := (B.know 0).sy.stg } : Fr) := ⟨_, rfl⟩
  rw [← hF3] at w2
  have hp3 : F3.plan = F.plan := by rw [hF3]; rfl
  have hc3 : F3.c = F.c := by rw [hF3]; rfl
  have hst3 : F3.st = sGrow := by rw [hF3]; rfl
  have hr3 : F3.r.steps = F.r.steps + 2 := by rw [hF3]; rfl
  have hsp3 : F3.sp = none := by rw [hF3]; exact hsp
  have hfr := h3.fresh1 (pl := F3.plan) (by rw [hp3]; exact hpl)
  have hsize : (B3.grow1 n).n = n := h3.nn
  have hbl := h3.block1_sp (pl := F3.plan) (by rw [hp3]; exact hpl)
  have hfill : ∀ g, F3.fills 17408 0 g = F.fills 17408 0 g := fun g => by unfold Fr.fills; rw [hp3, hc3]
  have w3 : WStep 0 (B3.setFr false 0 F3) (({ B3.block1 n F.plan with f := F.fills 17408 0 (B3.block1 n F.plan).f }.know 0).wrote 0 ⟨17408, 0, F.r.steps + 3⟩ e) := by
    refine ws_grow_ok h3.up hst3 (by rw [hr3]; omega) (by rw [hp3]; exact hpl) h3.grown (h3.grow_calls (by exact hsp3)) h3.sp1 h3.hp1 (by rw [hfr]) ?_ ?_ ?_ ?_
    · rw [hfr, hsize, hp3]
      have := h.n2
      exact ⟨by show 17408 + F.plan.usable ≤ n * 16384; omega, by show 17408 < n * 16384; omega⟩
    · rw [hfr]; rfl
    · rw [hfr]; exact hbl.2.liveOK hbl.1
    · rw [hfr]
      show EndOK 0 (({ B3.block1 n F3.plan with f := F3.fills 17408 0 (B3.block1 n F3.plan).f }.know 0).uncall 0 ⟨17408, 0, F3.r.steps + 1⟩) _
      rw [hfill, hp3, hr3]
      have hal2 : e.align - 1 = e.align - 1 := rfl
      refine end_wrote (X := { B3.block1 n F.plan with f := F.fills 17408 0 (B3.block1 n F.plan).f }.know 0) (r := ⟨17408, 0, F.r.steps + 3⟩) (e := e) ?_ ?_ rfl ?_ ?_ ?_ hn ?_ hp hal ?_ ?_
      · exact h3.up.ht
      · show (B3.wl.th 0).asked.kind = 1; rw [hwl3]; exact hask
      · show e = ⟨17408, (B3.wl.th 0).asked.n, max (B3.wl.th 0).asked.align 1, false⟩; rw [hwl3]; exact he
      · show Rising (B3.wl.led.map entKey); rw [hwl3, hled]; exact List.Pairwise.nil
      · show B3.wl.led.length ≤ 980; rw [hwl3, hled]; exact Nat.zero_le _
      · rw [he]; rw [he] at hend; show 17408 + max (B.wl.th 0).asked.n 1 ≤ 1048576
        have : (B.wl.th 0).asked.n ≤ F.plan.usable := hend
        omega
      · have h17 := (pw2_1024 e.align (by omega) hp).1
        rw [he] at h17 ⊢
        exact h17
      · intro x hx
        have hx2 : x ∈ B3.wl.led := hx
        rw [hwl3, hled] at hx2; cases hx2
  refine ⟨B3, h3, hwl3, hf3, hu3, ?_⟩
  refine .cons (by rw [setFr_same]; rfl) w1 rfl (.cons (by rw [setFr_same]; rfl) w2 (by show B3.wl.nth = B.wl.nth; rw [hwl3]) (.cons (by rw [setFr_same]; rfl) w3 rfl (.nil ?_)))
  show updF B3.fr false 0 none false 0 = none
  exact updF_same _ _ _ _
end
end Go.Proofs.YtfplalgoopkmaaaGreat

namespace Go.Proofs.YtfplalgoopkmaaaGreat
open Go.RowKit

theorem mallocPlan_some {n al : Nat} {p : Plan} (h : mallocPlan n al = some p) : pw2 (max al 1) = true ∧ max al 1 ≤ 1024 ∧ n ≤ 1048576 ∧ PlanIs n (max al 1) p := by
  unfold mallocPlan at h
  split at h
  · rename_i hc
    injection h with h
    exact ⟨hc.1, hc.2.1, hc.2.2, h ▸ planOf_is n (max al 1) hc.2.2⟩
  · cases h
theorem asks_th (A : St) (t : Nat) (c : CallM) : (A.asks t c).wl.th t = (A.wl.th t).ask c := by
  show upd A.wl.th t ((A.wl.th t).ask c) t = _
  exact upd_same _ _ _
/-- What is left behind a world's first block. -/
def St.got1 (B3 : St) (n : Nat) (p : Plan) (c : CallM) (s : Nat) : St :=
  ({ B3.block1 n p with f := (Fr.new c p sFresh).fills 17408 0 (B3.block1 n p).f }.know 0).wrote 0 ⟨17408, 0, s⟩ ⟨17408, c.n, max c.align 1, false⟩
theorem got1_th (B3 : St) (n : Nat) (p : Plan) (c : CallM) (s : Nat) : (B3.got1 n p c s).wl.th 0 = (B3.wl.th 0).told ⟨17408, 0, s⟩ := by
  show upd B3.wl.th 0 ((B3.wl.th 0).told ⟨17408, 0, s⟩) 0 = _
  exact upd_same _ _ _
section
variable {A : St} {n : Nat} {c : CallM} {p : Plan}
theorem many (n k : Nat) (hk : k ≤ 4) : k ≤ 40 * (n + 2) * (n + 2) := by
  have : 40 * 2 * 2 ≤ 40 * (n + 2) * (n + 2) := Nat.mul_le_mul (Nat.mul_le_mul (Nat.le_refl 40) (by omega)) (by omega)
  omega
theorem Bare.call_eq (A : St) (c : CallM) (p : Plan) (s : ByteArray) : A.call 0 (Fr.new c p s) = (A.asks 0 c).setFr false 0 (Fr.new c p s) := rfl
theorem Bare.first_block (hA : Bare A n) (hled : A.wl.led = []) (hsa : A.sy.sa ≤ 1000) (hk : c.kind = 1) (hal : c.align < 18446744073709551616) (hp : mallocPlan c.n c.align = some p) (h0 : p.segs = 0) :
    ∃ B3 s, Bare B3 n ∧ B3.wl = (A.asks 0 c).wl ∧ B3.f = A.f ∧ B3.sy.huge = A.sy.huge ∧ Done 0 c A ⟨17408, 0, s⟩ (B3.got1 n p c s) := by
  obtain ⟨hp1, hp2, hp3, his⟩ := mallocPlan_some hp
  have hus := his.usable h0
  have hB := hA.asks c
  have hask := asks_th A 0 c
  have hbeg := begun_malloc (A := A) (t := 0) hk (by omega) hal hA.up.ht hA.up.up (by rw [hA.fr]) (by rw [hA.fr])
  rw [hp] at hbeg
  rw [show (some p).getD zeroPlan = p from rfl, Bare.call_eq] at hbeg
  have hst : mallocState (some p) = if 0 ≤ p.cls then sLocal else sFresh := by
    show (if 0 < p.segs then sHuge else if 0 ≤ p.cls then sLocal else sFresh) = _
    rw [if_neg (by omega)]
  have he : (⟨17408, c.n, max c.align 1, false⟩ : Ent) = ⟨17408, ((A.asks 0 c).wl.th 0).asked.n, max ((A.asks 0 c).wl.th 0).asked.align 1, false⟩ := by rw [hask]
  by_cases hc : 0 ≤ p.cls
  · rw [hst, if_pos hc] at hbeg
    obtain ⟨k, hk12, hkc⟩ : ∃ k : Nat, k < 12 ∧ p.cls = k := by
      rcases his.ok h0 with ⟨k, h1, h2⟩ | ⟨h1, _⟩
      · exact ⟨k, h1, h2⟩
      · omega
    have w0 := ws_local_none (B := A.asks 0 c) (F := Fr.new c p sLocal) hB.up rfl (by show 0 < 1000000000000; omega) k hk12 hkc (by rw [hB.heap]; rfl) (by rw [hB.heap]; rfl) hB.live
    obtain ⟨B3, b1, b2, b3, b5, b4⟩ := hB.know.chain_fresh (F := { (Fr.new c p sLocal).tick.to sFresh with list := [] }) rfl (by show 1 ≤ 10; omega) (his.ok h0) hus.1 hk rfl hsa (by show ((A.asks 0 c).wl.th 0).asked.kind = 1; rw [hask]; exact hk) he hled hp3 (by show c.n ≤ p.usable; omega) hp1 hp2
    refine ⟨B3, 4, b1, b2, b3, b5, Done.of (k := 3) hbeg (.cons (by rw [setFr_same]; rfl) w0 rfl b4) (by show A.n ≤ 64; rw [hA.nn]; exact hA.n64) (many _ _ (by omega)) hA.up.ht ?_ ?_⟩
    · rw [got1_th]
    · rw [got1_th]
  · rw [hst, if_neg hc] at hbeg
    obtain ⟨B3, b1, b2, b3, b5, b4⟩ := hB.chain_fresh (F := Fr.new c p sFresh) rfl (by show 0 ≤ 10; omega) (his.ok h0) hus.1 hk rfl hsa (by rw [hask]; exact hk) he hled hp3 (by show c.n ≤ p.usable; omega) hp1 hp2
    refine ⟨B3, 3, b1, b2, b3, b5, Done.of (k := 2) hbeg b4 (by show A.n ≤ 64; rw [hA.nn]; exact hA.n64) (many _ _ (by omega)) hA.up.ht ?_ ?_⟩
    · rw [got1_th]
    · rw [got1_th]

/-- Refused: any state. -/
theorem refused {t : Nat} (hu : Up1 A t) (hl : LiveOK A t) (hn : A.n ≤ 64) (hf : A.fr false t = none) (hf2 : A.fr true t = none) (hk : c.kind = 1) (hn64 : c.n < 18446744073709551616) (hal : c.align < 18446744073709551616) (hp : mallocPlan c.n c.align = none) :
    Done t c A ⟨0, 2, 1⟩ (((A.asks t c).know t).uncall t ⟨0, 2, 1⟩) := by
  have hbeg := begun_malloc (A := A) (t := t) hk hn64 hal hu.ht hu.up hf hf2
  rw [hp] at hbeg
  rw [show (none : Option Plan).getD zeroPlan = zeroPlan from rfl, show mallocState none = sRefuse from rfl, show A.call t (Fr.new c zeroPlan sRefuse) = (A.asks t c).setFr false t (Fr.new c zeroPlan sRefuse) from rfl] at hbeg
  have hask := asks_th A t c
  have hu2 : Up1 (A.asks t c) t := ⟨hu.t8, hu.ht, by rw [hask]; exact hu.up⟩
  have hth : (((A.asks t c).know t).uncall t ⟨0, 2, 1⟩).wl.th t = ((A.wl.th t).ask c).told ⟨0, 2, 1⟩ := by
    show upd (A.asks t c).wl.th t (((A.asks t c).wl.th t).told ⟨0, 2, 1⟩) t = _
    rw [upd_same, hask]
  have hE : EndOK t (((A.asks t c).know t).uncall t ⟨0, 2, 1⟩) (((A.asks t c).know t).uncall t ⟨0, 2, 1⟩) := end_no hu.ht (by rw [hth]; exact hk) (by rw [hth]; show (2 : Int) ≠ 0; omega)
  have w0 := ws_refuse (B := A.asks t c) (F := Fr.new c zeroPlan sRefuse) (A2 := ((A.asks t c).know t).uncall t ⟨0, 2, 1⟩) hu2 rfl (by show 0 < 1000000000000; omega) hl hE
  refine Done.of (k := 0) hbeg (.cons (by rw [setFr_same]; rfl) w0 rfl (.nil (updF_same _ _ _ _))) hn (many _ _ (by omega)) hu.ht ?_ ?_
  · rw [hth]
  · rw [hth]

theorem Bare.first_full (hA : Bare A n) (hk : c.kind = 1) (hal : c.align < 18446744073709551616) (hp : mallocPlan c.n c.align = some p) (h0 : 0 < p.segs) (hfull : n < p.segs + 1) (hle : p.segs ≤ n) :
    ∃ C, Done 0 c A ⟨0, 4, 1⟩ C := by
  obtain ⟨hp1, hp2, hp3, his⟩ := mallocPlan_some hp
  have hB := hA.asks c
  have hask := asks_th A 0 c
  have hbeg := begun_malloc (A := A) (t := 0) hk (by omega) hal hA.up.ht hA.up.up (by rw [hA.fr]) (by rw [hA.fr])
  rw [hp] at hbeg
  rw [show (some p).getD zeroPlan = p from rfl, show mallocState (some p) = sHuge from by show (if 0 < p.segs then sHuge else _) = _; rw [if_pos h0], Bare.call_eq] at hbeg
  have hno : ((A.asks 0 c).ar.reserve p.segs).1 = none := by rw [hB.ar, arena1_full n p.segs hfull]
  obtain ⟨C, hC⟩ : ∃ C, C = (((A.asks 0 c).setAr ((A.asks 0 c).ar.reserve p.segs).2).know 0).uncall 0 ⟨0, 4, 1⟩ := ⟨_, rfl⟩
  have hth : C.wl.th 0 = ((A.wl.th 0).ask c).told ⟨0, 4, 1⟩ := by
    rw [hC]
    show upd (A.asks 0 c).wl.th 0 (((A.asks 0 c).wl.th 0).told ⟨0, 4, 1⟩) 0 = _
    rw [upd_same, hask]
  have hnt : C.wl.nth = A.wl.nth := by rw [hC]; rfl
  have hE : EndOK 0 C C := end_no (by rw [hnt]; exact hA.up.ht) (by rw [hth]; exact hk) (by rw [hth]; show (4 : Int) ≠ 0; omega)
  have w0 := ws_huge_no (B := A.asks 0 c) (F := Fr.new c p sHuge) (A2 := C) hB.up rfl (by show 0 < 1000000000000; omega) (res_first (n := n) hB.ar hA.n2 hA.n64 (by show 1 ≤ p.segs; omega) hle) hno hB.live (by rw [hC] at hE ⊢; exact hE)
  refine ⟨C, Done.of (k := 0) hbeg (.cons (by rw [setFr_same]; rfl) w0 hnt (.nil (by rw [hC]; show updF A.fr false 0 none false 0 = none; exact updF_same _ _ _ _))) (by show A.n ≤ 64; rw [hA.nn]; exact hA.n64) (many _ _ (by omega)) hA.up.ht ?_ ?_⟩
  · rw [hth]
  · rw [hth]

/-- What is left behind a world's first huge block. -/
def St.gotH (A : St) (n : Nat) (p : Plan) (c : CallM) : St :=
  ({ (A.asks 0 c).setAr ((A.asks 0 c).ar.reserve p.segs).2 with sy := { A.sy with huge := upd A.sy.huge 1 p.segs }, f := (Fr.new c p sHuge).fills 16384 0 A.f }.know 0).wrote 0 ⟨16384, 0, 1⟩ ⟨16384, c.n, max c.align 1, false⟩
theorem Bare.first_huge (hA : Bare A n) (hled : A.wl.led = []) (hk : c.kind = 1) (hal : c.align < 18446744073709551616) (hp : mallocPlan c.n c.align = some p) (h0 : 0 < p.segs) (hle : p.segs + 1 ≤ n) (hus : p.usable = p.segs * 16384) (hnu : max c.n 1 ≤ p.usable) :
    Done 0 c A ⟨16384, 0, 1⟩ (A.gotH n p c) := by
  obtain ⟨hp1, hp2, hp3, his⟩ := mallocPlan_some hp
  have hB := hA.asks c
  have hask := asks_th A 0 c
  have hbeg := begun_malloc (A := A) (t := 0) hk (by omega) hal hA.up.ht hA.up.up (by rw [hA.fr]) (by rw [hA.fr])
  rw [hp] at hbeg
  rw [show (some p).getD zeroPlan = p from rfl, show mallocState (some p) = sHuge from by show (if 0 < p.segs then sHuge else _) = _; rw [if_pos h0], Bare.call_eq] at hbeg
  have hyes : ((A.asks 0 c).ar.reserve p.segs).1 = some 1 := by rw [hB.ar, arena1_reserve n p.segs hA.n2 hle]
  have hle2 : p.segs * 16384 + 16384 ≤ n * 16384 := by omega
  have hn64 := hA.n64
  have w0 := ws_huge_ok (B := A.asks 0 c) (F := Fr.new c p sHuge) (p := 1) (A2 := A.gotH n p c) hB.up rfl (by show 0 < 1000000000000; omega) (res_first (n := n) hB.ar hA.n2 hA.n64 (by show 1 ≤ p.segs; omega) (by show p.segs ≤ n; omega)) hyes (by omega) (by
      show 1 * 16384 + p.usable ≤ A.n * 16384 ∧ 1 * 16384 < A.n * 16384
      rw [hA.nn]; omega) hB.live (by
    refine end_wrote (X := { (A.asks 0 c).setAr ((A.asks 0 c).ar.reserve p.segs).2 with sy := { A.sy with huge := upd A.sy.huge 1 p.segs }, f := (Fr.new c p sHuge).fills 16384 0 A.f }.know 0) (r := ⟨16384, 0, 1⟩) (e := ⟨16384, c.n, max c.align 1, false⟩) hA.up.ht (by show ((A.asks 0 c).wl.th 0).asked.kind = 1; rw [hask]; exact hk) rfl ?_ ?_ ?_ hp3 ?_ hp1 hp2 ?_ ?_
    · show _ = (⟨16384, ((A.asks 0 c).wl.th 0).asked.n, max ((A.asks 0 c).wl.th 0).asked.align 1, false⟩ : Ent)
      rw [hask]
    · show Rising (A.wl.led.map entKey); rw [hled]; exact List.Pairwise.nil
    · show A.wl.led.length ≤ 980; rw [hled]; exact Nat.zero_le _
    · show 16384 + max c.n 1 ≤ 1048576
      omega
    · exact (pw2_1024 (max c.align 1) (by omega) hp1).2
    · intro x hx
      have hx2 : x ∈ A.wl.led := hx
      rw [hled] at hx2; cases hx2)
  have hth : (A.gotH n p c).wl.th 0 = ((A.wl.th 0).ask c).told ⟨16384, 0, 1⟩ := by
    show upd (A.asks 0 c).wl.th 0 (((A.asks 0 c).wl.th 0).told ⟨16384, 0, 1⟩) 0 = _
    rw [upd_same, hask]
  refine Done.of (k := 0) hbeg (.cons (by rw [setFr_same]; rfl) w0 rfl (.nil (by show updF A.fr false 0 none false 0 = none; exact updF_same _ _ _ _))) (by show A.n ≤ 64; rw [hA.nn]; exact hA.n64) (many _ _ (by omega)) hA.up.ht ?_ ?_
  · rw [hth]
  · rw [hth]
end
end Go.Proofs.YtfplalgoopkmaaaGreat
