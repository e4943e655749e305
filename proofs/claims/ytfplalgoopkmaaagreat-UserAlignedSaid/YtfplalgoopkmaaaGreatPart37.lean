/- Layer 17: a call, begun and done alone. Layer 19: a user's call. What stays right when a block is given out, without Go. Conditions: none. -/
import Derived.Test.YtfplalgoopkmaaaGreatPart36
import Derived.Test.YtfplalgoopkmaaaGreatPart21

set_option linter.unusedVariables false
set_option linter.unusedSimpArgs false

namespace Go.Proofs.YtfplalgoopkmaaaGreat
open Go.RowKit

/-- A call that begins. -/
def Begun (t : Nat) (c : CallM) (A B : St) : Prop := ∀ w L, Rep w L A → Calls Tryz.prog 38 #[.pointer (some ⟨L.bw, 0, none⟩), .int .i64 t, callV c] w fun e w' => ∃ L', e = .returned (.int .i64 0) ∧ Run w L A w' L' B
theorem begun_malloc {A : St} {t : Nat} {c : CallM} (hk : c.kind = 1) (hn : c.n < 18446744073709551616) (hal : c.align < 18446744073709551616) (ht : t < A.wl.nth) (h1 : (A.wl.th t).is = 1) (h2 : A.fr false t = none) (h3 : A.fr true t = none) :
    Begun t c A (A.call t (Fr.new c ((mallocPlan c.n c.align).getD zeroPlan) (mallocState (mallocPlan c.n c.align)))) := fun w L h => by
  refine (world_Call_malloc A t c hk hn hal w L h ht h1 h2 h3).mono ?_
  rintro e w' ⟨bf, rfl, hbf, hr, ho⟩
  exact ⟨L.call t bf, rfl, Run.call hr (ho.mono fun x hx => ⟨.wld, .inr (.inl hx)⟩) (fun _ _ h => h) (Fix.refl L) hbf⟩
theorem begun_free {A : St} {t i : Nat} {E : Ent} {c : CallM} (hk : c.kind = 2) (hr : Rising (A.wl.led.map entKey)) (hf : A.wl.led.length ≤ 990) (hi : A.wl.led[i]? = some E) (he : E.addr = c.addr) (hb : E.held = false) (hx : c.addr < 18446744073709551616) (ht : t < A.wl.nth) (h1 : (A.wl.th t).is = 1) (h2 : A.fr false t = none) (h3 : A.fr true t = none) :
    Begun t c A ((A.setWl (A.wl.setLed (A.wl.led.set i (entHeld E true)))).call t (Fr.new c zeroPlan sFind)) := fun w L h => by
  refine (world_Call_free A t i E c hk hr hf hi he hb hx w L h ht h1 h2 h3).mono ?_
  rintro e w' ⟨bf, rfl, hbf, L', hr, _, hfix, ho, hfo⟩
  exact ⟨L'.call t bf, rfl, Run.call hr ho hfo hfix hbf⟩

theorem do_result (w : World) (b : Nat) (tmps : Array Value) (a : Nat) (e s : Int) (hb : Blk w b 74 #[.int .u64 a, .int .i64 e, .int .i64 s]) (h4 : tmps[6]? = some (.pointer (some ⟨b, 0, none⟩))) (h5 : tmps[7]? = some (.int .i64 0)) :
    (results Tryz.f28 tmps).run Tryz.prog w = .ok (.tuple #[.agg #[.int .u64 a, .int .i64 e, .int .i64 s], .int .i64 0]) w := by
  have hc := hb.cell
  simp [results, Tryz.f28, go_sem, h4, h5, hc]

set_option maxRecDepth 100000 in
set_option maxHeartbeats 1000000 in
theorem trace_Do {A B C : St} {t k : Nat} {c : CallM} (hcall : Begun t c A B) (hch : Chain t (k + 1) B C) (hn : B.n ≤ 64) (hk : k + 1 ≤ 40 * (B.n + 2) * (B.n + 2)) (ht : t < B.wl.nth) (hres : (C.wl.th t).has = true) (w : World) (L : Lay) (h : Rep w L A) :
    Calls Tryz.prog 28 #[.pointer (some ⟨L.bw, 0, none⟩), .int .i64 t, callV c] w fun e w' => ∃ L', e = .returned (.tuple #[resMV (C.wl.th t).res, .int .i64 0]) ∧ Run w L A w' L' C := by
  obtain ⟨o1, ho1⟩ : ∃ o, o = Obj.cells #[.int .i64 c.kind, .int .u64 c.addr, .int .u64 c.n, .int .u64 c.align, .bool c.zero, .bool c.force] 50 := ⟨_, rfl⟩
  obtain ⟨o2, ho2⟩ : ∃ o, o = Obj.cells #[.int .u64 0, .int .i64 0, .int .i64 0] 74 := ⟨_, rfl⟩
  have hoo := ((Only.refl Nobody w).alloc o1).alloc o2
  have HCALL := Lib.hid (hcall _ L (h.quiet hoo))
  have hb2 : Blk ((w.alloc o1).alloc o2) (w.heap.size + 1) 74 #[.int .u64 0, .int .i64 0, .int .i64 0] := by
    rw [ho2]
    have := Blk.new (w.alloc o1) 74 #[.int .u64 0, .int .i64 0, .int .i64 0]
    rwa [World.size_alloc] at this
  have hb1 : Blk ((w.alloc o1).alloc o2) w.heap.size 50 #[.int .i64 c.kind, .int .u64 c.addr, .int .u64 c.n, .int .u64 c.align, .bool c.zero, .bool c.force] := by
    rw [ho1]; exact (Blk.new w 50 _).alloc o2
  have hno : ∀ x, w.heap.size ≤ x → ∀ i, ¬ Foot L A i x := fun x hx i hi => by have := h.lt hi; omega
  have HK : Hid (∀ w' L', Run ((w.alloc o1).alloc o2) L A w' L' C → Run w L A w' L' C) := Lib.hid fun w' L' hr => hr.quiet_left hoo h
  have HB : Hid (∀ w' L' D, Run ((w.alloc o1).alloc o2) L A w' L' D → Blk w' (w.heap.size + 1) 74 #[.int .u64 0, .int .i64 0, .int .i64 0]) := Lib.hid fun w' L' D hr => (hr.keep hb2 (hno _ (by omega))).1
  have HBO : Hid (∀ w1 L', Run ((w.alloc o1).alloc o2) L A w1 L' B → Calls Tryz.prog 40 #[.pointer (some ⟨L.bw, 0, none⟩)] w1 fun e w' => e = .returned (.int .i64 (40 * (B.n + 2) * (B.n + 2) : Nat)) ∧ w1 = w') := Lib.hid fun w1 L' hr => by
    rw [← hr.fix.bw]; exact trace_Bound B w1 L' hr.rep hn
  have hmle : 40 * (B.n + 2) * (B.n + 2) ≤ 40 * 66 * 66 := Nat.mul_le_mul (Nat.mul_le_mul (Nat.le_refl 40) (by omega)) (by omega)
  have HAL : Hid (∀ w1 L', Run ((w.alloc o1).alloc o2) L A w1 L' B → Calls Tryz.prog 39 #[.pointer (some ⟨L.bw, 0, none⟩), .int .i64 t, .int .i64 (40 * (B.n + 2) * (B.n + 2) : Nat)] w1 fun e w' => ∃ L2, e = .returned (.tuple #[resMV (C.wl.th t).res, .int .i64 0]) ∧ Run ((w.alloc o1).alloc o2) L A w' L2 C) := Lib.hid fun w1 L' hr => by
    rw [← hr.fix.bw]
    refine (trace_Alone B C t k _ hch hk (by omega) ht hres w1 L' hr.rep).mono ?_
    rintro e w' ⟨L2, rfl, hs⟩
    exact ⟨L2, rfl, hr.trans hs.run⟩
  have HFIN : Hid (∀ w' L', Run ((w.alloc o1).alloc o2) L A w' L' C → ∀ w'' u0 u1 u2, Only Nobody w' w'' → Run w L A (((w''.setCell ⟨w.heap.size + 1, 0, none⟩ u0).setCell ⟨w.heap.size + 1, 1, none⟩ u1).setCell ⟨w.heap.size + 1, 2, none⟩ u2) L' C ∧ Blk (((w''.setCell ⟨w.heap.size + 1, 0, none⟩ u0).setCell ⟨w.heap.size + 1, 1, none⟩ u1).setCell ⟨w.heap.size + 1, 2, none⟩ u2) (w.heap.size + 1) 74 #[u0, u1, u2]) := Lib.hid fun w' L' hr w'' u0 u1 u2 ho => by
    have hb := hr.keep hb2 (hno _ (by omega))
    refine ⟨((hr.quiet_left hoo h).quiet_right ho).out (Only.setAt (S := fun x => x = w.heap.size + 1) (Only.setAt (S := fun x => x = w.heap.size + 1) (Only.setAt (S := fun x => x = w.heap.size + 1) (Only.refl _ _) rfl _ _) rfl _ _) rfl _ _) (by omega) hb.2, (((hb.1.only ho (fun h => h)).set_ 0 u0).set_ 1 u1).set_ 2 u2⟩
  have k0 := hb1.cell 0
  have k1 := hb1.cell 1
  have k2 := hb1.cell 2
  have k3 := hb1.cell 3
  have k4 := hb1.cell 4
  have k5 := hb1.cell 5
  generalize (C.wl.th t).res = R at *
  obtain ⟨ra, re, rs⟩ := R
  generalize 40 * (B.n + 2) * (B.n + 2) = most at *
  obtain ⟨ck, ca, cn, cal, cz, cf⟩ := c
  dsimp only at *
  generalize L.bw = bw at *
  clear h hcall hb1 hb2 hno hres hch
  go_enter Tryz.func28, Tryz.ntmps28
  subst ho1
  subst ho2
  go_wp2_with (first | (go_at_call 38; refine HCALL.out.mono ?_; rintro e w1 ⟨L1, rfl, hr1⟩; have HR1 := Lib.hid hr1; clear hr1) | (go_at_call 40; refine (HBO.out _ _ HR1.out).mono ?_; rintro e w2 ⟨rfl, rfl⟩) | (go_at_call 39; refine (HAL.out _ _ HR1.out).mono ?_; rintro e w3 ⟨L3, rfl, hr3⟩; have HR3 := Lib.hid hr3; have HB3 := Lib.hid (HB.out _ _ _ hr3); have q0 := (HB.out _ _ _ hr3).frozen 0; have q1 := (HB.out _ _ _ hr3).frozen 1; have q2 := (HB.out _ _ _ hr3).frozen 2; have p0 := (HB.out _ _ _ hr3).cell 0; have p1 := (HB.out _ _ _ hr3).cell 1; have p2 := (HB.out _ _ _ hr3).cell 2; clear hr3))
  have hfin := HFIN.out _ _ HR3.out _ (.int .u64 ra) (.int .i64 re) (.int .i64 rs) (Only.refl _ _)
  exact bodyPost_ret (do_result _ _ _ _ _ _ hfin.2 rfl rfl) rfl ⟨_, rfl, hfin.1⟩
end Go.Proofs.YtfplalgoopkmaaaGreat

namespace Go.Proofs.YtfplalgoopkmaaaGreat
open Go.RowKit

abbrev UserAt (w : World) (bu : Nat) (L : Lay) (t : Nat) : Prop := Blk w bu 59 #[.pointer (some ⟨L.bw, 0, none⟩), .int .i64 t]
/-- A call done alone: from a state to another one, with an answer. -/
def Done (t : Nat) (c : CallM) (A : St) (r : ResM) (C : St) : Prop := ∀ w L, Rep w L A → Calls Tryz.prog 28 #[.pointer (some ⟨L.bw, 0, none⟩), .int .i64 t, callV c] w fun e w' => ∃ L', e = .returned (.tuple #[resMV r, .int .i64 0]) ∧ Run w L A w' L' C
theorem Done.of {A B C : St} {t k : Nat} {c : CallM} {r : ResM} (hcall : Begun t c A B) (hch : Chain t (k + 1) B C) (hn : B.n ≤ 64) (hk : k + 1 ≤ 40 * (B.n + 2) * (B.n + 2)) (ht : t < B.wl.nth) (hres : (C.wl.th t).has = true) (hr : (C.wl.th t).res = r) : Done t c A r C := fun w L h => by
  subst hr
  exact trace_Do hcall hch hn hk ht hres w L h

theorem Run.set3 {w w3 : World} {L L3 : Lay} {A C : St} (h : Run w L A w3 L3 C) {b : Nat} (hb : w.heap.size ≤ b) (hn : ∀ i, ¬ Foot L3 C i b) (u0 u1 u2 : Value) : Run w L A (((w3.setCell ⟨b, 0, none⟩ u0).setCell ⟨b, 1, none⟩ u1).setCell ⟨b, 2, none⟩ u2).drew L3 C :=
  (h.out (Only.setAt (S := fun x => x = b) (Only.setAt (S := fun x => x = b) (Only.setAt (S := fun x => x = b) (Only.refl _ _) rfl _ _) rfl _ _) rfl _ _) hb hn).quiet_right (Only.refl _ _).drew
theorem Run.alloc1 {w w3 : World} {L L3 : Lay} {A C : St} (h : Run w L A w3 L3 C) (o : Obj) : Run w L A (w3.alloc o).drew L3 C := h.quiet_right ((Only.refl _ _).alloc o).drew

set_option maxRecDepth 100000 in
set_option maxHeartbeats 4000000 in
theorem user_do {A C : St} {t bu : Nat} {c : CallM} {r : ResM} (hd : Done t c A r C) (w : World) (L : Lay) (h : Rep w L A) (hu : UserAt w bu L t) :
    Calls Tryz.prog 16 #[.pointer (some ⟨bu, 0, none⟩), callV c] w fun e w' => ∃ L', e = .returned (.tuple #[.int .u64 r.addr, .int .i64 r.err]) ∧ Run w L A w' L' C := by
  obtain ⟨o1, ho1⟩ : ∃ o, o = Obj.cells #[.int .i64 c.kind, .int .u64 c.addr, .int .u64 c.n, .int .u64 c.align, .bool c.zero, .bool c.force] 50 := ⟨_, rfl⟩
  have hoo := (Only.refl Nobody w).alloc o1
  have HDO : Hid (∀ w1, Only Nobody w w1 → Calls Tryz.prog 28 #[.pointer (some ⟨L.bw, 0, none⟩), .int .i64 t, callV c] w1 fun e w' => ∃ L', e = .returned (.tuple #[resMV r, .int .i64 0]) ∧ Run w L A w' L' C) := Lib.hid fun w1 ho => by
    refine (hd w1 L (h.quiet ho)).mono ?_
    rintro e w' ⟨L', rfl, hr⟩
    exact ⟨L', rfl, hr.quiet_left ho h⟩
  have hb1 : Blk (w.alloc o1) w.heap.size 50 #[.int .i64 c.kind, .int .u64 c.addr, .int .u64 c.n, .int .u64 c.align, .bool c.zero, .bool c.force] := by
    rw [ho1]; exact (Blk.new w 50 _)
  have HDO2 : Hid (Calls Tryz.prog 28 #[.pointer (some ⟨L.bw, 0, none⟩), .int .i64 t, callV c] ((w.alloc o1).alloc (.cells #[.int .u64 0, .int .i64 0, .int .i64 0] 74)).drew fun e w' => ∃ L', e = .returned (.tuple #[resMV r, .int .i64 0]) ∧ Run w L A w' L' C ∧ Blk w' (w.heap.size + 1) 74 #[.int .u64 0, .int .i64 0, .int .i64 0] ∧ ∀ i, ¬ Foot L' C i (w.heap.size + 1)) := Lib.hid (by
    have ho2 := (hoo.alloc (.cells #[.int .u64 0, .int .i64 0, .int .i64 0] 74)).drew
    refine (hd _ L (h.quiet ho2)).mono ?_
    rintro e w' ⟨L', rfl, hr⟩
    have hb2 : Blk ((w.alloc o1).alloc (.cells #[.int .u64 0, .int .i64 0, .int .i64 0] 74)).drew (w.heap.size + 1) 74 #[.int .u64 0, .int .i64 0, .int .i64 0] := by
      have := (Blk.new (w.alloc o1) 74 #[.int .u64 0, .int .i64 0, .int .i64 0]).drew
      rwa [World.size_alloc] at this
    have hk := hr.keep hb2 (fun i hi => by have := h.lt hi; omega)
    exact ⟨L', rfl, hr.quiet_left ho2 h, hk.1, hk.2⟩)
  have k0 := hb1.cell 0
  have k1 := hb1.cell 1
  have k2 := hb1.cell 2
  have k3 := hb1.cell 3
  have k4 := hb1.cell 4
  have k5 := hb1.cell 5
  have u0 : (w.alloc o1).cell? ⟨bu, 0, none⟩ = some _ := (hu.alloc o1).cell 0
  have u1 : (w.alloc o1).cell? ⟨bu, 1, none⟩ = some _ := (hu.alloc o1).cell 1
  have hlt : bu < w.heap.size := hu.lt
  have hb3 := hb1.alloc (.cells #[.int .u64 0, .int .i64 0, .int .i64 0] 74)
  have l0 := hb3.cell 0
  have l1 := hb3.cell 1
  have l2 := hb3.cell 2
  have l3 := hb3.cell 3
  have l4 := hb3.cell 4
  have l5 := hb3.cell 5
  have v0 : ((w.alloc o1).alloc (.cells #[.int .u64 0, .int .i64 0, .int .i64 0] 74)).cell? ⟨bu, 0, none⟩ = some _ := ((hu.alloc o1).alloc _).cell 0
  have v1 : ((w.alloc o1).alloc (.cells #[.int .u64 0, .int .i64 0, .int .i64 0] 74)).cell? ⟨bu, 1, none⟩ = some _ := ((hu.alloc o1).alloc _).cell 1
  have HHO := Lib.hid hoo
  obtain ⟨ra, re, rs⟩ := r
  obtain ⟨ck, ca, cn, cal, cz, cf⟩ := c
  dsimp only at *
  generalize L.bw = bw at *
  clear h hd hu hb1 hb3 hoo
  go_enter Tryz.func16, Tryz.ntmps16
  subst ho1
  go_wp2
  go_region_law (go_simp; go_at_call 28; first | (refine (HDO.out _ HHO.out.drew).mono ?_; rintro e w3 ⟨L3, rfl, hr3⟩; have HR3 := Lib.hid hr3; clear hr3) | (refine HDO2.out.mono ?_; rintro e w3 ⟨L3, rfl, hr3, hb3, hn3⟩; have HR3 := Lib.hid hr3; have HB3 := Lib.hid hb3; have HN3 := Lib.hid hn3; have p0 := hb3.cell 0; have p1 := hb3.cell 1; have p2 := hb3.cell 2; have q0 := hb3.frozen 0; have q1 := hb3.frozen 1; have q2 := hb3.frozen 2; clear hr3 hb3 hn3))
  all_goals
    try clear k0
    try clear k1
    try clear k2 k3 k4 k5 l0 l1 l2 l3 l4 l5 u0 u1 v0 v1
    go_wp2
    go_region
    all_goals go_wp2
  all_goals
    go_ret2
    refine ⟨L3, rfl, ?_⟩
    first
    | (have hn := HN3.out; exact HR3.out.set3 (Nat.le_succ _) hn _ _ _)
    | exact HR3.out.alloc1 _
end Go.Proofs.YtfplalgoopkmaaaGreat

namespace Go.Proofs.YtfplalgoopkmaaaGreat

theorem ld8_congr {f g : Nat → Nat} {a : Nat} (h : ∀ i, a ≤ i → i < a + 8 → f i = g i) : ld8 f a = ld8 g a := by
  unfold ld8
  rw [h a (by omega) (by omega), h (a + 1) (by omega) (by omega), h (a + 2) (by omega) (by omega), h (a + 3) (by omega) (by omega), h (a + 4) (by omega) (by omega), h (a + 5) (by omega) (by omega), h (a + 6) (by omega) (by omega), h (a + 7) (by omega) (by omega)]
theorem Linked.congr {f g : Nat → Nat} {l : List Nat} (h : Linked f l) (hs : ∀ a, a ∈ l → ∀ i, a ≤ i → i < a + 8 → g i = f i) : Linked g l := by
  induction l with
  | nil => trivial
  | cons a l ih =>
    exact ⟨(ld8_congr (hs a (by simp))).trans h.1, ih h.2 fun b hb => hs b (by simp [hb])⟩
set_option maxRecDepth 100000 in
/-- Memory that is another one without a page's slices. -/
theorem PgGood.far {n k : Nat} {f g : Nat → Nat} {p : Pg} (h : PgGood n f k p) (hs : ∀ i, k * 1024 ≤ i → i < (k + p.sl) * 1024 → g i = f i) : PgGood n g k p := by
  have hf := h.shape.facts
  have key : ∀ a, a ∈ p.free ∨ a ∈ p.loc ∨ a ∈ p.post → ∀ i, a ≤ i → i < a + 8 → g i = f i := fun a ha i h1 h2 => by
    obtain ⟨j, hj, rfl⟩ := h.mem a ha
    have hm : (j + 1) * p.size ≤ p.n * p.size := Nat.mul_le_mul_right _ (by have := h.made; omega)
    rw [Nat.add_mul] at hm
    refine hs i (by omega) ?_
    rw [Nat.add_mul]
    omega
  exact ⟨h.n64, h.k1, h.k2, h.kn, h.shape, h.made, h.lf.congr fun a ha => key a (.inl ha), h.ll.congr fun a ha => key a (.inr (.inl ha)), h.lp.congr fun a ha => key a (.inr (.inr ha)), h.mem, h.nd, h.used, h.pu, h.pt, h.pa⟩

/-- Blocks of a page: which is which. -/
theorem block_inj {fr sz i j : Nat} (hs : 1 ≤ sz) (h : fr + i * sz = fr + j * sz) : i = j := by
  have : i * sz = j * sz := by omega
  exact Nat.eq_of_mul_eq_mul_right (by omega) this
theorem blocksFrom_nodup {fr sz : Nat} (hs : 1 ≤ sz) (i k : Nat) : (blocksFrom fr sz i k).Nodup := by
  induction k generalizing i with
  | zero => exact List.nodup_nil
  | succ k ih =>
    refine List.nodup_cons.2 ⟨fun h => ?_, ih (i + 1)⟩
    obtain ⟨j, h1, _, h3⟩ := (mem_blocksFrom _ _ _ _ _).1 h
    have := block_inj hs h3
    omega

theorem Linked.tail {f : Nat → Nat} {a : Nat} {l : List Nat} (h : Linked f (a :: l)) : Linked f l := h.2

theorem pushN_out (fr sz made i : Nat) (x : (Nat → Nat) × Nat) (b : Nat) (hs : 8 ≤ sz) (h : b < fr + made * sz ∨ fr + (made + i) * sz ≤ b) : (pushN fr sz made i x).1 b = x.1 b := by
  induction i generalizing x with
  | zero => rfl
  | succ i ih =>
    show (pushN fr sz made i _).1 b = _
    have hm : (made + (i + 1)) * sz = (made + i) * sz + sz := by rw [← Nat.add_assoc, Nat.add_mul]; omega
    have hm2 : made * sz ≤ (made + i) * sz := Nat.mul_le_mul_right _ (by omega)
    rw [ih _ (by omega)]
    show stN x.1 _ _ 8 b = _
    unfold stN
    rw [if_neg (by omega)]
set_option maxRecDepth 100000 in
/-- A page's memory behind a block given out. -/
theorem pgAlloc_far {n k a : Nat} {f f' : Nat → Nat} {p p' : Pg} (h : PgGood n f k p) (he : pgAlloc f k p = (some a, p', f')) (i : Nat) (hi : i < k * 1024 ∨ (k + p.sl) * 1024 ≤ i) : f' i = f i := by
  have hf := h.shape.facts
  unfold pgAlloc at he
  split at he
  · simp at he; rw [← he.2.2]
  · split at he
    · simp at he; rw [← he.2.2]
    · split at he
      · simp at he
        rw [← he.2.2]
        have hm : (p.made + min 4 (p.n - p.made)) * p.size ≤ p.n * p.size := Nat.mul_le_mul_right _ (by have := h.made; omega)
        rw [Nat.add_mul] at hi
        exact pushN_out _ _ _ _ _ _ (by omega) (by omega)
      · simp at he

set_option maxRecDepth 100000 in
theorem PgGood.alloc {n k a : Nat} {f f' : Nat → Nat} {p p' : Pg} (h : PgGood n f k p) (he : pgAlloc f k p = (some a, p', f')) :
    PgGood n f' k p' ∧ p'.cls = p.cls ∧ p'.sl = p.sl ∧ p'.size = p.size ∧ p'.n = p.n ∧ p'.used = p.used + 1 ∧ (∃ i, i < p'.made ∧ a = k * 1024 + i * p.size) ∧ a ∉ p'.free ∧ a ∉ p'.loc ∧ a ∉ p'.post := by
  have hf := h.shape.facts
  unfold pgAlloc at he
  split at he
  · rename_i b r hfr
    obtain ⟨rfl, rfl, rfl⟩ : b = a ∧ _ = p' ∧ f = f' := by simpa using he
    have hnd := h.nd
    rw [hfr] at hnd
    have hnd2 : (b :: (r ++ p.loc ++ p.post)).Nodup := by simpa using hnd
    obtain ⟨hb, hnd3⟩ := List.nodup_cons.1 hnd2
    have hlf := h.lf
    rw [hfr] at hlf
    have hu := h.used
    rw [hfr] at hu
    simp only [List.length_cons] at hu
    refine ⟨⟨h.n64, h.k1, h.k2, h.kn, h.shape, h.made, hlf.2, h.ll, h.lp, fun x hx => h.mem x ?_, hnd3, ?_, ?_, h.pt, h.pa⟩, rfl, rfl, rfl, rfl, rfl, h.mem b (.inl (by rw [hfr]; simp)), ?_, ?_, ?_⟩
    · rcases hx with hx | hx
      · exact .inl (by rw [hfr]; exact List.mem_cons_of_mem _ hx)
      · exact .inr hx
    · show p.used + 1 + r.length + p.loc.length = p.made; omega
    · show p.post.length ≤ p.used + 1; have := h.pu; omega
    · exact fun hx => hb (by simp [hx])
    · exact fun hx => hb (by simp [hx])
    · exact fun hx => hb (by simp [hx])
  · rename_i hfr
    split at he
    · rename_i b r hlo
      obtain ⟨rfl, rfl, rfl⟩ : b = a ∧ _ = p' ∧ f = f' := by simpa using he
      have hnd := h.nd
      rw [hfr, hlo] at hnd
      have hnd2 : (b :: (r ++ p.post)).Nodup := by simpa using hnd
      obtain ⟨hb, hnd3⟩ := List.nodup_cons.1 hnd2
      have hll := h.ll
      rw [hlo] at hll
      have hu := h.used
      rw [hfr, hlo] at hu
      simp only [List.length_cons, List.length_nil] at hu
      refine ⟨⟨h.n64, h.k1, h.k2, h.kn, h.shape, h.made, hll.2, trivial, h.lp, fun x hx => h.mem x ?_, by simpa using hnd3, ?_, ?_, h.pt, h.pa⟩, rfl, rfl, rfl, rfl, rfl, h.mem b (.inr (.inl (by rw [hlo]; simp))), ?_, ?_, ?_⟩
      · rcases hx with hx | hx | hx
        · exact .inr (.inl (by rw [hlo]; exact List.mem_cons_of_mem _ hx))
        · cases hx
        · exact .inr (.inr hx)
      · show p.used + 1 + r.length + 0 = p.made; omega
      · show p.post.length ≤ p.used + 1; have := h.pu; omega
      · exact fun hx => hb (by simp [hx])
      · exact List.not_mem_nil
      · exact fun hx => hb (by simp [hx])
    · rename_i hlo
      split at he
      · rename_i b r hbl
        obtain ⟨rfl, rfl, rfl⟩ : b = a ∧ _ = p' ∧ _ = f' := by simpa using he
        have hmade := h.made
        obtain ⟨m, hm⟩ : ∃ m, m = min 4 (p.n - p.made) := ⟨_, rfl⟩
        rw [← hm] at hbl ⊢
        have hm1 : 1 ≤ m := by
          rcases Nat.eq_zero_or_pos m with e | e
          · rw [e] at hbl; cases hbl
          · exact e
        have hrun := h.runOK
        have hfin := h.fin
        have h64 := h.n64
        have hmm : (p.made + m) * p.size ≤ p.n * p.size := Nat.mul_le_mul_right _ (by omega)
        have hl : Linked (pushN (k * 1024) p.size p.made m (f, 0)).1 (blocksFrom (k * 1024) p.size p.made m) :=
          linked_blocks _ _ _ _ _ (linked_pushN _ _ _ _ _ _ (by omega) (by omega) (by omega))
        have hnd := blocksFrom_nodup (fr := k * 1024) (sz := p.size) (by omega) p.made m
        have hmem := fun x => mem_blocksFrom (k * 1024) p.size p.made m x
        rw [hbl] at hl hnd hmem
        obtain ⟨hb, hnd3⟩ := List.nodup_cons.1 hnd
        have hlen := blocksFrom_length (k * 1024) p.size p.made m
        rw [hbl] at hlen
        simp only [List.length_cons] at hlen
        have hu := h.used
        rw [hfr, hlo] at hu
        simp only [List.length_nil] at hu
        have hndp := h.nd
        rw [hfr, hlo] at hndp
        have hsep : ∀ x, x ∈ p.post → x ∈ b :: r → False := fun x hx hy => by
          obtain ⟨i, hi, e⟩ := h.mem x (.inr (.inr hx))
          obtain ⟨j, h1, h2, e2⟩ := (hmem x).1 hy
          have := block_inj (by omega) (e.symm.trans e2)
          omega
        have hpf : ∀ x, x ∈ p.post → ∀ i, x ≤ i → i < x + 8 → (pushN (k * 1024) p.size p.made m (f, 0)).1 i = f i := fun x hx i h1 h2 => by
          obtain ⟨j, hj, e⟩ := h.mem x (.inr (.inr hx))
          have hjm : (j + 1) * p.size ≤ p.made * p.size := Nat.mul_le_mul_right _ (by omega)
          rw [Nat.add_mul] at hjm
          exact pushN_out _ _ _ _ _ _ (by omega) (.inl (by omega))
        refine ⟨⟨h.n64, h.k1, h.k2, h.kn, h.shape, by show p.made + m ≤ p.n; omega, hl.2, by show Linked _ p.loc; rw [hlo]; trivial, h.lp.congr hpf, fun x hx => ?_, ?_, ?_, ?_, h.pt, h.pa⟩, rfl, rfl, rfl, rfl, rfl, ?_, hb, by show b ∉ p.loc; rw [hlo]; exact List.not_mem_nil, fun hx => hsep b hx (by simp)⟩
        · rcases hx with hx | hx | hx
          · obtain ⟨j, h1, h2, e⟩ := (hmem x).1 (List.mem_cons_of_mem _ hx)
            exact ⟨j, h2, e⟩
          · rw [show ({ p with free := r, made := p.made + m, used := p.used + 1 } : Pg).loc = p.loc from rfl, hlo] at hx; cases hx
          · obtain ⟨j, h1, e⟩ := h.mem x (.inr (.inr hx))
            exact ⟨j, by show j < p.made + m; omega, e⟩
        · show (r ++ p.loc ++ p.post).Nodup
          rw [hlo, List.append_nil]
          rw [List.nodup_append]
          refine ⟨hnd3, by simpa using hndp, fun x hx y hy e => ?_⟩
          subst e
          exact hsep x hy (List.mem_cons_of_mem _ hx)
        · show p.used + 1 + r.length + p.loc.length = p.made + m
          rw [hlo]; simp only [List.length_nil]; omega
        · show p.post.length ≤ p.used + 1; have := h.pu; omega
        · obtain ⟨j, h1, h2, e⟩ := (hmem b).1 (by simp)
          exact ⟨j, h2, e⟩
      · simp at he
end Go.Proofs.YtfplalgoopkmaaaGreat
