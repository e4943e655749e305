/- A step of a call, over the whole state. Conditions: none. -/
import Derived.Test.YtfplalgoopkmaaaGreatPart28
import Derived.Test.YtfplalgoopkmaaaGreatPart34

set_option linter.unusedVariables false
set_option linter.unusedSimpArgs false

namespace Go.Proofs.YtfplalgoopkmaaaGreat
open Go.RowKit

/-- Segments that the system knows then. -/
def Sy.know (y : Sy) (l : List Nat) : Sy := { y with kn := fun p => decide (p ∈ l) || y.kn p }
def St.know (A : St) (t : Nat) : St := { A with sy := A.sy.know (A.heap t).segs }
def Fr.tick (F : Fr) : Fr := { F with r := { F.r with steps := F.r.steps + 1 } }

theorem Sy.know_snoc (y : Sy) (l : List Nat) (p : Nat) : (y.know l).know [p] = y.know (l ++ [p]) := by
  unfold Sy.know
  congr 1
  funext q
  simp [List.mem_append]
  by_cases h1 : q = p <;> by_cases h2 : q ∈ l <;> simp [h1, h2]
theorem SysC.setKn {cs : Array Value} {L : Lay} {y : Sy} (h : SysC cs L y) (p : Nat) (hp : p < 64) : SysC (cs.setIfInBounds (142 + p) (ptrV (L.sg p))) L (y.know [p]) :=
  ⟨by simp [h.size], set_ne h.h0 (by omega), set_ne h.h1 (by omega), set_ne h.h2 (by omega), set_ne h.h3 (by omega), set_ne h.h4 (by omega), fun j hj => set_ne (h.below j hj) (by omega), fun j hj => set_ne (h.inn j hj) (by omega), set_ne h.top (by omega), fun j hj => set_ne (h.hp j hj) (by omega), fun j hj => by
    by_cases e : j = p
    · subst e
      exact ⟨some (L.sg j), set_eq (by rw [h.size]; omega), fun _ => rfl⟩
    · obtain ⟨o, ho, hk⟩ := h.sg j hj
      refine ⟨o, set_ne ho (by omega), fun h2 => hk ?_⟩
      simpa [Sy.know, e] using h2, fun j hj => set_ne (h.hu j hj) (by omega)⟩
/-- The system's own words change. -/
theorem Ste.sys1 {w w' : World} {L : Lay} {A : St} {y : Sy} {cs : Array Value} (h : Rep w L A) (hcs : Blk w' L.bs 101 cs) (hc : SysC cs L y) (ho : Only (fun x => x = L.bs) w w') : Ste w L A w' L { A with sy := y } := by
  refine Ste.chg (fun j => j = .sys) h ho (fun x hx _ => ⟨.sys, rfl, hx⟩) (fun j hj hh => ?_) (fun j x _ hx => ?_) ?_ (fun j x hj hx => ?_) ?_ (Fix.refl _)
  · cases j with
    | sys => exact absurd rfl hj
    | _ => exact hh
  · cases j <;> exact hx
  · rintro j rfl
    exact ⟨cs, hcs, hc⟩
  · subst hj; exact .inl ⟨.sys, rfl, hx⟩
  · rintro j k x rfl rfl _ _; rfl

theorem segs_blk {w : World} {B : Nat} {l : List Nat} {v : Value} (hr : w.ownsRow B 98 1 v l.length (l.map ptrV)) :
    ∃ a cap, v = .slice a l.length cap ∧ (l ≠ [] → ∃ g cur, a = some ⟨g, 0, none⟩ ∧ B ≤ g ∧ Blk w g 98 cur ∧ ∀ j, j < l.length → cur[j]? = some (ptrV (l.getD j 0))) := by
  rcases hr.2 with ⟨hv, h0⟩ | ⟨g, cap, cur, hv, hB, hh, hcap, _, hs, hx⟩
  · exact ⟨none, 0, by rw [hv, h0], fun h => absurd (List.eq_nil_of_length_eq_zero h0) h⟩
  · refine ⟨_, cap, hv, fun _ => ⟨g, cur, rfl, hB, hh, fun j hj => ?_⟩⟩
    have h1 : (cur.toList.take (l.length * 1))[j]? = (l.map ptrV)[j]? := by rw [hx]
    rw [Nat.mul_one, List.getElem?_take, if_pos hj, List.getElem?_map, List.getElem?_eq_getElem hj] at h1
    rw [← Array.getElem?_toList, h1, List.getD_eq_getElem?_getD, List.getElem?_eq_getElem hj]
    rfl
theorem run_lookup (w : World) (b k : Nat) (s : ByteArray) (v : Value) (hb : w.heap[b]? = some (.map stepEs 20)) (hf : Instr.findNow .string (.string s) stepEs.toList 0 = some (some (k, v))) :
    (Instr.lookup 204 (.map (some b)) (.string s) false).run Tryz.prog w = .ok v w := by
  have h1 : (getObj b).run Tryz.prog w = .ok (.map stepEs 20) w := by simp only [getObj, Sem.run, hb]
  have hu : ∀ t d, Tryz.prog.underlying t = some d → (underlying t).run Tryz.prog w = .ok d w := fun t d h => by simp [underlying, Sem.run, h]
  have hck : (Instr.checkKey stepEs.isEmpty 10000 9 (.string s)).run Tryz.prog w = .ok () w := by
    unfold Instr.checkKey
    rw [Sem.run_bind, hu 9 _ Tryz.underlying9, Result.andThen_ok]
    rfl
  simp [Instr.lookup, hu 204 _ Tryz.underlying204, h1, hck, hu 9 _ Tryz.underlying9, Instr.findKey, hf]

set_option maxRecDepth 100000 in
set_option maxHeartbeats 4000000 in
theorem step_refuse {A A1 : St} {i : Bool} {t : Nat} {F F1 : Fr} (hF : A.fr i t = some F) (ht : t < 8) (hst : F.st = ⟨#[114, 101, 102, 117, 115, 101]⟩) (hsteps : F.r.steps < 1000000000000)
    (hH : SysCalls 113 (fun L => #[ptrV (L.fr i t)]) (A.setFr i t F.tick) (fun _ => .tuple #[]) A1) (hF1 : A1.fr i t = some F1) (hlive : ∀ p, p ∈ (A1.heap t).segs → p < 64 ∧ (A1.seg p).isSome) :
    SysCalls 76 (fun L => #[ptrV (L.fr i t)]) A (fun _ => .bool true) (A1.know t) := by
  intro w L h
  obtain ⟨s0, o0, hb0, hs0, ho0⟩ := (h.fr hF).blk
  have HDN : Hid (Calls Tryz.prog 77 #[.pointer (some ⟨L.fr i t, 0, none⟩)] w fun x w' => x = .returned (.bool false) ∧ w = w') := Lib.hid (by
    have := fr_Done (L.fr i t) _ w hb0
    rw [show (frM L t F (L.fl i t) (ownV s0) (ownV o0)).state = ⟨#[114, 101, 102, 117, 115, 101]⟩ from hst, show isDone ⟨#[114, 101, 102, 117, 115, 101]⟩ = false from by kernel_rfl] at this
    exact this)
  have c23 : w.cell? ⟨L.fr i t, 23, none⟩ = some (.int .i64 F.r.steps) := hb0.cell 23
  have f23 : w.frozen? ⟨L.fr i t, 23, none⟩ = false := hb0.frozen 23
  have hS0 : Ste w L A (w.setCell ⟨L.fr i t, 23, none⟩ (.int .i64 ((F.r.steps : Int) + 1))) L (A.setFr i t F.tick) :=
    Ste.fr1 (F' := F.tick) h hF rfl hs0 ho0 (hb0.set_ 23 (.int .i64 ((F.r.steps : Int) + 1))) (Only.setAt (S := fun x => x = L.fr i t) (Only.refl _ _) (show L.fr i t = L.fr i t from rfl) _ _)
  have HS0 := Lib.hid hS0
  have c16 : (w.setCell ⟨L.fr i t, 23, none⟩ (.int .i64 ((F.r.steps : Int) + 1))).cell? ⟨L.fr i t, 16, none⟩ = some (.string ⟨#[114, 101, 102, 117, 115, 101]⟩) := by
    have := (hS0.rep.frc (F := F.tick) (updF_same _ _ _ _)).c16
    rw [this]; show some (Value.string F.st) = _; rw [hst]
  have HHD : Hid (∀ w1, Rep w1 L (A.setFr i t F.tick) → Calls Tryz.prog 113 #[.pointer (some ⟨L.fr i t, 0, none⟩)] w1 fun e w' => ∃ L', e = .returned (.tuple #[]) ∧ Ste w1 L (A.setFr i t F.tick) w' L' A1) := Lib.hid fun w1 h1 => hH w1 L h1
  have HC1 : Hid (∀ w1 L1 A', Rep w1 L1 A' → A'.fr = A1.fr → L1.fr i t = L.fr i t → L1.hp t = L.hp t → L1.bs = L.bs → w1.cell? ⟨L.fr i t, 0, none⟩ = some (.pointer (some ⟨L.bs, 0, none⟩)) ∧ w1.cell? ⟨L.fr i t, 5, none⟩ = some (.pointer (some ⟨L.hp t, 0, none⟩))) := Lib.hid fun w1 L1 A' h1 ea e1 e2 e3 => by
    have := h1.frc (i := i) (t := t) (by rw [ea]; exact hF1)
    rw [e1, e2, e3] at this
    exact ⟨this.c0, this.c5⟩
  have HSG : Hid (∀ w1 L1, Rep w1 L1 A1 → L1.hp t = L.hp t → Calls Tryz.prog 96 #[.pointer (some ⟨L.hp t, 0, none⟩)] w1 fun e w' => ∃ v', e = .returned v' ∧ w'.ownsRow w1.heap.size 98 1 v' ((A1.heap t).segs.map L1.sg).length (((A1.heap t).segs.map L1.sg).map ptrV) ∧ Only Nobody w1 w') := Lib.hid fun w1 L1 h1 e1 => by
    rw [← e1]; exact heap_Segs _ _ _ _ w1 (h1.hap t ht)
  have HLIVE := Lib.hid hlive
  have HST := Lib.hid hst
  have HREP := Lib.hid h
  have HF1 := Lib.hid hF1
  show Calls _ _ #[.pointer (some ⟨L.fr i t, 0, none⟩)] w _
  obtain ⟨bf, hbf⟩ : ∃ x, x = L.fr i t := ⟨_, rfl⟩
  obtain ⟨bs, hbs⟩ : ∃ x, x = L.bs := ⟨_, rfl⟩
  obtain ⟨bh, hbh⟩ : ∃ x, x = L.hp t := ⟨_, rfl⟩
  have HBF := Lib.hid hbf
  have HBS := Lib.hid hbs
  have HBH := Lib.hid hbh
  rw [← hbf] at HDN c23 f23 HS0 c16 HHD HC1 ⊢
  rw [← hbs] at HC1
  rw [← hbh] at HC1 HSG
  generalize F.r.steps = stp at *
  clear h hF hst hH hF1 hlive hb0 hs0 ho0 hS0 hbf hbs hbh
  go_enter Tryz.func76, Tryz.ntmps76
  go_wp2_with (first | (go_at_call 77; refine HDN.out.mono ?_; rintro e w1 ⟨rfl, rfl⟩))
  generalize hw0 : w.setCell ⟨bf, 23, none⟩ (.int .i64 ((stp : Int) + 1)) = w0 at *
  clear hw0 c23 f23
  have HC16 : Hid (∀ wx, Only Nobody w0 wx → wx.cell? ⟨bf, 16, none⟩ = some (.string ⟨#[114, 101, 102, 117, 115, 101]⟩)) := Lib.hid fun wx ho => by
    obtain ⟨s0, o0, hb0, _⟩ := ((HS0.out.rep.quiet ho).fr (F := F.tick) (updF_same _ _ _ _)).blk
    rw [← HBF.out] at hb0
    exact (hb0.cell 16).trans (by show some (Value.string F.st) = _; rw [HST.out])
  have HSTP : Hid (∀ wa, Only Nobody w0 wa → Calls Tryz.prog 99 #[] wa fun e wx => ∃ mb, e = .returned (.map (some mb)) ∧ wx.cell? ⟨bf, 16, none⟩ = some (.string ⟨#[114, 101, 102, 117, 115, 101]⟩) ∧ (Instr.lookup 204 (.map (some mb)) (.string ⟨#[114, 101, 102, 117, 115, 101]⟩) false).run Tryz.prog wx = .ok (.func (.func 113) #[] #[]) wx ∧ Only Nobody w0 wx) := Lib.hid fun wa ho => by
    refine (call_steps wa).mono ?_
    rintro e wx ⟨rfl, rfl⟩
    exact ⟨_, rfl, HC16.out _ (ho.alloc _), run_lookup _ _ 0 _ _ (heap_alloc_new wa _) (by kernel_rfl), ho.alloc _⟩
  go_region_with (first | (go_at_call 99; refine (HSTP.out _ ((Only.refl _ w0).drew)).mono ?_; rintro e wx ⟨mb, rfl, c16a, hlk, hox⟩; have HOX := Lib.hid hox; clear hox) | (go_at_call 113; refine (HHD.out _ (HS0.out.rep.quiet HOX.out)).mono ?_; rintro e w2 ⟨L2, rfl, hst2⟩; have HS2 := Lib.hid ((HS0.out.quiet_right HOX.out).trans hst2); clear hst2))
  all_goals
    have HE2 := Lib.hid (And.intro ((congrFun (congrFun HS2.out.fix.fr i) t).trans HBF.out.symm) (And.intro ((congrFun HS2.out.fix.hp t).trans HBH.out.symm) (HS2.out.fix.bs.trans HBS.out.symm)))
    have HX2 := Lib.hid (HC1.out _ _ _ HS2.out.rep rfl HE2.out.1 HE2.out.2.1 HE2.out.2.2)
    have d5 := HX2.out.2
    have HSG2 := Lib.hid (HSG.out _ _ HS2.out.rep HE2.out.2.1)
    obtain ⟨n, hnn⟩ : ∃ n, n = (A1.heap t).segs.length := ⟨_, rfl⟩
    have hn64 : n ≤ 64 := by have := (HS2.out.rep.hap t ht).few; rw [hnn]; simpa using this
    have HN := Lib.hid hnn
    clear hnn
    clear c16 c16a hlk
    go_wp2_with (first | (go_at_call 96; refine HSG2.out.mono ?_; rintro e w3 ⟨v', rfl, hr, ho⟩; obtain ⟨sa, scap, hv, hcur⟩ := segs_blk hr; rw [List.length_map, ← HN.out] at hv; subst hv; have HO3 := Lib.hid ho; have HCUR := Lib.hid hcur; clear hr ho hcur d5))
    go_loopw [4, 30] (fun _ i wr => ∃ j : Nat, j ≤ n ∧ i = .int .i64 j ∧ Ste w L A wr L2 { A1 with sy := A1.sy.know ((A1.heap t).segs.take j) } ∧ Only (fun x => x = bs) w3 wr) (fun _ i _ => n - (intOf i).toNat)
    case atStart => exact ⟨0, by omega, rfl, by have := HS2.out.quiet_right HO3.out; have e : A1.sy.know ((A1.heap t).segs.take 0) = A1.sy := by unfold Sy.know; simp
                                                rw [e]; exact this, Only.refl _ _⟩
    case round =>
      obtain ⟨j, hj, rfl, hst3, ho⟩ := hrel
      have HST3 := Lib.hid hst3
      have HOW := Lib.hid ho
      have HX3 := Lib.hid (HC1.out _ _ _ hst3.rep rfl HE2.out.1 HE2.out.2.1 HE2.out.2.2)
      obtain ⟨e0, e5⟩ := HX3.out
      by_cases hlt : j < n
      · have hjl : j < (A1.heap t).segs.length := by rw [← HN.out]; exact hlt
        obtain ⟨p, hpj⟩ : ∃ p, p = (A1.heap t).segs.getD j 0 := ⟨_, rfl⟩
        have hpm : p ∈ (A1.heap t).segs := by rw [hpj, List.getD_eq_getElem?_getD, List.getElem?_eq_getElem hjl]; exact List.getElem_mem hjl
        obtain ⟨hp64, hps⟩ := HLIVE.out p hpm
        obtain ⟨sgm, hsgm⟩ := Option.isSome_iff_exists.1 hps
        have hne : (A1.heap t).segs.map L2.sg ≠ [] := by intro e; rw [List.map_eq_nil_iff] at e; rw [e] at hjl; simp at hjl
        obtain ⟨g, cur, hsa, hg1, hblk, hcur⟩ := HCUR.out hne
        subst hsa
        have hgb : g ≠ bs := by
          obtain ⟨cs, hcs, _⟩ := (HS2.out.rep.quiet HO3.out).sysblk
          rw [HE2.out.2.2] at hcs
          exact hblk.ne_ hcs (by decide)
        have cj : wr.cell? ⟨g, j, none⟩ = some (.pointer (some ⟨L2.sg p, 0, none⟩)) := by
          refine ((hblk.only ho hgb).cell j).trans ((hcur j (by simpa using hjl)).trans ?_)
          rw [hpj]
          simp [List.getD_eq_getElem?_getD, List.getElem?_eq_getElem hjl]
        have HPL : Hid (∀ wx, Rep wx L2 { A1 with sy := A1.sy.know ((A1.heap t).segs.take j) } → Calls Tryz.prog 100 #[.pointer (some ⟨L2.sg p, 0, none⟩)] wx fun e w' => e = .returned (.int .i64 p) ∧ wx = w') := Lib.hid fun wx hx => seg_Place _ _ _ wx (hx.all (.seg p) sgm hsgm)
        obtain ⟨cs, hcs, hc⟩ := hst3.rep.sysblk
        rw [HE2.out.2.2] at hcs
        obtain ⟨o1, ho1, _⟩ := hc.sg p hp64
        have f1 := hcs.frozen (142 + p)
        have q1 : wr.cell? ⟨bs, 142 + p, none⟩ = some (ownV o1) := (hcs.cell _).trans ho1
        have hp2 : (p : Int) < 64 := by omega
        have hp3 : (0 : Int) ≤ p := by omega
        have HNX : Hid (Ste w L A (wr.drew.setCell ⟨bs, 142 + p, none⟩ (.pointer (some ⟨L2.sg p, 0, none⟩))) L2 { A1 with sy := A1.sy.know ((A1.heap t).segs.take (j + 1)) }) := Lib.hid (by
          have h1 := hst3.quiet_right ((Only.refl Nobody wr).drew)
          have h2 := Ste.sys1 h1.rep (by rw [HE2.out.2.2]; exact hcs.drew.set_ (142 + p) (ptrV (L2.sg p))) (hc.setKn p hp64) (by rw [HE2.out.2.2]; exact Only.setAt (S := fun x => x = bs) (Only.refl _ _) (show bs = bs from rfl) _ _)
          have e : (A1.heap t).segs.take (j + 1) = (A1.heap t).segs.take j ++ [p] := by
            rw [List.take_succ_eq_append_getElem hjl, hpj, List.getD_eq_getElem?_getD, List.getElem?_eq_getElem hjl]; rfl
          rw [e, ← Sy.know_snoc]
          exact h1.trans h2)
        have HFZ : Hid ((wr.drew.setCell ⟨bs, 142 + p, none⟩ (.pointer (some ⟨L2.sg p, 0, none⟩))).frozen? ⟨bs, 142 + p, none⟩ = false) := Lib.hid ((hcs.drew.set_ (142 + p) (ptrV (L2.sg p))).frozen _)
        have HONX := Lib.hid (Only.setAt (S := fun x => x = bs) (ho.drew) (show bs = bs from rfl) (142 + p) (.pointer (some ⟨L2.sg p, 0, none⟩)))
        generalize hbsg : L2.sg p = bsg at *
        clear hst3 ho hpj hpm hps hsgm hne hblk hcur hcs hc ho1 hgb hg1 hbsg hjl e5
        go_wp2
        go_region_held3 (fun w' => w'.cell? ⟨bf, 0, none⟩ = some (.pointer (some ⟨bs, 0, none⟩)) ∧ w'.frozen? ⟨bs, 142 + p, none⟩ = false) (first | exact ⟨e0, f1⟩ | exact ⟨(HC1.out _ _ _ HNX.out.rep rfl HE2.out.1 HE2.out.2.1 HE2.out.2.2).1, HFZ.out⟩) (first | (go_at_call 100; refine (HPL.out _ (HST3.out.rep.quiet ((Only.refl _ _).drew))).mono ?_; rintro e w4 ⟨rfl, rfl⟩))
        go_wp2
        exact ⟨⟨j + 1, by omega, by go_num, HNX.out, HONX.out⟩, by show n - (intOf (Value.int IntKind.i64 ((j : Int) + 1))).toNat < n - (intOf (Value.int IntKind.i64 (j : Int))).toNat; simp [intOf]; omega⟩
      · obtain rfl : j = n := by omega
        have HFIN : Hid (Ste w L A wr L2 (A1.know t)) := Lib.hid (by
          rw [HN.out, List.take_length] at hst3; exact hst3)
        clear hst3 ho e0 e5
        go_wp2
        go_ret
        exact ⟨L2, rfl, HFIN.out⟩

set_option maxRecDepth 100000 in
set_option maxHeartbeats 4000000 in
theorem step_huge {A A1 : St} {i : Bool} {t : Nat} {F F1 : Fr} (hF : A.fr i t = some F) (ht : t < 8) (hst : F.st = ⟨#[104, 117, 103, 101]⟩) (hsteps : F.r.steps < 1000000000000)
    (hH : SysCalls 115 (fun L => #[ptrV (L.fr i t)]) (A.setFr i t F.tick) (fun _ => .tuple #[]) A1) (hF1 : A1.fr i t = some F1) (hlive : ∀ p, p ∈ (A1.heap t).segs → p < 64 ∧ (A1.seg p).isSome) :
    SysCalls 76 (fun L => #[ptrV (L.fr i t)]) A (fun _ => .bool true) (A1.know t) := by
  intro w L h
  obtain ⟨s0, o0, hb0, hs0, ho0⟩ := (h.fr hF).blk
  have HDN : Hid (Calls Tryz.prog 77 #[.pointer (some ⟨L.fr i t, 0, none⟩)] w fun x w' => x = .returned (.bool false) ∧ w = w') := Lib.hid (by
    have := fr_Done (L.fr i t) _ w hb0
    rw [show (frM L t F (L.fl i t) (ownV s0) (ownV o0)).state = ⟨#[104, 117, 103, 101]⟩ from hst, show isDone ⟨#[104, 117, 103, 101]⟩ = false from by kernel_rfl] at this
    exact this)
  have c23 : w.cell? ⟨L.fr i t, 23, none⟩ = some (.int .i64 F.r.steps) := hb0.cell 23
  have f23 : w.frozen? ⟨L.fr i t, 23, none⟩ = false := hb0.frozen 23
  have hS0 : Ste w L A (w.setCell ⟨L.fr i t, 23, none⟩ (.int .i64 ((F.r.steps : Int) + 1))) L (A.setFr i t F.tick) :=
    Ste.fr1 (F' := F.tick) h hF rfl hs0 ho0 (hb0.set_ 23 (.int .i64 ((F.r.steps : Int) + 1))) (Only.setAt (S := fun x => x = L.fr i t) (Only.refl _ _) (show L.fr i t = L.fr i t from rfl) _ _)
  have HS0 := Lib.hid hS0
  have c16 : (w.setCell ⟨L.fr i t, 23, none⟩ (.int .i64 ((F.r.steps : Int) + 1))).cell? ⟨L.fr i t, 16, none⟩ = some (.string ⟨#[104, 117, 103, 101]⟩) := by
    have := (hS0.rep.frc (F := F.tick) (updF_same _ _ _ _)).c16
    rw [this]; show some (Value.string F.st) = _; rw [hst]
  have HHD : Hid (∀ w1, Rep w1 L (A.setFr i t F.tick) → Calls Tryz.prog 115 #[.pointer (some ⟨L.fr i t, 0, none⟩)] w1 fun e w' => ∃ L', e = .returned (.tuple #[]) ∧ Ste w1 L (A.setFr i t F.tick) w' L' A1) := Lib.hid fun w1 h1 => hH w1 L h1
  have HC1 : Hid (∀ w1 L1 A', Rep w1 L1 A' → A'.fr = A1.fr → L1.fr i t = L.fr i t → L1.hp t = L.hp t → L1.bs = L.bs → w1.cell? ⟨L.fr i t, 0, none⟩ = some (.pointer (some ⟨L.bs, 0, none⟩)) ∧ w1.cell? ⟨L.fr i t, 5, none⟩ = some (.pointer (some ⟨L.hp t, 0, none⟩))) := Lib.hid fun w1 L1 A' h1 ea e1 e2 e3 => by
    have := h1.frc (i := i) (t := t) (by rw [ea]; exact hF1)
    rw [e1, e2, e3] at this
    exact ⟨this.c0, this.c5⟩
  have HSG : Hid (∀ w1 L1, Rep w1 L1 A1 → L1.hp t = L.hp t → Calls Tryz.prog 96 #[.pointer (some ⟨L.hp t, 0, none⟩)] w1 fun e w' => ∃ v', e = .returned v' ∧ w'.ownsRow w1.heap.size 98 1 v' ((A1.heap t).segs.map L1.sg).length (((A1.heap t).segs.map L1.sg).map ptrV) ∧ Only Nobody w1 w') := Lib.hid fun w1 L1 h1 e1 => by
    rw [← e1]; exact heap_Segs _ _ _ _ w1 (h1.hap t ht)
  have HLIVE := Lib.hid hlive
  have HST := Lib.hid hst
  have HREP := Lib.hid h
  have HF1 := Lib.hid hF1
  show Calls _ _ #[.pointer (some ⟨L.fr i t, 0, none⟩)] w _
  obtain ⟨bf, hbf⟩ : ∃ x, x = L.fr i t := ⟨_, rfl⟩
  obtain ⟨bs, hbs⟩ : ∃ x, x = L.bs := ⟨_, rfl⟩
  obtain ⟨bh, hbh⟩ : ∃ x, x = L.hp t := ⟨_, rfl⟩
  have HBF := Lib.hid hbf
  have HBS := Lib.hid hbs
  have HBH := Lib.hid hbh
  rw [← hbf] at HDN c23 f23 HS0 c16 HHD HC1 ⊢
  rw [← hbs] at HC1
  rw [← hbh] at HC1 HSG
  generalize F.r.steps = stp at *
  clear h hF hst hH hF1 hlive hb0 hs0 ho0 hS0 hbf hbs hbh
  go_enter Tryz.func76, Tryz.ntmps76
  go_wp2_with (first | (go_at_call 77; refine HDN.out.mono ?_; rintro e w1 ⟨rfl, rfl⟩))
  generalize hw0 : w.setCell ⟨bf, 23, none⟩ (.int .i64 ((stp : Int) + 1)) = w0 at *
  clear hw0 c23 f23
  have HC16 : Hid (∀ wx, Only Nobody w0 wx → wx.cell? ⟨bf, 16, none⟩ = some (.string ⟨#[104, 117, 103, 101]⟩)) := Lib.hid fun wx ho => by
    obtain ⟨s0, o0, hb0, _⟩ := ((HS0.out.rep.quiet ho).fr (F := F.tick) (updF_same _ _ _ _)).blk
    rw [← HBF.out] at hb0
    exact (hb0.cell 16).trans (by show some (Value.string F.st) = _; rw [HST.out])
  have HSTP : Hid (∀ wa, Only Nobody w0 wa → Calls Tryz.prog 99 #[] wa fun e wx => ∃ mb, e = .returned (.map (some mb)) ∧ wx.cell? ⟨bf, 16, none⟩ = some (.string ⟨#[104, 117, 103, 101]⟩) ∧ (Instr.lookup 204 (.map (some mb)) (.string ⟨#[104, 117, 103, 101]⟩) false).run Tryz.prog wx = .ok (.func (.func 115) #[] #[]) wx ∧ Only Nobody w0 wx) := Lib.hid fun wa ho => by
    refine (call_steps wa).mono ?_
    rintro e wx ⟨rfl, rfl⟩
    exact ⟨_, rfl, HC16.out _ (ho.alloc _), run_lookup _ _ 2 _ _ (heap_alloc_new wa _) (by kernel_rfl), ho.alloc _⟩
  go_region_with (first | (go_at_call 99; refine (HSTP.out _ ((Only.refl _ w0).drew)).mono ?_; rintro e wx ⟨mb, rfl, c16a, hlk, hox⟩; have HOX := Lib.hid hox; clear hox) | (go_at_call 115; refine (HHD.out _ (HS0.out.rep.quiet HOX.out)).mono ?_; rintro e w2 ⟨L2, rfl, hst2⟩; have HS2 := Lib.hid ((HS0.out.quiet_right HOX.out).trans hst2); clear hst2))
  all_goals
    have HE2 := Lib.hid (And.intro ((congrFun (congrFun HS2.out.fix.fr i) t).trans HBF.out.symm) (And.intro ((congrFun HS2.out.fix.hp t).trans HBH.out.symm) (HS2.out.fix.bs.trans HBS.out.symm)))
    have HX2 := Lib.hid (HC1.out _ _ _ HS2.out.rep rfl HE2.out.1 HE2.out.2.1 HE2.out.2.2)
    have d5 := HX2.out.2
    have HSG2 := Lib.hid (HSG.out _ _ HS2.out.rep HE2.out.2.1)
    obtain ⟨n, hnn⟩ : ∃ n, n = (A1.heap t).segs.length := ⟨_, rfl⟩
    have hn64 : n ≤ 64 := by have := (HS2.out.rep.hap t ht).few; rw [hnn]; simpa using this
    have HN := Lib.hid hnn
    clear hnn
    clear c16 c16a hlk
    go_wp2_with (first | (go_at_call 96; refine HSG2.out.mono ?_; rintro e w3 ⟨v', rfl, hr, ho⟩; obtain ⟨sa, scap, hv, hcur⟩ := segs_blk hr; rw [List.length_map, ← HN.out] at hv; subst hv; have HO3 := Lib.hid ho; have HCUR := Lib.hid hcur; clear hr ho hcur d5))
    go_loopw [4, 30] (fun _ i wr => ∃ j : Nat, j ≤ n ∧ i = .int .i64 j ∧ Ste w L A wr L2 { A1 with sy := A1.sy.know ((A1.heap t).segs.take j) } ∧ Only (fun x => x = bs) w3 wr) (fun _ i _ => n - (intOf i).toNat)
    case atStart => exact ⟨0, by omega, rfl, by have := HS2.out.quiet_right HO3.out; have e : A1.sy.know ((A1.heap t).segs.take 0) = A1.sy := by unfold Sy.know; simp
                                                rw [e]; exact this, Only.refl _ _⟩
    case round =>
      obtain ⟨j, hj, rfl, hst3, ho⟩ := hrel
      have HST3 := Lib.hid hst3
      have HOW := Lib.hid ho
      have HX3 := Lib.hid (HC1.out _ _ _ hst3.rep rfl HE2.out.1 HE2.out.2.1 HE2.out.2.2)
      obtain ⟨e0, e5⟩ := HX3.out
      by_cases hlt : j < n
      · have hjl : j < (A1.heap t).segs.length := by rw [← HN.out]; exact hlt
        obtain ⟨p, hpj⟩ : ∃ p, p = (A1.heap t).segs.getD j 0 := ⟨_, rfl⟩
        have hpm : p ∈ (A1.heap t).segs := by rw [hpj, List.getD_eq_getElem?_getD, List.getElem?_eq_getElem hjl]; exact List.getElem_mem hjl
        obtain ⟨hp64, hps⟩ := HLIVE.out p hpm
        obtain ⟨sgm, hsgm⟩ := Option.isSome_iff_exists.1 hps
        have hne : (A1.heap t).segs.map L2.sg ≠ [] := by intro e; rw [List.map_eq_nil_iff] at e; rw [e] at hjl; simp at hjl
        obtain ⟨g, cur, hsa, hg1, hblk, hcur⟩ := HCUR.out hne
        subst hsa
        have hgb : g ≠ bs := by
          obtain ⟨cs, hcs, _⟩ := (HS2.out.rep.quiet HO3.out).sysblk
          rw [HE2.out.2.2] at hcs
          exact hblk.ne_ hcs (by decide)
        have cj : wr.cell? ⟨g, j, none⟩ = some (.pointer (some ⟨L2.sg p, 0, none⟩)) := by
          refine ((hblk.only ho hgb).cell j).trans ((hcur j (by simpa using hjl)).trans ?_)
          rw [hpj]
          simp [List.getD_eq_getElem?_getD, List.getElem?_eq_getElem hjl]
        have HPL : Hid (∀ wx, Rep wx L2 { A1 with sy := A1.sy.know ((A1.heap t).segs.take j) } → Calls Tryz.prog 100 #[.pointer (some ⟨L2.sg p, 0, none⟩)] wx fun e w' => e = .returned (.int .i64 p) ∧ wx = w') := Lib.hid fun wx hx => seg_Place _ _ _ wx (hx.all (.seg p) sgm hsgm)
        obtain ⟨cs, hcs, hc⟩ := hst3.rep.sysblk
        rw [HE2.out.2.2] at hcs
        obtain ⟨o1, ho1, _⟩ := hc.sg p hp64
        have f1 := hcs.frozen (142 + p)
        have q1 : wr.cell? ⟨bs, 142 + p, none⟩ = some (ownV o1) := (hcs.cell _).trans ho1
        have hp2 : (p : Int) < 64 := by omega
        have hp3 : (0 : Int) ≤ p := by omega
        have HNX : Hid (Ste w L A (wr.drew.setCell ⟨bs, 142 + p, none⟩ (.pointer (some ⟨L2.sg p, 0, none⟩))) L2 { A1 with sy := A1.sy.know ((A1.heap t).segs.take (j + 1)) }) := Lib.hid (by
          have h1 := hst3.quiet_right ((Only.refl Nobody wr).drew)
          have h2 := Ste.sys1 h1.rep (by rw [HE2.out.2.2]; exact hcs.drew.set_ (142 + p) (ptrV (L2.sg p))) (hc.setKn p hp64) (by rw [HE2.out.2.2]; exact Only.setAt (S := fun x => x = bs) (Only.refl _ _) (show bs = bs from rfl) _ _)
          have e : (A1.heap t).segs.take (j + 1) = (A1.heap t).segs.take j ++ [p] := by
            rw [List.take_succ_eq_append_getElem hjl, hpj, List.getD_eq_getElem?_getD, List.getElem?_eq_getElem hjl]; rfl
          rw [e, ← Sy.know_snoc]
          exact h1.trans h2)
        have HFZ : Hid ((wr.drew.setCell ⟨bs, 142 + p, none⟩ (.pointer (some ⟨L2.sg p, 0, none⟩))).frozen? ⟨bs, 142 + p, none⟩ = false) := Lib.hid ((hcs.drew.set_ (142 + p) (ptrV (L2.sg p))).frozen _)
        have HONX := Lib.hid (Only.setAt (S := fun x => x = bs) (ho.drew) (show bs = bs from rfl) (142 + p) (.pointer (some ⟨L2.sg p, 0, none⟩)))
        generalize hbsg : L2.sg p = bsg at *
        clear hst3 ho hpj hpm hps hsgm hne hblk hcur hcs hc ho1 hgb hg1 hbsg hjl e5
        go_wp2
        go_region_held3 (fun w' => w'.cell? ⟨bf, 0, none⟩ = some (.pointer (some ⟨bs, 0, none⟩)) ∧ w'.frozen? ⟨bs, 142 + p, none⟩ = false) (first | exact ⟨e0, f1⟩ | exact ⟨(HC1.out _ _ _ HNX.out.rep rfl HE2.out.1 HE2.out.2.1 HE2.out.2.2).1, HFZ.out⟩) (first | (go_at_call 100; refine (HPL.out _ (HST3.out.rep.quiet ((Only.refl _ _).drew))).mono ?_; rintro e w4 ⟨rfl, rfl⟩))
        go_wp2
        exact ⟨⟨j + 1, by omega, by go_num, HNX.out, HONX.out⟩, by show n - (intOf (Value.int IntKind.i64 ((j : Int) + 1))).toNat < n - (intOf (Value.int IntKind.i64 (j : Int))).toNat; simp [intOf]; omega⟩
      · obtain rfl : j = n := by omega
        have HFIN : Hid (Ste w L A wr L2 (A1.know t)) := Lib.hid (by
          rw [HN.out, List.take_length] at hst3; exact hst3)
        clear hst3 ho e0 e5
        go_wp2
        go_ret
        exact ⟨L2, rfl, HFIN.out⟩

set_option maxRecDepth 100000 in
set_option maxHeartbeats 4000000 in
theorem step_local {A A1 : St} {i : Bool} {t : Nat} {F F1 : Fr} (hF : A.fr i t = some F) (ht : t < 8) (hst : F.st = ⟨#[108, 111, 99, 97, 108]⟩) (hsteps : F.r.steps < 1000000000000)
    (hH : SysCalls 116 (fun L => #[ptrV (L.fr i t)]) (A.setFr i t F.tick) (fun _ => .tuple #[]) A1) (hF1 : A1.fr i t = some F1) (hlive : ∀ p, p ∈ (A1.heap t).segs → p < 64 ∧ (A1.seg p).isSome) :
    SysCalls 76 (fun L => #[ptrV (L.fr i t)]) A (fun _ => .bool true) (A1.know t) := by
  intro w L h
  obtain ⟨s0, o0, hb0, hs0, ho0⟩ := (h.fr hF).blk
  have HDN : Hid (Calls Tryz.prog 77 #[.pointer (some ⟨L.fr i t, 0, none⟩)] w fun x w' => x = .returned (.bool false) ∧ w = w') := Lib.hid (by
    have := fr_Done (L.fr i t) _ w hb0
    rw [show (frM L t F (L.fl i t) (ownV s0) (ownV o0)).state = ⟨#[108, 111, 99, 97, 108]⟩ from hst, show isDone ⟨#[108, 111, 99, 97, 108]⟩ = false from by kernel_rfl] at this
    exact this)
  have c23 : w.cell? ⟨L.fr i t, 23, none⟩ = some (.int .i64 F.r.steps) := hb0.cell 23
  have f23 : w.frozen? ⟨L.fr i t, 23, none⟩ = false := hb0.frozen 23
  have hS0 : Ste w L A (w.setCell ⟨L.fr i t, 23, none⟩ (.int .i64 ((F.r.steps : Int) + 1))) L (A.setFr i t F.tick) :=
    Ste.fr1 (F' := F.tick) h hF rfl hs0 ho0 (hb0.set_ 23 (.int .i64 ((F.r.steps : Int) + 1))) (Only.setAt (S := fun x => x = L.fr i t) (Only.refl _ _) (show L.fr i t = L.fr i t from rfl) _ _)
  have HS0 := Lib.hid hS0
  have c16 : (w.setCell ⟨L.fr i t, 23, none⟩ (.int .i64 ((F.r.steps : Int) + 1))).cell? ⟨L.fr i t, 16, none⟩ = some (.string ⟨#[108, 111, 99, 97, 108]⟩) := by
    have := (hS0.rep.frc (F := F.tick) (updF_same _ _ _ _)).c16
    rw [this]; show some (Value.string F.st) = _; rw [hst]
  have HHD : Hid (∀ w1, Rep w1 L (A.setFr i t F.tick) → Calls Tryz.prog 116 #[.pointer (some ⟨L.fr i t, 0, none⟩)] w1 fun e w' => ∃ L', e = .returned (.tuple #[]) ∧ Ste w1 L (A.setFr i t F.tick) w' L' A1) := Lib.hid fun w1 h1 => hH w1 L h1
  have HC1 : Hid (∀ w1 L1 A', Rep w1 L1 A' → A'.fr = A1.fr → L1.fr i t = L.fr i t → L1.hp t = L.hp t → L1.bs = L.bs → w1.cell? ⟨L.fr i t, 0, none⟩ = some (.pointer (some ⟨L.bs, 0, none⟩)) ∧ w1.cell? ⟨L.fr i t, 5, none⟩ = some (.pointer (some ⟨L.hp t, 0, none⟩))) := Lib.hid fun w1 L1 A' h1 ea e1 e2 e3 => by
    have := h1.frc (i := i) (t := t) (by rw [ea]; exact hF1)
    rw [e1, e2, e3] at this
    exact ⟨this.c0, this.c5⟩
  have HSG : Hid (∀ w1 L1, Rep w1 L1 A1 → L1.hp t = L.hp t → Calls Tryz.prog 96 #[.pointer (some ⟨L.hp t, 0, none⟩)] w1 fun e w' => ∃ v', e = .returned v' ∧ w'.ownsRow w1.heap.size 98 1 v' ((A1.heap t).segs.map L1.sg).length (((A1.heap t).segs.map L1.sg).map ptrV) ∧ Only Nobody w1 w') := Lib.hid fun w1 L1 h1 e1 => by
    rw [← e1]; exact heap_Segs _ _ _ _ w1 (h1.hap t ht)
  have HLIVE := Lib.hid hlive
  have HST := Lib.hid hst
  have HREP := Lib.hid h
  have HF1 := Lib.hid hF1
  show Calls _ _ #[.pointer (some ⟨L.fr i t, 0, none⟩)] w _
  obtain ⟨bf, hbf⟩ : ∃ x, x = L.fr i t := ⟨_, rfl⟩
  obtain ⟨bs, hbs⟩ : ∃ x, x = L.bs := ⟨_, rfl⟩
  obtain ⟨bh, hbh⟩ : ∃ x, x = L.hp t := ⟨_, rfl⟩
  have HBF := Lib.hid hbf
  have HBS := Lib.hid hbs
  have HBH := Lib.hid hbh
  rw [← hbf] at HDN c23 f23 HS0 c16 HHD HC1 ⊢
  rw [← hbs] at HC1
  rw [← hbh] at HC1 HSG
  generalize F.r.steps = stp at *
  clear h hF hst hH hF1 hlive hb0 hs0 ho0 hS0 hbf hbs hbh
  go_enter Tryz.func76, Tryz.ntmps76
  go_wp2_with (first | (go_at_call 77; refine HDN.out.mono ?_; rintro e w1 ⟨rfl, rfl⟩))
  generalize hw0 : w.setCell ⟨bf, 23, none⟩ (.int .i64 ((stp : Int) + 1)) = w0 at *
  clear hw0 c23 f23
  have HC16 : Hid (∀ wx, Only Nobody w0 wx → wx.cell? ⟨bf, 16, none⟩ = some (.string ⟨#[108, 111, 99, 97, 108]⟩)) := Lib.hid fun wx ho => by
    obtain ⟨s0, o0, hb0, _⟩ := ((HS0.out.rep.quiet ho).fr (F := F.tick) (updF_same _ _ _ _)).blk
    rw [← HBF.out] at hb0
    exact (hb0.cell 16).trans (by show some (Value.string F.st) = _; rw [HST.out])
  have HSTP : Hid (∀ wa, Only Nobody w0 wa → Calls Tryz.prog 99 #[] wa fun e wx => ∃ mb, e = .returned (.map (some mb)) ∧ wx.cell? ⟨bf, 16, none⟩ = some (.string ⟨#[108, 111, 99, 97, 108]⟩) ∧ (Instr.lookup 204 (.map (some mb)) (.string ⟨#[108, 111, 99, 97, 108]⟩) false).run Tryz.prog wx = .ok (.func (.func 116) #[] #[]) wx ∧ Only Nobody w0 wx) := Lib.hid fun wa ho => by
    refine (call_steps wa).mono ?_
    rintro e wx ⟨rfl, rfl⟩
    exact ⟨_, rfl, HC16.out _ (ho.alloc _), run_lookup _ _ 3 _ _ (heap_alloc_new wa _) (by kernel_rfl), ho.alloc _⟩
  go_region_with (first | (go_at_call 99; refine (HSTP.out _ ((Only.refl _ w0).drew)).mono ?_; rintro e wx ⟨mb, rfl, c16a, hlk, hox⟩; have HOX := Lib.hid hox; clear hox) | (go_at_call 116; refine (HHD.out _ (HS0.out.rep.quiet HOX.out)).mono ?_; rintro e w2 ⟨L2, rfl, hst2⟩; have HS2 := Lib.hid ((HS0.out.quiet_right HOX.out).trans hst2); clear hst2))
  all_goals
    have HE2 := Lib.hid (And.intro ((congrFun (congrFun HS2.out.fix.fr i) t).trans HBF.out.symm) (And.intro ((congrFun HS2.out.fix.hp t).trans HBH.out.symm) (HS2.out.fix.bs.trans HBS.out.symm)))
    have HX2 := Lib.hid (HC1.out _ _ _ HS2.out.rep rfl HE2.out.1 HE2.out.2.1 HE2.out.2.2)
    have d5 := HX2.out.2
    have HSG2 := Lib.hid (HSG.out _ _ HS2.out.rep HE2.out.2.1)
    obtain ⟨n, hnn⟩ : ∃ n, n = (A1.heap t).segs.length := ⟨_, rfl⟩
    have hn64 : n ≤ 64 := by have := (HS2.out.rep.hap t ht).few; rw [hnn]; simpa using this
    have HN := Lib.hid hnn
    clear hnn
    clear c16 c16a hlk
    go_wp2_with (first | (go_at_call 96; refine HSG2.out.mono ?_; rintro e w3 ⟨v', rfl, hr, ho⟩; obtain ⟨sa, scap, hv, hcur⟩ := segs_blk hr; rw [List.length_map, ← HN.out] at hv; subst hv; have HO3 := Lib.hid ho; have HCUR := Lib.hid hcur; clear hr ho hcur d5))
    go_loopw [4, 30] (fun _ i wr => ∃ j : Nat, j ≤ n ∧ i = .int .i64 j ∧ Ste w L A wr L2 { A1 with sy := A1.sy.know ((A1.heap t).segs.take j) } ∧ Only (fun x => x = bs) w3 wr) (fun _ i _ => n - (intOf i).toNat)
    case atStart => exact ⟨0, by omega, rfl, by have := HS2.out.quiet_right HO3.out; have e : A1.sy.know ((A1.heap t).segs.take 0) = A1.sy := by unfold Sy.know; simp
                                                rw [e]; exact this, Only.refl _ _⟩
    case round =>
      obtain ⟨j, hj, rfl, hst3, ho⟩ := hrel
      have HST3 := Lib.hid hst3
      have HOW := Lib.hid ho
      have HX3 := Lib.hid (HC1.out _ _ _ hst3.rep rfl HE2.out.1 HE2.out.2.1 HE2.out.2.2)
      obtain ⟨e0, e5⟩ := HX3.out
      by_cases hlt : j < n
      · have hjl : j < (A1.heap t).segs.length := by rw [← HN.out]; exact hlt
        obtain ⟨p, hpj⟩ : ∃ p, p = (A1.heap t).segs.getD j 0 := ⟨_, rfl⟩
        have hpm : p ∈ (A1.heap t).segs := by rw [hpj, List.getD_eq_getElem?_getD, List.getElem?_eq_getElem hjl]; exact List.getElem_mem hjl
        obtain ⟨hp64, hps⟩ := HLIVE.out p hpm
        obtain ⟨sgm, hsgm⟩ := Option.isSome_iff_exists.1 hps
        have hne : (A1.heap t).segs.map L2.sg ≠ [] := by intro e; rw [List.map_eq_nil_iff] at e; rw [e] at hjl; simp at hjl
        obtain ⟨g, cur, hsa, hg1, hblk, hcur⟩ := HCUR.out hne
        subst hsa
        have hgb : g ≠ bs := by
          obtain ⟨cs, hcs, _⟩ := (HS2.out.rep.quiet HO3.out).sysblk
          rw [HE2.out.2.2] at hcs
          exact hblk.ne_ hcs (by decide)
        have cj : wr.cell? ⟨g, j, none⟩ = some (.pointer (some ⟨L2.sg p, 0, none⟩)) := by
          refine ((hblk.only ho hgb).cell j).trans ((hcur j (by simpa using hjl)).trans ?_)
          rw [hpj]
          simp [List.getD_eq_getElem?_getD, List.getElem?_eq_getElem hjl]
        have HPL : Hid (∀ wx, Rep wx L2 { A1 with sy := A1.sy.know ((A1.heap t).segs.take j) } → Calls Tryz.prog 100 #[.pointer (some ⟨L2.sg p, 0, none⟩)] wx fun e w' => e = .returned (.int .i64 p) ∧ wx = w') := Lib.hid fun wx hx => seg_Place _ _ _ wx (hx.all (.seg p) sgm hsgm)
        obtain ⟨cs, hcs, hc⟩ := hst3.rep.sysblk
        rw [HE2.out.2.2] at hcs
        obtain ⟨o1, ho1, _⟩ := hc.sg p hp64
        have f1 := hcs.frozen (142 + p)
        have q1 : wr.cell? ⟨bs, 142 + p, none⟩ = some (ownV o1) := (hcs.cell _).trans ho1
        have hp2 : (p : Int) < 64 := by omega
        have hp3 : (0 : Int) ≤ p := by omega
        have HNX : Hid (Ste w L A (wr.drew.setCell ⟨bs, 142 + p, none⟩ (.pointer (some ⟨L2.sg p, 0, none⟩))) L2 { A1 with sy := A1.sy.know ((A1.heap t).segs.take (j + 1)) }) := Lib.hid (by
          have h1 := hst3.quiet_right ((Only.refl Nobody wr).drew)
          have h2 := Ste.sys1 h1.rep (by rw [HE2.out.2.2]; exact hcs.drew.set_ (142 + p) (ptrV (L2.sg p))) (hc.setKn p hp64) (by rw [HE2.out.2.2]; exact Only.setAt (S := fun x => x = bs) (Only.refl _ _) (show bs = bs from rfl) _ _)
          have e : (A1.heap t).segs.take (j + 1) = (A1.heap t).segs.take j ++ [p] := by
            rw [List.take_succ_eq_append_getElem hjl, hpj, List.getD_eq_getElem?_getD, List.getElem?_eq_getElem hjl]; rfl
          rw [e, ← Sy.know_snoc]
          exact h1.trans h2)
        have HFZ : Hid ((wr.drew.setCell ⟨bs, 142 + p, none⟩ (.pointer (some ⟨L2.sg p, 0, none⟩))).frozen? ⟨bs, 142 + p, none⟩ = false) := Lib.hid ((hcs.drew.set_ (142 + p) (ptrV (L2.sg p))).frozen _)
        have HONX := Lib.hid (Only.setAt (S := fun x => x = bs) (ho.drew) (show bs = bs from rfl) (142 + p) (.pointer (some ⟨L2.sg p, 0, none⟩)))
        generalize hbsg : L2.sg p = bsg at *
        clear hst3 ho hpj hpm hps hsgm hne hblk hcur hcs hc ho1 hgb hg1 hbsg hjl e5
        go_wp2
        go_region_held3 (fun w' => w'.cell? ⟨bf, 0, none⟩ = some (.pointer (some ⟨bs, 0, none⟩)) ∧ w'.frozen? ⟨bs, 142 + p, none⟩ = false) (first | exact ⟨e0, f1⟩ | exact ⟨(HC1.out _ _ _ HNX.out.rep rfl HE2.out.1 HE2.out.2.1 HE2.out.2.2).1, HFZ.out⟩) (first | (go_at_call 100; refine (HPL.out _ (HST3.out.rep.quiet ((Only.refl _ _).drew))).mono ?_; rintro e w4 ⟨rfl, rfl⟩))
        go_wp2
        exact ⟨⟨j + 1, by omega, by go_num, HNX.out, HONX.out⟩, by show n - (intOf (Value.int IntKind.i64 ((j : Int) + 1))).toNat < n - (intOf (Value.int IntKind.i64 (j : Int))).toNat; simp [intOf]; omega⟩
      · obtain rfl : j = n := by omega
        have HFIN : Hid (Ste w L A wr L2 (A1.know t)) := Lib.hid (by
          rw [HN.out, List.take_length] at hst3; exact hst3)
        clear hst3 ho e0 e5
        go_wp2
        go_ret
        exact ⟨L2, rfl, HFIN.out⟩

set_option maxRecDepth 100000 in
set_option maxHeartbeats 4000000 in
theorem step_fresh {A A1 : St} {i : Bool} {t : Nat} {F F1 : Fr} (hF : A.fr i t = some F) (ht : t < 8) (hst : F.st = ⟨#[102, 114, 101, 115, 104]⟩) (hsteps : F.r.steps < 1000000000000)
    (hH : SysCalls 118 (fun L => #[ptrV (L.fr i t)]) (A.setFr i t F.tick) (fun _ => .tuple #[]) A1) (hF1 : A1.fr i t = some F1) (hlive : ∀ p, p ∈ (A1.heap t).segs → p < 64 ∧ (A1.seg p).isSome) :
    SysCalls 76 (fun L => #[ptrV (L.fr i t)]) A (fun _ => .bool true) (A1.know t) := by
  intro w L h
  obtain ⟨s0, o0, hb0, hs0, ho0⟩ := (h.fr hF).blk
  have HDN : Hid (Calls Tryz.prog 77 #[.pointer (some ⟨L.fr i t, 0, none⟩)] w fun x w' => x = .returned (.bool false) ∧ w = w') := Lib.hid (by
    have := fr_Done (L.fr i t) _ w hb0
    rw [show (frM L t F (L.fl i t) (ownV s0) (ownV o0)).state = ⟨#[102, 114, 101, 115, 104]⟩ from hst, show isDone ⟨#[102, 114, 101, 115, 104]⟩ = false from by kernel_rfl] at this
    exact this)
  have c23 : w.cell? ⟨L.fr i t, 23, none⟩ = some (.int .i64 F.r.steps) := hb0.cell 23
  have f23 : w.frozen? ⟨L.fr i t, 23, none⟩ = false := hb0.frozen 23
  have hS0 : Ste w L A (w.setCell ⟨L.fr i t, 23, none⟩ (.int .i64 ((F.r.steps : Int) + 1))) L (A.setFr i t F.tick) :=
    Ste.fr1 (F' := F.tick) h hF rfl hs0 ho0 (hb0.set_ 23 (.int .i64 ((F.r.steps : Int) + 1))) (Only.setAt (S := fun x => x = L.fr i t) (Only.refl _ _) (show L.fr i t = L.fr i t from rfl) _ _)
  have HS0 := Lib.hid hS0
  have c16 : (w.setCell ⟨L.fr i t, 23, none⟩ (.int .i64 ((F.r.steps : Int) + 1))).cell? ⟨L.fr i t, 16, none⟩ = some (.string ⟨#[102, 114, 101, 115, 104]⟩) := by
    have := (hS0.rep.frc (F := F.tick) (updF_same _ _ _ _)).c16
    rw [this]; show some (Value.string F.st) = _; rw [hst]
  have HHD : Hid (∀ w1, Rep w1 L (A.setFr i t F.tick) → Calls Tryz.prog 118 #[.pointer (some ⟨L.fr i t, 0, none⟩)] w1 fun e w' => ∃ L', e = .returned (.tuple #[]) ∧ Ste w1 L (A.setFr i t F.tick) w' L' A1) := Lib.hid fun w1 h1 => hH w1 L h1
  have HC1 : Hid (∀ w1 L1 A', Rep w1 L1 A' → A'.fr = A1.fr → L1.fr i t = L.fr i t → L1.hp t = L.hp t → L1.bs = L.bs → w1.cell? ⟨L.fr i t, 0, none⟩ = some (.pointer (some ⟨L.bs, 0, none⟩)) ∧ w1.cell? ⟨L.fr i t, 5, none⟩ = some (.pointer (some ⟨L.hp t, 0, none⟩))) := Lib.hid fun w1 L1 A' h1 ea e1 e2 e3 => by
    have := h1.frc (i := i) (t := t) (by rw [ea]; exact hF1)
    rw [e1, e2, e3] at this
    exact ⟨this.c0, this.c5⟩
  have HSG : Hid (∀ w1 L1, Rep w1 L1 A1 → L1.hp t = L.hp t → Calls Tryz.prog 96 #[.pointer (some ⟨L.hp t, 0, none⟩)] w1 fun e w' => ∃ v', e = .returned v' ∧ w'.ownsRow w1.heap.size 98 1 v' ((A1.heap t).segs.map L1.sg).length (((A1.heap t).segs.map L1.sg).map ptrV) ∧ Only Nobody w1 w') := Lib.hid fun w1 L1 h1 e1 => by
    rw [← e1]; exact heap_Segs _ _ _ _ w1 (h1.hap t ht)
  have HLIVE := Lib.hid hlive
  have HST := Lib.hid hst
  have HREP := Lib.hid h
  have HF1 := Lib.hid hF1
  show Calls _ _ #[.pointer (some ⟨L.fr i t, 0, none⟩)] w _
  obtain ⟨bf, hbf⟩ : ∃ x, x = L.fr i t := ⟨_, rfl⟩
  obtain ⟨bs, hbs⟩ : ∃ x, x = L.bs := ⟨_, rfl⟩
  obtain ⟨bh, hbh⟩ : ∃ x, x = L.hp t := ⟨_, rfl⟩
  have HBF := Lib.hid hbf
  have HBS := Lib.hid hbs
  have HBH := Lib.hid hbh
  rw [← hbf] at HDN c23 f23 HS0 c16 HHD HC1 ⊢
  rw [← hbs] at HC1
  rw [← hbh] at HC1 HSG
  generalize F.r.steps = stp at *
  clear h hF hst hH hF1 hlive hb0 hs0 ho0 hS0 hbf hbs hbh
  go_enter Tryz.func76, Tryz.ntmps76
  go_wp2_with (first | (go_at_call 77; refine HDN.out.mono ?_; rintro e w1 ⟨rfl, rfl⟩))
  generalize hw0 : w.setCell ⟨bf, 23, none⟩ (.int .i64 ((stp : Int) + 1)) = w0 at *
  clear hw0 c23 f23
  have HC16 : Hid (∀ wx, Only Nobody w0 wx → wx.cell? ⟨bf, 16, none⟩ = some (.string ⟨#[102, 114, 101, 115, 104]⟩)) := Lib.hid fun wx ho => by
    obtain ⟨s0, o0, hb0, _⟩ := ((HS0.out.rep.quiet ho).fr (F := F.tick) (updF_same _ _ _ _)).blk
    rw [← HBF.out] at hb0
    exact (hb0.cell 16).trans (by show some (Value.string F.st) = _; rw [HST.out])
  have HSTP : Hid (∀ wa, Only Nobody w0 wa → Calls Tryz.prog 99 #[] wa fun e wx => ∃ mb, e = .returned (.map (some mb)) ∧ wx.cell? ⟨bf, 16, none⟩ = some (.string ⟨#[102, 114, 101, 115, 104]⟩) ∧ (Instr.lookup 204 (.map (some mb)) (.string ⟨#[102, 114, 101, 115, 104]⟩) false).run Tryz.prog wx = .ok (.func (.func 118) #[] #[]) wx ∧ Only Nobody w0 wx) := Lib.hid fun wa ho => by
    refine (call_steps wa).mono ?_
    rintro e wx ⟨rfl, rfl⟩
    exact ⟨_, rfl, HC16.out _ (ho.alloc _), run_lookup _ _ 5 _ _ (heap_alloc_new wa _) (by kernel_rfl), ho.alloc _⟩
  go_region_with (first | (go_at_call 99; refine (HSTP.out _ ((Only.refl _ w0).drew)).mono ?_; rintro e wx ⟨mb, rfl, c16a, hlk, hox⟩; have HOX := Lib.hid hox; clear hox) | (go_at_call 118; refine (HHD.out _ (HS0.out.rep.quiet HOX.out)).mono ?_; rintro e w2 ⟨L2, rfl, hst2⟩; have HS2 := Lib.hid ((HS0.out.quiet_right HOX.out).trans hst2); clear hst2))
  all_goals
    have HE2 := Lib.hid (And.intro ((congrFun (congrFun HS2.out.fix.fr i) t).trans HBF.out.symm) (And.intro ((congrFun HS2.out.fix.hp t).trans HBH.out.symm) (HS2.out.fix.bs.trans HBS.out.symm)))
    have HX2 := Lib.hid (HC1.out _ _ _ HS2.out.rep rfl HE2.out.1 HE2.out.2.1 HE2.out.2.2)
    have d5 := HX2.out.2
    have HSG2 := Lib.hid (HSG.out _ _ HS2.out.rep HE2.out.2.1)
    obtain ⟨n, hnn⟩ : ∃ n, n = (A1.heap t).segs.length := ⟨_, rfl⟩
    have hn64 : n ≤ 64 := by have := (HS2.out.rep.hap t ht).few; rw [hnn]; simpa using this
    have HN := Lib.hid hnn
    clear hnn
    clear c16 c16a hlk
    go_wp2_with (first | (go_at_call 96; refine HSG2.out.mono ?_; rintro e w3 ⟨v', rfl, hr, ho⟩; obtain ⟨sa, scap, hv, hcur⟩ := segs_blk hr; rw [List.length_map, ← HN.out] at hv; subst hv; have HO3 := Lib.hid ho; have HCUR := Lib.hid hcur; clear hr ho hcur d5))
    go_loopw [4, 30] (fun _ i wr => ∃ j : Nat, j ≤ n ∧ i = .int .i64 j ∧ Ste w L A wr L2 { A1 with sy := A1.sy.know ((A1.heap t).segs.take j) } ∧ Only (fun x => x = bs) w3 wr) (fun _ i _ => n - (intOf i).toNat)
    case atStart => exact ⟨0, by omega, rfl, by have := HS2.out.quiet_right HO3.out; have e : A1.sy.know ((A1.heap t).segs.take 0) = A1.sy := by unfold Sy.know; simp
                                                rw [e]; exact this, Only.refl _ _⟩
    case round =>
      obtain ⟨j, hj, rfl, hst3, ho⟩ := hrel
      have HST3 := Lib.hid hst3
      have HOW := Lib.hid ho
      have HX3 := Lib.hid (HC1.out _ _ _ hst3.rep rfl HE2.out.1 HE2.out.2.1 HE2.out.2.2)
      obtain ⟨e0, e5⟩ := HX3.out
      by_cases hlt : j < n
      · have hjl : j < (A1.heap t).segs.length := by rw [← HN.out]; exact hlt
        obtain ⟨p, hpj⟩ : ∃ p, p = (A1.heap t).segs.getD j 0 := ⟨_, rfl⟩
        have hpm : p ∈ (A1.heap t).segs := by rw [hpj, List.getD_eq_getElem?_getD, List.getElem?_eq_getElem hjl]; exact List.getElem_mem hjl
        obtain ⟨hp64, hps⟩ := HLIVE.out p hpm
        obtain ⟨sgm, hsgm⟩ := Option.isSome_iff_exists.1 hps
        have hne : (A1.heap t).segs.map L2.sg ≠ [] := by intro e; rw [List.map_eq_nil_iff] at e; rw [e] at hjl; simp at hjl
        obtain ⟨g, cur, hsa, hg1, hblk, hcur⟩ := HCUR.out hne
        subst hsa
        have hgb : g ≠ bs := by
          obtain ⟨cs, hcs, _⟩ := (HS2.out.rep.quiet HO3.out).sysblk
          rw [HE2.out.2.2] at hcs
          exact hblk.ne_ hcs (by decide)
        have cj : wr.cell? ⟨g, j, none⟩ = some (.pointer (some ⟨L2.sg p, 0, none⟩)) := by
          refine ((hblk.only ho hgb).cell j).trans ((hcur j (by simpa using hjl)).trans ?_)
          rw [hpj]
          simp [List.getD_eq_getElem?_getD, List.getElem?_eq_getElem hjl]
        have HPL : Hid (∀ wx, Rep wx L2 { A1 with sy := A1.sy.know ((A1.heap t).segs.take j) } → Calls Tryz.prog 100 #[.pointer (some ⟨L2.sg p, 0, none⟩)] wx fun e w' => e = .returned (.int .i64 p) ∧ wx = w') := Lib.hid fun wx hx => seg_Place _ _ _ wx (hx.all (.seg p) sgm hsgm)
        obtain ⟨cs, hcs, hc⟩ := hst3.rep.sysblk
        rw [HE2.out.2.2] at hcs
        obtain ⟨o1, ho1, _⟩ := hc.sg p hp64
        have f1 := hcs.frozen (142 + p)
        have q1 : wr.cell? ⟨bs, 142 + p, none⟩ = some (ownV o1) := (hcs.cell _).trans ho1
        have hp2 : (p : Int) < 64 := by omega
        have hp3 : (0 : Int) ≤ p := by omega
        have HNX : Hid (Ste w L A (wr.drew.setCell ⟨bs, 142 + p, none⟩ (.pointer (some ⟨L2.sg p, 0, none⟩))) L2 { A1 with sy := A1.sy.know ((A1.heap t).segs.take (j + 1)) }) := Lib.hid (by
          have h1 := hst3.quiet_right ((Only.refl Nobody wr).drew)
          have h2 := Ste.sys1 h1.rep (by rw [HE2.out.2.2]; exact hcs.drew.set_ (142 + p) (ptrV (L2.sg p))) (hc.setKn p hp64) (by rw [HE2.out.2.2]; exact Only.setAt (S := fun x => x = bs) (Only.refl _ _) (show bs = bs from rfl) _ _)
          have e : (A1.heap t).segs.take (j + 1) = (A1.heap t).segs.take j ++ [p] := by
            rw [List.take_succ_eq_append_getElem hjl, hpj, List.getD_eq_getElem?_getD, List.getElem?_eq_getElem hjl]; rfl
          rw [e, ← Sy.know_snoc]
          exact h1.trans h2)
        have HFZ : Hid ((wr.drew.setCell ⟨bs, 142 + p, none⟩ (.pointer (some ⟨L2.sg p, 0, none⟩))).frozen? ⟨bs, 142 + p, none⟩ = false) := Lib.hid ((hcs.drew.set_ (142 + p) (ptrV (L2.sg p))).frozen _)
        have HONX := Lib.hid (Only.setAt (S := fun x => x = bs) (ho.drew) (show bs = bs from rfl) (142 + p) (.pointer (some ⟨L2.sg p, 0, none⟩)))
        generalize hbsg : L2.sg p = bsg at *
        clear hst3 ho hpj hpm hps hsgm hne hblk hcur hcs hc ho1 hgb hg1 hbsg hjl e5
        go_wp2
        go_region_held3 (fun w' => w'.cell? ⟨bf, 0, none⟩ = some (.pointer (some ⟨bs, 0, none⟩)) ∧ w'.frozen? ⟨bs, 142 + p, none⟩ = false) (first | exact ⟨e0, f1⟩ | exact ⟨(HC1.out _ _ _ HNX.out.rep rfl HE2.out.1 HE2.out.2.1 HE2.out.2.2).1, HFZ.out⟩) (first | (go_at_call 100; refine (HPL.out _ (HST3.out.rep.quiet ((Only.refl _ _).drew))).mono ?_; rintro e w4 ⟨rfl, rfl⟩))
        go_wp2
        exact ⟨⟨j + 1, by omega, by go_num, HNX.out, HONX.out⟩, by show n - (intOf (Value.int IntKind.i64 ((j : Int) + 1))).toNat < n - (intOf (Value.int IntKind.i64 (j : Int))).toNat; simp [intOf]; omega⟩
      · obtain rfl : j = n := by omega
        have HFIN : Hid (Ste w L A wr L2 (A1.know t)) := Lib.hid (by
          rw [HN.out, List.take_length] at hst3; exact hst3)
        clear hst3 ho e0 e5
        go_wp2
        go_ret
        exact ⟨L2, rfl, HFIN.out⟩

set_option maxRecDepth 100000 in
set_option maxHeartbeats 4000000 in
theorem step_grow {A A1 : St} {i : Bool} {t : Nat} {F F1 : Fr} (hF : A.fr i t = some F) (ht : t < 8) (hst : F.st = ⟨#[103, 114, 111, 119]⟩) (hsteps : F.r.steps < 1000000000000)
    (hH : SysCalls 120 (fun L => #[ptrV (L.fr i t)]) (A.setFr i t F.tick) (fun _ => .tuple #[]) A1) (hF1 : A1.fr i t = some F1) (hlive : ∀ p, p ∈ (A1.heap t).segs → p < 64 ∧ (A1.seg p).isSome) :
    SysCalls 76 (fun L => #[ptrV (L.fr i t)]) A (fun _ => .bool true) (A1.know t) := by
  intro w L h
  obtain ⟨s0, o0, hb0, hs0, ho0⟩ := (h.fr hF).blk
  have HDN : Hid (Calls Tryz.prog 77 #[.pointer (some ⟨L.fr i t, 0, none⟩)] w fun x w' => x = .returned (.bool false) ∧ w = w') := Lib.hid (by
    have := fr_Done (L.fr i t) _ w hb0
    rw [show (frM L t F (L.fl i t) (ownV s0) (ownV o0)).state = ⟨#[103, 114, 111, 119]⟩ from hst, show isDone ⟨#[103, 114, 111, 119]⟩ = false from by kernel_rfl] at this
    exact this)
  have c23 : w.cell? ⟨L.fr i t, 23, none⟩ = some (.int .i64 F.r.steps) := hb0.cell 23
  have f23 : w.frozen? ⟨L.fr i t, 23, none⟩ = false := hb0.frozen 23
  have hS0 : Ste w L A (w.setCell ⟨L.fr i t, 23, none⟩ (.int .i64 ((F.r.steps : Int) + 1))) L (A.setFr i t F.tick) :=
    Ste.fr1 (F' := F.tick) h hF rfl hs0 ho0 (hb0.set_ 23 (.int .i64 ((F.r.steps : Int) + 1))) (Only.setAt (S := fun x => x = L.fr i t) (Only.refl _ _) (show L.fr i t = L.fr i t from rfl) _ _)
  have HS0 := Lib.hid hS0
  have c16 : (w.setCell ⟨L.fr i t, 23, none⟩ (.int .i64 ((F.r.steps : Int) + 1))).cell? ⟨L.fr i t, 16, none⟩ = some (.string ⟨#[103, 114, 111, 119]⟩) := by
    have := (hS0.rep.frc (F := F.tick) (updF_same _ _ _ _)).c16
    rw [this]; show some (Value.string F.st) = _; rw [hst]
  have HHD : Hid (∀ w1, Rep w1 L (A.setFr i t F.tick) → Calls Tryz.prog 120 #[.pointer (some ⟨L.fr i t, 0, none⟩)] w1 fun e w' => ∃ L', e = .returned (.tuple #[]) ∧ Ste w1 L (A.setFr i t F.tick) w' L' A1) := Lib.hid fun w1 h1 => hH w1 L h1
  have HC1 : Hid (∀ w1 L1 A', Rep w1 L1 A' → A'.fr = A1.fr → L1.fr i t = L.fr i t → L1.hp t = L.hp t → L1.bs = L.bs → w1.cell? ⟨L.fr i t, 0, none⟩ = some (.pointer (some ⟨L.bs, 0, none⟩)) ∧ w1.cell? ⟨L.fr i t, 5, none⟩ = some (.pointer (some ⟨L.hp t, 0, none⟩))) := Lib.hid fun w1 L1 A' h1 ea e1 e2 e3 => by
    have := h1.frc (i := i) (t := t) (by rw [ea]; exact hF1)
    rw [e1, e2, e3] at this
    exact ⟨this.c0, this.c5⟩
  have HSG : Hid (∀ w1 L1, Rep w1 L1 A1 → L1.hp t = L.hp t → Calls Tryz.prog 96 #[.pointer (some ⟨L.hp t, 0, none⟩)] w1 fun e w' => ∃ v', e = .returned v' ∧ w'.ownsRow w1.heap.size 98 1 v' ((A1.heap t).segs.map L1.sg).length (((A1.heap t).segs.map L1.sg).map ptrV) ∧ Only Nobody w1 w') := Lib.hid fun w1 L1 h1 e1 => by
    rw [← e1]; exact heap_Segs _ _ _ _ w1 (h1.hap t ht)
  have HLIVE := Lib.hid hlive
  have HST := Lib.hid hst
  have HREP := Lib.hid h
  have HF1 := Lib.hid hF1
  show Calls _ _ #[.pointer (some ⟨L.fr i t, 0, none⟩)] w _
  obtain ⟨bf, hbf⟩ : ∃ x, x = L.fr i t := ⟨_, rfl⟩
  obtain ⟨bs, hbs⟩ : ∃ x, x = L.bs := ⟨_, rfl⟩
  obtain ⟨bh, hbh⟩ : ∃ x, x = L.hp t := ⟨_, rfl⟩
  have HBF := Lib.hid hbf
  have HBS := Lib.hid hbs
  have HBH := Lib.hid hbh
  rw [← hbf] at HDN c23 f23 HS0 c16 HHD HC1 ⊢
  rw [← hbs] at HC1
  rw [← hbh] at HC1 HSG
  generalize F.r.steps = stp at *
  clear h hF hst hH hF1 hlive hb0 hs0 ho0 hS0 hbf hbs hbh
  go_enter Tryz.func76, Tryz.ntmps76
  go_wp2_with (first | (go_at_call 77; refine HDN.out.mono ?_; rintro e w1 ⟨rfl, rfl⟩))
  generalize hw0 : w.setCell ⟨bf, 23, none⟩ (.int .i64 ((stp : Int) + 1)) = w0 at *
  clear hw0 c23 f23
  have HC16 : Hid (∀ wx, Only Nobody w0 wx → wx.cell? ⟨bf, 16, none⟩ = some (.string ⟨#[103, 114, 111, 119]⟩)) := Lib.hid fun wx ho => by
    obtain ⟨s0, o0, hb0, _⟩ := ((HS0.out.rep.quiet ho).fr (F := F.tick) (updF_same _ _ _ _)).blk
    rw [← HBF.out] at hb0
    exact (hb0.cell 16).trans (by show some (Value.string F.st) = _; rw [HST.out])
  have HSTP : Hid (∀ wa, Only Nobody w0 wa → Calls Tryz.prog 99 #[] wa fun e wx => ∃ mb, e = .returned (.map (some mb)) ∧ wx.cell? ⟨bf, 16, none⟩ = some (.string ⟨#[103, 114, 111, 119]⟩) ∧ (Instr.lookup 204 (.map (some mb)) (.string ⟨#[103, 114, 111, 119]⟩) false).run Tryz.prog wx = .ok (.func (.func 120) #[] #[]) wx ∧ Only Nobody w0 wx) := Lib.hid fun wa ho => by
    refine (call_steps wa).mono ?_
    rintro e wx ⟨rfl, rfl⟩
    exact ⟨_, rfl, HC16.out _ (ho.alloc _), run_lookup _ _ 7 _ _ (heap_alloc_new wa _) (by kernel_rfl), ho.alloc _⟩
  go_region_with (first | (go_at_call 99; refine (HSTP.out _ ((Only.refl _ w0).drew)).mono ?_; rintro e wx ⟨mb, rfl, c16a, hlk, hox⟩; have HOX := Lib.hid hox; clear hox) | (go_at_call 120; refine (HHD.out _ (HS0.out.rep.quiet HOX.out)).mono ?_; rintro e w2 ⟨L2, rfl, hst2⟩; have HS2 := Lib.hid ((HS0.out.quiet_right HOX.out).trans hst2); clear hst2))
  all_goals
    have HE2 := Lib.hid (And.intro ((congrFun (congrFun HS2.out.fix.fr i) t).trans HBF.out.symm) (And.intro ((congrFun HS2.out.fix.hp t).trans HBH.out.symm) (HS2.out.fix.bs.trans HBS.out.symm)))
    have HX2 := Lib.hid (HC1.out _ _ _ HS2.out.rep rfl HE2.out.1 HE2.out.2.1 HE2.out.2.2)
    have d5 := HX2.out.2
    have HSG2 := Lib.hid (HSG.out _ _ HS2.out.rep HE2.out.2.1)
    obtain ⟨n, hnn⟩ : ∃ n, n = (A1.heap t).segs.length := ⟨_, rfl⟩
    have hn64 : n ≤ 64 := by have := (HS2.out.rep.hap t ht).few; rw [hnn]; simpa using this
    have HN := Lib.hid hnn
    clear hnn
    clear c16 c16a hlk
    go_wp2_with (first | (go_at_call 96; refine HSG2.out.mono ?_; rintro e w3 ⟨v', rfl, hr, ho⟩; obtain ⟨sa, scap, hv, hcur⟩ := segs_blk hr; rw [List.length_map, ← HN.out] at hv; subst hv; have HO3 := Lib.hid ho; have HCUR := Lib.hid hcur; clear hr ho hcur d5))
    go_loopw [4, 30] (fun _ i wr => ∃ j : Nat, j ≤ n ∧ i = .int .i64 j ∧ Ste w L A wr L2 { A1 with sy := A1.sy.know ((A1.heap t).segs.take j) } ∧ Only (fun x => x = bs) w3 wr) (fun _ i _ => n - (intOf i).toNat)
    case atStart => exact ⟨0, by omega, rfl, by have := HS2.out.quiet_right HO3.out; have e : A1.sy.know ((A1.heap t).segs.take 0) = A1.sy := by unfold Sy.know; simp
                                                rw [e]; exact this, Only.refl _ _⟩
    case round =>
      obtain ⟨j, hj, rfl, hst3, ho⟩ := hrel
      have HST3 := Lib.hid hst3
      have HOW := Lib.hid ho
      have HX3 := Lib.hid (HC1.out _ _ _ hst3.rep rfl HE2.out.1 HE2.out.2.1 HE2.out.2.2)
      obtain ⟨e0, e5⟩ := HX3.out
      by_cases hlt : j < n
      · have hjl : j < (A1.heap t).segs.length := by rw [← HN.out]; exact hlt
        obtain ⟨p, hpj⟩ : ∃ p, p = (A1.heap t).segs.getD j 0 := ⟨_, rfl⟩
        have hpm : p ∈ (A1.heap t).segs := by rw [hpj, List.getD_eq_getElem?_getD, List.getElem?_eq_getElem hjl]; exact List.getElem_mem hjl
        obtain ⟨hp64, hps⟩ := HLIVE.out p hpm
        obtain ⟨sgm, hsgm⟩ := Option.isSome_iff_exists.1 hps
        have hne : (A1.heap t).segs.map L2.sg ≠ [] := by intro e; rw [List.map_eq_nil_iff] at e; rw [e] at hjl; simp at hjl
        obtain ⟨g, cur, hsa, hg1, hblk, hcur⟩ := HCUR.out hne
        subst hsa
        have hgb : g ≠ bs := by
          obtain ⟨cs, hcs, _⟩ := (HS2.out.rep.quiet HO3.out).sysblk
          rw [HE2.out.2.2] at hcs
          exact hblk.ne_ hcs (by decide)
        have cj : wr.cell? ⟨g, j, none⟩ = some (.pointer (some ⟨L2.sg p, 0, none⟩)) := by
          refine ((hblk.only ho hgb).cell j).trans ((hcur j (by simpa using hjl)).trans ?_)
          rw [hpj]
          simp [List.getD_eq_getElem?_getD, List.getElem?_eq_getElem hjl]
        have HPL : Hid (∀ wx, Rep wx L2 { A1 with sy := A1.sy.know ((A1.heap t).segs.take j) } → Calls Tryz.prog 100 #[.pointer (some ⟨L2.sg p, 0, none⟩)] wx fun e w' => e = .returned (.int .i64 p) ∧ wx = w') := Lib.hid fun wx hx => seg_Place _ _ _ wx (hx.all (.seg p) sgm hsgm)
        obtain ⟨cs, hcs, hc⟩ := hst3.rep.sysblk
        rw [HE2.out.2.2] at hcs
        obtain ⟨o1, ho1, _⟩ := hc.sg p hp64
        have f1 := hcs.frozen (142 + p)
        have q1 : wr.cell? ⟨bs, 142 + p, none⟩ = some (ownV o1) := (hcs.cell _).trans ho1
        have hp2 : (p : Int) < 64 := by omega
        have hp3 : (0 : Int) ≤ p := by omega
        have HNX : Hid (Ste w L A (wr.drew.setCell ⟨bs, 142 + p, none⟩ (.pointer (some ⟨L2.sg p, 0, none⟩))) L2 { A1 with sy := A1.sy.know ((A1.heap t).segs.take (j + 1)) }) := Lib.hid (by
          have h1 := hst3.quiet_right ((Only.refl Nobody wr).drew)
          have h2 := Ste.sys1 h1.rep (by rw [HE2.out.2.2]; exact hcs.drew.set_ (142 + p) (ptrV (L2.sg p))) (hc.setKn p hp64) (by rw [HE2.out.2.2]; exact Only.setAt (S := fun x => x = bs) (Only.refl _ _) (show bs = bs from rfl) _ _)
          have e : (A1.heap t).segs.take (j + 1) = (A1.heap t).segs.take j ++ [p] := by
            rw [List.take_succ_eq_append_getElem hjl, hpj, List.getD_eq_getElem?_getD, List.getElem?_eq_getElem hjl]; rfl
          rw [e, ← Sy.know_snoc]
          exact h1.trans h2)
        have HFZ : Hid ((wr.drew.setCell ⟨bs, 142 + p, none⟩ (.pointer (some ⟨L2.sg p, 0, none⟩))).frozen? ⟨bs, 142 + p, none⟩ = false) := Lib.hid ((hcs.drew.set_ (142 + p) (ptrV (L2.sg p))).frozen _)
        have HONX := Lib.hid (Only.setAt (S := fun x => x = bs) (ho.drew) (show bs = bs from rfl) (142 + p) (.pointer (some ⟨L2.sg p, 0, none⟩)))
        generalize hbsg : L2.sg p = bsg at *
        clear hst3 ho hpj hpm hps hsgm hne hblk hcur hcs hc ho1 hgb hg1 hbsg hjl e5
        go_wp2
        go_region_held3 (fun w' => w'.cell? ⟨bf, 0, none⟩ = some (.pointer (some ⟨bs, 0, none⟩)) ∧ w'.frozen? ⟨bs, 142 + p, none⟩ = false) (first | exact ⟨e0, f1⟩ | exact ⟨(HC1.out _ _ _ HNX.out.rep rfl HE2.out.1 HE2.out.2.1 HE2.out.2.2).1, HFZ.out⟩) (first | (go_at_call 100; refine (HPL.out _ (HST3.out.rep.quiet ((Only.refl _ _).drew))).mono ?_; rintro e w4 ⟨rfl, rfl⟩))
        go_wp2
        exact ⟨⟨j + 1, by omega, by go_num, HNX.out, HONX.out⟩, by show n - (intOf (Value.int IntKind.i64 ((j : Int) + 1))).toNat < n - (intOf (Value.int IntKind.i64 (j : Int))).toNat; simp [intOf]; omega⟩
      · obtain rfl : j = n := by omega
        have HFIN : Hid (Ste w L A wr L2 (A1.know t)) := Lib.hid (by
          rw [HN.out, List.take_length] at hst3; exact hst3)
        clear hst3 ho e0 e5
        go_wp2
        go_ret
        exact ⟨L2, rfl, HFIN.out⟩

set_option maxRecDepth 100000 in
set_option maxHeartbeats 4000000 in
theorem step_look {A A1 : St} {i : Bool} {t : Nat} {F F1 : Fr} (hF : A.fr i t = some F) (ht : t < 8) (hst : F.st = ⟨#[108, 111, 111, 107]⟩) (hsteps : F.r.steps < 1000000000000)
    (hH : SysCalls 121 (fun L => #[ptrV (L.fr i t)]) (A.setFr i t F.tick) (fun _ => .tuple #[]) A1) (hF1 : A1.fr i t = some F1) (hlive : ∀ p, p ∈ (A1.heap t).segs → p < 64 ∧ (A1.seg p).isSome) :
    SysCalls 76 (fun L => #[ptrV (L.fr i t)]) A (fun _ => .bool true) (A1.know t) := by
  intro w L h
  obtain ⟨s0, o0, hb0, hs0, ho0⟩ := (h.fr hF).blk
  have HDN : Hid (Calls Tryz.prog 77 #[.pointer (some ⟨L.fr i t, 0, none⟩)] w fun x w' => x = .returned (.bool false) ∧ w = w') := Lib.hid (by
    have := fr_Done (L.fr i t) _ w hb0
    rw [show (frM L t F (L.fl i t) (ownV s0) (ownV o0)).state = ⟨#[108, 111, 111, 107]⟩ from hst, show isDone ⟨#[108, 111, 111, 107]⟩ = false from by kernel_rfl] at this
    exact this)
  have c23 : w.cell? ⟨L.fr i t, 23, none⟩ = some (.int .i64 F.r.steps) := hb0.cell 23
  have f23 : w.frozen? ⟨L.fr i t, 23, none⟩ = false := hb0.frozen 23
  have hS0 : Ste w L A (w.setCell ⟨L.fr i t, 23, none⟩ (.int .i64 ((F.r.steps : Int) + 1))) L (A.setFr i t F.tick) :=
    Ste.fr1 (F' := F.tick) h hF rfl hs0 ho0 (hb0.set_ 23 (.int .i64 ((F.r.steps : Int) + 1))) (Only.setAt (S := fun x => x = L.fr i t) (Only.refl _ _) (show L.fr i t = L.fr i t from rfl) _ _)
  have HS0 := Lib.hid hS0
  have c16 : (w.setCell ⟨L.fr i t, 23, none⟩ (.int .i64 ((F.r.steps : Int) + 1))).cell? ⟨L.fr i t, 16, none⟩ = some (.string ⟨#[108, 111, 111, 107]⟩) := by
    have := (hS0.rep.frc (F := F.tick) (updF_same _ _ _ _)).c16
    rw [this]; show some (Value.string F.st) = _; rw [hst]
  have HHD : Hid (∀ w1, Rep w1 L (A.setFr i t F.tick) → Calls Tryz.prog 121 #[.pointer (some ⟨L.fr i t, 0, none⟩)] w1 fun e w' => ∃ L', e = .returned (.tuple #[]) ∧ Ste w1 L (A.setFr i t F.tick) w' L' A1) := Lib.hid fun w1 h1 => hH w1 L h1
  have HC1 : Hid (∀ w1 L1 A', Rep w1 L1 A' → A'.fr = A1.fr → L1.fr i t = L.fr i t → L1.hp t = L.hp t → L1.bs = L.bs → w1.cell? ⟨L.fr i t, 0, none⟩ = some (.pointer (some ⟨L.bs, 0, none⟩)) ∧ w1.cell? ⟨L.fr i t, 5, none⟩ = some (.pointer (some ⟨L.hp t, 0, none⟩))) := Lib.hid fun w1 L1 A' h1 ea e1 e2 e3 => by
    have := h1.frc (i := i) (t := t) (by rw [ea]; exact hF1)
    rw [e1, e2, e3] at this
    exact ⟨this.c0, this.c5⟩
  have HSG : Hid (∀ w1 L1, Rep w1 L1 A1 → L1.hp t = L.hp t → Calls Tryz.prog 96 #[.pointer (some ⟨L.hp t, 0, none⟩)] w1 fun e w' => ∃ v', e = .returned v' ∧ w'.ownsRow w1.heap.size 98 1 v' ((A1.heap t).segs.map L1.sg).length (((A1.heap t).segs.map L1.sg).map ptrV) ∧ Only Nobody w1 w') := Lib.hid fun w1 L1 h1 e1 => by
    rw [← e1]; exact heap_Segs _ _ _ _ w1 (h1.hap t ht)
  have HLIVE := Lib.hid hlive
  have HST := Lib.hid hst
  have HREP := Lib.hid h
  have HF1 := Lib.hid hF1
  show Calls _ _ #[.pointer (some ⟨L.fr i t, 0, none⟩)] w _
  obtain ⟨bf, hbf⟩ : ∃ x, x = L.fr i t := ⟨_, rfl⟩
  obtain ⟨bs, hbs⟩ : ∃ x, x = L.bs := ⟨_, rfl⟩
  obtain ⟨bh, hbh⟩ : ∃ x, x = L.hp t := ⟨_, rfl⟩
  have HBF := Lib.hid hbf
  have HBS := Lib.hid hbs
  have HBH := Lib.hid hbh
  rw [← hbf] at HDN c23 f23 HS0 c16 HHD HC1 ⊢
  rw [← hbs] at HC1
  rw [← hbh] at HC1 HSG
  generalize F.r.steps = stp at *
  clear h hF hst hH hF1 hlive hb0 hs0 ho0 hS0 hbf hbs hbh
  go_enter Tryz.func76, Tryz.ntmps76
  go_wp2_with (first | (go_at_call 77; refine HDN.out.mono ?_; rintro e w1 ⟨rfl, rfl⟩))
  generalize hw0 : w.setCell ⟨bf, 23, none⟩ (.int .i64 ((stp : Int) + 1)) = w0 at *
  clear hw0 c23 f23
  have HC16 : Hid (∀ wx, Only Nobody w0 wx → wx.cell? ⟨bf, 16, none⟩ = some (.string ⟨#[108, 111, 111, 107]⟩)) := Lib.hid fun wx ho => by
    obtain ⟨s0, o0, hb0, _⟩ := ((HS0.out.rep.quiet ho).fr (F := F.tick) (updF_same _ _ _ _)).blk
    rw [← HBF.out] at hb0
    exact (hb0.cell 16).trans (by show some (Value.string F.st) = _; rw [HST.out])
  have HSTP : Hid (∀ wa, Only Nobody w0 wa → Calls Tryz.prog 99 #[] wa fun e wx => ∃ mb, e = .returned (.map (some mb)) ∧ wx.cell? ⟨bf, 16, none⟩ = some (.string ⟨#[108, 111, 111, 107]⟩) ∧ (Instr.lookup 204 (.map (some mb)) (.string ⟨#[108, 111, 111, 107]⟩) false).run Tryz.prog wx = .ok (.func (.func 121) #[] #[]) wx ∧ Only Nobody w0 wx) := Lib.hid fun wa ho => by
    refine (call_steps wa).mono ?_
    rintro e wx ⟨rfl, rfl⟩
    exact ⟨_, rfl, HC16.out _ (ho.alloc _), run_lookup _ _ 8 _ _ (heap_alloc_new wa _) (by kernel_rfl), ho.alloc _⟩
  go_region_with (first | (go_at_call 99; refine (HSTP.out _ ((Only.refl _ w0).drew)).mono ?_; rintro e wx ⟨mb, rfl, c16a, hlk, hox⟩; have HOX := Lib.hid hox; clear hox) | (go_at_call 121; refine (HHD.out _ (HS0.out.rep.quiet HOX.out)).mono ?_; rintro e w2 ⟨L2, rfl, hst2⟩; have HS2 := Lib.hid ((HS0.out.quiet_right HOX.out).trans hst2); clear hst2))
  all_goals
    have HE2 := Lib.hid (And.intro ((congrFun (congrFun HS2.out.fix.fr i) t).trans HBF.out.symm) (And.intro ((congrFun HS2.out.fix.hp t).trans HBH.out.symm) (HS2.out.fix.bs.trans HBS.out.symm)))
    have HX2 := Lib.hid (HC1.out _ _ _ HS2.out.rep rfl HE2.out.1 HE2.out.2.1 HE2.out.2.2)
    have d5 := HX2.out.2
    have HSG2 := Lib.hid (HSG.out _ _ HS2.out.rep HE2.out.2.1)
    obtain ⟨n, hnn⟩ : ∃ n, n = (A1.heap t).segs.length := ⟨_, rfl⟩
    have hn64 : n ≤ 64 := by have := (HS2.out.rep.hap t ht).few; rw [hnn]; simpa using this
    have HN := Lib.hid hnn
    clear hnn
    clear c16 c16a hlk
    go_wp2_with (first | (go_at_call 96; refine HSG2.out.mono ?_; rintro e w3 ⟨v', rfl, hr, ho⟩; obtain ⟨sa, scap, hv, hcur⟩ := segs_blk hr; rw [List.length_map, ← HN.out] at hv; subst hv; have HO3 := Lib.hid ho; have HCUR := Lib.hid hcur; clear hr ho hcur d5))
    go_loopw [4, 30] (fun _ i wr => ∃ j : Nat, j ≤ n ∧ i = .int .i64 j ∧ Ste w L A wr L2 { A1 with sy := A1.sy.know ((A1.heap t).segs.take j) } ∧ Only (fun x => x = bs) w3 wr) (fun _ i _ => n - (intOf i).toNat)
    case atStart => exact ⟨0, by omega, rfl, by have := HS2.out.quiet_right HO3.out; have e : A1.sy.know ((A1.heap t).segs.take 0) = A1.sy := by unfold Sy.know; simp
                                                rw [e]; exact this, Only.refl _ _⟩
    case round =>
      obtain ⟨j, hj, rfl, hst3, ho⟩ := hrel
      have HST3 := Lib.hid hst3
      have HOW := Lib.hid ho
      have HX3 := Lib.hid (HC1.out _ _ _ hst3.rep rfl HE2.out.1 HE2.out.2.1 HE2.out.2.2)
      obtain ⟨e0, e5⟩ := HX3.out
      by_cases hlt : j < n
      · have hjl : j < (A1.heap t).segs.length := by rw [← HN.out]; exact hlt
        obtain ⟨p, hpj⟩ : ∃ p, p = (A1.heap t).segs.getD j 0 := ⟨_, rfl⟩
        have hpm : p ∈ (A1.heap t).segs := by rw [hpj, List.getD_eq_getElem?_getD, List.getElem?_eq_getElem hjl]; exact List.getElem_mem hjl
        obtain ⟨hp64, hps⟩ := HLIVE.out p hpm
        obtain ⟨sgm, hsgm⟩ := Option.isSome_iff_exists.1 hps
        have hne : (A1.heap t).segs.map L2.sg ≠ [] := by intro e; rw [List.map_eq_nil_iff] at e; rw [e] at hjl; simp at hjl
        obtain ⟨g, cur, hsa, hg1, hblk, hcur⟩ := HCUR.out hne
        subst hsa
        have hgb : g ≠ bs := by
          obtain ⟨cs, hcs, _⟩ := (HS2.out.rep.quiet HO3.out).sysblk
          rw [HE2.out.2.2] at hcs
          exact hblk.ne_ hcs (by decide)
        have cj : wr.cell? ⟨g, j, none⟩ = some (.pointer (some ⟨L2.sg p, 0, none⟩)) := by
          refine ((hblk.only ho hgb).cell j).trans ((hcur j (by simpa using hjl)).trans ?_)
          rw [hpj]
          simp [List.getD_eq_getElem?_getD, List.getElem?_eq_getElem hjl]
        have HPL : Hid (∀ wx, Rep wx L2 { A1 with sy := A1.sy.know ((A1.heap t).segs.take j) } → Calls Tryz.prog 100 #[.pointer (some ⟨L2.sg p, 0, none⟩)] wx fun e w' => e = .returned (.int .i64 p) ∧ wx = w') := Lib.hid fun wx hx => seg_Place _ _ _ wx (hx.all (.seg p) sgm hsgm)
        obtain ⟨cs, hcs, hc⟩ := hst3.rep.sysblk
        rw [HE2.out.2.2] at hcs
        obtain ⟨o1, ho1, _⟩ := hc.sg p hp64
        have f1 := hcs.frozen (142 + p)
        have q1 : wr.cell? ⟨bs, 142 + p, none⟩ = some (ownV o1) := (hcs.cell _).trans ho1
        have hp2 : (p : Int) < 64 := by omega
        have hp3 : (0 : Int) ≤ p := by omega
        have HNX : Hid (Ste w L A (wr.drew.setCell ⟨bs, 142 + p, none⟩ (.pointer (some ⟨L2.sg p, 0, none⟩))) L2 { A1 with sy := A1.sy.know ((A1.heap t).segs.take (j + 1)) }) := Lib.hid (by
          have h1 := hst3.quiet_right ((Only.refl Nobody wr).drew)
          have h2 := Ste.sys1 h1.rep (by rw [HE2.out.2.2]; exact hcs.drew.set_ (142 + p) (ptrV (L2.sg p))) (hc.setKn p hp64) (by rw [HE2.out.2.2]; exact Only.setAt (S := fun x => x = bs) (Only.refl _ _) (show bs = bs from rfl) _ _)
          have e : (A1.heap t).segs.take (j + 1) = (A1.heap t).segs.take j ++ [p] := by
            rw [List.take_succ_eq_append_getElem hjl, hpj, List.getD_eq_getElem?_getD, List.getElem?_eq_getElem hjl]; rfl
          rw [e, ← Sy.know_snoc]
          exact h1.trans h2)
        have HFZ : Hid ((wr.drew.setCell ⟨bs, 142 + p, none⟩ (.pointer (some ⟨L2.sg p, 0, none⟩))).frozen? ⟨bs, 142 + p, none⟩ = false) := Lib.hid ((hcs.drew.set_ (142 + p) (ptrV (L2.sg p))).frozen _)
        have HONX := Lib.hid (Only.setAt (S := fun x => x = bs) (ho.drew) (show bs = bs from rfl) (142 + p) (.pointer (some ⟨L2.sg p, 0, none⟩)))
        generalize hbsg : L2.sg p = bsg at *
        clear hst3 ho hpj hpm hps hsgm hne hblk hcur hcs hc ho1 hgb hg1 hbsg hjl e5
        go_wp2
        go_region_held3 (fun w' => w'.cell? ⟨bf, 0, none⟩ = some (.pointer (some ⟨bs, 0, none⟩)) ∧ w'.frozen? ⟨bs, 142 + p, none⟩ = false) (first | exact ⟨e0, f1⟩ | exact ⟨(HC1.out _ _ _ HNX.out.rep rfl HE2.out.1 HE2.out.2.1 HE2.out.2.2).1, HFZ.out⟩) (first | (go_at_call 100; refine (HPL.out _ (HST3.out.rep.quiet ((Only.refl _ _).drew))).mono ?_; rintro e w4 ⟨rfl, rfl⟩))
        go_wp2
        exact ⟨⟨j + 1, by omega, by go_num, HNX.out, HONX.out⟩, by show n - (intOf (Value.int IntKind.i64 ((j : Int) + 1))).toNat < n - (intOf (Value.int IntKind.i64 (j : Int))).toNat; simp [intOf]; omega⟩
      · obtain rfl : j = n := by omega
        have HFIN : Hid (Ste w L A wr L2 (A1.know t)) := Lib.hid (by
          rw [HN.out, List.take_length] at hst3; exact hst3)
        clear hst3 ho e0 e5
        go_wp2
        go_ret
        exact ⟨L2, rfl, HFIN.out⟩

set_option maxRecDepth 100000 in
set_option maxHeartbeats 4000000 in
theorem step_find {A A1 : St} {i : Bool} {t : Nat} {F F1 : Fr} (hF : A.fr i t = some F) (ht : t < 8) (hst : F.st = ⟨#[102, 105, 110, 100]⟩) (hsteps : F.r.steps < 1000000000000)
    (hH : SysCalls 127 (fun L => #[ptrV (L.fr i t)]) (A.setFr i t F.tick) (fun _ => .tuple #[]) A1) (hF1 : A1.fr i t = some F1) (hlive : ∀ p, p ∈ (A1.heap t).segs → p < 64 ∧ (A1.seg p).isSome) :
    SysCalls 76 (fun L => #[ptrV (L.fr i t)]) A (fun _ => .bool true) (A1.know t) := by
  intro w L h
  obtain ⟨s0, o0, hb0, hs0, ho0⟩ := (h.fr hF).blk
  have HDN : Hid (Calls Tryz.prog 77 #[.pointer (some ⟨L.fr i t, 0, none⟩)] w fun x w' => x = .returned (.bool false) ∧ w = w') := Lib.hid (by
    have := fr_Done (L.fr i t) _ w hb0
    rw [show (frM L t F (L.fl i t) (ownV s0) (ownV o0)).state = ⟨#[102, 105, 110, 100]⟩ from hst, show isDone ⟨#[102, 105, 110, 100]⟩ = false from by kernel_rfl] at this
    exact this)
  have c23 : w.cell? ⟨L.fr i t, 23, none⟩ = some (.int .i64 F.r.steps) := hb0.cell 23
  have f23 : w.frozen? ⟨L.fr i t, 23, none⟩ = false := hb0.frozen 23
  have hS0 : Ste w L A (w.setCell ⟨L.fr i t, 23, none⟩ (.int .i64 ((F.r.steps : Int) + 1))) L (A.setFr i t F.tick) :=
    Ste.fr1 (F' := F.tick) h hF rfl hs0 ho0 (hb0.set_ 23 (.int .i64 ((F.r.steps : Int) + 1))) (Only.setAt (S := fun x => x = L.fr i t) (Only.refl _ _) (show L.fr i t = L.fr i t from rfl) _ _)
  have HS0 := Lib.hid hS0
  have c16 : (w.setCell ⟨L.fr i t, 23, none⟩ (.int .i64 ((F.r.steps : Int) + 1))).cell? ⟨L.fr i t, 16, none⟩ = some (.string ⟨#[102, 105, 110, 100]⟩) := by
    have := (hS0.rep.frc (F := F.tick) (updF_same _ _ _ _)).c16
    rw [this]; show some (Value.string F.st) = _; rw [hst]
  have HHD : Hid (∀ w1, Rep w1 L (A.setFr i t F.tick) → Calls Tryz.prog 127 #[.pointer (some ⟨L.fr i t, 0, none⟩)] w1 fun e w' => ∃ L', e = .returned (.tuple #[]) ∧ Ste w1 L (A.setFr i t F.tick) w' L' A1) := Lib.hid fun w1 h1 => hH w1 L h1
  have HC1 : Hid (∀ w1 L1 A', Rep w1 L1 A' → A'.fr = A1.fr → L1.fr i t = L.fr i t → L1.hp t = L.hp t → L1.bs = L.bs → w1.cell? ⟨L.fr i t, 0, none⟩ = some (.pointer (some ⟨L.bs, 0, none⟩)) ∧ w1.cell? ⟨L.fr i t, 5, none⟩ = some (.pointer (some ⟨L.hp t, 0, none⟩))) := Lib.hid fun w1 L1 A' h1 ea e1 e2 e3 => by
    have := h1.frc (i := i) (t := t) (by rw [ea]; exact hF1)
    rw [e1, e2, e3] at this
    exact ⟨this.c0, this.c5⟩
  have HSG : Hid (∀ w1 L1, Rep w1 L1 A1 → L1.hp t = L.hp t → Calls Tryz.prog 96 #[.pointer (some ⟨L.hp t, 0, none⟩)] w1 fun e w' => ∃ v', e = .returned v' ∧ w'.ownsRow w1.heap.size 98 1 v' ((A1.heap t).segs.map L1.sg).length (((A1.heap t).segs.map L1.sg).map ptrV) ∧ Only Nobody w1 w') := Lib.hid fun w1 L1 h1 e1 => by
    rw [← e1]; exact heap_Segs _ _ _ _ w1 (h1.hap t ht)
  have HLIVE := Lib.hid hlive
  have HST := Lib.hid hst
  have HREP := Lib.hid h
  have HF1 := Lib.hid hF1
  show Calls _ _ #[.pointer (some ⟨L.fr i t, 0, none⟩)] w _
  obtain ⟨bf, hbf⟩ : ∃ x, x = L.fr i t := ⟨_, rfl⟩
  obtain ⟨bs, hbs⟩ : ∃ x, x = L.bs := ⟨_, rfl⟩
  obtain ⟨bh, hbh⟩ : ∃ x, x = L.hp t := ⟨_, rfl⟩
  have HBF := Lib.hid hbf
  have HBS := Lib.hid hbs
  have HBH := Lib.hid hbh
  rw [← hbf] at HDN c23 f23 HS0 c16 HHD HC1 ⊢
  rw [← hbs] at HC1
  rw [← hbh] at HC1 HSG
  generalize F.r.steps = stp at *
  clear h hF hst hH hF1 hlive hb0 hs0 ho0 hS0 hbf hbs hbh
  go_enter Tryz.func76, Tryz.ntmps76
  go_wp2_with (first | (go_at_call 77; refine HDN.out.mono ?_; rintro e w1 ⟨rfl, rfl⟩))
  generalize hw0 : w.setCell ⟨bf, 23, none⟩ (.int .i64 ((stp : Int) + 1)) = w0 at *
  clear hw0 c23 f23
  have HC16 : Hid (∀ wx, Only Nobody w0 wx → wx.cell? ⟨bf, 16, none⟩ = some (.string ⟨#[102, 105, 110, 100]⟩)) := Lib.hid fun wx ho => by
    obtain ⟨s0, o0, hb0, _⟩ := ((HS0.out.rep.quiet ho).fr (F := F.tick) (updF_same _ _ _ _)).blk
    rw [← HBF.out] at hb0
    exact (hb0.cell 16).trans (by show some (Value.string F.st) = _; rw [HST.out])
  have HSTP : Hid (∀ wa, Only Nobody w0 wa → Calls Tryz.prog 99 #[] wa fun e wx => ∃ mb, e = .returned (.map (some mb)) ∧ wx.cell? ⟨bf, 16, none⟩ = some (.string ⟨#[102, 105, 110, 100]⟩) ∧ (Instr.lookup 204 (.map (some mb)) (.string ⟨#[102, 105, 110, 100]⟩) false).run Tryz.prog wx = .ok (.func (.func 127) #[] #[]) wx ∧ Only Nobody w0 wx) := Lib.hid fun wa ho => by
    refine (call_steps wa).mono ?_
    rintro e wx ⟨rfl, rfl⟩
    exact ⟨_, rfl, HC16.out _ (ho.alloc _), run_lookup _ _ 14 _ _ (heap_alloc_new wa _) (by kernel_rfl), ho.alloc _⟩
  go_region_with (first | (go_at_call 99; refine (HSTP.out _ ((Only.refl _ w0).drew)).mono ?_; rintro e wx ⟨mb, rfl, c16a, hlk, hox⟩; have HOX := Lib.hid hox; clear hox) | (go_at_call 127; refine (HHD.out _ (HS0.out.rep.quiet HOX.out)).mono ?_; rintro e w2 ⟨L2, rfl, hst2⟩; have HS2 := Lib.hid ((HS0.out.quiet_right HOX.out).trans hst2); clear hst2))
  all_goals
    have HE2 := Lib.hid (And.intro ((congrFun (congrFun HS2.out.fix.fr i) t).trans HBF.out.symm) (And.intro ((congrFun HS2.out.fix.hp t).trans HBH.out.symm) (HS2.out.fix.bs.trans HBS.out.symm)))
    have HX2 := Lib.hid (HC1.out _ _ _ HS2.out.rep rfl HE2.out.1 HE2.out.2.1 HE2.out.2.2)
    have d5 := HX2.out.2
    have HSG2 := Lib.hid (HSG.out _ _ HS2.out.rep HE2.out.2.1)
    obtain ⟨n, hnn⟩ : ∃ n, n = (A1.heap t).segs.length := ⟨_, rfl⟩
    have hn64 : n ≤ 64 := by have := (HS2.out.rep.hap t ht).few; rw [hnn]; simpa using this
    have HN := Lib.hid hnn
    clear hnn
    clear c16 c16a hlk
    go_wp2_with (first | (go_at_call 96; refine HSG2.out.mono ?_; rintro e w3 ⟨v', rfl, hr, ho⟩; obtain ⟨sa, scap, hv, hcur⟩ := segs_blk hr; rw [List.length_map, ← HN.out] at hv; subst hv; have HO3 := Lib.hid ho; have HCUR := Lib.hid hcur; clear hr ho hcur d5))
    go_loopw [4, 30] (fun _ i wr => ∃ j : Nat, j ≤ n ∧ i = .int .i64 j ∧ Ste w L A wr L2 { A1 with sy := A1.sy.know ((A1.heap t).segs.take j) } ∧ Only (fun x => x = bs) w3 wr) (fun _ i _ => n - (intOf i).toNat)
    case atStart => exact ⟨0, by omega, rfl, by have := HS2.out.quiet_right HO3.out; have e : A1.sy.know ((A1.heap t).segs.take 0) = A1.sy := by unfold Sy.know; simp
                                                rw [e]; exact this, Only.refl _ _⟩
    case round =>
      obtain ⟨j, hj, rfl, hst3, ho⟩ := hrel
      have HST3 := Lib.hid hst3
      have HOW := Lib.hid ho
      have HX3 := Lib.hid (HC1.out _ _ _ hst3.rep rfl HE2.out.1 HE2.out.2.1 HE2.out.2.2)
      obtain ⟨e0, e5⟩ := HX3.out
      by_cases hlt : j < n
      · have hjl : j < (A1.heap t).segs.length := by rw [← HN.out]; exact hlt
        obtain ⟨p, hpj⟩ : ∃ p, p = (A1.heap t).segs.getD j 0 := ⟨_, rfl⟩
        have hpm : p ∈ (A1.heap t).segs := by rw [hpj, List.getD_eq_getElem?_getD, List.getElem?_eq_getElem hjl]; exact List.getElem_mem hjl
        obtain ⟨hp64, hps⟩ := HLIVE.out p hpm
        obtain ⟨sgm, hsgm⟩ := Option.isSome_iff_exists.1 hps
        have hne : (A1.heap t).segs.map L2.sg ≠ [] := by intro e; rw [List.map_eq_nil_iff] at e; rw [e] at hjl; simp at hjl
        obtain ⟨g, cur, hsa, hg1, hblk, hcur⟩ := HCUR.out hne
        subst hsa
        have hgb : g ≠ bs := by
          obtain ⟨cs, hcs, _⟩ := (HS2.out.rep.quiet HO3.out).sysblk
          rw [HE2.out.2.2] at hcs
          exact hblk.ne_ hcs (by decide)
        have cj : wr.cell? ⟨g, j, none⟩ = some (.pointer (some ⟨L2.sg p, 0, none⟩)) := by
          refine ((hblk.only ho hgb).cell j).trans ((hcur j (by simpa using hjl)).trans ?_)
          rw [hpj]
          simp [List.getD_eq_getElem?_getD, List.getElem?_eq_getElem hjl]
        have HPL : Hid (∀ wx, Rep wx L2 { A1 with sy := A1.sy.know ((A1.heap t).segs.take j) } → Calls Tryz.prog 100 #[.pointer (some ⟨L2.sg p, 0, none⟩)] wx fun e w' => e = .returned (.int .i64 p) ∧ wx = w') := Lib.hid fun wx hx => seg_Place _ _ _ wx (hx.all (.seg p) sgm hsgm)
        obtain ⟨cs, hcs, hc⟩ := hst3.rep.sysblk
        rw [HE2.out.2.2] at hcs
        obtain ⟨o1, ho1, _⟩ := hc.sg p hp64
        have f1 := hcs.frozen (142 + p)
        have q1 : wr.cell? ⟨bs, 142 + p, none⟩ = some (ownV o1) := (hcs.cell _).trans ho1
        have hp2 : (p : Int) < 64 := by omega
        have hp3 : (0 : Int) ≤ p := by omega
        have HNX : Hid (Ste w L A (wr.drew.setCell ⟨bs, 142 + p, none⟩ (.pointer (some ⟨L2.sg p, 0, none⟩))) L2 { A1 with sy := A1.sy.know ((A1.heap t).segs.take (j + 1)) }) := Lib.hid (by
          have h1 := hst3.quiet_right ((Only.refl Nobody wr).drew)
          have h2 := Ste.sys1 h1.rep (by rw [HE2.out.2.2]; exact hcs.drew.set_ (142 + p) (ptrV (L2.sg p))) (hc.setKn p hp64) (by rw [HE2.out.2.2]; exact Only.setAt (S := fun x => x = bs) (Only.refl _ _) (show bs = bs from rfl) _ _)
          have e : (A1.heap t).segs.take (j + 1) = (A1.heap t).segs.take j ++ [p] := by
            rw [List.take_succ_eq_append_getElem hjl, hpj, List.getD_eq_getElem?_getD, List.getElem?_eq_getElem hjl]; rfl
          rw [e, ← Sy.know_snoc]
          exact h1.trans h2)
        have HFZ : Hid ((wr.drew.setCell ⟨bs, 142 + p, none⟩ (.pointer (some ⟨L2.sg p, 0, none⟩))).frozen? ⟨bs, 142 + p, none⟩ = false) := Lib.hid ((hcs.drew.set_ (142 + p) (ptrV (L2.sg p))).frozen _)
        have HONX := Lib.hid (Only.setAt (S := fun x => x = bs) (ho.drew) (show bs = bs from rfl) (142 + p) (.pointer (some ⟨L2.sg p, 0, none⟩)))
        generalize hbsg : L2.sg p = bsg at *
        clear hst3 ho hpj hpm hps hsgm hne hblk hcur hcs hc ho1 hgb hg1 hbsg hjl e5
        go_wp2
        go_region_held3 (fun w' => w'.cell? ⟨bf, 0, none⟩ = some (.pointer (some ⟨bs, 0, none⟩)) ∧ w'.frozen? ⟨bs, 142 + p, none⟩ = false) (first | exact ⟨e0, f1⟩ | exact ⟨(HC1.out _ _ _ HNX.out.rep rfl HE2.out.1 HE2.out.2.1 HE2.out.2.2).1, HFZ.out⟩) (first | (go_at_call 100; refine (HPL.out _ (HST3.out.rep.quiet ((Only.refl _ _).drew))).mono ?_; rintro e w4 ⟨rfl, rfl⟩))
        go_wp2
        exact ⟨⟨j + 1, by omega, by go_num, HNX.out, HONX.out⟩, by show n - (intOf (Value.int IntKind.i64 ((j : Int) + 1))).toNat < n - (intOf (Value.int IntKind.i64 (j : Int))).toNat; simp [intOf]; omega⟩
      · obtain rfl : j = n := by omega
        have HFIN : Hid (Ste w L A wr L2 (A1.know t)) := Lib.hid (by
          rw [HN.out, List.take_length] at hst3; exact hst3)
        clear hst3 ho e0 e5
        go_wp2
        go_ret
        exact ⟨L2, rfl, HFIN.out⟩
end Go.Proofs.YtfplalgoopkmaaaGreat
