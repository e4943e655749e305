/- A world with one page: a block more, a refusal, a block back. Layer 19's statements: the document's example; a user anew. Layer 19's statements: a user of a world anew. Conditions: none. -/
import Derived.Test.YtfplalgoopkmaaaGreatPart42

set_option linter.unusedVariables false
set_option linter.unusedSimpArgs false

namespace Go.Proofs.YtfplalgoopkmaaaGreat
open Go.RowKit

section
variable {A : St} {n used : Nat} {free : List Nat} {led : List Ent}
/-- Entries that rise, and end before an address. -/
def LedUp (led : List Ent) (a : Nat) : Prop := Rising (led.map entKey) ∧ led.length ≤ 900 ∧ ∀ x ∈ led, entEnd x ≤ a
theorem One.malloc8 {a : Nat} {r : List Nat} (h : One A n used (a :: r) led) (hl : LedUp led a) :
    ∃ C, Done 0 (cMalloc 8) A ⟨a, 0, 1⟩ C ∧ One C n (used + 1) r (led ++ [⟨a, 8, 1, false⟩]) := by
  have hbeg := begun_malloc (A := A) (t := 0) (c := cMalloc 8) rfl (by show 8 < 18446744073709551616; omega) (by show 1 < 18446744073709551616; omega) h.up.ht h.up.up (by rw [h.fr]) (by rw [h.fr])
  rw [show mallocPlan (cMalloc 8).n (cMalloc 8).align = some ⟨0, 1, 0, 16⟩ from plan8] at hbeg
  rw [show (some (⟨0, 1, 0, 16⟩ : Plan)).getD zeroPlan = ⟨0, 1, 0, 16⟩ from rfl, show mallocState (some ⟨0, 1, 0, 16⟩) = sLocal from rfl, Bare.call_eq] at hbeg
  have hask := asks_th A 0 (cMalloc 8)
  obtain ⟨g, hg0⟩ : ∃ g : Pg, g = ⟨0, 1, 16, 64, 4, used, a :: r, [], [], 0, 0⟩ := ⟨_, rfl⟩
  have hpg := h.pg
  rw [← hg0] at hpg
  have hgood := (h.sp.pg 17 g hpg).1
  have hmem := hgood.mem_lt (a := a) (.inl (by rw [hg0]; simp))
  have hsz : g.size = 16 := by rw [hg0]
  rw [hsz] at hmem
  have hpa : pgAlloc A.f 17 g = (some a, { g with free := r, used := used + 1 }, A.f) := by rw [hg0]; rfl
  have hBsp : SP (A.asks 0 (cMalloc 8)) := h.sp.eq rfl rfl rfl rfl
  have hBhp : HP (A.asks 0 (cMalloc 8)) 0 := h.hp.eq rfl rfl rfl
  have hBup : Up1 (A.asks 0 (cMalloc 8)) 0 := ⟨h.up.t8, h.up.ht, by rw [hask]; exact h.up.up⟩
  have hloc : (A.asks 0 (cMalloc 8)).local_ 0 0 = (a, 0, (A.asks 0 (cMalloc 8)).setPage 17 { g with free := r, used := used + 1 } A.f) := by
    show St.localGo 0 0 ((A.heap 0).L 0) (A.asks 0 (cMalloc 8)) = _
    rw [h.L]
    have e1 : (A.asks 0 (cMalloc 8)).page 17 = some g := hpg
    have e2 : pgAlloc (A.asks 0 (cMalloc 8)).f 17 g = (some a, { g with free := r, used := used + 1 }, A.f) := hpa
    unfold St.localGo
    rw [e1]
    dsimp only
    rw [e2]
  have hC1 := hBsp.give_out (k := 17) (a := a) (p' := { g with free := r, used := used + 1 }) (f' := A.f) hpg hpa
  have hC2 := hBhp.setPage (k := 17) (p' := { g with free := r, used := used + 1 }) (f' := A.f) hpg rfl
  obtain ⟨D, hD⟩ : ∃ D, D = (A.asks 0 (cMalloc 8)).setPage 17 { g with free := r, used := used + 1 } A.f := ⟨_, rfl⟩
  rw [← hD] at hloc hC1 hC2
  have hn64 := h.n64
  have hnn := h.nn
  have hfill : ∀ f, (Fr.new (cMalloc 8) ⟨0, 1, 0, 16⟩ sLocal).fills a 0 f = f := fun f => by
    unfold Fr.fills
    rw [if_neg (by intro h; cases h.2.1)]
  have hDwl : D.wl = (A.asks 0 (cMalloc 8)).wl := by rw [hD]; rfl
  have hDth : D.wl.th 0 = (A.wl.th 0).ask (cMalloc 8) := by rw [hDwl]; exact hask
  have hDled : D.wl.led = led := by rw [hDwl]; exact h.led
  have w0 := ws_local_ok (B := A.asks 0 (cMalloc 8)) (F := Fr.new (cMalloc 8) ⟨0, 1, 0, 16⟩ sLocal) (A2 := (D.know 0).wrote 0 ⟨a, 0, 1⟩ ⟨a, 8, 1, false⟩) hBup rfl (by show 0 < 1000000000000; omega) 0 (by omega) rfl hBsp hBhp (by rw [hloc]) (by
      rw [hloc]
      show a + 16 ≤ A.n * 16384 ∧ a < A.n * 16384
      omega) (by rw [hloc]; exact hDwl) (by rw [hloc]; exact hC2.liveOK hC1) (by
    rw [hloc]
    show EndOK 0 (({ D with f := (Fr.new (cMalloc 8) ⟨0, 1, 0, 16⟩ sLocal).fills a 0 D.f }.know 0).uncall 0 ⟨a, 0, 1⟩) _
    rw [hfill]
    refine end_wrote (X := D.know 0) (r := ⟨a, 0, 1⟩) (e := ⟨a, 8, 1, false⟩) (by show 0 < D.wl.nth; rw [hDwl]; exact h.up.ht) (by show (D.wl.th 0).asked.kind = 1; rw [hDth]) rfl (by show _ = (⟨a, (D.wl.th 0).asked.n, max (D.wl.th 0).asked.align 1, false⟩ : Ent); rw [hDth]; rfl) (by show Rising (D.wl.led.map entKey); rw [hDled]; exact hl.1) (by show D.wl.led.length ≤ 980; rw [hDled]; have := hl.2.1; omega) (by show 8 ≤ 1048576; omega) (by show a + 8 ≤ 1048576; omega) pw2_one (by show 1 ≤ 1024; omega) (by show a &&& 0 = 0; exact Nat.and_zero a) (by intro x hx; have hx2 : x ∈ D.wl.led := hx; rw [hDled] at hx2; exact hl.2.2 x hx2))
  have hth : ((D.know 0).wrote 0 ⟨a, 0, 1⟩ ⟨a, 8, 1, false⟩).wl.th 0 = ((A.wl.th 0).ask (cMalloc 8)).told ⟨a, 0, 1⟩ := by
    show upd D.wl.th 0 ((D.wl.th 0).told ⟨a, 0, 1⟩) 0 = _
    rw [upd_same, hDth]
  have hfr : ((D.know 0).wrote 0 ⟨a, 0, 1⟩ ⟨a, 8, 1, false⟩).fr = fun _ _ => none := by
    show updF D.fr false 0 none = _
    have : D.fr = fun _ _ => none := by rw [hD]; exact h.fr
    rw [this]; exact updF_id rfl
  refine ⟨(D.know 0).wrote 0 ⟨a, 0, 1⟩ ⟨a, 8, 1, false⟩, Done.of (k := 0) hbeg (.cons (by rw [setFr_same]; rfl) w0 (by show D.wl.nth = _; rw [hDwl]; rfl) (.nil (by rw [hfr]))) (by show A.n ≤ 64; omega) (many _ _ (by omega)) h.up.ht (by rw [hth]) (by rw [hth]), ?_⟩
  refine ⟨h.n64, by rw [hD]; exact h.nn, hC1.eq rfl rfl rfl rfl, hC2.eq rfl rfl rfl, by rw [hD]; exact h.L, by rw [hD]; exact h.segs, ?_, by rw [hD]; exact h.regs, by rw [hD]; exact h.huge, ?_, by rw [hD]; exact h.seg, ⟨by omega, by show 0 < D.wl.nth; rw [hDwl]; exact h.up.ht, by rw [hth]; exact h.up.up⟩, hfr, ?_⟩
  · have hDp : D.page 17 = some { g with free := r, used := used + 1 } := by
      rw [hD]
      show upd A.page 17 (some { g with free := r, used := used + 1 }) 17 = _
      exact upd_same _ _ _
    show D.page 17 = _
    rw [hDp, hg0]
  · rw [hD]
    show (decide (1 ∈ (A.heap 0).segs) || A.sy.kn 1) = true
    rw [h.kn, Bool.or_true]
  · show D.wl.led ++ _ = _
    rw [hDled]

theorem One.refuse (h : One A n used free led) : ∃ C, Done 0 (cMalloc 1099511627776) A ⟨0, 2, 1⟩ C ∧ One C n used free led := by
  have hd := refused (A := A) (t := 0) (c := cMalloc 1099511627776) h.up (h.hp.liveOK h.sp) (by rw [h.nn]; exact h.n64) (by rw [h.fr]) (by rw [h.fr]) rfl (by show 1099511627776 < 18446744073709551616; omega) (by show 1 < 18446744073709551616; omega) planMuch
  have hth : (((A.asks 0 (cMalloc 1099511627776)).know 0).uncall 0 ⟨0, 2, 1⟩).wl.th 0 = ((A.wl.th 0).ask (cMalloc 1099511627776)).told ⟨0, 2, 1⟩ := by
    show upd (A.asks 0 (cMalloc 1099511627776)).wl.th 0 (((A.asks 0 (cMalloc 1099511627776)).wl.th 0).told ⟨0, 2, 1⟩) 0 = _
    rw [upd_same, asks_th]
  refine ⟨_, hd, h.n64, h.nn, h.sp.eq rfl rfl rfl rfl, h.hp.eq rfl rfl rfl, h.L, h.segs, h.pg, h.regs, h.huge, ?_, h.seg, ⟨by omega, h.up.ht, by rw [hth]; exact h.up.up⟩, ?_, h.led⟩
  · show (decide (1 ∈ (A.heap 0).segs) || A.sy.kn 1) = true
    rw [h.kn, Bool.or_true]
  · show updF A.fr false 0 none = _
    rw [h.fr]; exact updF_id rfl

/-- What is left behind: what is handed out, and that the thread may call. -/
structure Left (A : St) (led : List Ent) : Prop where
  up : Up1 A 0
  fr : A.fr = fun _ _ => none
  led : A.wl.led = led
theorem One.free8 {a i : Nat} (h : One A n used free led) (hu : 2 ≤ used) (hi : led[i]? = some ⟨a, 8, 1, false⟩) (hb : ∃ j, j < 4 ∧ a = 17408 + j * 16) (hr : Rising (led.map entKey)) (hf : led.length ≤ 900) :
    ∃ C, Done 0 (cFree a) A ⟨0, 0, 1⟩ C ∧ Left C (led.eraseIdx i) := by
  obtain ⟨j, hj, rfl⟩ := hb
  have hled := h.led
  have hbeg := begun_free (A := A) (t := 0) (i := i) (E := ⟨17408 + j * 16, 8, 1, false⟩) (c := cFree (17408 + j * 16)) rfl (by rw [hled]; exact hr) (by rw [hled]; omega) (by rw [hled]; exact hi) rfl rfl (by show 17408 + j * 16 < 18446744073709551616; omega) h.up.ht h.up.up (by rw [h.fr]) (by rw [h.fr])
  obtain ⟨l2, hl2⟩ : ∃ l, l = A.wl.led.set i (entHeld ⟨17408 + j * 16, 8, 1, false⟩ true) := ⟨_, rfl⟩
  rw [← hl2] at hbeg
  have hil : i < led.length := (List.getElem?_eq_some_iff.1 hi).1
  have hl2i : l2[i]? = some ⟨17408 + j * 16, 8, 1, true⟩ := by rw [hl2, hled, List.getElem?_set_self hil]
  have hkeys : l2.map entKey = led.map entKey := by
    rw [hl2, hled, List.map_set]
    have : (led.map entKey)[i]? = some (17408 + j * 16, 8) := by rw [List.getElem?_map, hi]; rfl
    refine List.ext_getElem? fun m => ?_
    by_cases e : m = i
    · subst e
      rw [List.getElem?_set_self (by simpa using hil), this]
    · rw [List.getElem?_set_ne (fun x => e x.symm)]
  have her : l2.eraseIdx i = led.eraseIdx i := by
    rw [hl2, hled]
    refine List.ext_getElem? fun m => ?_
    rw [List.getElem?_eraseIdx, List.getElem?_eraseIdx]
    split
    · rw [List.getElem?_set_ne (by omega)]
    · rw [List.getElem?_set_ne (by omega)]
  have hlen2 : l2.length = led.length := by rw [hl2, hled]; simp
  obtain ⟨B, hB⟩ : ∃ B, B = (A.setWl (A.wl.setLed l2)).asks 0 (cFree (17408 + j * 16)) := ⟨_, rfl⟩
  rw [show (A.setWl (A.wl.setLed l2)).call 0 (Fr.new (cFree (17408 + j * 16)) zeroPlan sFind) = ((A.setWl (A.wl.setLed l2)).asks 0 (cFree (17408 + j * 16))).setFr false 0 (Fr.new (cFree (17408 + j * 16)) zeroPlan sFind) from rfl, ← hB] at hbeg
  have hask : B.wl.th 0 = (A.wl.th 0).ask (cFree (17408 + j * 16)) := by rw [hB]; exact asks_th (A.setWl (A.wl.setLed l2)) 0 _
  have hBup : Up1 B 0 := ⟨by omega, by rw [hB]; exact h.up.ht, by rw [hask]; exact h.up.up⟩
  have hBsp : SP B := h.sp.eq (by rw [hB]) (by rw [hB]) (by rw [hB]) (by rw [hB])
  have hBhp : HP B 0 := h.hp.eq (by rw [hB]) (by rw [hB]) (by rw [hB])
  obtain ⟨g, hg0⟩ : ∃ g : Pg, g = ⟨0, 1, 16, 64, 4, used, free, [], [], 0, 0⟩ := ⟨_, rfl⟩
  have hpg : B.page 17 = some g := by rw [hB, hg0]; exact h.pg
  obtain ⟨s, hs, how, hoa⟩ := h.seg
  have hsB : B.seg 1 = some s := by rw [hB]; exact hs
  obtain ⟨X, hX⟩ : ∃ X, X = (((B.setSeg 1 { s with oa := s.oa + 1 }).given 0 17 (17408 + j * 16) g).know 0).uncall 0 ⟨0, 0, 1⟩ := ⟨_, rfl⟩
  have hXth : X.wl.th 0 = ((A.wl.th 0).ask (cFree (17408 + j * 16))).told ⟨0, 0, 1⟩ := by
    rw [hX]
    show upd B.wl.th 0 ((B.wl.th 0).told ⟨0, 0, 1⟩) 0 = _
    rw [upd_same, hask]
  have hXled : X.wl.led = l2 := by rw [hX, hB]; rfl
  have hXnth : X.wl.nth = A.wl.nth := by rw [hX, hB]; rfl
  have hXfr : X.fr = fun _ _ => none := by
    rw [hX]
    show updF B.fr false 0 none = _
    have : B.fr = fun _ _ => none := by rw [hB]; exact h.fr
    rw [this]; exact updF_id rfl
  have hE : EndOK 0 X (X.setWl (X.wl.setLed (X.wl.led.eraseIdx i))) := end_drop (e := ⟨17408 + j * 16, 8, 1, true⟩) (by rw [hXnth]; exact h.up.ht) (by rw [hXth]) (by rw [hXled, hkeys]; exact hr) (by rw [hXled, hlen2]; omega) (by rw [hXled]; exact hl2i) (by rw [hXth]) (by show 17408 + j * 16 < 18446744073709551616; omega)
  have hdiv : (17408 + j * 16) / 16384 = 1 := by omega
  have hBn64 := h.n64
  have w0 := ws_find_used (B := B) (F := Fr.new (cFree (17408 + j * 16)) zeroPlan sFind) (k := 17) (g := g) (s := s) (A2 := X.setWl (X.wl.setLed (X.wl.led.eraseIdx i))) hBup rfl (by show 0 < 1000000000000; omega) hpg ⟨j, by rw [hg0]; exact hj, by rw [hg0]; rfl⟩ (by
      show regAt B.ar.regs ((17408 + j * 16) / 16384) = some 1
      rw [hdiv, show B.ar.regs = [(0, 1), (1, 1)] from by rw [hB]; exact h.regs]; rfl) (by
      intro r hr2
      rw [show B.ar.regs = [(0, 1), (1, 1)] from by rw [hB]; exact h.regs] at hr2
      simp at hr2
      rcases hr2 with rfl | rfl <;> exact ⟨by omega, by omega⟩) (by rw [hB]; exact h.huge) (by rw [hB]; exact h.kn) hBsp hBhp hsB (by rw [show (B.heap 0).segs = [1] from by rw [hB]; exact h.segs]; simp) how (by omega) (by rw [hg0]; exact hu) (by show (2 : Int) ≠ 1; omega) (by
      show EndOK 0 ((((B.setSeg 1 { s with oa := s.oa + 1 }).given 0 17 (17408 + j * 16) g).know 0).uncall 0 ⟨0, 0, 1⟩) _
      rw [← hX]; exact hE)
  refine ⟨X.setWl (X.wl.setLed (X.wl.led.eraseIdx i)), Done.of (k := 0) hbeg (.cons (by rw [setFr_same]; rfl) w0 (by show X.wl.nth = B.wl.nth; rw [hXnth, hB]) (.nil (by show X.fr false 0 = none; rw [hXfr]))) (by rw [show (B.setFr false 0 (Fr.new (cFree (17408 + j * 16)) zeroPlan sFind)).n = A.n from by rw [hB]; rfl, h.nn]; exact h.n64) (many _ _ (by omega)) hBup.ht (by show (X.wl.th 0).has = true; rw [hXth]) (by show (X.wl.th 0).res = _; rw [hXth]), ⟨by omega, by show 0 < X.wl.nth; rw [hXnth]; exact h.up.ht, by show (X.wl.th 0).is = 1; rw [hXth]; exact h.up.up⟩, hXfr, ?_⟩
  show X.wl.led.eraseIdx i = _
  rw [hXled, her]
end
end Go.Proofs.YtfplalgoopkmaaaGreat

namespace Go.Proofs.YtfplalgoopkmaaaGreat
open Go.RowKit

/-- The document's example, without Go. -/
theorem alive_way : ∃ C2 C3 C4 C5, Allocs 0 [8, 8] (S1 8 1) [17408, 17424] C2 ∧ (∃ s, Done 0 (cMalloc 8) C2 ⟨17440, 0, s⟩ C3) ∧ Done 0 (cMalloc 1099511627776) C3 ⟨0, 2, 1⟩ C4 ∧ (∃ s, Done 0 (cFree 17440) C4 ⟨0, 0, s⟩ C5) ∧ C5.wl.led = [⟨17408, 8, 1, false⟩, ⟨17424, 8, 1, false⟩] := by
  obtain ⟨B3, s, b1, b2, b3, b4, b5⟩ := (bare_S1 8 1 (by omega) (by omega) (by omega)).first_block (c := cMalloc 8) rfl (by show 0 ≤ 1000; omega) rfl (by show 1 < 18446744073709551616; omega) plan8 rfl
  have o1 := One.of_first (s := s) b1 (by rw [b2]; rfl) (by rw [b4]; rfl)
  obtain ⟨C2, d2, o2⟩ := o1.malloc8 ⟨by simp [Rising], by simp, by intro x hx; simp at hx; subst hx; show 17408 + 8 ≤ 17424; omega⟩
  obtain ⟨C3, d3, o3⟩ := o2.malloc8 ⟨by simp [Rising], by simp, by intro x hx; simp at hx; rcases hx with rfl | rfl; (show 17408 + 8 ≤ 17440; omega); (show 17424 + 8 ≤ 17440; omega)⟩
  obtain ⟨C4, d4, o4⟩ := o3.refuse
  obtain ⟨C5, d5, o5⟩ := o4.free8 (a := 17440) (i := 2) (by omega) rfl ⟨2, by omega, rfl⟩ (by simp [Rising]) (by simp)
  exact ⟨C2, C3, C4, C5, .cons b5 (.cons d2 (.nil _)), ⟨1, d3⟩, d4, ⟨1, d5⟩, o5.led⟩

theorem fresh_foot {w w1 w2 : World} {L L2 : Lay} {A A2 : St} (ho : Only Nobody w w1) (hf : ∀ i x, Foot L A i x → w.heap.size ≤ x) (hr : Run w1 L A w2 L2 A2) : Only Nobody w w2 :=
  ho.trans_new hr.only (fun b hb ⟨i, hi⟩ => by have := hf i b hi; omega)

theorem foot_S1 {L : Lay} {n nth : Nat} {i : Ix} {x : Nat} (h : Foot L (S1 n nth) i x) : Foot L (St.new n n nth) i x := by cases i <;> exact h
theorem not_foot_S1 {w : World} {L : Lay} {n nth b : Nat} (h : Rep w L (St.new n n nth)) (hb : w.heap.size ≤ b) : ∀ i, ¬ Foot L (S1 n nth) i b := fun i hi => by
  have := h.lt (foot_S1 hi); omega
theorem not_foot_new {w : World} {L : Lay} {A : St} (h : Rep w L A) : ∀ i, ¬ Foot L A i w.heap.size := fun i hi => by
  have := h.lt hi; omega

set_option maxRecDepth 100000 in
set_option maxHeartbeats 4000000 in
theorem law_alive (w : World) : Calls Tryz.prog 5 #[] w fun e w' => e = .returned (.bool true) ∧ Only Nobody w w' := by
  obtain ⟨C2, C3, C4, C5, a2, ⟨s3, d3⟩, d4, ⟨s5, d5⟩, hled⟩ := alive_way
  have HW := Lib.hid (world_New 8 8 1 (by omega) (by omega) (by omega) (by omega) (by omega) (by omega) w)
  have HU : Hid (∀ w1 L, Rep w1 L (St.new 8 8 1) → Calls Tryz.prog 13 #[.pointer (some ⟨L.bw, 0, none⟩), .int .i64 0] w1 fun e w' => ∃ bu, e = .returned (.tuple #[.pointer (some ⟨bu, 0, none⟩), .int .i64 0]) ∧ w1.heap.size ≤ bu ∧ UserAt w' bu L 0 ∧ Ste w1 L (St.new 8 8 1) w' L (S1 8 1)) := Lib.hid fun w1 L h => user_New (St.new 8 8 1) 0 w1 L h (by show 0 < 1; omega) rfl rfl
  have HA1 : Hid (∀ w1 L bu bg, Rep w1 L (S1 8 1) → UserAt w1 bu L 0 → (∀ i, ¬ Foot L (S1 8 1) i bu) → Blk w1 bg 22 #[.int .u64 8, .int .u64 8] → (∀ i, ¬ Foot L (S1 8 1) i bg) → Calls Tryz.prog 14 #[.pointer (some ⟨bu, 0, none⟩), .slice (some ⟨bg, 0, none⟩) 2 2] w1 fun e w' => ∃ L' ra rc, e = .returned (.tuple #[.slice ra 2 rc, .int .i64 0]) ∧ Run w1 L (S1 8 1) w' L' C2) := Lib.hid fun w1 L bu bg h hu hun hg hgn => by
    refine (user_Alloc_ok (bg := bg) a2 #[.int .u64 8, .int .u64 8] (some ⟨bg, 0, none⟩) 2 (fun _ => rfl) w1 L h hu hun (fun _ => ⟨hg, hgn, fun j a hj => ?_⟩) (by simp)).mono ?_
    · match j, hj with
      | 0, hj => cases hj; rfl
      | 1, hj => cases hj; rfl
    · rintro e w' ⟨L', v', rfl, hr, hrow, _⟩
      obtain ⟨ra, rc, rfl⟩ := rowShapeN hrow
      exact ⟨L', ra, rc, rfl, hr⟩
  have HA2 : Hid (∀ w1 L bu bg, Rep w1 L C2 → UserAt w1 bu L 0 → (∀ i, ¬ Foot L C2 i bu) → Blk w1 bg 22 #[.int .u64 8, .int .u64 1099511627776] → (∀ i, ¬ Foot L C2 i bg) → Calls Tryz.prog 14 #[.pointer (some ⟨bu, 0, none⟩), .slice (some ⟨bg, 0, none⟩) 2 2] w1 fun e w' => ∃ L', e = .returned (.tuple #[.slice none 0 0, .int .i64 2]) ∧ Run w1 L C2 w' L' C5) := Lib.hid fun w1 L bu bg h hu hun hg hgn =>
    user_Alloc_second d3 d4 (by show (2 : Int) ≠ 0; omega) d5 2 w1 L h hu hun hg hgn
  have HL : Hid (∀ w1 L b, Rep w1 L C5 → L.bw = b → Calls Tryz.prog 8 #[.pointer (some ⟨b, 0, none⟩)] w1 fun e w' => ∃ ra rc, e = .returned (.slice ra 2 rc) ∧ Only Nobody w1 w') := Lib.hid fun w1 L b h hb => by
    rw [← hb]
    refine (world_Live C5 w1 L h (by rw [hled]; simp [Rising]) (by rw [hled]; simp)).mono ?_
    rintro e w' ⟨v', rfl, hrow, ho⟩
    obtain ⟨ra, rc, rfl⟩ := rowShapeN hrow
    exact ⟨ra, rc, by rw [hled]; rfl, ho⟩
  have HN : Hid (∀ w1 ga, Calls Tryz.prog 14 #[.pointer none, .slice ga 1 1] w1 fun e w' => e = .returned (.tuple #[.slice none 0 0, .int .i64 1]) ∧ w1 = w') := Lib.hid fun w1 ga => user_Alloc_nil ga 1 1 w1
  clear a2 d3 d4 d5 hled
  go_enter Tryz.func5, Tryz.ntmps5
  go_wp2_with (first | (go_at_call 12; refine HW.out.mono ?_; rintro e w1 ⟨L, rfl, hrep, ho, hf⟩; have HREP := Lib.hid hrep; have HO := Lib.hid ho; have HF := Lib.hid hf; clear hrep ho hf HW) | (go_at_call 13; refine (HU.out _ _ HREP.out).mono ?_; rintro e w2 ⟨bu, rfl, hbu, hua, hst⟩; have HR2 := Lib.hid hst.run; have HUA := Lib.hid hua; have HUN := Lib.hid (not_foot_S1 HREP.out hbu); clear hst hua hbu HU) | (go_at_call 14; refine (HA1.out _ L bu w2.heap.size (HR2.out.rep.quiet ((Only.refl _ w2).alloc _)) (HUA.out.alloc _) HUN.out (Blk.new w2 _ _) (not_foot_new HR2.out.rep)).mono ?_; rintro e w3 ⟨L3, ra, rc, rfl, hr3⟩; have HR3 := Lib.hid (HR2.out.trans (hr3.quiet_left ((Only.refl _ w2).alloc _) HR2.out.rep)); have HUA3 := Lib.hid (UserAt.keep (HUA.out.alloc _) hr3 HUN.out); have HUN3 := Lib.hid ((hr3.keep (HUA.out.alloc _) HUN.out).2); clear hr3 HA1) | (go_at_call 14; refine (HA2.out _ L3 bu w3.heap.size (HR3.out.rep.quiet ((Only.refl _ w3).alloc _)) (HUA3.out.alloc _) HUN3.out (Blk.new w3 _ _) (not_foot_new HR3.out.rep)).mono ?_; rintro e w4 ⟨L4, rfl, hr4⟩; have HR4 := Lib.hid (HR3.out.trans (hr4.quiet_left ((Only.refl _ w3).alloc _) HR3.out.rep)); clear hr4 HA2) | (go_at_call 14; refine (HN.out _ _).mono ?_; rintro e w5 ⟨rfl, rfl⟩) | (go_at_call 8; refine (HL.out _ L4 L.bw (HR4.out.rep.quiet ((Only.refl _ w4).alloc _)) HR4.out.fix.bw).mono ?_; rintro e w6 ⟨rb, rd, rfl, ho6⟩; have HO6 := Lib.hid ho6; clear ho6))
  go_ret
  exact ⟨rfl, (fresh_foot HO.out HF.out HR4.out).trans (((Only.refl _ w4).alloc _).trans HO6.out)⟩
end Go.Proofs.YtfplalgoopkmaaaGreat

namespace Go.Proofs.YtfplalgoopkmaaaGreat
open Go.RowKit

/-- A world anew, and its user. -/
structure MadeAt (w w' : World) (n bu : Nat) (L : Lay) : Prop where
  rep : Rep w' L (S1 n 2)
  usr : UserAt w' bu L 0
  no : ∀ i, ¬ Foot L (S1 n 2) i bu
  only : Only Nobody w w'
  new : ∀ i x, Foot L (S1 n 2) i x → w.heap.size ≤ x
set_option maxRecDepth 100000 in
set_option maxHeartbeats 4000000 in
theorem law_made (n : Nat) (h2 : 2 ≤ n) (h64 : n ≤ 64) (w : World) : Calls Tryz.prog 6 #[.int .i64 n] w fun e w' => ∃ L bu, e = .returned (.tuple #[.pointer (some ⟨bu, 0, none⟩), .pointer (some ⟨L.bw, 0, none⟩), .bool true]) ∧ MadeAt w w' n bu L := by
  have HW := Lib.hid (world_New n n 2 h2 h64 (by omega) (by omega) (by omega) (by omega) w)
  have HU : Hid (∀ w1 L, Rep w1 L (St.new n n 2) → Calls Tryz.prog 13 #[.pointer (some ⟨L.bw, 0, none⟩), .int .i64 0] w1 fun e w' => ∃ bu, e = .returned (.tuple #[.pointer (some ⟨bu, 0, none⟩), .int .i64 0]) ∧ w1.heap.size ≤ bu ∧ UserAt w' bu L 0 ∧ Ste w1 L (St.new n n 2) w' L (S1 n 2)) := Lib.hid fun w1 L h => user_New (St.new n n 2) 0 w1 L h (by show 0 < 2; omega) rfl rfl
  go_enter Tryz.func6, Tryz.ntmps6
  go_wp2_with (first | (go_at_call 12; refine HW.out.mono ?_; rintro e w1 ⟨L, rfl, hrep, ho, hf⟩; have HREP := Lib.hid hrep; have HO := Lib.hid ho; have HF := Lib.hid hf; clear hrep ho hf HW) | (go_at_call 13; refine (HU.out _ _ HREP.out).mono ?_; rintro e w2 ⟨bu, rfl, hbu, hua, hst⟩; have HR2 := Lib.hid hst.run; have HUA := Lib.hid hua; have HUN := Lib.hid (not_foot_S1 HREP.out hbu); clear hst hua hbu HU))
  exact bodyPost_ret (v := .tuple #[.pointer (some ⟨bu, 0, none⟩), .pointer (some ⟨L.bw, 0, none⟩), .bool true]) (by simp [results, Tryz.f6, go_sem]) rfl ⟨L, bu, rfl, HR2.out.rep, HUA.out, HUN.out, fresh_foot HO.out HF.out HR2.out, fun i x hx => HF.out i x (foot_S1 hx)⟩

theorem live_len {A : St} {n : Nat} (hled : A.wl.led.length = n) (hr : Rising (A.wl.led.map entKey)) (hf : n ≤ 990) (w : World) (L : Lay) (b : Nat) (h : Rep w L A) (hb : L.bw = b) : Calls Tryz.prog 8 #[.pointer (some ⟨b, 0, none⟩)] w fun e w' => ∃ ra rc, e = .returned (.slice ra n rc) ∧ Only Nobody w w' := by
  rw [← hb]
  refine (world_Live A w L h hr (by omega)).mono ?_
  rintro e w' ⟨v', rfl, hrow, ho⟩
  obtain ⟨ra, rc, rfl⟩ := rowShapeN hrow
  exact ⟨ra, rc, by rw [hled], ho⟩
end Go.Proofs.YtfplalgoopkmaaaGreat
