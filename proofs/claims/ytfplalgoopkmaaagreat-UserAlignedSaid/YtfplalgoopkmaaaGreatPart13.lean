/- A heap anew; a block back; its segments; a full arena. Where the pages of an empty row begin: nowhere. Layer 14: what all threads share. Conditions: none. -/
import Derived.Test.YtfplalgoopkmaaaGreatPart12

set_option linter.unusedVariables false
set_option linter.unusedSimpArgs false

namespace Go.Proofs.YtfplalgoopkmaaaGreat
open Go.RowKit

theorem heap_Grow_full (bh bm ba : Nat) (H : HeapM) (k : Int) (w : World) (Q : World → Prop) (h : HeapAt w bh bm ba H) (hk : k ≠ 0)
    (hres : Calls Tryz.prog 35 #[.pointer (some ⟨ba, 0, none⟩), .int .i64 1] w fun e w1 => e = .returned (.tuple #[.int .i64 0, .int .i64 k]) ∧ Q w1) :
    Calls Tryz.prog 146 #[.pointer (some ⟨bh, 0, none⟩)] w fun e w' => e = .returned (.int .i64 k) ∧ Q w' := by
  have c27 : w.cell? ⟨bh, 27, none⟩ = some (.pointer (some ⟨ba, 0, none⟩)) := h.st.cell 27
  have HRES := Lib.hid hres
  have hb : (k == 0) = false := by rw [beq_eq_false_iff_ne]; exact hk
  clear h hres hk
  go_enter Tryz.func146, Tryz.ntmps146
  go_wp2_with (first | (go_at_call 35; refine HRES.out.mono ?_; rintro e w1 ⟨rfl, hq⟩; have HQ := Lib.hid hq; clear hq))
  go_ret
  exact ⟨rfl, HQ.out⟩

theorem heap_Segs (bh bm ba : Nat) (H : HeapM) (w : World) (h : HeapAt w bh bm ba H) :
    Calls Tryz.prog 96 #[.pointer (some ⟨bh, 0, none⟩)] w fun e w' => ∃ v', e = .returned v' ∧ w'.ownsRow w.heap.size 98 1 v' H.segs.length (H.segs.map ptrV) ∧ Only Nobody w w' := by
  have HC := Lib.hid (clone_segs H.sv H.segs.length (H.segs.map ptrV) w h.sg (by have := h.few; omega) (by intro u hu; obtain ⟨x, _, rfl⟩ := List.mem_map.1 hu; rfl))
  have c29 : w.cell? ⟨bh, 29, none⟩ = some H.sv := h.st.cell 29
  obtain ⟨a1, k1, hv⟩ := rowShapeN h.sg
  rw [hv] at c29 HC
  clear h hv
  go_enter Tryz.func96, Tryz.ntmps96
  go_wp2_with (first | (go_at_call 112; refine HC.out.mono ?_; rintro e w1 ⟨v', rfl, hr, ho⟩; have HR := Lib.hid hr; have HO := Lib.hid ho; clear hr ho))
  go_ret
  exact ⟨v', rfl, HR.out, HO.out⟩

/-- A heap that has nothing. -/
abbrev heapNew (id : Nat) : HeapM := ⟨id, fun _ => .slice none 0 0, fun _ => .slice none 0 0, fun _ => [], fun _ => [], .slice none 0 0, []⟩

set_option maxRecDepth 100000 in
theorem heap_New (bm ba id : Nat) (hid : 1 ≤ id) (w : World) :
    Calls Tryz.prog 34 #[.pointer (some ⟨bm, 0, none⟩), .pointer (some ⟨ba, 0, none⟩), .int .u64 id] w fun e w' =>
      e = .returned (.tuple #[.pointer (some ⟨w.heap.size, 0, none⟩), .int .i64 0]) ∧ HeapAt w' w.heap.size bm ba (heapNew id) ∧ Only Nobody w w' ∧ w'.heap.size = w.heap.size + 1 := by
  have hb : ((id : Int) == 0) = false := by rw [beq_eq_false_iff_ne]; omega
  clear hid
  go_enter Tryz.func34, Tryz.ntmps34
  go_wp2
  go_ret2
  refine ⟨rfl, ⟨Blk.new w _ _, fun c hc => ⟨IntsAt.nil_ _, by simp⟩, fun c hc => ⟨IntsAt.nil_ _, by simp⟩, ⟨rfl, .inl ⟨rfl, rfl⟩⟩, by simp, fun c d _ _ _ g hg => (by cases hg), fun c d _ _ g hg => (by cases hg), fun c d _ _ _ g hg => (by cases hg)⟩, (Only.refl _ _).alloc _, by simp⟩

theorem heap_tidy_used (bh bs bo bp bm at_ sl : Nat) (c : Int) (p : PgM) (w : World) (ho : OwnedAt w bo bp c at_ sl) (hp : PageAt w bp bm p) (hu : 1 ≤ p.used) :
    Calls Tryz.prog 191 #[.pointer (some ⟨bh, 0, none⟩), .pointer (some ⟨bs, 0, none⟩), .pointer (some ⟨bo, 0, none⟩)] w fun e w' => e = .returned (.tuple #[]) ∧ w = w' := by
  have HU := Lib.hid (page_Used bp bm p w hp)
  have c0 : w.cell? ⟨bo, 0, none⟩ = some (.pointer (some ⟨bp, 0, none⟩)) := ho.cell 0
  have hd : decide ((0 : Int) < p.used) = true := by rw [decide_eq_true_eq]; omega
  have hd2 : decide (0 < p.used) = true := by rw [decide_eq_true_eq]; omega
  clear ho hp hu
  go_enter Tryz.func191, Tryz.ntmps191
  go_wp2_with (first | (go_at_call 217; refine HU.out.mono ?_; rintro e w1 ⟨rfl, rfl⟩))
  (try simp only [Exit.inBlock, Exit.then]); refine bodyPost_ret (results_none rfl _ _ _) rfl ?_
  exact ⟨rfl, rfl⟩

set_option maxHeartbeats 2000000 in
/-- A block back into a page that still has others. -/
theorem heap_Free_more (bh bm ba bb sz a i bs bo bp at_ sl : Nat) (c : Int) (f : Nat → Nat) (H : HeapM) (S : Nat → SegM) (S0 : SegM) (p : PgM) (w : World) (h : HeapAt w bh bm ba H) (hs : ∀ i, i < H.segs.length → SegAt w (H.segs.getD i 0) bm (S i)) (hs0 : SegAt w bs bm S0) (hm : MemAt w bm bb sz f)
    (ha8 : a + 8 ≤ sz) (ha1 : 1 ≤ a) (hf : heapFind H.segs S a = (some bs, some bo)) (ho : OwnedAt w bo bp c at_ sl) (hat : at_ < 16) (hp : PageAt w bp bm p) (hok : PgOK p) (hi : runIndex p.from_ p.size p.n a = (i, 0)) (him : i < p.made) (hu : 2 ≤ p.used)
    (hc : -1 ≤ c ∧ c < 12) (hfull : inRow (H.FL (rowIx c)) (S0.place * 16 + at_) = false) :
    Calls Tryz.prog 159 #[.pointer (some ⟨bh, 0, none⟩), .int .u64 a] w fun e w' => e = .returned (.int .i64 0) ∧ MemAt w' bm bb sz (st8 f a p.lh) ∧ PageAt w' bp bm { p with lh := a, ln := p.ln + 1, used := p.used - 1 } ∧ Only (fun x => x = bp ∨ x = bb) w w' := by
  have hsz : sz ≤ 1048576 := hm.le
  have hri : rowIx c < 13 := by unfold rowIx; split <;> omega
  have HFD := Lib.hid (heap_find_some bh bm ba a bs bo H S w h hs (by omega) hf)
  have HFR := Lib.hid (fun w g hm hp hg => page_Free bp bm bb sz a i g f p w hm hp hok hg ha8 ha1 hi him (by omega))
  have HROW := Lib.hid (fun w => heap_row bh c w (by omega) (by omega))
  have HKEY := Lib.hid (fun w hs ho => heap_key bs bm bo bp at_ sl c S0 w hs ho hat)
  have HTD := Lib.hid (fun w ho hp => heap_tidy_used bh bs bo bp bm at_ sl c { p with lh := a, ln := p.ln + 1, used := p.used - 1 } w ho hp (by dsimp only; omega))
  have HWK := Lib.hid (fun w h => queue_Wake_none bh (2 * rowIx c) (S0.place * 16 + at_) _ _ _ _ _ _ w (HeapAt.q (H := H) (bm := bm) (ba := ba) h (rowIx c) hri) hfull)
  have HH := Lib.hid h
  have HS := Lib.hid hs0
  have HM := Lib.hid hm
  have HOW := Lib.hid ho
  have HP := Lib.hid hp
  clear h hs hs0 hm hf ho hp hok hi him hu hfull ha8 hsz
  go_enter Tryz.func159, Tryz.ntmps159
  go_wp2_with (first | (go_at_call 168; refine HFD.out.mono ?_; rintro e w1 ⟨rfl, ho⟩; have HO1 := Lib.hid ho; have HOW1 := Lib.hid (HOW.out.only ho (fun h => h)); have d0 : w1.cell? ⟨bo, 0, none⟩ = some (.pointer (some ⟨bp, 0, none⟩)) := HOW1.out.cell 0; clear ho) | (go_at_call 189; refine (HFR.out _ w1.heap.size ((HM.out.only HO1.out (fun h => h) (fun h => h)).alloc _) ((HP.out.only HO1.out (fun h => h)).alloc _) (Blk.new w1 _ _)).mono ?_; rintro e w2 ⟨rfl, hm2, hp2, ho⟩; have HM2 := Lib.hid hm2; have HP2 := Lib.hid hp2; have HOF := Lib.hid ((Of.one ((HP.out.only HO1.out (fun h => h)).alloc (.cells #[.int .u64 a] 22))).or (Of.one ((HM.out.by_.only HO1.out (fun h => h)).alloc (.cells #[.int .u64 a] 22)))); have HH2 := Lib.hid (((HH.out.quiet HO1.out).alloc _).away ho HOF.out (by decide) (by decide) (by decide)); have HS2 := Lib.hid (((HS.out.quiet HO1.out).quiet ((Only.refl _ _).alloc _)).away ho HOF.out (by decide) (by decide) (by decide)); have HOW2 := Lib.hid ((HOW1.out.alloc _).away ho HOF.out (by decide)); have HO2 := Lib.hid (((HO1.out.mono (S' := fun x => x = bp ∨ x = bb) (fun x h => h.elim)).alloc _).trans ho); clear hm2 hp2 ho))
  have e1 : w2.cell? ⟨bo, 1, none⟩ = some (.int .i64 c) := HOW2.out.cell 1
  go_region_held3 (fun w' => w'.cell? ⟨bo, 1, none⟩ = some (.int .i64 c)) (first | exact e1 | exact HOW4.out.cell 1 | exact HOW3.out.cell 1) (first | (go_at_call 93; refine (HROW.out _).mono ?_; rintro e w3 ⟨rfl, rfl⟩) | (go_at_call 174; refine (HKEY.out _ (HS2.out.quiet ((Only.refl _ _).drew)) (HOW2.out.drew)).mono ?_; rintro e w3 ⟨rfl, ho⟩; have HO3 := Lib.hid (((Only.refl Nobody w2).drew).trans ho); have HOW3 := Lib.hid (HOW2.out.drew.only ho (fun h => h)); clear ho) | (go_at_call 190; refine (HWK.out _ (HH2.out.quiet HO3.out)).mono ?_; rintro e w4 ⟨rfl, ho⟩; have HO4 := Lib.hid (HO3.out.trans ho); have HOW4 := Lib.hid (HOW3.out.only ho (fun h => h)); clear ho))
  all_goals
    go_wp2_with (first | (go_at_call 191; refine (HTD.out _ HOW4.out (HP2.out.only HO4.out (fun h => h))).mono ?_; rintro e w5 ⟨rfl, rfl⟩))
    go_ret
    exact ⟨rfl, HM2.out.only HO4.out (fun h => h) (fun h => h), HP2.out.only HO4.out (fun h => h), HO2.out.trans (HO4.out.mono (fun x h => h.elim))⟩
end Go.Proofs.YtfplalgoopkmaaaGreat

namespace Go.Proofs.YtfplalgoopkmaaaGreat
open Go.RowKit

theorem grow_none (w : World) : Calls Tryz.prog 138 #[.slice none 0 0, .int .i64 0] w fun e w' => e = .returned (.slice none 0 0) ∧ w = w' := by
  go_enter Tryz.func138, Tryz.ntmps138
  go_wp2
  go_ret
  exact ⟨rfl, rfl⟩

set_option maxHeartbeats 2000000 in
theorem concat_none (g : Nat) (a1 a2 : Option Addr) (k1 k2 : Nat) (w : World) (hg : Blk w g 106 #[.slice a1 0 k1, .slice a2 0 k2]) :
    Calls Tryz.prog 109 #[.slice (some ⟨g, 0, none⟩) 2 2] w fun e w' => e = .returned (.slice none 0 0) ∧ w = w' := by
  have c0 : w.cell? ⟨g, 0, none⟩ = some (.slice a1 0 k1) := hg.cell 0
  have c1 : w.cell? ⟨g, 1, none⟩ = some (.slice a2 0 k2) := hg.cell 1
  clear hg
  cases a1 <;> cases a2
  all_goals
    go_enter Tryz.func109, Tryz.ntmps109
    go_wp2
    refine wp_loop_rounds 3 ?_
    rw [rounds_succ]
    go_wp2
    rw [rounds_succ]
    go_wp2
    rw [rounds_succ]
    go_wp2_with (first | (go_at_call 138; refine (grow_none _).mono ?_; rintro e w1 ⟨rfl, rfl⟩))
    refine wp_loop_rounds 3 ?_
    rw [rounds_succ]
    go_wp2
    rw [rounds_succ]
    go_wp2
    rw [rounds_succ]
    go_wp2
    go_ret
    exact ⟨rfl, rfl⟩

theorem queue_Full (b o : Nat) (t : TypeId) (cs : Array Value) (vr vf : Value) (l f : List Nat) (w : World) (h : QAt w b t cs o vr vf l f) :
    Calls Tryz.prog 111 #[.pointer (some ⟨b, o, none⟩)] w fun e w' => ∃ v', e = .returned v' ∧ w'.ownsRow w.heap.size 3 1 v' f.length (f.map natV) ∧ Only Nobody w w' := by
  have HC := Lib.hid (clone_ints vf f.length (f.map natV) w h.rf (by have := h.nf; omega) h.rf.one)
  have c0 : w.cell? ⟨b, o + 1, none⟩ = some vf := (h.blk.cell (o + 1)).trans h.hf
  obtain ⟨a1, n1, k1, rfl⟩ := rowShape h.rf
  clear h
  go_enter Tryz.func111, Tryz.ntmps111
  go_wp2_with (first | (go_at_call 139; refine HC.out.mono ?_; rintro e w1 ⟨v', rfl, hr, ho⟩; have HR := Lib.hid hr; have HO := Lib.hid ho; clear hr ho))
  go_ret
  exact ⟨v', rfl, HR.out, HO.out⟩

theorem QAt.quiet {w w' : World} {b : Nat} {t : TypeId} {cs : Array Value} {o : Nat} {vr vf : Value} {l f : List Nat} (h : QAt w b t cs o vr vf l f) (ho : Only Nobody w w') : QAt w' b t cs o vr vf l f :=
  ⟨h.blk.only ho (fun h => h), h.hr, h.hf, RowAt.only h.rr ho (fun _ _ h => h), RowAt.only h.rf ho (fun _ _ h => h), h.nl, h.nf⟩

theorem queue_All_nil (b o : Nat) (t : TypeId) (cs : Array Value) (vr vf : Value) (w : World) (h : QAt w b t cs o vr vf [] []) :
    Calls Tryz.prog 94 #[.pointer (some ⟨b, o, none⟩)] w fun e w' => e = .returned (.slice none 0 0) ∧ Only Nobody w w' := by
  have H1 := Lib.hid (queue_Ready b o t cs vr vf [] [] w h)
  have H2 := Lib.hid (fun w1 (ho : Only Nobody w w1) => queue_Full b o t cs vr vf [] [] w1 (h.quiet ho))
  clear h
  go_enter Tryz.func94, Tryz.ntmps94
  go_wp2_with (first | (go_at_call 110; refine H1.out.mono ?_; rintro e w1 ⟨v', rfl, hr, ho⟩; obtain ⟨a1, k1, rfl⟩ := rowShapeN hr; have HO := Lib.hid ho; clear hr ho) | (go_at_call 111; refine (H2.out _ HO.out).mono ?_; rintro e w2 ⟨v2, rfl, hr, ho⟩; obtain ⟨a2, k2, rfl⟩ := rowShapeN hr; have HO2 := Lib.hid (HO.out.trans ho); clear hr ho) | (go_at_call 109; refine (concat_none w2.heap.size a1 a2 k1 k2 _ (Blk.new w2 _ _)).mono ?_; rintro e w3 ⟨rfl, rfl⟩))
  go_ret
  exact ⟨rfl, HO2.out.alloc _⟩

set_option maxHeartbeats 1000000 in
theorem heap_Pages_nil (bh bm ba g : Nat) (c : Int) (H : HeapM) (w : World) (h : HeapAt w bh bm ba H) (hg : Blk w g 3 #[.int .i64 c]) (hc : -1 ≤ c ∧ c < 12) (hl : H.L (rowIx c) = []) (hf : H.FL (rowIx c) = []) :
    Calls Tryz.prog 73 #[.pointer (some ⟨bh, 0, none⟩), .slice (some ⟨g, 0, none⟩) 1 1] w fun e w' => e = .returned (.slice none 0 0) ∧ Only Nobody w w' := by
  have hri : rowIx c < 13 := by unfold rowIx; split <;> omega
  have HROW := Lib.hid (fun w => heap_row bh c w (by omega) (by omega))
  have hq := h.q (rowIx c) hri
  rw [hl, hf] at hq
  have HA := Lib.hid (queue_All_nil bh (2 * rowIx c) _ _ _ _ w hq)
  have cg : w.cell? ⟨g, 0, none⟩ = some (.int .i64 c) := hg.cell 0
  clear h hg hl hf hq
  go_enter Tryz.func73, Tryz.ntmps73
  go_wp2
  refine wp_loop_rounds 2 ?_
  rw [rounds_succ]
  go_wp2_with (first | (go_at_call 93; refine (HROW.out _).mono ?_; rintro e w3 ⟨rfl, rfl⟩) | (go_at_call 94; refine HA.out.mono ?_; rintro e w1 ⟨rfl, ho⟩; have HO := Lib.hid ho; clear ho))
  refine wp_loop_rounds 1 ?_
  rw [rounds_succ]
  go_wp2
  rw [rounds_succ]
  go_wp2
  go_ret
  exact ⟨rfl, HO.out⟩
end Go.Proofs.YtfplalgoopkmaaaGreat

namespace Go.Proofs.YtfplalgoopkmaaaGreat
open Go.RowKit

structure SysM where
  bm : Nat
  ba : Nat
  word : Nat
  tag : Nat
  asked : Nat
  heap : Nat → Nat
  seg : Nat → Option Nat
  huge : Nat → Nat

/-- The cells of a system: as many heaps as k; the others are nil. -/
structure SysV (cs : Array Value) (k : Nat) (s : SysM) : Prop where
  size : cs.size = 270
  h0 : cs[0]? = some (.pointer (some ⟨s.bm, 0, none⟩))
  h1 : cs[1]? = some (.pointer (some ⟨s.ba, 0, none⟩))
  h2 : cs[2]? = some (.int .u64 s.word)
  h3 : cs[3]? = some (.int .u64 s.tag)
  h4 : cs[4]? = some (.int .i64 s.asked)
  hp : ∀ t, t < k → cs[134 + t]? = some (ptrV (s.heap t))
  hn : ∀ t, k ≤ t → t < 8 → cs[134 + t]? = some (.pointer none)
  sg : ∀ i, i < 64 → cs[142 + i]? = some (ownV (s.seg i))
  hu : ∀ i, i < 64 → cs[206 + i]? = some (.int .i64 (s.huge i))
  bl : ∀ i, i < 64 → cs[5 + i]? = some (.int .i64 0)
  inn : ∀ i, i < 64 → cs[69 + i]? = some (.bool false)
  tp : cs[133]? = some (.int .i64 0)

theorem set_ne {cs : Array Value} {i j : Nat} {v u : Value} (h : cs[j]? = some u) (hne : i ≠ j) : (cs.setIfInBounds i v)[j]? = some u := by
  rw [Array.getElem?_setIfInBounds, if_neg hne]; exact h
theorem set_eq {cs : Array Value} {i : Nat} {v : Value} (h : i < cs.size) : (cs.setIfInBounds i v)[i]? = some v := by
  rw [Array.getElem?_setIfInBounds, if_pos rfl, if_pos h]

theorem SysV.setHeap {cs : Array Value} {k : Nat} {s : SysM} (h : SysV cs k s) (hk : k < 8) (b : Nat) : SysV (cs.setIfInBounds (134 + k) (ptrV b)) (k + 1) { s with heap := fun t => if t = k then b else s.heap t } := by
  refine ⟨by simp [h.size], set_ne h.h0 (by omega), set_ne h.h1 (by omega), set_ne h.h2 (by omega), set_ne h.h3 (by omega), set_ne h.h4 (by omega), fun t ht => ?_, fun t h1 h2 => set_ne (h.hn t (by omega) h2) (by omega), fun i hi => set_ne (h.sg i hi) (by omega), fun i hi => set_ne (h.hu i hi) (by omega), fun j hj => set_ne (h.bl j hj) (by omega), fun j hj => set_ne (h.inn j hj) (by omega), set_ne h.tp (by omega)⟩
  by_cases e : t = k
  · subst e; dsimp only; rw [if_pos rfl]; exact set_eq (by rw [h.size]; omega)
  · dsimp only; rw [if_neg e]; exact set_ne (h.hp t (by omega)) (by omega)
theorem SysV.setSeg {cs : Array Value} {k : Nat} {s : SysM} (h : SysV cs k s) (hk8 : k ≤ 8) (i : Nat) (hi : i < 64) (b : Option Nat) : SysV (cs.setIfInBounds (142 + i) (ownV b)) k { s with seg := fun j => if j = i then b else s.seg j } := by
  refine ⟨by simp [h.size], set_ne h.h0 (by omega), set_ne h.h1 (by omega), set_ne h.h2 (by omega), set_ne h.h3 (by omega), set_ne h.h4 (by omega), fun t ht => set_ne (h.hp t ht) (by omega), fun t h1 h2 => set_ne (h.hn t h1 h2) (by omega), fun j hj => ?_, fun j hj => set_ne (h.hu j hj) (by omega), fun j hj => set_ne (h.bl j hj) (by omega), fun j hj => set_ne (h.inn j hj) (by omega), set_ne h.tp (by omega)⟩
  by_cases e : j = i
  · subst e; dsimp only; rw [if_pos rfl]; exact set_eq (by rw [h.size]; omega)
  · dsimp only; rw [if_neg e]; exact set_ne (h.sg j hj) (by omega)
theorem SysV.setHuge {cs : Array Value} {k : Nat} {s : SysM} (h : SysV cs k s) (hk8 : k ≤ 8) (i : Nat) (hi : i < 64) (n : Nat) : SysV (cs.setIfInBounds (206 + i) (.int .i64 n)) k { s with huge := fun j => if j = i then n else s.huge j } := by
  refine ⟨by simp [h.size], set_ne h.h0 (by omega), set_ne h.h1 (by omega), set_ne h.h2 (by omega), set_ne h.h3 (by omega), set_ne h.h4 (by omega), fun t ht => set_ne (h.hp t ht) (by omega), fun t h1 h2 => set_ne (h.hn t h1 h2) (by omega), fun j hj => set_ne (h.sg j hj) (by omega), fun j hj => ?_, fun j hj => set_ne (h.bl j hj) (by omega), fun j hj => set_ne (h.inn j hj) (by omega), set_ne h.tp (by omega)⟩
  by_cases e : j = i
  · subst e; dsimp only; rw [if_pos rfl]; exact set_eq (by rw [h.size]; omega)
  · dsimp only; rw [if_neg e]; exact set_ne (h.hu j hj) (by omega)
theorem SysV.setAsked {cs : Array Value} {k : Nat} {s : SysM} (h : SysV cs k s) (n : Nat) : SysV (cs.setIfInBounds 4 (.int .i64 n)) k { s with asked := n } :=
  ⟨by simp [h.size], set_ne h.h0 (by omega), set_ne h.h1 (by omega), set_ne h.h2 (by omega), set_ne h.h3 (by omega), set_eq (by rw [h.size]; omega), fun t ht => set_ne (h.hp t ht) (by omega), fun t h1 h2 => set_ne (h.hn t h1 h2) (by omega), fun j hj => set_ne (h.sg j hj) (by omega), fun j hj => set_ne (h.hu j hj) (by omega), fun j hj => set_ne (h.bl j hj) (by omega), fun j hj => set_ne (h.inn j hj) (by omega), set_ne h.tp (by omega)⟩


theorem zero101 : (Tryz.zeroCells101).size = 270 ∧ (Tryz.zeroCells101).toList = [.pointer none, .pointer none, .int .u64 0, .int .u64 0, .int .i64 0] ++ (List.replicate 64 (.int .i64 0) ++ (List.replicate 64 (.bool false) ++ ([.int .i64 0] ++ (List.replicate 72 (.pointer none) ++ List.replicate 64 (.int .i64 0))))) := by
  constructor <;> kernel_rfl

abbrev sysM0 (bm ba : Nat) (hp : Nat → Nat) : SysM := ⟨bm, ba, 0, 0, 0, hp, fun _ => none, fun _ => 0⟩
theorem sys_zero (bm ba : Nat) (hp : Nat → Nat) : SysV (((Tryz.zeroCells101).setIfInBounds 0 (.pointer (some ⟨bm, 0, none⟩))).setIfInBounds 1 (.pointer (some ⟨ba, 0, none⟩))) 0 (sysM0 bm ba hp) := by
  obtain ⟨hz, hl⟩ := zero101
  have hg : ∀ i, (Tryz.zeroCells101)[i]? = (Tryz.zeroCells101).toList[i]? := fun i => (Array.getElem?_toList).symm
  have hget : ∀ i v, ([.pointer none, .pointer none, .int .u64 0, .int .u64 0, .int .i64 0] ++ (List.replicate 64 (.int .i64 0) ++ (List.replicate 64 (.bool false) ++ ([.int .i64 0] ++ (List.replicate 72 (.pointer none) ++ List.replicate 64 (.int .i64 0))))) : List Value)[i]? = some v → (Tryz.zeroCells101)[i]? = some v := fun i v h => by rw [hg, hl]; exact h
  clear hl hg
  generalize Tryz.zeroCells101 = cs at *
  have h72 : ∀ j, j < 72 → cs[134 + j]? = some (.pointer none) := fun j hj => hget _ _ (by
    rw [List.getElem?_append_right (by simp; omega), List.getElem?_append_right (by simp; omega), List.getElem?_append_right (by simp; omega), List.getElem?_append_right (by simp; omega), List.getElem?_append_left (by simp; omega), List.getElem?_replicate]
    simp only [List.length_append, List.length_cons, List.length_nil, List.length_replicate]
    rw [if_pos (by omega)])
  have h64 : ∀ j, j < 64 → cs[206 + j]? = some (.int .i64 0) := fun j hj => hget _ _ (by
    rw [List.getElem?_append_right (by simp; omega), List.getElem?_append_right (by simp; omega), List.getElem?_append_right (by simp; omega), List.getElem?_append_right (by simp; omega), List.getElem?_append_right (by simp; omega), List.getElem?_replicate]
    simp only [List.length_append, List.length_cons, List.length_nil, List.length_replicate]
    rw [if_pos (by omega)])
  have hbl : ∀ j, j < 64 → cs[5 + j]? = some (.int .i64 0) := fun j hj => hget _ _ (by
    rw [List.getElem?_append_right (by simp), List.getElem?_append_left (by simp; omega), List.getElem?_replicate]
    simp only [List.length_append, List.length_cons, List.length_nil, List.length_replicate]
    rw [if_pos (by omega)])
  have hin : ∀ j, j < 64 → cs[69 + j]? = some (.bool false) := fun j hj => hget _ _ (by
    rw [List.getElem?_append_right (by simp; omega), List.getElem?_append_right (by simp; omega), List.getElem?_append_left (by simp; omega), List.getElem?_replicate]
    simp only [List.length_append, List.length_cons, List.length_nil, List.length_replicate]
    rw [if_pos (by omega)])
  have htp : cs[133]? = some (.int .i64 0) := hget _ _ rfl
  refine ⟨by simp [hz], set_ne (set_eq (by omega)) (by omega), set_eq (by simp; omega), set_ne (set_ne (hget 2 _ rfl) (by omega)) (by omega), set_ne (set_ne (hget 3 _ rfl) (by omega)) (by omega), set_ne (set_ne (hget 4 _ rfl) (by omega)) (by omega), fun t ht => by omega, fun t _ ht => set_ne (set_ne (h72 t (by omega)) (by omega)) (by omega), fun i hi => ?_, fun i hi => set_ne (set_ne (h64 i hi) (by omega)) (by omega), fun i hi => set_ne (set_ne (hbl i hi) (by omega)) (by omega), fun i hi => set_ne (set_ne (hin i hi) (by omega)) (by omega), set_ne (set_ne htp (by omega)) (by omega)⟩
  have h := h72 (8 + i) (by omega)
  rw [show 134 + (8 + i) = 142 + i from by omega] at h
  exact set_ne (set_ne h (by omega)) (by omega)

/-- The arena behind its first region. -/
abbrev arena1 (n lim : Nat) : ArenaM := ⟨n, lim, setB (fun _ => false) 0 1 true, (n : Int) - 1, [(0, 1)], [], 0⟩

theorem reserve_first (ba bk bt n lim : Nat) (h1 : 1 ≤ n) (hl1 : 1 ≤ lim) (w : World) (h : ArenaAt w ba bk bt (.slice none 0 0) (.slice none 0 0) ⟨n, lim, fun _ => false, n, [], [], 0⟩) :
    Calls Tryz.prog 35 #[.pointer (some ⟨ba, 0, none⟩), .int .i64 1] w fun e w' => ∃ vr, e = .returned (.tuple #[.int .i64 0, .int .i64 0]) ∧ ArenaAt w' ba bk bt vr (.slice none 0 0) (arena1 n lim) ∧ Only (fun g => g = ba ∨ g = bk ∨ g = bt) w w' ∧ (∀ g, vr.ownBlock = some g → w.heap.size ≤ g) := by
  obtain ⟨r, hr1, hr2⟩ := take_prefix (fun _ => false) n 0 1 (by omega) (fun i hi => by simp) (by omega)
  have h := reserve_ok ba bk bt _ _ _ 1 w h (by omega) (by dsimp only; omega) rfl (by dsimp only; omega) r hr1 (by simp) (by simp) (by intro a ha _; dsimp only at ha ⊢; omega)
  refine h.mono fun e w' ⟨vr, he, ha, ho, hnw⟩ => ⟨vr, ?_, ?_, ho.mono fun g hg => ?_, fun g hg => ?_⟩
  · rw [he, hr2]; rfl
  · rw [hr2] at ha; exact ha
  · rcases hg with h | h | h | h
    · exact .inl h
    · exact .inr (.inl h)
    · exact .inr (.inr h)
    · cases h
  · rcases hnw with e | ⟨g', e, hle⟩
    · rw [e] at hg; cases hg
    · rw [e] at hg; injection hg with hg; omega
end Go.Proofs.YtfplalgoopkmaaaGreat
