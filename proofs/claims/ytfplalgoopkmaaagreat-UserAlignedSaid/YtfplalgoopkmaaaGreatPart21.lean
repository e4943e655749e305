/- Queues: one goes from whichever row it is in. What a heap's queues do, over the whole state. How many places are free, without Go; segments that are right. What holds of segments, pages, and heaps, without Go. The page that an address is in, over the whole state. Conditions: none. -/
import Derived.Test.YtfplalgoopkmaaaGreatPart20
import Derived.Test.YtfplalgoopkmaaaGreatPart17

set_option linter.unusedVariables false
set_option linter.unusedSimpArgs false

namespace Go.Proofs.YtfplalgoopkmaaaGreat
open Go.RowKit

theorem each_Remove (b o g c x : Nat) (k : Int) (w : World) (R : World → Prop) (hg : Blk w g 3 #[.int .i64 x])
    (h : Calls Tryz.prog 208 #[.int .i64 x, .pointer (some ⟨c, 0, none⟩)] w fun e w' => e = .returned (.int .i64 k) ∧ R w') (hk : k = 0) :
    Calls Tryz.prog 197 #[.pointer (some ⟨b, o, none⟩), .func (.func 208) #[] #[.pointer (some ⟨c, 0, none⟩)], .slice (some ⟨g, 0, none⟩) 1 1] w fun e w' => e = .returned (.int .i64 k) ∧ R w' := by
  have H1 := Lib.hid h
  have cg : w.cell? ⟨g, 0, none⟩ = some (.int .i64 x) := hg.cell 0
  clear h hg
  subst hk
  go_enter Tryz.func197, Tryz.ntmps197
  go_wp2
  refine wp_loop_rounds 2 ?_
  rw [rounds_succ]
  go_wp2_with (first | (go_at_call 208; refine H1.out.mono ?_; rintro e w' ⟨rfl, hr⟩; have HR := Lib.hid hr; clear hr))
  rw [rounds_succ]
  go_wp2
  go_ret
  exact ⟨rfl, HR.out⟩

set_option maxHeartbeats 1000000 in
theorem queue_Remove_ready (b o g x : Nat) (t : TypeId) (cs : Array Value) (vr vf : Value) (l f : List Nat) (w : World) (h : QAt w b t cs o vr vf l f) (ht : t ≠ 3) (hx : inRow l x = true) (hg : Blk w g 3 #[.int .i64 x]) :
    Calls Tryz.prog 181 #[.pointer (some ⟨b, o, none⟩), .slice (some ⟨g, 0, none⟩) 1 1] w fun e w' => e = .returned (.int .i64 0) ∧ ∃ v1, Blk w' b t (cs.setIfInBounds o v1) ∧ IntsAt w' v1 (l.erase x) ∧ v1.ownBlock = vr.ownBlock ∧ Only (fun g => g = b ∨ vr.ownBlock = some g) w w' := by
  have h2 := h.alloc (.cells #[.pointer (some ⟨b, o, none⟩)] 196)
  have hbox := Blk.new w 196 #[.pointer (some ⟨b, o, none⟩)]
  have hsl := hg.alloc (.cells #[.pointer (some ⟨b, o, none⟩)] 196)
  have ho := (Only.refl Nobody w).alloc (.cells #[.pointer (some ⟨b, o, none⟩)] 196)
  have HO := Lib.hid ho
  have HD := Lib.hid (row_drop_some b o x t cs vr l _ h2.blk h2.hr ht h2.rr (by have := h2.nl; omega) hx)
  have HB := Lib.hid hbox
  have HS := Lib.hid hsl
  clear h hx h2 hbox hsl ho hg
  have hw : Calls Tryz.prog 208 #[.int .i64 x, .pointer (some ⟨w.heap.size, 0, none⟩)] (w.alloc (.cells #[.pointer (some ⟨b, o, none⟩)] 196)) fun e w' => e = .returned (.int .i64 0) ∧ ∃ v1, Blk w' b t (cs.setIfInBounds o v1) ∧ IntsAt w' v1 (l.erase x) ∧ v1.ownBlock = vr.ownBlock ∧ Only (fun g => g = b ∨ vr.ownBlock = some g) w w' := by
    generalize hw2 : (w.alloc (.cells #[.pointer (some ⟨b, o, none⟩)] 196)) = w2 at *
    clear hw2
    have cc : w2.cell? ⟨w.heap.size, 0, none⟩ = some (.pointer (some ⟨b, o, none⟩)) := HB.out.cell 0
    obtain ⟨c, hc⟩ : ∃ c, c = w.heap.size := ⟨_, rfl⟩
    rw [← hc] at cc ⊢
    clear hc HB HS
    go_enter Tryz.func208, Tryz.ntmps208
    go_wp2_with (first | (go_at_call 199; refine HD.out.mono ?_; rintro e w3 ⟨rfl, v1, hb1, hi1, hw1, ho1⟩; have HB1 := Lib.hid hb1; have HI1 := Lib.hid hi1; have HV1 := Lib.hid hw1; have HO1 := Lib.hid ho1; clear hb1 hi1 hw1 ho1 cc))
    go_ret
    exact ⟨rfl, v1, HB1.out, HI1.out, HV1.out, (HO.out.mono (S' := fun g => g = b ∨ vr.ownBlock = some g) (fun _ h => h.elim)).trans HO1.out⟩
  have H1 := Lib.hid (each_Remove b o g w.heap.size x 0 _ _ HS.out hw rfl)
  clear hw
  go_enter Tryz.func181, Tryz.ntmps181
  go_wp2_with (first | (go_at_call 197; refine H1.out.mono ?_; rintro e w' ⟨rfl, hr⟩; have HR := Lib.hid hr; clear hr))
  go_ret
  exact ⟨rfl, HR.out⟩

set_option maxHeartbeats 1000000 in
theorem queue_Remove_full (b o g x : Nat) (t : TypeId) (cs : Array Value) (vr vf : Value) (l f : List Nat) (w : World) (h : QAt w b t cs o vr vf l f) (ht : t ≠ 3) (hl : inRow l x = false) (hx : inRow f x = true) (hg : Blk w g 3 #[.int .i64 x]) :
    Calls Tryz.prog 181 #[.pointer (some ⟨b, o, none⟩), .slice (some ⟨g, 0, none⟩) 1 1] w fun e w' => e = .returned (.int .i64 0) ∧ ∃ v1, Blk w' b t (cs.setIfInBounds (o + 1) v1) ∧ IntsAt w' v1 (f.erase x) ∧ v1.ownBlock = vf.ownBlock ∧ Only (fun g => g = b ∨ vf.ownBlock = some g) w w' := by
  have h2 := h.alloc (.cells #[.pointer (some ⟨b, o, none⟩)] 196)
  have hbox := Blk.new w 196 #[.pointer (some ⟨b, o, none⟩)]
  have hsl := hg.alloc (.cells #[.pointer (some ⟨b, o, none⟩)] 196)
  have ho := (Only.refl Nobody w).alloc (.cells #[.pointer (some ⟨b, o, none⟩)] 196)
  have HO := Lib.hid ho
  have HN := Lib.hid (row_drop_none b o x t cs vr l _ h2.blk h2.hr h2.rr (by have := h2.nl; omega) hl)
  have HD := Lib.hid (row_drop_some b (o + 1) x t cs vf f _ h2.blk h2.hf ht h2.rf (by have := h2.nf; omega) hx)
  have HB := Lib.hid hbox
  have HS := Lib.hid hsl
  clear h hx h2 hbox hsl ho hg hl
  have hw : Calls Tryz.prog 208 #[.int .i64 x, .pointer (some ⟨w.heap.size, 0, none⟩)] (w.alloc (.cells #[.pointer (some ⟨b, o, none⟩)] 196)) fun e w' => e = .returned (.int .i64 0) ∧ ∃ v1, Blk w' b t (cs.setIfInBounds (o + 1) v1) ∧ IntsAt w' v1 (f.erase x) ∧ v1.ownBlock = vf.ownBlock ∧ Only (fun g => g = b ∨ vf.ownBlock = some g) w w' := by
    generalize hw2 : (w.alloc (.cells #[.pointer (some ⟨b, o, none⟩)] 196)) = w2 at *
    clear hw2
    have cc : w2.cell? ⟨w.heap.size, 0, none⟩ = some (.pointer (some ⟨b, o, none⟩)) := HB.out.cell 0
    obtain ⟨c, hc⟩ : ∃ c, c = w.heap.size := ⟨_, rfl⟩
    rw [← hc] at cc ⊢
    clear hc HB HS
    go_enter Tryz.func208, Tryz.ntmps208
    go_wp2_with (first | (go_at_call 199; ((with_reducible refine HN.out.mono ?_); rintro e w3 ⟨rfl, rfl⟩)) | (go_at_call 199; ((with_reducible refine HD.out.mono ?_); rintro e w3 ⟨rfl, v1, hb1, hi1, hw1, ho1⟩; have HB1 := Lib.hid hb1; have HI1 := Lib.hid hi1; have HV1 := Lib.hid hw1; have HO1 := Lib.hid ho1; clear hb1 hi1 hw1 ho1 cc)))
    go_ret
    exact ⟨rfl, v1, HB1.out, HI1.out, HV1.out, (HO.out.mono (S' := fun g => g = b ∨ vf.ownBlock = some g) (fun _ h => h.elim)).trans HO1.out⟩
  have H1 := Lib.hid (each_Remove b o g w.heap.size x 0 _ _ HS.out hw rfl)
  clear hw
  go_enter Tryz.func181, Tryz.ntmps181
  go_wp2_with (first | (go_at_call 197; refine H1.out.mono ?_; rintro e w' ⟨rfl, hr⟩; have HR := Lib.hid hr; clear hr))
  go_ret
  exact ⟨rfl, HR.out⟩
end Go.Proofs.YtfplalgoopkmaaaGreat

namespace Go.Proofs.YtfplalgoopkmaaaGreat
open Go.RowKit

section
variable {A : St} {t c k : Nat}
theorem Rep.hap {w : World} {L : Lay} {A : St} (h : Rep w L A) (t : Nat) (ht : t < 8) : HeapAt w (L.hp t) L.bm L.ba (heapM L t (A.heap t)) := h.all (.heap t) ht

theorem sys_Fill (ht : t < 8) (hc : c < 13) (hk : k ∈ (A.heap t).L c) (hn : ((A.heap t).FL c).length < 990) :
    SysCallsK 170 (fun L => #[.pointer (some ⟨L.hp t, 2 * c, none⟩), .int .i64 k]) A (fun _ => .int .i64 0) (A.setHeap t ((A.heap t).fill c k)) := by
  intro w L h
  have hH := h.hap t ht
  refine (queue_Fill (L.hp t) (2 * c) k _ _ _ _ _ _ w (hH.q c hc) (by decide) (inRow_iff.2 hk) (fun g hg => hH.apF c c hc hc g hg)).mono ?_
  rintro e w' ⟨rfl, v1, v2, hb, h1, h2, hn1, hn2, ho⟩
  refine ⟨_, rfl, Ste.rows h ht hc hb h1 h2 ?_ ?_ (.inl hn1) hn2 ?_ ho, ⟨rfl, rfl, rfl⟩⟩
  · have := (hH.rr c hc).2; have e := List.length_erase_le (a := k) (l := (A.heap t).L c); show ((A.heap t).L c |>.erase k).length ≤ 990; have h3 : ((A.heap t).L c).length ≤ 990 := this; omega
  · rw [List.length_append]; show ((A.heap t).FL c).length + 1 ≤ 990; omega
  · intro g hg hg2
    have hg' : (L.hR t c).ownBlock = some g := by rw [← hn1]; exact hg
    rcases hn2 with e | ⟨g', e, hle⟩
    · rw [e] at hg2; exact hH.apF c c hc hc g hg' hg2
    · rw [e] at hg2; injection hg2 with hg2; have := RowAt.lt (hH.rr c hc).1 hg'; omega

theorem sys_Wake (ht : t < 8) (hc : c < 13) (hk : k ∈ (A.heap t).FL c) (hn : ((A.heap t).L c).length < 990) :
    SysCallsK 190 (fun L => #[.pointer (some ⟨L.hp t, 2 * c, none⟩), .int .i64 k]) A (fun _ => .int .i64 0) (A.setHeap t ((A.heap t).wake c k)) := by
  intro w L h
  have hH := h.hap t ht
  refine (queue_Wake (L.hp t) (2 * c) k _ _ _ _ _ _ w (hH.q c hc) (by decide) (inRow_iff.2 hk) (fun g hg hg2 => hH.apF c c hc hc g hg2 hg)).mono ?_
  rintro e w' ⟨rfl, v2, v1, hb, h2, h1, hn2, hn1, ho⟩
  refine ⟨_, rfl, Ste.rows h ht hc ?_ h1 h2 ?_ ?_ hn1 (.inl hn2) ?_ (ho.mono fun g hg => hg.elim .inl fun hg => hg.elim (fun e => .inr (.inr e)) (fun e => .inr (.inl e))), ⟨rfl, rfl, rfl⟩⟩
  · rw [Array.setIfInBounds_comm _ _ (by omega)]; exact hb
  · rw [List.length_append]; show ((A.heap t).L c).length + 1 ≤ 990; omega
  · have := (hH.rf c hc).2; have e := List.length_erase_le (a := k) (l := (A.heap t).FL c); show ((A.heap t).FL c |>.erase k).length ≤ 990; have h3 : ((A.heap t).FL c).length ≤ 990 := this; omega
  · intro g hg hg2
    have hg' : (L.hF t c).ownBlock = some g := by rw [← hn2]; exact hg2
    rcases hn1 with e | ⟨g', e, hle⟩
    · rw [e] at hg; exact hH.apF c c hc hc g hg hg'
    · rw [e] at hg; injection hg with hg; have := RowAt.lt (hH.rf c hc).1 hg'; omega

theorem sys_Wake_none (ht : t < 8) (hc : c < 13) (hk : k ∉ (A.heap t).FL c) :
    SysCallsK 190 (fun L => #[.pointer (some ⟨L.hp t, 2 * c, none⟩), .int .i64 k]) A (fun _ => .int .i64 5) A := by
  intro w L h
  have hH := h.hap t ht
  refine (queue_Wake_none (L.hp t) (2 * c) k _ _ _ _ _ _ w (hH.q c hc) (inRow_false.2 hk)).mono ?_
  rintro e w' ⟨rfl, ho⟩
  exact ⟨L, rfl, Ste.refl h ho, Kept.refl L⟩

theorem heapV_getF (R F : Nat → Value) (bm ba id : Nat) (sv : Value) (c : Nat) (h : c < 13) : (heapV R F bm ba id sv).setIfInBounds (2 * c + 1) (F c) = heapV R F bm ba id sv := by
  rw [heapV_setF _ _ _ _ _ _ _ h]
  congr 1
  funext d; unfold updV; by_cases e : d = c <;> simp [e]
theorem heapV_getR (R F : Nat → Value) (bm ba id : Nat) (sv : Value) (c : Nat) (h : c < 13) : (heapV R F bm ba id sv).setIfInBounds (2 * c) (R c) = heapV R F bm ba id sv := by
  rw [heapV_setR _ _ _ _ _ _ _ h]
  congr 1
  funext d; unfold updV; by_cases e : d = c <;> simp [e]
theorem updL_self (g : Nat → List Nat) (c : Nat) : updL g c (g c) = g := by
  funext d; unfold updL; by_cases e : d = c <;> simp [e]

theorem sys_Push (ht : t < 8) (hc : c < 13) (hk : k ∉ (A.heap t).L c) (hk2 : k ∉ (A.heap t).FL c) (hn : ((A.heap t).L c).length < 990) (g : Nat) (w : World) (L : Lay) (h : Rep w L A) (hg : Blk w g 3 #[.int .i64 k]) :
    Calls Tryz.prog 173 #[.pointer (some ⟨L.hp t, 2 * c, none⟩), .slice (some ⟨g, 0, none⟩) 1 1] w fun e w' => ∃ L', e = .returned (.int .i64 0) ∧ Ste w L A w' L' (A.setHeap t ((A.heap t).push c k)) ∧ Kept L L' := by
  have hH := h.hap t ht
  refine (queue_Push (L.hp t) (2 * c) g k _ _ _ _ _ _ w (hH.q c hc) (by decide) hg (inRow_false.2 hk) (inRow_false.2 hk2)).mono ?_
  rintro e w' ⟨rfl, v1, hb, h1, hn1, ho⟩
  have hf : IntsAt w' (L.hF t c) ((A.heap t).FL c) := RowAt.only (hH.rf c hc).1 ho fun g hg hs => hs.elim (fun e => (hH.rf c hc).1.ne hH.st (by decide) (e ▸ hg)) (fun e => hH.apF c c hc hc g e hg)
  have hs := Ste.rows (v2 := L.hF t c) (f := (A.heap t).FL c) h ht hc (by
      rw [Array.setIfInBounds_comm _ _ (by omega), heapV_getF _ _ _ _ _ _ _ hc]; exact hb) h1 hf (by rw [List.length_append]; show ((A.heap t).L c).length + 1 ≤ 990; omega) (hH.rf c hc).2 hn1 (.inl rfl) (fun g hg hg2 => by
      rcases hn1 with e | ⟨g', e, hle⟩
      · rw [e] at hg; exact hH.apF c c hc hc g hg hg2
      · rw [e] at hg; injection hg with hg; have := RowAt.lt (hH.rf c hc).1 hg2; omega) (ho.mono fun g hg => hg.elim .inl (fun e => .inr (.inl e)))
  refine ⟨L.row t c v1 (L.hF t c), rfl, ?_, ⟨rfl, rfl, rfl⟩⟩
  unfold Hp.rows at hs
  rw [updL_self] at hs
  exact hs

theorem sys_Remove (ht : t < 8) (hc : c < 13) (hk : k ∈ (A.heap t).L c ∨ k ∈ (A.heap t).FL c) (g : Nat) (w : World) (L : Lay) (h : Rep w L A) (hg : Blk w g 3 #[.int .i64 k]) :
    Calls Tryz.prog 181 #[.pointer (some ⟨L.hp t, 2 * c, none⟩), .slice (some ⟨g, 0, none⟩) 1 1] w fun e w' => ∃ L', e = .returned (.int .i64 0) ∧ Ste w L A w' L' (A.setHeap t ((A.heap t).remove c k)) ∧ Kept L L' := by
  have hH := h.hap t ht
  by_cases hl : k ∈ (A.heap t).L c
  · refine (queue_Remove_ready (L.hp t) (2 * c) g k _ _ _ _ _ _ w (hH.q c hc) (by decide) (inRow_iff.2 hl) hg).mono ?_
    rintro e w' ⟨rfl, v1, hb, h1, hn1, ho⟩
    have hf : IntsAt w' (L.hF t c) ((A.heap t).FL c) := RowAt.only (hH.rf c hc).1 ho fun g hg hs => hs.elim (fun e => (hH.rf c hc).1.ne hH.st (by decide) (e ▸ hg)) (fun e => hH.apF c c hc hc g e hg)
    have hs := Ste.rows (v2 := L.hF t c) (f := (A.heap t).FL c) h ht hc (by
        rw [Array.setIfInBounds_comm _ _ (by omega), heapV_getF _ _ _ _ _ _ _ hc]; exact hb) h1 hf (by
        have := (hH.rr c hc).2; have e := List.length_erase_le (a := k) (l := (A.heap t).L c); have h3 : ((A.heap t).L c).length ≤ 990 := this; show ((A.heap t).L c |>.erase k).length ≤ 990; omega) (hH.rf c hc).2 (.inl hn1) (.inl rfl) (fun g hg hg2 => by
        rw [hn1] at hg; exact hH.apF c c hc hc g hg hg2) (ho.mono fun g hg => hg.elim .inl (fun e => .inr (.inl e)))
    refine ⟨L.row t c v1 (L.hF t c), rfl, ?_, ⟨rfl, rfl, rfl⟩⟩
    unfold Hp.rows at hs
    rw [updL_self] at hs
    unfold Hp.remove
    rw [if_pos hl]
    exact hs
  · have hk2 := hk.resolve_left hl
    refine (queue_Remove_full (L.hp t) (2 * c) g k _ _ _ _ _ _ w (hH.q c hc) (by decide) (inRow_false.2 hl) (inRow_iff.2 hk2) hg).mono ?_
    rintro e w' ⟨rfl, v1, hb, h1, hn1, ho⟩
    have hf : IntsAt w' (L.hR t c) ((A.heap t).L c) := RowAt.only (hH.rr c hc).1 ho fun g hg hs => hs.elim (fun e => (hH.rr c hc).1.ne hH.st (by decide) (e ▸ hg)) (fun e => hH.apF c c hc hc g hg e)
    have hs := Ste.rows (v1 := L.hR t c) (l := (A.heap t).L c) h ht hc (by
        rw [heapV_getR _ _ _ _ _ _ _ hc]; exact hb) hf h1 (hH.rr c hc).2 (by
        have := (hH.rf c hc).2; have e := List.length_erase_le (a := k) (l := (A.heap t).FL c); have h3 : ((A.heap t).FL c).length ≤ 990 := this; show ((A.heap t).FL c |>.erase k).length ≤ 990; omega) (.inl rfl) (.inl hn1) (fun g hg hg2 => by
        rw [hn1] at hg2; exact hH.apF c c hc hc g hg hg2) (ho.mono fun g hg => hg.elim .inl (fun e => .inr (.inr e)))
    refine ⟨L.row t c (L.hR t c) v1, rfl, ?_, ⟨rfl, rfl, rfl⟩⟩
    unfold Hp.rows at hs
    rw [updL_self] at hs
    unfold Hp.remove
    rw [if_neg hl]
    exact hs
end
end Go.Proofs.YtfplalgoopkmaaaGreat

namespace Go.Proofs.YtfplalgoopkmaaaGreat

def cnt (T : Nat → Bool) : Nat → Nat
  | 0 => 0
  | n + 1 => cnt T n + (if T n then 0 else 1)
theorem cnt_congr {T T' : Nat → Bool} {n : Nat} (h : ∀ i, i < n → T i = T' i) : cnt T n = cnt T' n := by
  induction n with
  | zero => rfl
  | succ n ih => unfold cnt; rw [ih (fun i hi => h i (by omega)), h n (by omega)]
theorem cnt_le (T : Nat → Bool) (n : Nat) : cnt T n ≤ n := by
  induction n with
  | zero => exact Nat.le_refl _
  | succ n ih => unfold cnt; split <;> omega
theorem cnt_one {T T' : Nat → Bool} {n i : Nat} (hi : i < n) (h1 : T i = false) (h2 : T' i = true) (h3 : ∀ j, j ≠ i → T' j = T j) : cnt T' n + 1 = cnt T n := by
  induction n with
  | zero => omega
  | succ n ih =>
    unfold cnt
    by_cases e : i = n
    · subst e
      rw [h1, h2, cnt_congr (T := T') (T' := T) (fun j hj => h3 j (by omega))]
      simp
    · rw [h3 n (fun x => e x.symm), ← ih (by omega)]
      omega
theorem cnt_take (T : Nat → Bool) (n a k : Nat) (h : a + k ≤ n) (hf : ∀ j, j < k → T (a + j) = false) : cnt (setB T a k true) n + k = cnt T n := by
  induction k with
  | zero => rw [setB_zero]; rfl
  | succ k ih =>
    have h1 := ih (by omega) (fun j hj => hf j (by omega))
    have h2 := cnt_one (T := setB T a k true) (T' := setB T a (k + 1) true) (n := n) (i := a + k) (by omega) (by unfold setB; rw [if_neg (by omega)]; exact hf k (by omega)) (by unfold setB; rw [if_pos (by omega)]) (fun j hj => by rw [← setB_succ, if_neg hj])
    omega
theorem cnt_free (T : Nat → Bool) (n a k : Nat) (h : a + k ≤ n) (hf : ∀ j, j < k → T (a + j) = true) : cnt (setB T a k false) n = cnt T n + k := by
  induction k with
  | zero => rw [setB_zero]; rfl
  | succ k ih =>
    have h1 := ih (by omega) (fun j hj => hf j (by omega))
    have h2 := cnt_one (T := setB T a (k + 1) false) (T' := setB T a k false) (n := n) (i := a + k) (by omega) (by unfold setB; rw [if_pos (by omega)]) (by unfold setB; rw [if_neg (by omega)]; exact hf k (by omega)) (fun j hj => by rw [← setB_succ, if_neg hj])
    omega
theorem cnt_run (T : Nat → Bool) (n a k : Nat) (h : a + k ≤ n) (hf : ∀ j, j < k → T (a + j) = false) : k ≤ cnt T n := by
  have := cnt_take T n a k h hf; omega

structure SgGood (A : St) (p : Nat) (s : Sg) : Prop where
  n64 : A.n ≤ 64
  pn : p < A.n
  of0 : s.of 0 = none
  ofk : ∀ i a, s.of i = some a → 1 ≤ a ∧ a ≤ i ∧ i < 16 ∧ ∃ g, A.page (p * 16 + a) = some g ∧ i < a + g.sl
  own : ∀ a g, a < 16 → A.page (p * 16 + a) = some g → ∀ j, j < g.sl → s.of (a + j) = some a
  left : s.left = cnt s.T 16
  ot : s.ot ≤ 100000000000
  oa : s.oa ≤ 100000000000
  ow : s.ow ≤ 8

theorem takeRow_facts {T : Nat → Bool} {n k : Nat} {r : Row T n} (h : takeRow T n k = some r) (h0 : T 0 = true) : 1 ≤ r.1.1 ∧ r.1.1 + k ≤ n ∧ ∀ j, j < k → T (r.1.1 + j) = false := by
  have h1 := takeRow_fits h
  obtain ⟨h2, h3, h4⟩ := r.2
  refine ⟨?_, by omega, fun j hj => h4 j (by omega)⟩
  rcases Nat.eq_zero_or_pos r.1.1 with e | e
  · have := h4 0 (by omega)
    rw [e, h0] at this; cases this
  · exact e

def plSl (p : Plan) : Nat := if p.cls = -1 then p.slices else slicesOf p.cls.toNat
def plSize (p : Plan) : Nat := if p.cls = -1 then p.slices * 1024 else sizeOf p.cls.toNat
def plN (p : Plan) : Nat := if p.cls = -1 then 1 else blocksOf p.cls.toNat
def PlanOK (p : Plan) : Prop := (∃ c : Nat, c < 12 ∧ p.cls = c) ∨ (p.cls = -1 ∧ 1 ≤ p.slices ∧ p.slices ≤ 15)
abbrev pgFor (p : Plan) : Pg := ⟨p.cls, plSl p, plSize p, plN p, 0, 0, [], [], [], 0, 0⟩
theorem PlanOK.sl {p : Plan} (h : PlanOK p) : 1 ≤ plSl p ∧ plSl p ≤ 15 := by
  unfold plSl
  rcases h with ⟨c, hc, e⟩ | ⟨e, h1, h2⟩
  · have := class_facts hc
    rw [if_neg (by omega), e, Int.toNat_natCast]; omega
  · rw [if_pos e]; omega
theorem PlanOK.shape {p : Plan} (h : PlanOK p) : PgShape (pgFor p) := by
  rcases h with ⟨c, hc, e⟩ | ⟨e, h1, h2⟩
  · left
    refine ⟨c, hc, e, ?_, ?_, ?_⟩
    · show plSize p = _; unfold plSize; rw [if_neg (by omega), e, Int.toNat_natCast]
    · show plN p = _; unfold plN; rw [if_neg (by omega), e, Int.toNat_natCast]
    · show plSl p = _; unfold plSl; rw [if_neg (by omega), e, Int.toNat_natCast]
  · right
    refine ⟨e, ?_, ?_, ?_, ?_⟩
    · show 1 ≤ plSl p; unfold plSl; rw [if_pos e]; exact h1
    · show plSl p ≤ 15; unfold plSl; rw [if_pos e]; exact h2
    · show plSize p = plSl p * 1024; unfold plSize plSl; rw [if_pos e, if_pos e]
    · show plN p = 1; unfold plN; rw [if_pos e]
def St.newPage (A : St) (p : Nat) (s : Sg) (at_ : Nat) (pl : Plan) : St :=
  { A with seg := upd A.seg p (some { s with of := setOf s.of at_ (plSl pl) (some at_), left := s.left - plSl pl }), page := upd A.page (p * 16 + at_) (some (pgFor pl)) }
/-- A block of a page anew, of the first segment that has room. -/
def St.freshGo (t : Nat) (pl : Plan) : List Nat → St → Nat × Int × St
  | [], A => (0, 4, A)
  | p :: r, A => match takeRow (A.segD p).T 16 (plSl pl) with
    | none => St.freshGo t pl r A
    | some x =>
      let A2 := (A.newPage p (A.segD p) x.1.1 pl).setHeap t ((A.heap t).push (rowIx pl.cls) (p * 16 + x.1.1))
      let y := pgAlloc A.f (p * 16 + x.1.1) (pgFor pl)
      (y.1.getD 0, 0, A2.setPage (p * 16 + x.1.1) y.2.1 y.2.2)
def St.fresh (A : St) (t : Nat) (pl : Plan) : Nat × Int × St := St.freshGo t pl (A.heap t).segs A
/-- What the system gives: where n segments stand in a row; none: it refuses. -/
def ArenaM.reserve (a : ArenaM) (n : Nat) : Option Nat × ArenaM :=
  if a.told.headD false = false ∧ (a.segs : Int) - a.left + n ≤ a.limit then
    match takeRow a.T a.segs n with
    | some r => (some r.1.1, { a with told := a.told.tail, T := setB a.T r.1.1 n true, left := a.left - n, regs := a.regs.take (regIx a.regs r.1.1) ++ (r.1.1, n) :: a.regs.drop (regIx a.regs r.1.1) })
    | none => (none, { a with told := a.told.tail, refused := a.refused + 1 })
  else (none, { a with told := a.told.tail, refused := a.refused + 1 })
def St.setAr (A : St) (a : ArenaM) : St := { A with ar := a }
/-- What an arena keeps. -/
structure ArGood (a : ArenaM) : Prop where
  s64 : a.segs ≤ 64
  lim : a.limit ≤ a.segs
  rise : Rising a.regs
  few : a.regs.length ≤ 64
  reg : ∀ r, r ∈ a.regs → 1 ≤ r.2 ∧ r.1 + r.2 ≤ a.segs ∧ ∀ j, j < r.2 → a.T (r.1 + j) = true
  left : a.left = (cnt a.T a.segs : Nat)
  ref : a.refused ≤ 100000000
end Go.Proofs.YtfplalgoopkmaaaGreat

namespace Go.Proofs.YtfplalgoopkmaaaGreat

/-- Segments and pages are right. -/
structure SP (A : St) : Prop where
  n64 : A.n ≤ 64
  sg : ∀ p s, A.seg p = some s → SgGood A p s ∧ 1 ≤ p
  pg : ∀ k g, A.page k = some g → PgGood A.n A.f k g ∧ (A.seg (k / 16)).isSome
def Live (A : St) (t : Nat) : Prop := ∀ p, p ∈ (A.heap t).segs → (A.seg p).isSome
/-- A heap's rows are those of its pages. -/
structure HP (A : St) (t : Nat) : Prop where
  live : Live A t
  nd : (A.heap t).segs.Nodup
  rows : ∀ c, c < 13 → ((A.heap t).L c ++ (A.heap t).FL c).Nodup
  mem : ∀ c k, c < 13 → ((k ∈ (A.heap t).L c ∨ k ∈ (A.heap t).FL c) ↔ ∃ g, A.page k = some g ∧ rowIx g.cls = c ∧ k / 16 ∈ (A.heap t).segs)

/-- Each of l, that are apart, is in m: so they are no more. -/
theorem length_le_of_sub {l m : List Nat} (hn : l.Nodup) (hs : ∀ x, x ∈ l → x ∈ m) : l.length ≤ m.length := by
  induction l generalizing m with
  | nil => simp
  | cons a l ih =>
    have ha : a ∈ m := hs a (by simp)
    have h1 := ih (m := m.erase a) (List.nodup_cons.1 hn).2 (fun x hx => by
      have hne : x ≠ a := fun e => (List.nodup_cons.1 hn).1 (e ▸ hx)
      exact (List.mem_erase_of_ne hne).2 (hs x (by simp [hx])))
    rw [List.length_erase_of_mem ha] at h1
    have : 0 < m.length := List.length_pos_of_mem ha
    simp; omega
def allKeys : List Nat := (List.range 1024).filter fun k => decide (16 ≤ k) && decide (1 ≤ k % 16)
theorem allKeys_length : allKeys.length = 945 := by decide +kernel
theorem keys_few {l : List Nat} (hn : l.Nodup) (h : ∀ k, k ∈ l → 16 ≤ k ∧ k < 1024 ∧ 1 ≤ k % 16) : l.length ≤ 945 := by
  rw [← allKeys_length]
  refine length_le_of_sub hn fun k hk => ?_
  obtain ⟨h1, h2, h3⟩ := h k hk
  unfold allKeys
  rw [List.mem_filter]
  exact ⟨List.mem_range.2 h2, by simp [h1, h3]⟩

section
variable {A : St} {t c k : Nat}
theorem SP.ofk (h : SP A) : ∀ q s', A.seg q = some s' → ∀ i a, s'.of i = some a → a < 16 := fun q s' hs i a ha => by
  have := ((h.sg q s' hs).1.ofk i a ha); omega
theorem SP.pgsl (h : SP A) {g : Pg} (hg : A.page k = some g) : 1 ≤ g.sl := (h.pg k g hg).1.shape.facts.2.2.2.2.2.1
/-- What a page's first slice tells. -/
theorem SP.first (h : SP A) {g : Pg} (hg : A.page k = some g) : ∃ s, A.seg (k / 16) = some s ∧ s.of (k % 16) = some (k % 16) := by
  obtain ⟨s, hs⟩ := Option.isSome_iff_exists.1 (h.pg k g hg).2
  refine ⟨s, hs, ?_⟩
  have := (h.sg _ s hs).1.own (k % 16) g (by omega) (by rw [show k / 16 * 16 + k % 16 = k from by omega]; exact hg) 0 (h.pgsl hg)
  simpa using this
theorem SP.find (h : SP A) {g : Pg} (hg : A.page k = some g) {segs : List Nat} (hm : k / 16 ∈ segs) : A.findIn segs (k * 1024) = some k := by
  obtain ⟨s, hs, ho⟩ := h.first hg
  unfold St.findIn
  rw [show k * 1024 / 16384 = k / 16 from by omega, if_pos hm, hs, show k * 1024 / 1024 % 16 = k % 16 from by omega]
  simp [ho]
  omega
theorem SP.key (h : SP A) {g : Pg} (hg : A.page k = some g) : 16 ≤ k ∧ k < 1024 ∧ 1 ≤ k % 16 := by
  obtain ⟨s, hs⟩ := Option.isSome_iff_exists.1 (h.pg k g hg).2
  have h1 := (h.sg _ s hs).2
  have h2 := (h.sg _ s hs).1.pn
  have h3 := h.n64
  have h4 := (h.pg k g hg).1.k1
  omega
theorem HP.few (h : HP A t) (hs : SP A) (hc : c < 13) : ((A.heap t).L c).length + ((A.heap t).FL c).length ≤ 945 := by
  rw [← List.length_append]
  refine keys_few (h.rows c hc) fun k hk => ?_
  obtain ⟨g, hg, _⟩ := (h.mem c k hc).1 (List.mem_append.1 hk)
  exact hs.key hg
end
end Go.Proofs.YtfplalgoopkmaaaGreat

namespace Go.Proofs.YtfplalgoopkmaaaGreat
open Go.RowKit

theorem segFind_iff (L : Lay) (p : Nat) (s : Sg) (a : Nat) : ((segFind (segM L p s) a).2 == 0) = (decide (a / 16384 = p) && (s.of (a / 1024 % 16)).isSome) := by
  unfold segFind
  by_cases h1 : a / 16384 = p
  · rw [if_neg (by simpa using h1)]
    cases h2 : s.of (a / 1024 % 16) with
    | none => simp [h1, h2]
    | some x => simp [h1, h2]
  · rw [if_pos (by simpa using h1)]
    simp [h1]
theorem heapFind_eq (A : St) (L : Lay) (segs : List Nat) (a : Nat) (hl : ∀ p, p ∈ segs → (A.seg p).isSome) :
    heapFind (segs.map L.sg) (fun i => segM L (segs.getD i 0) (A.segD (segs.getD i 0))) a = match A.findIn segs a with
      | some k => (some (L.sg (a / 16384)), some (L.ow k))
      | none => (none, none) := by
  unfold heapFind findIx
  rw [List.length_map]
  have hp : ∀ i, ((segFind (segM L (segs.getD i 0) (A.segD (segs.getD i 0))) a).2 == 0) = (decide (a / 16384 = segs.getD i 0) && ((A.segD (segs.getD i 0)).of (a / 1024 % 16)).isSome) := fun i => segFind_iff L _ _ a
  rcases idx_cases (fun i => (segFind (segM L (segs.getD i 0) (A.segD (segs.getD i 0))) a).2 == 0) segs.length with ⟨c, h1, h2, h3, h4⟩ | ⟨h1, h2⟩
  · rw [h2, if_neg (by omega)]
    have h3' := h3
    rw [hp] at h3'
    simp only [Bool.and_eq_true, decide_eq_true_eq] at h3'
    obtain ⟨e1, e2⟩ := h3'
    have hmem : a / 16384 ∈ segs := by
      rw [e1, List.getD_eq_getElem?_getD, List.getElem?_eq_getElem h1]; exact List.getElem_mem h1
    rw [← e1] at e2
    obtain ⟨s, hs⟩ := Option.isSome_iff_exists.1 (hl _ hmem)
    obtain ⟨x, hx⟩ := Option.isSome_iff_exists.1 e2
    have hsd : A.segD (a / 16384) = s := by unfold St.segD; rw [hs]; rfl
    rw [hsd] at hx
    have hf : A.findIn segs a = some (a / 16384 * 16 + x) := by
      unfold St.findIn
      rw [if_pos hmem, hs]
      simp [hx]
    rw [hf, Int.toNat_natCast]
    have e3 : (segs.map L.sg).getD c 0 = L.sg (a / 16384) := by
      rw [e1]
      simp [List.getD_eq_getElem?_getD, List.getElem?_eq_getElem h1]
    rw [e3]
    have e4 : (segFind (segM L (segs.getD c 0) (A.segD (segs.getD c 0))) a).1 = some (L.ow (a / 16384 * 16 + x)) := by
      rw [← e1, hsd]
      unfold segFind
      rw [if_neg (by simp)]
      simp [hx]
    rw [e4]
  · rw [h1, if_pos (by omega)]
    have hf : A.findIn segs a = none := by
      unfold St.findIn
      split
      · rename_i hm
        obtain ⟨c, hc, e⟩ := List.getElem_of_mem hm
        have := h2 c hc
        rw [hp, List.getD_eq_getElem?_getD, List.getElem?_eq_getElem hc] at this
        simp only [Option.getD_some, e, decide_true, Bool.true_and] at this
        obtain ⟨s, hs⟩ := Option.isSome_iff_exists.1 (hl _ hm)
        unfold St.segD at this
        rw [hs] at this ⊢
        simp only [Option.getD_some] at this
        simp only [Option.bind_some]
        cases h5 : s.of (a / 1024 % 16) with
        | none => rfl
        | some x => rw [h5] at this; cases this
      · rfl
    rw [hf]
def findV (L : Lay) (A : St) (segs : List Nat) (a : Nat) : Value := match A.findIn segs a with
  | some k => .tuple #[ptrV (L.sg (a / 16384)), ptrV (L.ow k)]
  | none => .tuple #[.pointer none, .pointer none]
theorem sys_find (A : St) (t a : Nat) (ht : t < 8) (hl : Live A t) (ha : a < 1048576) (w : World) (L : Lay) (h : Rep w L A) :
    Calls Tryz.prog 168 #[ptrV (L.hp t), .int .u64 a] w fun e w' => e = .returned (findV L A (A.heap t).segs a) ∧ Only Nobody w w' := by
  have hH := h.hap t ht
  have e := heapFind_eq A L (A.heap t).segs a hl
  refine (heap_find (L.hp t) L.bm L.ba a (heapM L t (A.heap t)) (fun i => segM L ((A.heap t).segs.getD i 0) (A.segD ((A.heap t).segs.getD i 0))) w hH (fun i hi => ?_) ha).mono ?_
  · have hi' : i < (A.heap t).segs.length := by simpa using hi
    have hm : (A.heap t).segs.getD i 0 ∈ (A.heap t).segs := by
      rw [List.getD_eq_getElem?_getD, List.getElem?_eq_getElem hi']; exact List.getElem_mem hi'
    obtain ⟨s, hs⟩ := Option.isSome_iff_exists.1 (hl _ hm)
    have e3 : ((A.heap t).segs.map L.sg).getD i 0 = L.sg ((A.heap t).segs.getD i 0) := by
      simp [List.getD_eq_getElem?_getD, List.getElem?_eq_getElem hi']
    show SegAt w (((A.heap t).segs.map L.sg).getD i 0) L.bm _
    rw [e3]
    unfold St.segD
    rw [hs]
    exact h.all (.seg _) s hs
  · rintro x w' ⟨rfl, ho⟩
    refine ⟨?_, ho⟩
    rw [e]
    unfold findV
    cases A.findIn (A.heap t).segs a <;> rfl
end Go.Proofs.YtfplalgoopkmaaaGreat
