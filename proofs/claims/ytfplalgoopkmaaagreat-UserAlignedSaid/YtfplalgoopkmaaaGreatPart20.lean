/- Queues: one goes from its row, one goes to the other row. A heap's queues, over the whole state. Conditions: none. -/
import Derived.Test.YtfplalgoopkmaaaGreatPart05
import Derived.Test.YtfplalgoopkmaaaGreatPart19
import Derived.Test.YtfplalgoopkmaaaGreatPart18

set_option linter.unusedVariables false
set_option linter.unusedSimpArgs false

namespace Go.Proofs.YtfplalgoopkmaaaGreat
open Go.RowKit

theorem idx_erase (x : Nat) : ∀ (l : List Nat), inRow l x = true → ∃ c : Nat, c < l.length ∧ idx (fun i => l.getD i 0 == x) l.length = c ∧ l.erase x = l.take c ++ l.drop (c + 1) := by
  intro l h
  unfold inRow anyOf at h
  rcases idx_cases (fun i => l.getD i 0 == x) l.length with ⟨c, h1, h2, h3, h4⟩ | ⟨h1, _⟩
  · refine ⟨c, h1, h2, ?_⟩
    clear h h2
    induction l generalizing c with
    | nil => simp at h1
    | cons y l ih =>
      cases c with
      | zero =>
        have : y = x := by simpa using h3
        subst this
        simp
      | succ c =>
        have hy : y ≠ x := by have := h4 0 (by omega); simpa using this
        have := ih c (by simpa using h1) (by simpa using h3) (fun j hj => by have := h4 (j + 1) (by omega); simpa using this)
        rw [List.erase_cons, if_neg (by simpa using hy), this]
        rfl
  · rw [h1] at h; simp at h
theorem inRow_iff {l : List Nat} {x : Nat} : inRow l x = true ↔ x ∈ l := by
  unfold inRow anyOf
  rcases idx_cases (fun i => l.getD i 0 == x) l.length with ⟨c, h1, h2, h3, _⟩ | ⟨h1, h2⟩
  · rw [h2]
    have : x ∈ l := by
      have e : l.getD c 0 = x := by simpa using h3
      rw [← e, List.getD_eq_getElem?_getD, List.getElem?_eq_getElem h1]; exact List.getElem_mem h1
    simp [this]
  · rw [h1]
    constructor
    · intro h; simp at h
    · intro h
      obtain ⟨i, hi, e⟩ := List.getElem_of_mem h
      have := h2 i hi
      rw [List.getD_eq_getElem?_getD, List.getElem?_eq_getElem hi] at this
      simp [e] at this
theorem inRow_false {l : List Nat} {x : Nat} : inRow l x = false ↔ x ∉ l := by
  rw [← inRow_iff]; cases inRow l x <;> simp

theorem row_drop_some (b o x : Nat) (t : TypeId) (cs : Array Value) (v : Value) (l : List Nat) (w : World) (hb : Blk w b t cs) (hc : cs[o]? = some v) (ht : t ≠ 3) (h : IntsAt w v l) (hn : l.length ≤ 1000) (hx : inRow l x = true) :
    Calls Tryz.prog 199 #[.pointer (some ⟨b, o, none⟩), .int .i64 x] w fun e w' => e = .returned (.bool true) ∧ ∃ v', Blk w' b t (cs.setIfInBounds o v') ∧ IntsAt w' v' (l.erase x) ∧ v'.ownBlock = v.ownBlock ∧ Only (fun g => g = b ∨ v.ownBlock = some g) w w' := by
  have hi := index_ints v l x w h hn
  obtain ⟨c, h1, h2, h3⟩ := idx_erase x l hx
  rw [h2] at hi
  have hd := delete_ints v l.length c (l.map natV) w h h.one h1 hn
  have hne : v.ownBlock ≠ some b := h.ne hb ht
  have HI := Lib.hid hi
  have HD := Lib.hid hd
  have HB := Lib.hid hb
  have HNE := Lib.hid hne
  have h3' : (l.map natV).take (c * 1) ++ (l.map natV).drop ((c + 1) * 1) = (l.erase x).map natV ∧ l.length - 1 = (l.erase x).length := by
    rw [h3, Nat.mul_one, Nat.mul_one, ← List.map_take, ← List.map_drop, ← List.map_append]
    refine ⟨rfl, ?_⟩
    rw [List.length_append, List.length_take, List.length_drop]; omega
  have H3 := Lib.hid h3'
  have c0 : w.cell? ⟨b, o, none⟩ = some v := (hb.cell o).trans hc
  have hcn : (c : Int) < l.length := by omega
  obtain ⟨a1, n1, k1, rfl⟩ := rowShape h
  have hwr : IntKind.i64.wrap ((c : Int) + 1) = (c : Int) + 1 := by rw [IntKind.wrap_i64]; omega
  clear hb hc h hi hx h2 h3 hd hne h3'
  go_enter Tryz.func199, Tryz.ntmps199
  go_wp2_with (first | (go_at_call 223; refine HI.out.mono ?_; rintro e w' ⟨rfl, rfl⟩) | (go_at_call 224; refine HD.out.mono ?_; rintro e w1 ⟨v', rfl, hr, hw, ho⟩; obtain ⟨a2, n2, k2, rfl⟩ := rowShape hr; have HR := Lib.hid hr; have HO := Lib.hid ho; have HW := Lib.hid hw; have HB1 := Lib.hid (HB.out.only ho HNE.out); have f1 := HB1.out.frozen o; have c1 : w1.cell? ⟨b, o, none⟩ = some (.slice a1 n1 k1) := (HB1.out.cell o).trans ((HB.out.cell o).symm.trans c0); clear hr ho hw))
  go_ret
  refine ⟨rfl, .slice a2 n2 k2, HB1.out.set_ o _, ?_, HW.out, ?_⟩
  · have hi := HR.out
    rw [H3.out.1, H3.out.2] at hi
    refine RowAt.only (S := fun x => x = b) hi (Only.setAt (S := fun x => x = b) (Only.refl _ _) (show b = b from rfl) _ _) (fun g hg e => ?_)
    subst e
    exact IntsAt.ne hi HB1.out ht hg
  · exact Only.setAt (S := fun g => g = b ∨ (Value.slice a1 n1 k1).ownBlock = some g) (HO.out.mono fun x hx => .inr hx) (.inl rfl) _ _
theorem set_ne_ {cs : Array Value} {i j : Nat} {v u : Value} (h : cs[j]? = some u) (hne : i ≠ j) : (cs.setIfInBounds i v)[j]? = some u := by
  rw [Array.getElem?_setIfInBounds, if_neg hne]; exact h
theorem RowAt.lt' {w : World} {t : TypeId} {sz n g : Nat} {v : Value} {xs : List Value} (h : RowAt w t sz v n xs) (hg : v.ownBlock = some g) : g < w.heap.size := by
  rcases h.2 with ⟨rfl, _⟩ | ⟨g', cap, cur, rfl, _, hh, _⟩
  · cases hg
  · injection hg with hg
    subst hg
    have hb : Blk w g' t cur := hh
    exact hb.lt

theorem each_Fillm (b o g c x : Nat) (k : Int) (w : World) (R : World → Prop) (hg : Blk w g 3 #[.int .i64 x])
    (h : Calls Tryz.prog 198 #[.int .i64 x, .pointer (some ⟨c, 0, none⟩)] w fun e w' => e = .returned (.int .i64 k) ∧ R w') (hk : k = 0 ∨ k = 5) :
    Calls Tryz.prog 197 #[.pointer (some ⟨b, o, none⟩), .func (.func 198) #[] #[.pointer (some ⟨c, 0, none⟩)], .slice (some ⟨g, 0, none⟩) 1 1] w fun e w' => e = .returned (.int .i64 k) ∧ R w' := by
  have H1 := Lib.hid h
  have cg : w.cell? ⟨g, 0, none⟩ = some (.int .i64 x) := hg.cell 0
  clear h hg
  rcases hk with rfl | rfl
  · go_enter Tryz.func197, Tryz.ntmps197
    go_wp2
    refine wp_loop_rounds 2 ?_
    rw [rounds_succ]
    go_wp2_with (first | (go_at_call 198; refine H1.out.mono ?_; rintro e w' ⟨rfl, hr⟩; have HR := Lib.hid hr; clear hr))
    rw [rounds_succ]
    go_wp2
    go_ret
    exact ⟨rfl, HR.out⟩
  · go_enter Tryz.func197, Tryz.ntmps197
    go_wp2
    refine wp_loop_rounds 1 ?_
    rw [rounds_succ]
    go_wp2_with (first | (go_at_call 198; refine H1.out.mono ?_; rintro e w' ⟨rfl, hr⟩; have HR := Lib.hid hr; clear hr))
    go_ret
    exact ⟨rfl, HR.out⟩

set_option maxHeartbeats 1000000 in
theorem queue_Fill (b o x : Nat) (t : TypeId) (cs : Array Value) (vr vf : Value) (l f : List Nat) (w : World) (h : QAt w b t cs o vr vf l f) (ht : t ≠ 3) (hx : inRow l x = true) (hap : ∀ g, vr.ownBlock = some g → vf.ownBlock ≠ some g) :
    Calls Tryz.prog 170 #[.pointer (some ⟨b, o, none⟩), .int .i64 x] w fun e w' => e = .returned (.int .i64 0) ∧ ∃ v1 v2, Blk w' b t ((cs.setIfInBounds o v1).setIfInBounds (o + 1) v2) ∧ IntsAt w' v1 (l.erase x) ∧ IntsAt w' v2 (f ++ [x]) ∧ v1.ownBlock = vr.ownBlock ∧ NewOwn w.heap.size vf v2 ∧ Only (fun g => g = b ∨ vr.ownBlock = some g ∨ vf.ownBlock = some g) w w' := by
  have h2 := (h.alloc (.cells #[.pointer (some ⟨b, o, none⟩)] 196)).alloc (.cells #[.int .i64 x] 3)
  have hbox := (Blk.new w 196 #[.pointer (some ⟨b, o, none⟩)]).alloc (.cells #[.int .i64 x] 3)
  have hsl := Blk.new (w.alloc (.cells #[.pointer (some ⟨b, o, none⟩)] 196)) 3 #[.int .i64 x]
  have ho := ((Only.refl Nobody w).alloc (.cells #[.pointer (some ⟨b, o, none⟩)] 196)).alloc (.cells #[.int .i64 x] 3)
  rw [World.size_alloc] at hsl
  have HO := Lib.hid ho
  have HD := Lib.hid (row_drop_some b o x t cs vr l _ h2.blk h2.hr ht h2.rr (by have := h2.nl; omega) hx)
  have HB := Lib.hid hbox
  have HS := Lib.hid hsl
  have hbl : w.heap.size ≠ b := by have := h.blk.lt; omega
  have hvl : vr.ownBlock ≠ some w.heap.size := fun e => by have := RowAt.lt' h.rr e; omega
  have H2 := Lib.hid h2
  have HAP := Lib.hid (And.intro hap (And.intro hbl hvl))
  clear h hx h2 hbox hsl ho hap hbl hvl
  have hw : Calls Tryz.prog 198 #[.int .i64 x, .pointer (some ⟨w.heap.size, 0, none⟩)] ((w.alloc (.cells #[.pointer (some ⟨b, o, none⟩)] 196)).alloc (.cells #[.int .i64 x] 3)) fun e w' => e = .returned (.int .i64 0) ∧ ∃ v1 v2, Blk w' b t ((cs.setIfInBounds o v1).setIfInBounds (o + 1) v2) ∧ IntsAt w' v1 (l.erase x) ∧ IntsAt w' v2 (f ++ [x]) ∧ v1.ownBlock = vr.ownBlock ∧ NewOwn w.heap.size vf v2 ∧ Only (fun g => g = b ∨ vr.ownBlock = some g ∨ vf.ownBlock = some g) w w' := by
    generalize hw2 : ((w.alloc (.cells #[.pointer (some ⟨b, o, none⟩)] 196)).alloc (.cells #[.int .i64 x] 3)) = w2 at *
    have HW2 := Lib.hid hw2
    clear hw2
    have cc : w2.cell? ⟨w.heap.size, 0, none⟩ = some (.pointer (some ⟨b, o, none⟩)) := HB.out.cell 0
    obtain ⟨c, hc⟩ : ∃ c, c = w.heap.size := ⟨_, rfl⟩
    have HC := Lib.hid hc
    rw [← hc] at cc HB HAP ⊢
    clear hc
    go_enter Tryz.func198, Tryz.ntmps198
    go_wp2_with (first | (go_at_call 199; refine HD.out.mono ?_; rintro e w3 ⟨rfl, v1, hb1, hi1, hw1, ho1⟩; have HB1 := Lib.hid hb1; have HI1 := Lib.hid hi1; have HV1 := Lib.hid hw1; have HO1 := Lib.hid ho1; have cc3 : w3.cell? ⟨c, 0, none⟩ = some (.pointer (some ⟨b, o, none⟩)) := (HB.out.only ho1 (fun e => e.elim HAP.out.2.1 HAP.out.2.2)).cell 0; clear hb1 hi1 hw1 ho1 cc) | (go_at_call 200; refine (row_add b (o + 1) t _ vf _ _ x w3 HB1.out ((set_ne_ H2.out.hf (by omega))) ht (RowAt.only H2.out.rf HO1.out (fun g hg e => e.elim (fun e => IntsAt.ne H2.out.rf H2.out.blk ht (e ▸ hg)) (fun e => HAP.out.1 g e hg))) (by have := H2.out.nf; omega)).mono ?_; rintro e w4 ⟨v2, rfl, hb2, hi2, hw2, ho2⟩; have HB2 := Lib.hid hb2; have HI2 := Lib.hid hi2; have HV2 := Lib.hid hw2; have HO2 := Lib.hid ho2; clear hb2 hi2 hw2 ho2))
    go_ret
    have hsz := HO.out.size
    have hsz1 := HO1.out.size
    have hne1 : v1.ownBlock ≠ some b := IntsAt.ne HI1.out HB1.out ht
    refine ⟨rfl, v1, v2, HB2.out, ?_, ?_, HV1.out, ?_, ?_⟩
    · refine RowAt.only HI1.out HO2.out (fun g hg e => e.elim (fun e => hne1 (e ▸ hg)) (fun e => HAP.out.1 g (HV1.out ▸ hg) e))
    · have := HI2.out
      show RowAt w4 _ 1 v2 (f ++ [x]).length ((f ++ [x]).map natV)
      rw [List.length_append, List.map_append]
      exact this
    · rcases HV2.out with h | ⟨g, hg, hle⟩
      · exact .inl h
      · exact .inr ⟨g, hg, by have := HC.out; omega⟩
    · exact ((HO.out.mono (S' := fun g => g = b ∨ vr.ownBlock = some g ∨ vf.ownBlock = some g) (fun _ h => h.elim)).trans (HO1.out.mono fun g hg => hg.elim .inl (fun h => .inr (.inl h)))).trans (HO2.out.mono fun g hg => hg.elim .inl (fun h => .inr (.inr h)))
  have H1 := Lib.hid (each_Fillm b o (w.heap.size + 1) w.heap.size x 0 _ _ HS.out hw (.inl rfl))
  clear hw
  go_enter Tryz.func170, Tryz.ntmps170
  go_wp2_with (first | (go_at_call 197; refine H1.out.mono ?_; rintro e w' ⟨rfl, hr⟩; have HR := Lib.hid hr; clear hr))
  go_ret
  exact ⟨rfl, HR.out⟩

theorem each_Wakem (b o g c x : Nat) (k : Int) (w : World) (R : World → Prop) (hg : Blk w g 3 #[.int .i64 x])
    (h : Calls Tryz.prog 216 #[.int .i64 x, .pointer (some ⟨c, 0, none⟩)] w fun e w' => e = .returned (.int .i64 k) ∧ R w') (hk : k = 0 ∨ k = 5) :
    Calls Tryz.prog 197 #[.pointer (some ⟨b, o, none⟩), .func (.func 216) #[] #[.pointer (some ⟨c, 0, none⟩)], .slice (some ⟨g, 0, none⟩) 1 1] w fun e w' => e = .returned (.int .i64 k) ∧ R w' := by
  have H1 := Lib.hid h
  have cg : w.cell? ⟨g, 0, none⟩ = some (.int .i64 x) := hg.cell 0
  clear h hg
  rcases hk with rfl | rfl
  · go_enter Tryz.func197, Tryz.ntmps197
    go_wp2
    refine wp_loop_rounds 2 ?_
    rw [rounds_succ]
    go_wp2_with (first | (go_at_call 216; refine H1.out.mono ?_; rintro e w' ⟨rfl, hr⟩; have HR := Lib.hid hr; clear hr))
    rw [rounds_succ]
    go_wp2
    go_ret
    exact ⟨rfl, HR.out⟩
  · go_enter Tryz.func197, Tryz.ntmps197
    go_wp2
    refine wp_loop_rounds 1 ?_
    rw [rounds_succ]
    go_wp2_with (first | (go_at_call 216; refine H1.out.mono ?_; rintro e w' ⟨rfl, hr⟩; have HR := Lib.hid hr; clear hr))
    go_ret
    exact ⟨rfl, HR.out⟩

set_option maxHeartbeats 1000000 in
theorem queue_Wake (b o x : Nat) (t : TypeId) (cs : Array Value) (vr vf : Value) (l f : List Nat) (w : World) (h : QAt w b t cs o vr vf l f) (ht : t ≠ 3) (hx : inRow f x = true) (hap : ∀ g, vf.ownBlock = some g → vr.ownBlock ≠ some g) :
    Calls Tryz.prog 190 #[.pointer (some ⟨b, o, none⟩), .int .i64 x] w fun e w' => e = .returned (.int .i64 0) ∧ ∃ v1 v2, Blk w' b t ((cs.setIfInBounds (o + 1) v1).setIfInBounds o v2) ∧ IntsAt w' v1 (f.erase x) ∧ IntsAt w' v2 (l ++ [x]) ∧ v1.ownBlock = vf.ownBlock ∧ NewOwn w.heap.size vr v2 ∧ Only (fun g => g = b ∨ vf.ownBlock = some g ∨ vr.ownBlock = some g) w w' := by
  have h2 := (h.alloc (.cells #[.pointer (some ⟨b, o, none⟩)] 196)).alloc (.cells #[.int .i64 x] 3)
  have hbox := (Blk.new w 196 #[.pointer (some ⟨b, o, none⟩)]).alloc (.cells #[.int .i64 x] 3)
  have hsl := Blk.new (w.alloc (.cells #[.pointer (some ⟨b, o, none⟩)] 196)) 3 #[.int .i64 x]
  have ho := ((Only.refl Nobody w).alloc (.cells #[.pointer (some ⟨b, o, none⟩)] 196)).alloc (.cells #[.int .i64 x] 3)
  rw [World.size_alloc] at hsl
  have HO := Lib.hid ho
  have HD := Lib.hid (row_drop_some b (o + 1) x t cs vf f _ h2.blk h2.hf ht h2.rf (by have := h2.nf; omega) hx)
  have HB := Lib.hid hbox
  have HS := Lib.hid hsl
  have hbl : w.heap.size ≠ b := by have := h.blk.lt; omega
  have hvl : vf.ownBlock ≠ some w.heap.size := fun e => by have := RowAt.lt' h.rf e; omega
  have H2 := Lib.hid h2
  have HAP := Lib.hid (And.intro hap (And.intro hbl hvl))
  clear h hx h2 hbox hsl ho hap hbl hvl
  have hw : Calls Tryz.prog 216 #[.int .i64 x, .pointer (some ⟨w.heap.size, 0, none⟩)] ((w.alloc (.cells #[.pointer (some ⟨b, o, none⟩)] 196)).alloc (.cells #[.int .i64 x] 3)) fun e w' => e = .returned (.int .i64 0) ∧ ∃ v1 v2, Blk w' b t ((cs.setIfInBounds (o + 1) v1).setIfInBounds o v2) ∧ IntsAt w' v1 (f.erase x) ∧ IntsAt w' v2 (l ++ [x]) ∧ v1.ownBlock = vf.ownBlock ∧ NewOwn w.heap.size vr v2 ∧ Only (fun g => g = b ∨ vf.ownBlock = some g ∨ vr.ownBlock = some g) w w' := by
    generalize hw2 : ((w.alloc (.cells #[.pointer (some ⟨b, o, none⟩)] 196)).alloc (.cells #[.int .i64 x] 3)) = w2 at *
    have HW2 := Lib.hid hw2
    clear hw2
    have cc : w2.cell? ⟨w.heap.size, 0, none⟩ = some (.pointer (some ⟨b, o, none⟩)) := HB.out.cell 0
    obtain ⟨c, hc⟩ : ∃ c, c = w.heap.size := ⟨_, rfl⟩
    have HC := Lib.hid hc
    rw [← hc] at cc HB HAP ⊢
    clear hc
    go_enter Tryz.func216, Tryz.ntmps216
    go_wp2_with (first | (go_at_call 199; refine HD.out.mono ?_; rintro e w3 ⟨rfl, v1, hb1, hi1, hw1, ho1⟩; have HB1 := Lib.hid hb1; have HI1 := Lib.hid hi1; have HV1 := Lib.hid hw1; have HO1 := Lib.hid ho1; have cc3 : w3.cell? ⟨c, 0, none⟩ = some (.pointer (some ⟨b, o, none⟩)) := (HB.out.only ho1 (fun e => e.elim HAP.out.2.1 HAP.out.2.2)).cell 0; clear hb1 hi1 hw1 ho1 cc) | (go_at_call 200; refine (row_add b o t _ vr _ _ x w3 HB1.out ((set_ne_ H2.out.hr (by omega))) ht (RowAt.only H2.out.rr HO1.out (fun g hg e => e.elim (fun e => IntsAt.ne H2.out.rr H2.out.blk ht (e ▸ hg)) (fun e => HAP.out.1 g e hg))) (by have := H2.out.nl; omega)).mono ?_; rintro e w4 ⟨v2, rfl, hb2, hi2, hw2, ho2⟩; have HB2 := Lib.hid hb2; have HI2 := Lib.hid hi2; have HV2 := Lib.hid hw2; have HO2 := Lib.hid ho2; clear hb2 hi2 hw2 ho2))
    go_ret
    have hsz := HO.out.size
    have hsz1 := HO1.out.size
    have hne1 : v1.ownBlock ≠ some b := IntsAt.ne HI1.out HB1.out ht
    refine ⟨rfl, v1, v2, HB2.out, ?_, ?_, HV1.out, ?_, ?_⟩
    · refine RowAt.only HI1.out HO2.out (fun g hg e => e.elim (fun e => hne1 (e ▸ hg)) (fun e => HAP.out.1 g (HV1.out ▸ hg) e))
    · have := HI2.out
      show RowAt w4 _ 1 v2 (l ++ [x]).length ((l ++ [x]).map natV)
      rw [List.length_append, List.map_append]
      exact this
    · rcases HV2.out with h | ⟨g, hg, hle⟩
      · exact .inl h
      · exact .inr ⟨g, hg, by have := HC.out; omega⟩
    · exact ((HO.out.mono (S' := fun g => g = b ∨ vf.ownBlock = some g ∨ vr.ownBlock = some g) (fun _ h => h.elim)).trans (HO1.out.mono fun g hg => hg.elim .inl (fun h => .inr (.inl h)))).trans (HO2.out.mono fun g hg => hg.elim .inl (fun h => .inr (.inr h)))
  have H1 := Lib.hid (each_Wakem b o (w.heap.size + 1) w.heap.size x 0 _ _ HS.out hw (.inl rfl))
  clear hw
  go_enter Tryz.func190, Tryz.ntmps190
  go_wp2_with (first | (go_at_call 197; refine H1.out.mono ?_; rintro e w' ⟨rfl, hr⟩; have HR := Lib.hid hr; clear hr))
  go_ret
  exact ⟨rfl, HR.out⟩
end Go.Proofs.YtfplalgoopkmaaaGreat

namespace Go.Proofs.YtfplalgoopkmaaaGreat
open Go.RowKit

def upd2 (R : Nat → Nat → Value) (t c : Nat) (v : Value) : Nat → Nat → Value := fun u d => if u = t ∧ d = c then v else R u d
theorem upd2_same (R : Nat → Nat → Value) (t c : Nat) (v : Value) : upd2 R t c v t c = v := if_pos ⟨rfl, rfl⟩
theorem upd2_t (R : Nat → Nat → Value) (t c : Nat) (v : Value) : upd2 R t c v t = updV (R t) c v := by
  funext d; unfold upd2 updV; by_cases e : d = c <;> simp [e]
theorem upd2_other (R : Nat → Nat → Value) {t u : Nat} (c : Nat) (v : Value) (h : u ≠ t) : upd2 R t c v u = R u := by
  funext d; unfold upd2; rw [if_neg (fun e => h e.1)]
abbrev Lay.row (L : Lay) (t c : Nat) (v1 v2 : Value) : Lay := { L with hR := upd2 L.hR t c v1, hF := upd2 L.hF t c v2 }
def Hp.rows (h : Hp) (c : Nat) (l f : List Nat) : Hp := { h with L := updL h.L c l, FL := updL h.FL c f }
theorem heapV_setF (R F : Nat → Value) (bm ba id : Nat) (sv : Value) (c : Nat) (h : c < 13) (v : Value) : (heapV R F bm ba id sv).setIfInBounds (2 * c + 1) v = heapV R (updV F c v) bm ba id sv := by
  match c, h with
  | 0, _ | 1, _ | 2, _ | 3, _ | 4, _ | 5, _ | 6, _ | 7, _ | 8, _ | 9, _ | 10, _ | 11, _ | 12, _ => simp [updV]
  | n + 13, h => omega

/-- Both rows of a class change. -/
theorem Ste.rows {w w' : World} {L : Lay} {A : St} {t c : Nat} {v1 v2 : Value} {l f : List Nat} (h : Rep w L A) (ht : t < 8) (hc : c < 13)
    (hb : Blk w' (L.hp t) 141 (((heapV (L.hR t) (L.hF t) L.bm L.ba (t + 1) (L.hS t)).setIfInBounds (2 * c) v1).setIfInBounds (2 * c + 1) v2))
    (h1 : IntsAt w' v1 l) (h2 : IntsAt w' v2 f) (hl : l.length ≤ 990) (hf : f.length ≤ 990) (hn1 : NewOwn w.heap.size (L.hR t c) v1) (hn2 : NewOwn w.heap.size (L.hF t c) v2) (hap : ∀ g, v1.ownBlock = some g → v2.ownBlock ≠ some g)
    (ho : Only (fun g => g = L.hp t ∨ (L.hR t c).ownBlock = some g ∨ (L.hF t c).ownBlock = some g) w w') : Ste w L A w' (L.row t c v1 v2) (A.setHeap t ((A.heap t).rows c l f)) := by
  have hH : HeapAt w (L.hp t) L.bm L.ba (heapM L t (A.heap t)) := h.all (.heap t) ht
  have fresh1 : ∀ g, v1.ownBlock = some g → (L.hR t c).ownBlock = some g ∨ w.heap.size ≤ g := fun g hg => by
    rcases hn1 with e | ⟨g', e, hle⟩
    · exact .inl (e ▸ hg)
    · rw [e] at hg; injection hg with hg; exact .inr (hg ▸ hle)
  have fresh2 : ∀ g, v2.ownBlock = some g → (L.hF t c).ownBlock = some g ∨ w.heap.size ≤ g := fun g hg => by
    rcases hn2 with e | ⟨g', e, hle⟩
    · exact .inl (e ▸ hg)
    · rw [e] at hg; injection hg with hg; exact .inr (hg ▸ hle)
  rw [heapV_setR _ _ _ _ _ _ _ hc, heapV_setF _ _ _ _ _ _ _ hc] at hb
  have hnotin : ∀ (v : Value) (l : List Nat), IntsAt w v l → ∀ g, v.ownBlock = some g → g ≠ L.hp t := fun v l hv g hg e => by
    subst e; exact IntsAt.ne hv hH.st (by decide) hg
  have hltI : ∀ (v : Value) (l : List Nat), IntsAt w v l → ∀ g, v.ownBlock = some g → g < w.heap.size := fun v l hv g hg => RowAt.lt hv hg
  have hnew : HeapAt w' (L.hp t) L.bm L.ba ⟨t + 1, updV (L.hR t) c v1, updV (L.hF t) c v2, updL (A.heap t).L c l, updL (A.heap t).FL c f, L.hS t, (A.heap t).segs.map L.sg⟩ := by
    refine ⟨hb, fun d hd => ?_, fun d hd => ?_, ?_, hH.few, fun d e hd he hne g hg1 hg2 => ?_, fun d e hd he g hg1 hg2 => ?_, fun d e hd he hne g hg1 hg2 => ?_⟩
    · simp only [updV, updL]
      by_cases e : d = c
      · rw [if_pos e, if_pos e]; exact ⟨h1, hl⟩
      · rw [if_neg e, if_neg e]
        refine ⟨RowAt.only (hH.rr d hd).1 ho fun g hg hs => ?_, (hH.rr d hd).2⟩
        rcases hs with hs | hs | hs
        · exact hnotin _ _ (hH.rr d hd).1 g hg hs
        · exact hH.apR d c hd hc e g hg hs
        · exact hH.apF d c hd hc g hg hs
    · simp only [updV, updL]
      by_cases e : d = c
      · rw [if_pos e, if_pos e]; exact ⟨h2, hf⟩
      · rw [if_neg e, if_neg e]
        refine ⟨RowAt.only (hH.rf d hd).1 ho fun g hg hs => ?_, (hH.rf d hd).2⟩
        rcases hs with hs | hs | hs
        · exact hnotin _ _ (hH.rf d hd).1 g hg hs
        · exact hH.apF c d hc hd g hs hg
        · exact hH.apFF d c hd hc e g hg hs
    · refine RowAt.only hH.sg ho fun g hg hs => ?_
      rcases hs with hs | hs | hs
      · subst hs; exact (RowAt.ne_blk hH.sg hH.st (by decide)) hg
      · exact RowAt.ne_ints hH.sg (hH.rr c hc).1 (by decide) hg hs
      · exact RowAt.ne_ints hH.sg (hH.rf c hc).1 (by decide) hg hs
    · simp only [updV] at hg1 hg2
      by_cases e1 : d = c <;> by_cases e2 : e = c
      · omega
      · rw [if_pos e1] at hg1; rw [if_neg e2] at hg2
        rcases fresh1 g hg1 with h3 | h3
        · exact hH.apR c e hc he (by omega) g h3 hg2
        · have := hltI _ _ (hH.rr e he).1 g hg2; omega
      · rw [if_neg e1] at hg1; rw [if_pos e2] at hg2
        rcases fresh1 g hg2 with h3 | h3
        · exact hH.apR d c hd hc (by omega) g hg1 h3
        · have := hltI _ _ (hH.rr d hd).1 g hg1; omega
      · rw [if_neg e1] at hg1; rw [if_neg e2] at hg2
        exact hH.apR d e hd he hne g hg1 hg2
    · simp only [updV] at hg1 hg2
      by_cases e1 : d = c <;> by_cases e2 : e = c
      · rw [if_pos e1] at hg1; rw [if_pos e2] at hg2
        exact hap g hg1 hg2
      · rw [if_pos e1] at hg1; rw [if_neg e2] at hg2
        rcases fresh1 g hg1 with h3 | h3
        · exact hH.apF c e hc he g h3 hg2
        · have := hltI _ _ (hH.rf e he).1 g hg2; omega
      · rw [if_neg e1] at hg1; rw [if_pos e2] at hg2
        rcases fresh2 g hg2 with h3 | h3
        · exact hH.apF d c hd hc g hg1 h3
        · have := hltI _ _ (hH.rr d hd).1 g hg1; omega
      · rw [if_neg e1] at hg1; rw [if_neg e2] at hg2
        exact hH.apF d e hd he g hg1 hg2
    · simp only [updV] at hg1 hg2
      by_cases e1 : d = c <;> by_cases e2 : e = c
      · omega
      · rw [if_pos e1] at hg1; rw [if_neg e2] at hg2
        rcases fresh2 g hg1 with h3 | h3
        · exact hH.apFF c e hc he (by omega) g h3 hg2
        · have := hltI _ _ (hH.rf e he).1 g hg2; omega
      · rw [if_neg e1] at hg1; rw [if_pos e2] at hg2
        rcases fresh2 g hg2 with h3 | h3
        · exact hH.apFF d c hd hc (by omega) g hg1 h3
        · have := hltI _ _ (hH.rf d hd).1 g hg1; omega
      · rw [if_neg e1] at hg1; rw [if_neg e2] at hg2
        exact hH.apFF d e hd he hne g hg1 hg2
  have hfo : ∀ i x, i ≠ .heap t → Foot (L.row t c v1 v2) (A.setHeap t ((A.heap t).rows c l f)) i x → Foot L A i x := by
    intro i x hi hx
    cases i with
    | heap u =>
      have e : u ≠ t := fun e => hi (by rw [e])
      simp only [Foot, upd2_other _ _ _ e] at hx
      exact hx
    | _ => exact hx
  refine Ste.chg (fun i => i = .heap t) h ho ?_ ?_ ?_ ?_ ?_ ?_ ⟨rfl, rfl, rfl, rfl, rfl, rfl, rfl, rfl⟩
  · rintro x (rfl | hs | hs) _
    · exact ⟨.heap t, rfl, ht, .inl rfl⟩
    · exact ⟨.heap t, rfl, ht, .inr (.inl ⟨c, hc, .inl hs⟩)⟩
    · exact ⟨.heap t, rfl, ht, .inr (.inl ⟨c, hc, .inr hs⟩)⟩
  · intro i hi hh
    cases i with
    | heap u =>
      have e : u ≠ t := fun e => hi (by rw [e])
      intro h8
      have := hh h8
      show HeapAt w' (L.hp u) L.bm L.ba ⟨u + 1, upd2 L.hR t c v1 u, upd2 L.hF t c v2 u, (upd A.heap t _ u).L, (upd A.heap t _ u).FL, L.hS u, (upd A.heap t _ u).segs.map L.sg⟩
      rw [upd2_other _ _ _ e, upd2_other _ _ _ e, upd_ne _ _ e]
      exact this
    | arena => exact ⟨hh.1, hh.2, hh.3⟩
    | sys =>
      obtain ⟨cs, hb, hc⟩ := hh
      exact ⟨cs, hb, hc.lay rfl rfl rfl (fun _ _ => rfl)⟩
    | wld => exact WldOK.lay hh rfl rfl rfl rfl (fun _ _ => rfl)
    | fr i u => exact fun F hF => (hh F hF).lay rfl rfl rfl rfl (fun _ _ => rfl) (fun _ _ => rfl)
    | _ => exact hh
  · exact fun i x hi hx => hfo i x hi hx
  · rintro i rfl _
    show HeapAt w' (L.hp t) L.bm L.ba ⟨t + 1, upd2 L.hR t c v1 t, upd2 L.hF t c v2 t, (upd A.heap t _ t).L, (upd A.heap t _ t).FL, L.hS t, (upd A.heap t _ t).segs.map L.sg⟩
    rw [upd2_t, upd2_t, upd_same]
    exact hnew
  · rintro i x rfl hx
    obtain ⟨_, hx⟩ := hx
    rcases hx with hx | ⟨d, hd, hx⟩ | hx
    · exact .inl ⟨.heap t, rfl, ht, .inl hx⟩
    · simp only [upd2_t, updV] at hx
      by_cases e : d = c
      · rw [if_pos e, if_pos e] at hx
        rcases hx with hx | hx
        · rcases fresh1 x hx with h3 | h3
          · exact .inl ⟨.heap t, rfl, ht, .inr (.inl ⟨c, hc, .inl h3⟩)⟩
          · exact .inr h3
        · rcases fresh2 x hx with h3 | h3
          · exact .inl ⟨.heap t, rfl, ht, .inr (.inl ⟨c, hc, .inr h3⟩)⟩
          · exact .inr h3
      · rw [if_neg e, if_neg e] at hx
        exact .inl ⟨.heap t, rfl, ht, .inr (.inl ⟨d, hd, hx⟩)⟩
    · exact .inl ⟨.heap t, rfl, ht, .inr (.inr hx)⟩
  · rintro i j x rfl rfl _ _; rfl
end Go.Proofs.YtfplalgoopkmaaaGreat
