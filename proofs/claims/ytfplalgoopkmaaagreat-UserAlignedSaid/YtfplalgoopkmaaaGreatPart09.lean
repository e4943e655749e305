/- A page of a class; a page of one block; whose an address is. Layer 8: a word that threads share. Conditions: none. -/
import Derived.Test.YtfplalgoopkmaaaGreatPart08
import Derived.Test.YtfplalgoopkmaaaGreatPart02

set_option linter.unusedVariables false
set_option linter.unusedSimpArgs false

namespace Go.Proofs.YtfplalgoopkmaaaGreat
open Go.RowKit

set_option maxHeartbeats 2000000 in
theorem seg_add_none (bm bs sl s n : Nat) (c : Int) (S : SegM) (w : World) (hs : SegAt w bs bm S) (h1 : 1 ≤ sl) (h16 : sl ≤ 16) (hl : ∀ a, a + sl ≤ 16 → (∀ j, j < sl → S.T (a + j) = false) → sl ≤ S.left)
    (ht : takeRow S.T 16 sl = none) :
    Calls Tryz.prog 228 #[.pointer (some ⟨bs, 0, none⟩), .int .i64 c, .int .i64 sl, .int .u64 s, .int .i64 n] w fun e w' =>
      e = .returned (.tuple #[.pointer none, .int .i64 4]) ∧ Only Nobody w w' := by
  have HTK := Lib.hid (fun w h => take_none S.bk S.bt 16 sl S.T S.left w h h1 h16 hl ht)
  have HS := Lib.hid hs
  have c0 : w.cell? ⟨bs, 0, none⟩ = some (.pointer (some ⟨S.bk, 0, none⟩)) := hs.st.cell 0
  clear hs h1 h16 hl ht
  go_enter Tryz.func228, Tryz.ntmps228
  go_wp2_with (first | (go_at_call 48; refine (HTK.out _ HS.out.marks).mono ?_; rintro e w1 ⟨rfl, ho⟩; have HO := Lib.hid ho; clear ho))
  go_ret2
  exact ⟨rfl, HO.out⟩

set_option maxHeartbeats 2000000 in
/-- What page of a class is made. -/
theorem seg_Page_ok (bm bb sz bs c : Nat) (f : Nat → Nat) (S : SegM) (w : World) (hm : MemAt w bm bb sz f) (hs : SegAt w bs bm S) (hc : c < 12) (hl : ∀ a, a + slicesOf c ≤ 16 → (∀ j, j < slicesOf c → S.T (a + j) = false) → slicesOf c ≤ S.left)
    (r : Row S.T 16) (ht : takeRow S.T 16 (slicesOf c) = some r) (at_ fr : Nat) (hat : r.1.1 = at_) (hfrg : S.place * 16384 + at_ * 1024 = fr) (ha : at_ + slicesOf c ≤ 16) (hfr : 1 ≤ fr) (hend : fr + slicesOf c * 1024 ≤ sz) :
    Calls Tryz.prog 203 #[.pointer (some ⟨bs, 0, none⟩), .int .i64 c] w fun e w' => ∃ bo bp, w.heap.size ≤ bo ∧ w.heap.size ≤ bp ∧
      e = .returned (.tuple #[.pointer (some ⟨bo, 0, none⟩), .int .i64 0]) ∧ SegAt w' bs bm { S with T := setB S.T at_ (slicesOf c) true, left := S.left - slicesOf c, of := setOf S.of at_ (slicesOf c) (some bo) } ∧
      OwnedAt w' bo bp c at_ (slicesOf c) ∧ PageAt w' bp bm (pgNew fr (sizeOf c) (blocksOf c)) ∧ Only (fun g => g = bs ∨ g = S.bk ∨ g = S.bt) w w' := by
  obtain ⟨f1, f2, f3, f4, f5, f6, f7⟩ := class_facts hc
  have hsz := hm.le
  have HA := Lib.hid (fun w hm hs => seg_add bm bb sz bs (slicesOf c) (sizeOf c) (blocksOf c) c f S w hm hs f3 (by omega) hl r ht at_ fr hat hfrg ha ⟨by omega, by omega, by omega, by omega⟩ hfr f1 f5 (by omega))
  have HS := Lib.hid hs
  have HM := Lib.hid hm
  have HC1 := Lib.hid (fun w => class_Size c hc w)
  have HC2 := Lib.hid (fun w => class_Slices c hc w)
  have HC3 := Lib.hid (fun w => class_Blocks c hc w)
  clear hl ht hs hm f1 f2 f3 f4 f5 f6 f7 hsz hend
  generalize sizeOf c = cs at *
  generalize slicesOf c = cl at *
  generalize blocksOf c = cb at *
  go_enter Tryz.func203, Tryz.ntmps203
  go_wp2_with (first | (go_at_call 108; refine (HC1.out _).mono ?_; rintro e w1 ⟨rfl, ho⟩; have HO1 := Lib.hid ho; clear ho) | (go_at_call 91; refine (HC2.out _).mono ?_; rintro e w2 ⟨rfl, ho⟩; have HO2 := Lib.hid (HO1.out.trans ho); clear ho) | (go_at_call 229; refine (HC3.out _).mono ?_; rintro e w3 ⟨rfl, ho⟩; have HO3 := Lib.hid (HO2.out.trans ho); clear ho) | (go_at_call 228; refine (HA.out _ (HM.out.only HO3.out (fun h => h) (fun h => h)) (HS.out.only HO3.out (fun h => h) (fun h => h) (fun h => h))).mono ?_; rintro e w4 ⟨bo, bp, hbo, hbp, rfl, hs4, hw4, hp4, ho⟩; have H1 := Lib.hid hbo; have H2 := Lib.hid hbp; have H3 := Lib.hid hs4; have H4 := Lib.hid hw4; have H5 := Lib.hid hp4; have H6 := Lib.hid ho; clear hbo hbp hs4 hw4 hp4 ho))
  go_ret2
  exact ⟨bo, bp, Nat.le_trans HO3.out.size H1.out, Nat.le_trans HO3.out.size H2.out, rfl, H3.out, H4.out, H5.out, (HO3.out.mono fun x h => h.elim).trans H6.out⟩

set_option maxHeartbeats 2000000 in
theorem seg_Page_none (bm bs c : Nat) (S : SegM) (w : World) (hs : SegAt w bs bm S) (hc : c < 12) (hl : ∀ a, a + slicesOf c ≤ 16 → (∀ j, j < slicesOf c → S.T (a + j) = false) → slicesOf c ≤ S.left) (ht : takeRow S.T 16 (slicesOf c) = none) :
    Calls Tryz.prog 203 #[.pointer (some ⟨bs, 0, none⟩), .int .i64 c] w fun e w' => e = .returned (.tuple #[.pointer none, .int .i64 4]) ∧ Only Nobody w w' := by
  obtain ⟨f1, f2, f3, f4, f5, f6, f7⟩ := class_facts hc
  have HA := Lib.hid (fun w hs => seg_add_none bm bs (slicesOf c) (sizeOf c) (blocksOf c) c S w hs f3 (by omega) hl ht)
  have HS := Lib.hid hs
  have HC1 := Lib.hid (fun w => class_Size c hc w)
  have HC2 := Lib.hid (fun w => class_Slices c hc w)
  have HC3 := Lib.hid (fun w => class_Blocks c hc w)
  clear hl ht hs f1 f2 f3 f4 f5 f6 f7
  generalize sizeOf c = cs at *
  generalize slicesOf c = cl at *
  generalize blocksOf c = cb at *
  go_enter Tryz.func203, Tryz.ntmps203
  go_wp2_with (first | (go_at_call 108; refine (HC1.out _).mono ?_; rintro e w1 ⟨rfl, ho⟩; have HO1 := Lib.hid ho; clear ho) | (go_at_call 91; refine (HC2.out _).mono ?_; rintro e w2 ⟨rfl, ho⟩; have HO2 := Lib.hid (HO1.out.trans ho); clear ho) | (go_at_call 229; refine (HC3.out _).mono ?_; rintro e w3 ⟨rfl, ho⟩; have HO3 := Lib.hid (HO2.out.trans ho); clear ho) | (go_at_call 228; refine (HA.out _ (HS.out.only HO3.out (fun h => h) (fun h => h) (fun h => h))).mono ?_; rintro e w4 ⟨rfl, ho⟩; have H6 := Lib.hid (HO3.out.trans ho); clear ho))
  go_ret2
  exact ⟨rfl, H6.out⟩

set_option maxHeartbeats 2000000 in
theorem seg_Big_ok (bm bb sz bs sl : Nat) (f : Nat → Nat) (S : SegM) (w : World) (hm : MemAt w bm bb sz f) (hs : SegAt w bs bm S) (h1 : 1 ≤ sl) (h15 : sl ≤ 15) (hl : ∀ a, a + sl ≤ 16 → (∀ j, j < sl → S.T (a + j) = false) → sl ≤ S.left)
    (r : Row S.T 16) (ht : takeRow S.T 16 sl = some r) (at_ fr : Nat) (hat : r.1.1 = at_) (hfrg : S.place * 16384 + at_ * 1024 = fr) (ha : at_ + sl ≤ 16) (hfr : 1 ≤ fr) (hend : fr + sl * 1024 ≤ sz) :
    Calls Tryz.prog 202 #[.pointer (some ⟨bs, 0, none⟩), .int .i64 sl] w fun e w' => ∃ bo bp, w.heap.size ≤ bo ∧ w.heap.size ≤ bp ∧
      e = .returned (.tuple #[.pointer (some ⟨bo, 0, none⟩), .int .i64 0]) ∧ SegAt w' bs bm { S with T := setB S.T at_ sl true, left := S.left - sl, of := setOf S.of at_ sl (some bo) } ∧
      OwnedAt w' bo bp (-1) at_ sl ∧ PageAt w' bp bm (pgNew fr (sl * 1024) 1) ∧ Only (fun g => g = bs ∨ g = S.bk ∨ g = S.bt) w w' := by
  have hsz := hm.le
  have HA := Lib.hid (seg_add bm bb sz bs sl (sl * 1024) 1 (-1) f S w hm hs h1 (by omega) hl r ht at_ fr hat hfrg ha ⟨by omega, by omega, by omega, by omega⟩ hfr (by omega) (by omega) (by omega))
  have hr1 : decide ((16 : Int) ≤ sl) = false := by rw [decide_eq_false_iff_not]; omega
  have hr2 : decide (16 ≤ sl) = false := by rw [decide_eq_false_iff_not]; omega
  have hr3 : decide ((sl : Int) < 1) = false := by rw [decide_eq_false_iff_not]; omega
  clear hl ht hs hm hsz hend
  go_enter Tryz.func202, Tryz.ntmps202
  go_wp2_with (first | (go_at_call 228; refine HA.out.mono ?_; rintro e w4 ⟨bo, bp, hbo, hbp, rfl, hs4, hw4, hp4, ho⟩; have H1 := Lib.hid hbo; have H2 := Lib.hid hbp; have H3 := Lib.hid hs4; have H4 := Lib.hid hw4; have H5 := Lib.hid hp4; have H6 := Lib.hid ho; clear hbo hbp hs4 hw4 hp4 ho))
  go_ret2
  exact ⟨bo, bp, H1.out, H2.out, rfl, H3.out, H4.out, H5.out, H6.out⟩

set_option maxHeartbeats 2000000 in
theorem seg_Big_none (bm bs sl : Nat) (S : SegM) (w : World) (hs : SegAt w bs bm S) (h1 : 1 ≤ sl) (h15 : sl ≤ 15) (hl : ∀ a, a + sl ≤ 16 → (∀ j, j < sl → S.T (a + j) = false) → sl ≤ S.left) (ht : takeRow S.T 16 sl = none) :
    Calls Tryz.prog 202 #[.pointer (some ⟨bs, 0, none⟩), .int .i64 sl] w fun e w' => e = .returned (.tuple #[.pointer none, .int .i64 4]) ∧ Only Nobody w w' := by
  have HA := Lib.hid (seg_add_none bm bs sl (sl * 1024) 1 (-1) S w hs h1 (by omega) hl ht)
  have hr1 : decide ((16 : Int) ≤ sl) = false := by rw [decide_eq_false_iff_not]; omega
  have hr2 : decide (16 ≤ sl) = false := by rw [decide_eq_false_iff_not]; omega
  have hr3 : decide ((sl : Int) < 1) = false := by rw [decide_eq_false_iff_not]; omega
  clear hl ht hs
  go_enter Tryz.func202, Tryz.ntmps202
  go_wp2_with (first | (go_at_call 228; refine HA.out.mono ?_; rintro e w4 ⟨rfl, ho⟩; have H6 := Lib.hid ho; clear ho))
  go_ret2
  exact ⟨rfl, H6.out⟩

theorem seg_Place (bs bm : Nat) (S : SegM) (w : World) (hs : SegAt w bs bm S) :
    Calls Tryz.prog 100 #[.pointer (some ⟨bs, 0, none⟩)] w fun e w' => e = .returned (.int .i64 S.place) ∧ w = w' := by
  have c : w.cell? ⟨bs, 2, none⟩ = some (.int .i64 S.place) := hs.st.cell 2
  clear hs
  go_enter Tryz.func100, Tryz.ntmps100
  go_wp2
  go_ret
  exact ⟨rfl, rfl⟩
theorem seg_Owner (bs : Nat) (w : World) :
    Calls Tryz.prog 149 #[.pointer (some ⟨bs, 0, none⟩)] w fun e w' => e = .returned (.pointer (some ⟨bs, 19, none⟩)) ∧ w = w' := by
  go_enter Tryz.func149, Tryz.ntmps149
  go_wp2
  go_ret
  exact ⟨rfl, rfl⟩

/-- What Find answers. -/
def segFind (S : SegM) (a : Nat) : Option Nat × Int :=
  if a / 16384 ≠ S.place then (none, 3) else if S.of (a / 1024 % 16) = none then (none, 5) else (S.of (a / 1024 % 16), 0)

set_option maxHeartbeats 2000000 in
theorem seg_Find (bs bm a : Nat) (S : SegM) (w : World) (hs : SegAt w bs bm S) (ha : a < 1048576) :
    Calls Tryz.prog 184 #[.pointer (some ⟨bs, 0, none⟩), .int .u64 a] w fun e w' => e = .returned (.tuple #[ownV (segFind S a).1, .int .i64 (segFind S a).2]) ∧ Only Nobody w w' := by
  have HA := Lib.hid (fun w => geo_At a ha w)
  have HS := Lib.hid hs
  have h16 : a / 1024 % 16 < 16 := by omega
  have hf : segFind S a = if a / 16384 ≠ S.place then (none, 3) else if S.of (a / 1024 % 16) = none then (none, 5) else (S.of (a / 1024 % 16), 0) := rfl
  generalize a / 16384 = sg at hf HA
  generalize a / 1024 % 16 = sl at hf HA h16
  generalize a % 1024 = off at HA
  have HF := Lib.hid hf
  clear hs ha hf
  go_enter Tryz.func184, Tryz.ntmps184
  go_wp2_with (first | (go_at_call 211; refine (HA.out _).mono ?_; rintro e w1 ⟨rfl, ho⟩; have HO := Lib.hid ho; have HS1 := Lib.hid (HS.out.only ho (fun h => h) (fun h => h) (fun h => h)); clear ho))
  have HPB := Lib.hid (Blk.new w1 288 #[.int .i64 sg, .int .i64 sl, .int .u64 off])
  have HSB := Lib.hid (HS1.out.st.alloc (.cells #[.int .i64 sg, .int .i64 sl, .int .u64 off] 288))
  have HOB := Lib.hid (HO.out.alloc (.cells #[.int .i64 sg, .int .i64 sl, .int .u64 off] 288))
  generalize w1.alloc (.cells #[.int .i64 sg, .int .i64 sl, .int .u64 off] 288) = w2 at *
  generalize w1.heap.size = g at *
  have c0 : w2.cell? ⟨g, 0, none⟩ = some (.int .i64 sg) := HPB.out.cell 0
  have c1 : w2.cell? ⟨g, 1, none⟩ = some (.int .i64 sl) := HPB.out.cell 1
  have d2 : w2.cell? ⟨bs, 2, none⟩ = some (.int .i64 S.place) := HSB.out.cell 2
  have e3 : w2.cell? ⟨bs, 3 + sl, none⟩ = some (ownV (S.of sl)) := (HSB.out.cell _).trans (segV_of bm _ _ h16)
  by_cases hpl : sg = S.place
  · have ht : ((sg : Int) == S.place) = true := by rw [hpl]; exact beq_self_eq_true _
    have HPL := Lib.hid hpl
    clear hpl
    go_quiet (fail)
    go_wp2
    cases hof : S.of sl with
    | none =>
      rw [hof] at e3
      have e3' : w2.cell? ⟨bs, 3 + sl, none⟩ = some (.pointer none) := e3
      have HOF := Lib.hid hof
      clear hof e3
      go_quiet (fail)
      go_wp2
      go_ret2
      rw [show segFind S a = (none, 5) from by rw [HF.out, if_neg (fun h => h HPL.out), if_pos HOF.out]]
      exact ⟨rfl, ((HOB.out.drewN _).drewN _)⟩
    | some bo =>
      rw [hof] at e3
      have e3' : w2.cell? ⟨bs, 3 + sl, none⟩ = some (.pointer (some ⟨bo, 0, none⟩)) := e3
      have HOF := Lib.hid hof
      clear hof e3
      go_quiet (fail)
      go_wp2
      go_quiet (fail)
      go_wp2
      go_ret2
      rw [show segFind S a = (some bo, 0) from by rw [HF.out, if_neg (fun h => h HPL.out), HOF.out]; rfl]
      exact ⟨rfl, (((HOB.out.drewN _).drewN _).drewN _)⟩
  · have ht : ((sg : Int) == S.place) = false := by rw [beq_eq_false_iff_ne]; omega
    have ht2 : (sg == S.place) = false := by rw [beq_eq_false_iff_ne]; omega
    have HPL := Lib.hid hpl
    clear hpl
    go_quiet (fail)
    go_wp2
    go_ret2
    rw [show segFind S a = (none, 3) from by rw [HF.out, if_pos HPL.out]]
    exact ⟨rfl, (HOB.out.drewN _)⟩
end Go.Proofs.YtfplalgoopkmaaaGreat

namespace Go.Proofs.YtfplalgoopkmaaaGreat
open Go.RowKit

theorem cell_ask (b o : Nat) (t : TypeId) (cs : Array Value) (k : Int) (w : World) (hb : Blk w b t cs) (h2 : cs[o + 2]? = some (.int .i64 k)) (h0 : 0 ≤ k) (hk : k < 1000000000000) :
    Calls Tryz.prog 178 #[.pointer (some ⟨b, o, none⟩)] w fun e w' => e = .returned (.bool true) ∧ Blk w' b t (cs.setIfInBounds (o + 2) (.int .i64 (k + 1))) ∧ Only (· = b) w w' := by
  have HB := Lib.hid hb
  have c2 : w.cell? ⟨b, o + 2, none⟩ = some (.int .i64 k) := (hb.cell _).trans h2
  have f2 := hb.frozen (o + 2)
  clear hb h2
  go_enter Tryz.func178, Tryz.ntmps178
  go_wp2
  go_ret
  exact ⟨rfl, HB.out.set_ _ _, Only.setAt (S := fun x => x = b) (Only.refl _ _) (show b = b from rfl) _ _⟩

theorem cell_write (b o : Nat) (t : TypeId) (cs : Array Value) (x y tag : Nat) (w : World) (hb : Blk w b t cs) (h0 : cs[o]? = some (.int .u64 y)) (h1 : cs[o + 1]? = some (.int .u64 tag)) (ht : tag < 1000000000000) :
    Calls Tryz.prog 179 #[.pointer (some ⟨b, o, none⟩), .int .u64 x] w fun e w' => e = .returned (.tuple #[]) ∧ Blk w' b t ((cs.setIfInBounds o (.int .u64 x)).setIfInBounds (o + 1) (.int .u64 (tag + 1 : Nat))) ∧ Only (· = b) w w' := by
  have HB := Lib.hid hb
  have c0 : w.cell? ⟨b, o, none⟩ = some (.int .u64 y) := (hb.cell _).trans h0
  have c1 : w.cell? ⟨b, o + 1, none⟩ = some (.int .u64 tag) := (hb.cell _).trans h1
  have f0 := hb.frozen o
  have f1 := hb.frozen (o + 1)
  clear hb h0 h1
  go_enter Tryz.func179, Tryz.ntmps179
  go_wp2
  go_end0
  exact ⟨rfl, (HB.out.set_ _ _).set_ _ _, Only.setAt (S := fun x => x = b) (Only.setAt (S := fun x => x = b) (Only.refl _ _) (show b = b from rfl) _ _) (show b = b from rfl) _ _⟩

theorem cell_Load (b o : Nat) (t : TypeId) (cs : Array Value) (x tag : Nat) (k : Int) (w : World) (hb : Blk w b t cs) (h0 : cs[o]? = some (.int .u64 x)) (h1 : cs[o + 1]? = some (.int .u64 tag)) (h2 : cs[o + 2]? = some (.int .i64 k)) (hk0 : 0 ≤ k) (hk : k < 1000000000000) :
    Calls Tryz.prog 158 #[.pointer (some ⟨b, o, none⟩)] w fun e w' => e = .returned (.tuple #[.int .u64 x, .int .u64 tag]) ∧ Blk w' b t (cs.setIfInBounds (o + 2) (.int .i64 (k + 1))) ∧ Only (· = b) w w' := by
  have HA := Lib.hid (cell_ask b o t cs k w hb h2 hk0 hk)
  have e0 : (cs.setIfInBounds (o + 2) (.int .i64 (k + 1)))[o]? = some (.int .u64 x) := by rw [Array.getElem?_setIfInBounds, if_neg (by omega)]; exact h0
  have e1 : (cs.setIfInBounds (o + 2) (.int .i64 (k + 1)))[o + 1]? = some (.int .u64 tag) := by rw [Array.getElem?_setIfInBounds, if_neg (by omega)]; exact h1
  have H0 := Lib.hid e0
  have H1 := Lib.hid e1
  clear hb h0 h1 h2 hk0 hk e0 e1
  go_enter Tryz.func158, Tryz.ntmps158
  go_wp2_with (first | (go_at_call 178; refine HA.out.mono ?_; rintro e w1 ⟨rfl, hb, ho⟩; have HB := Lib.hid hb; have HO := Lib.hid ho; have c0 : w1.cell? ⟨b, o, none⟩ = some (.int .u64 x) := (hb.cell _).trans H0.out; have c1 : w1.cell? ⟨b, o + 1, none⟩ = some (.int .u64 tag) := (hb.cell _).trans H1.out; clear hb ho))
  go_quiet (fail)
  go_wp2
  go_ret2
  exact ⟨rfl, HB.out.drewN _, HO.out.drewN _⟩

theorem cell_Store (b o : Nat) (t : TypeId) (cs : Array Value) (x y tag : Nat) (k : Int) (w : World) (hb : Blk w b t cs) (h0 : cs[o]? = some (.int .u64 y)) (h1 : cs[o + 1]? = some (.int .u64 tag)) (ht : tag < 1000000000000) (h2 : cs[o + 2]? = some (.int .i64 k)) (hk0 : 0 ≤ k) (hk : k < 1000000000000) :
    Calls Tryz.prog 150 #[.pointer (some ⟨b, o, none⟩), .int .u64 x] w fun e w' => e = .returned (.tuple #[]) ∧ Blk w' b t (((cs.setIfInBounds (o + 2) (.int .i64 (k + 1))).setIfInBounds o (.int .u64 x)).setIfInBounds (o + 1) (.int .u64 (tag + 1 : Nat))) ∧ Only (· = b) w w' := by
  have HA := Lib.hid (cell_ask b o t cs k w hb h2 hk0 hk)
  have e0 : (cs.setIfInBounds (o + 2) (.int .i64 (k + 1)))[o]? = some (.int .u64 y) := by rw [Array.getElem?_setIfInBounds, if_neg (by omega)]; exact h0
  have e1 : (cs.setIfInBounds (o + 2) (.int .i64 (k + 1)))[o + 1]? = some (.int .u64 tag) := by rw [Array.getElem?_setIfInBounds, if_neg (by omega)]; exact h1
  have HW := Lib.hid (fun w hb => cell_write b o t _ x y tag w hb e0 e1 ht)
  clear hb h0 h1 h2 hk0 hk e0 e1
  go_enter Tryz.func150, Tryz.ntmps150
  go_wp2_with (first | (go_at_call 178; refine HA.out.mono ?_; rintro e w1 ⟨rfl, hb, ho⟩; have HB := Lib.hid hb; have HO := Lib.hid ho; clear hb ho) | (go_at_call 179; refine (HW.out _ HB.out).mono ?_; rintro e w2 ⟨rfl, hb, ho⟩; have HB2 := Lib.hid hb; have HO2 := Lib.hid (HO.out.trans ho); clear hb ho))
  go_end0
  exact ⟨rfl, HB2.out, HO2.out⟩

theorem stack_Look (b o : Nat) (t : TypeId) (cs : Array Value) (x tag : Nat) (k : Int) (w : World) (hb : Blk w b t cs) (h0 : cs[o]? = some (.int .u64 x)) (hx : x ≤ 64) (h1 : cs[o + 1]? = some (.int .u64 tag)) (h2 : cs[o + 2]? = some (.int .i64 k)) (hk0 : 0 ≤ k) (hk : k < 1000000000000) :
    Calls Tryz.prog 147 #[.pointer (some ⟨b, o, none⟩)] w fun e w' => e = .returned (.tuple #[.int .i64 ((x : Int) - 1), .int .u64 tag]) ∧ Blk w' b t (cs.setIfInBounds (o + 2) (.int .i64 (k + 1))) ∧ Only (· = b) w w' := by
  have HA := Lib.hid (cell_Load b o t cs x tag k w hb h0 h1 h2 hk0 hk)
  clear hb h0 h1 h2 hk0 hk
  go_enter Tryz.func147, Tryz.ntmps147
  go_wp2_with (first | (go_at_call 158; refine HA.out.mono ?_; rintro e w1 ⟨rfl, hb, ho⟩; have HB := Lib.hid hb; have HO := Lib.hid ho; clear hb ho))
  go_ret2
  exact ⟨rfl, HB.out, HO.out⟩
end Go.Proofs.YtfplalgoopkmaaaGreat
