/- UserZeroed: for every input it returns true. UserZeroed, UserAligned: the statements' walks, put together. What rows of laws over plain numbers share. Conditions: none. -/
import Derived.Test.YtfplalgoopkmaaaGreatPart43
import Derived.WalkKit
import Derived.ProofKit
import Derived.OpenShut

set_option linter.unusedVariables false
set_option linter.unusedSimpArgs false

namespace Go.Proofs.YtfplalgoopkmaaaGreat
open Go.RowKit

section
variable {x y p : Nat}
/-- What a call of Zeroed does to a user's world anew. -/
def ZCall (x y : Nat) (a : Nat) (e : Int) (C : St) : Prop := ∀ w L bu, Rep w L (S1 64 2) → UserAt w bu L 0 → Calls Tryz.prog 7 #[.pointer (some ⟨bu, 0, none⟩), .int .u64 x, .int .u64 y] w fun r w' => ∃ L', r = .returned (.tuple #[.int .u64 a, .int .i64 e]) ∧ Run w L (S1 64 2) w' L' C

set_option maxRecDepth 100000 in
set_option maxHeartbeats 4000000 in
theorem zeroed_great {C : St} (hx : x ≠ 0) (hy : y ≠ 0) (hw : 1048576 < x ∨ (x ≤ 1048576 ∧ 1048576 < y) ∨ (x ≤ 1048576 ∧ y ≤ 1048576 ∧ 1048576 < x * y)) (hz : ZCall x y 0 2 C) (hled : C.wl.led = []) (w : World) :
    Calls Tryz.prog 3 #[.int .u64 x, .int .u64 y] w fun e w' => e = .returned (.bool true) ∧ Only Nobody w w' := by
  have HA := Lib.hid (law_alive w)
  have HM := Lib.hid (fun w1 => law_made 64 (by omega) (by omega) w1)
  have HZ := Lib.hid hz
  have HL := Lib.hid (fun w1 L b h hb => live_len (A := C) (n := 0) (by rw [hled]; rfl) (by rw [hled]; exact List.Pairwise.nil) (by omega) w1 L b h hb)
  have b1 : ((x : Int) == 0) = false := by rw [beq_eq_false_iff_ne]; omega
  have b2 : ((y : Int) == 0) = false := by rw [beq_eq_false_iff_ne]; omega
  clear hz hled
  rcases hw with hw | ⟨hw1, hw2⟩ | ⟨hw1, hw2, hw3⟩
  · have b3 : decide ((x : Int) ≤ 1048576) = false := by rw [decide_eq_false_iff_not]; omega
    have b3n : decide (x ≤ 1048576) = false := by rw [decide_eq_false_iff_not]; omega
    go_enter Tryz.func3, Tryz.ntmps3
    go_wp2_with (first | (go_at_call 5; refine HA.out.mono ?_; rintro e w1 ⟨rfl, ho1⟩; have HO1 := Lib.hid ho1; clear ho1) | (go_at_call 6; refine (HM.out _).mono ?_; rintro e w2 ⟨L, bu, rfl, hm⟩; have HMA := Lib.hid hm; clear hm) | (go_at_call 7; refine (HZ.out _ L bu HMA.out.rep HMA.out.usr).mono ?_; rintro e w3 ⟨L3, rfl, hr3⟩; have HR3 := Lib.hid hr3; clear hr3) | (go_at_call 8; refine (HL.out _ L3 L.bw HR3.out.rep HR3.out.fix.bw).mono ?_; rintro e w4 ⟨ra, rc, rfl, ho4⟩; have HO4 := Lib.hid ho4; clear ho4))
    go_ret
    exact ⟨rfl, (HO1.out.trans (fresh_foot HMA.out.only HMA.out.new HR3.out)).trans HO4.out⟩
  · have b3 : decide ((x : Int) ≤ 1048576) = true := by rw [decide_eq_true_eq]; omega
    have b3n : decide (x ≤ 1048576) = true := by rw [decide_eq_true_eq]; omega
    have b4 : decide ((y : Int) ≤ 1048576) = false := by rw [decide_eq_false_iff_not]; omega
    have b4n : decide (y ≤ 1048576) = false := by rw [decide_eq_false_iff_not]; omega
    go_enter Tryz.func3, Tryz.ntmps3
    go_wp2_with (first | (go_at_call 5; refine HA.out.mono ?_; rintro e w1 ⟨rfl, ho1⟩; have HO1 := Lib.hid ho1; clear ho1) | (go_at_call 6; refine (HM.out _).mono ?_; rintro e w2 ⟨L, bu, rfl, hm⟩; have HMA := Lib.hid hm; clear hm) | (go_at_call 7; refine (HZ.out _ L bu HMA.out.rep HMA.out.usr).mono ?_; rintro e w3 ⟨L3, rfl, hr3⟩; have HR3 := Lib.hid hr3; clear hr3) | (go_at_call 8; refine (HL.out _ L3 L.bw HR3.out.rep HR3.out.fix.bw).mono ?_; rintro e w4 ⟨ra, rc, rfl, ho4⟩; have HO4 := Lib.hid ho4; clear ho4))
    go_ret
    exact ⟨rfl, (HO1.out.trans (fresh_foot HMA.out.only HMA.out.new HR3.out)).trans HO4.out⟩
  · have b3 : decide ((x : Int) ≤ 1048576) = true := by rw [decide_eq_true_eq]; omega
    have b3n : decide (x ≤ 1048576) = true := by rw [decide_eq_true_eq]; omega
    have b4 : decide ((y : Int) ≤ 1048576) = true := by rw [decide_eq_true_eq]; omega
    have b4n : decide (y ≤ 1048576) = true := by rw [decide_eq_true_eq]; omega
    have hle : x * y ≤ 1048576 * 1048576 := Nat.mul_le_mul hw1 hw2
    have hwr : IntKind.u64.wrap ((x : Int) * (y : Int)) = ((x * y : Nat) : Int) := by rw [m64_mul, m64_wrap _ (by omega)]
    generalize x * y = p at *
    have b5 : decide ((p : Int) ≤ 1048576) = false := by rw [decide_eq_false_iff_not]; omega
    have b5n : decide (p ≤ 1048576) = false := by rw [decide_eq_false_iff_not]; omega
    clear hle
    go_enter Tryz.func3, Tryz.ntmps3
    go_wp2_with (first | (go_at_call 5; refine HA.out.mono ?_; rintro e w1 ⟨rfl, ho1⟩; have HO1 := Lib.hid ho1; clear ho1) | (go_at_call 6; refine (HM.out _).mono ?_; rintro e w2 ⟨L, bu, rfl, hm⟩; have HMA := Lib.hid hm; clear hm) | (go_at_call 7; refine (HZ.out _ L bu HMA.out.rep HMA.out.usr).mono ?_; rintro e w3 ⟨L3, rfl, hr3⟩; have HR3 := Lib.hid hr3; clear hr3) | (go_at_call 8; refine (HL.out _ L3 L.bw HR3.out.rep HR3.out.fix.bw).mono ?_; rintro e w4 ⟨ra, rc, rfl, ho4⟩; have HO4 := Lib.hid ho4; clear ho4))
    go_ret
    exact ⟨rfl, (HO1.out.trans (fresh_foot HMA.out.only HMA.out.new HR3.out)).trans HO4.out⟩

/-- What a test of such a product finds. -/
inductive Small (x y : Nat) : Prop
  | zero (h : x = 0)
  | zero2 (h : x ≠ 0) (h2 : y = 0)
  | both (h : x ≠ 0) (h2 : y ≠ 0) (h3 : x ≤ 1048576) (h4 : y ≤ 1048576)
theorem small_of (h : x * y ≤ 1048576) : Small x y := by
  by_cases hx : x = 0
  · exact .zero hx
  · by_cases hy : y = 0
    · exact .zero2 hx hy
    · refine .both hx hy ?_ ?_
      · have : x * 1 ≤ x * y := Nat.mul_le_mul_left _ (by omega)
        omega
      · have : 1 * y ≤ x * y := Nat.mul_le_mul_right _ (by omega)
        omega

set_option maxRecDepth 100000 in
set_option maxHeartbeats 4000000 in
theorem zeroed_made {C : St} {a : Nat} (hp : x * y ≤ 1048576) (hz : ZCall x y a 0 C) (hled : C.wl.led = [⟨a, x * y, 1, false⟩]) (w : World) :
    Calls Tryz.prog 3 #[.int .u64 x, .int .u64 y] w fun e w' => e = .returned (.bool true) ∧ Only Nobody w w' := by
  have HA := Lib.hid (law_alive w)
  have HM := Lib.hid (fun w1 => law_made 64 (by omega) (by omega) w1)
  have HZ := Lib.hid hz
  have HS : Hid (∀ w1 L bu, Rep w1 L C → UserAt w1 bu L 0 → Calls Tryz.prog 9 #[.pointer (some ⟨bu, 0, none⟩), .int .u64 a] w1 fun e w' => e = .returned (.tuple #[.int .u64 (x * y : Nat), .int .i64 0]) ∧ Only Nobody w1 w') := Lib.hid fun w1 L bu h hu =>
    user_Size C bu a 0 0 ⟨a, x * y, 1, false⟩ w1 L h (by rw [hled]; simp [Rising]) (by rw [hled]; simp) hu (by rw [hled]; rfl) rfl (fun i e hi => by omega)
  have hs := small_of hp
  have hwr : IntKind.u64.wrap ((x : Int) * (y : Int)) = ((x * y : Nat) : Int) := by rw [m64_mul, m64_wrap _ (by omega)]
  generalize hpp : x * y = p at *
  have b5 : decide ((p : Int) ≤ 1048576) = true := by rw [decide_eq_true_eq]; omega
  have b5n : decide (p ≤ 1048576) = true := by rw [decide_eq_true_eq]; omega
  clear hz hled
  rcases hs with rfl | ⟨hx, rfl⟩ | ⟨hx, hy, h3, h4⟩
  · rw [Nat.zero_mul] at hpp
    subst hpp
    clear hwr
    go_enter Tryz.func3, Tryz.ntmps3
    go_wp2_with (first | (go_at_call 5; refine HA.out.mono ?_; rintro e w1 ⟨rfl, ho1⟩; have HO1 := Lib.hid ho1; clear ho1) | (go_at_call 6; refine (HM.out _).mono ?_; rintro e w2 ⟨L, bu, rfl, hm⟩; have HMA := Lib.hid hm; clear hm) | (go_at_call 7; refine (HZ.out _ L bu HMA.out.rep HMA.out.usr).mono ?_; rintro e w3 ⟨L3, rfl, hr3⟩; have HR3 := Lib.hid hr3; clear hr3) | (go_at_call 9; refine (HS.out _ L3 bu HR3.out.rep (HMA.out.usr.keep HR3.out HMA.out.no)).mono ?_; rintro e w4 ⟨rfl, ho4⟩; have HO4 := Lib.hid ho4; clear ho4))
    go_ret
    exact ⟨rfl, (HO1.out.trans (fresh_foot HMA.out.only HMA.out.new HR3.out)).trans HO4.out⟩
  · rw [Nat.mul_zero] at hpp
    subst hpp
    have b1 : ((x : Int) == 0) = false := by rw [beq_eq_false_iff_ne]; omega
    clear hwr
    go_enter Tryz.func3, Tryz.ntmps3
    go_wp2_with (first | (go_at_call 5; refine HA.out.mono ?_; rintro e w1 ⟨rfl, ho1⟩; have HO1 := Lib.hid ho1; clear ho1) | (go_at_call 6; refine (HM.out _).mono ?_; rintro e w2 ⟨L, bu, rfl, hm⟩; have HMA := Lib.hid hm; clear hm) | (go_at_call 7; refine (HZ.out _ L bu HMA.out.rep HMA.out.usr).mono ?_; rintro e w3 ⟨L3, rfl, hr3⟩; have HR3 := Lib.hid hr3; clear hr3) | (go_at_call 9; refine (HS.out _ L3 bu HR3.out.rep (HMA.out.usr.keep HR3.out HMA.out.no)).mono ?_; rintro e w4 ⟨rfl, ho4⟩; have HO4 := Lib.hid ho4; clear ho4))
    go_ret
    exact ⟨rfl, (HO1.out.trans (fresh_foot HMA.out.only HMA.out.new HR3.out)).trans HO4.out⟩
  · have b1 : ((x : Int) == 0) = false := by rw [beq_eq_false_iff_ne]; omega
    have b2 : ((y : Int) == 0) = false := by rw [beq_eq_false_iff_ne]; omega
    have b3 : decide ((x : Int) ≤ 1048576) = true := by rw [decide_eq_true_eq]; omega
    have b3n : decide (x ≤ 1048576) = true := by rw [decide_eq_true_eq]; omega
    have b4 : decide ((y : Int) ≤ 1048576) = true := by rw [decide_eq_true_eq]; omega
    have b4n : decide (y ≤ 1048576) = true := by rw [decide_eq_true_eq]; omega
    clear hpp
    go_enter Tryz.func3, Tryz.ntmps3
    go_wp2_with (first | (go_at_call 5; refine HA.out.mono ?_; rintro e w1 ⟨rfl, ho1⟩; have HO1 := Lib.hid ho1; clear ho1) | (go_at_call 6; refine (HM.out _).mono ?_; rintro e w2 ⟨L, bu, rfl, hm⟩; have HMA := Lib.hid hm; clear hm) | (go_at_call 7; refine (HZ.out _ L bu HMA.out.rep HMA.out.usr).mono ?_; rintro e w3 ⟨L3, rfl, hr3⟩; have HR3 := Lib.hid hr3; clear hr3) | (go_at_call 9; refine (HS.out _ L3 bu HR3.out.rep (HMA.out.usr.keep HR3.out HMA.out.no)).mono ?_; rintro e w4 ⟨rfl, ho4⟩; have HO4 := Lib.hid ho4; clear ho4))
    go_ret
    exact ⟨rfl, (HO1.out.trans (fresh_foot HMA.out.only HMA.out.new HR3.out)).trans HO4.out⟩

set_option maxRecDepth 100000 in
set_option maxHeartbeats 4000000 in
theorem zeroed_full {C : St} (hp : x * y ≤ 1048576) (hp2 : 1000000 < x * y) (hz : ZCall x y 0 4 C) (w : World) :
    Calls Tryz.prog 3 #[.int .u64 x, .int .u64 y] w fun e w' => e = .returned (.bool true) ∧ Only Nobody w w' := by
  have HA := Lib.hid (law_alive w)
  have HM := Lib.hid (fun w1 => law_made 64 (by omega) (by omega) w1)
  have HZ := Lib.hid hz
  have hs := small_of hp
  have hwr : IntKind.u64.wrap ((x : Int) * (y : Int)) = ((x * y : Nat) : Int) := by rw [m64_mul, m64_wrap _ (by omega)]
  generalize hpp : x * y = p at *
  have b5 : decide ((p : Int) ≤ 1048576) = true := by rw [decide_eq_true_eq]; omega
  have b5n : decide (p ≤ 1048576) = true := by rw [decide_eq_true_eq]; omega
  have b6 : decide ((1000000 : Int) < p) = true := by rw [decide_eq_true_eq]; omega
  have b6n : decide (1000000 < p) = true := by rw [decide_eq_true_eq]; omega
  clear hz
  rcases hs with rfl | ⟨hx, rfl⟩ | ⟨hx, hy, h3, h4⟩
  · rw [Nat.zero_mul] at hpp; omega
  · rw [Nat.mul_zero] at hpp; omega
  · have b1 : ((x : Int) == 0) = false := by rw [beq_eq_false_iff_ne]; omega
    have b2 : ((y : Int) == 0) = false := by rw [beq_eq_false_iff_ne]; omega
    have b3 : decide ((x : Int) ≤ 1048576) = true := by rw [decide_eq_true_eq]; omega
    have b3n : decide (x ≤ 1048576) = true := by rw [decide_eq_true_eq]; omega
    have b4 : decide ((y : Int) ≤ 1048576) = true := by rw [decide_eq_true_eq]; omega
    have b4n : decide (y ≤ 1048576) = true := by rw [decide_eq_true_eq]; omega
    clear hpp
    go_enter Tryz.func3, Tryz.ntmps3
    go_wp2_with (first | (go_at_call 5; refine HA.out.mono ?_; rintro e w1 ⟨rfl, ho1⟩; have HO1 := Lib.hid ho1; clear ho1) | (go_at_call 6; refine (HM.out _).mono ?_; rintro e w2 ⟨L, bu, rfl, hm⟩; have HMA := Lib.hid hm; clear hm) | (go_at_call 7; refine (HZ.out _ L bu HMA.out.rep HMA.out.usr).mono ?_; rintro e w3 ⟨L3, rfl, hr3⟩; have HR3 := Lib.hid hr3; clear hr3))
    go_ret
    exact ⟨rfl, HO1.out.trans (fresh_foot HMA.out.only HMA.out.new HR3.out)⟩
end
end Go.Proofs.YtfplalgoopkmaaaGreat

namespace Go.Proofs.YtfplalgoopkmaaaGreat
open Go.RowKit

theorem mul2_ok {x y : Nat} (h : (mul2 x y).2 = 0) : (mul2 x y).1 = x * y ∧ x * y ≤ 1099511627776 := by
  unfold mul2 at h ⊢
  split
  · rename_i h0
    rcases h0 with rfl | rfl
    · simp
    · simp
  · split
    · rename_i h1; exact ⟨rfl, h1.2⟩
    · rename_i h1 h2
      rw [if_neg h1, if_neg h2] at h
      cases h
theorem mul2_no {x y : Nat} (h : (mul2 x y).2 ≠ 0) : (mul2 x y).2 = 3 ∧ x ≠ 0 ∧ y ≠ 0 ∧ 1048576 < x * y := by
  unfold mul2 at h ⊢
  by_cases h0 : x = 0 ∨ y = 0
  · rw [if_pos h0] at h; exact absurd rfl h
  · rw [if_neg h0] at h ⊢
    by_cases h1 : x ≤ 1099511627776 ∧ x * y ≤ 1099511627776
    · rw [if_pos h1] at h; exact absurd rfl h
    · rw [if_neg h1]
      refine ⟨rfl, by omega, by omega, ?_⟩
      rcases Nat.lt_or_ge 1099511627776 x with h2 | h2
      · have : x * 1 ≤ x * y := Nat.mul_le_mul_left _ (by omega)
        omega
      · omega
theorem great_of {x y : Nat} (hx : x ≠ 0) (hy : y ≠ 0) (h : 1048576 < x * y) : 1048576 < x ∨ (x ≤ 1048576 ∧ 1048576 < y) ∨ (x ≤ 1048576 ∧ y ≤ 1048576 ∧ 1048576 < x * y) := by
  by_cases h1 : 1048576 < x
  · exact .inl h1
  · by_cases h2 : 1048576 < y
    · exact .inr (.inl ⟨by omega, h2⟩)
    · exact .inr (.inr ⟨by omega, by omega, h⟩)

theorem law_zeroed (x y : Nat) (hx : x < 18446744073709551616) (hy : y < 18446744073709551616) (w : World) :
    Calls Tryz.prog 3 #[.int .u64 x, .int .u64 y] w fun e w' => e = .returned (.bool true) ∧ Only Nobody w w' := by
  have hbare := bare_S1 64 2 (by omega) (by omega) (by omega)
  by_cases hm : (mul2 x y).2 = 0
  · obtain ⟨h1, h2⟩ := mul2_ok hm
    have zc : ∀ {r : ResM} {C : St}, Done 0 ⟨1, 0, x * y, 1, true, false⟩ (S1 64 2) r C → ZCall x y r.addr r.err C := fun {r C} hd w L bu h hu => by
      rw [← h1] at hd
      exact user_Zeroed_ok hx hy hm hd w L h hu
    by_cases hle : x * y ≤ 1048576
    · have hp : mallocPlan (x * y) 1 = some (planOf (x * y) 1) := by
        unfold mallocPlan
        rw [if_pos ⟨by decide, by decide, hle⟩]; rfl
      have his := planOf_is (x * y) 1 hle
      obtain ⟨q, hq⟩ : ∃ q, q = planOf (x * y) 1 := ⟨_, rfl⟩
      rw [← hq] at hp his
      by_cases h0 : q.segs = 0
      · obtain ⟨B3, s, b1, b2, b3, b4, b5⟩ := hbare.first_block (c := ⟨1, 0, x * y, 1, true, false⟩) rfl (by show 0 ≤ 1000; omega) rfl (by show 1 < 18446744073709551616; omega) hp h0
        refine zeroed_made hle (zc b5) ?_ w
        show B3.wl.led ++ _ = _
        rw [b2]; rfl
      · cases his with
        | cls c hc hpp hn ha => rw [hpp] at h0; exact absurd rfl h0
        | big k hk1 hk2 hpp hn => rw [hpp] at h0; exact absurd rfl h0
        | huge k hk1 hk2 hpp hn hk hb =>
          have hs : q.segs = k := by rw [hpp]
          have hus : q.usable = k * 16384 := by rw [hpp]
          by_cases h63 : k ≤ 63
          · have hd := hbare.first_huge (c := ⟨1, 0, x * y, 1, true, false⟩) (p := q) rfl rfl (by show 1 < 18446744073709551616; omega) hp (by omega) (by omega) (by rw [hus, hs]) (by rw [hus]; exact hn)
            exact zeroed_made hle (zc hd) rfl w
          · obtain ⟨C, hd⟩ := hbare.first_full (c := ⟨1, 0, x * y, 1, true, false⟩) (p := q) rfl (by show 1 < 18446744073709551616; omega) hp (by omega) (by omega) (by omega)
            exact zeroed_full hle (by omega) (zc hd) w
    · have hp : mallocPlan (x * y) 1 = none := by
        unfold mallocPlan
        rw [if_neg (by intro h; exact hle h.2.2)]
      have hd := refused (A := S1 64 2) (t := 0) (c := ⟨1, 0, x * y, 1, true, false⟩) hbare.up hbare.live (by rw [hbare.nn]; omega) rfl rfl rfl (by show x * y < 18446744073709551616; omega) (by show 1 < 18446744073709551616; omega) hp
      have hx0 : x ≠ 0 := by intro e; rw [e, Nat.zero_mul] at hle; omega
      have hy0 : y ≠ 0 := by intro e; rw [e, Nat.mul_zero] at hle; omega
      exact zeroed_great hx0 hy0 (great_of hx0 hy0 (by omega)) (zc hd) rfl w
  · obtain ⟨h3, hx0, hy0, hgt⟩ := mul2_no hm
    refine zeroed_great (C := S1 64 2) hx0 hy0 (great_of hx0 hy0 hgt) (fun w L bu h hu => ?_) rfl w
    refine (user_Zeroed_no hx hy h3 w).mono ?_
    rintro r w' ⟨rfl, ho⟩
    exact ⟨L, rfl, Run.refl h ho⟩
end Go.Proofs.YtfplalgoopkmaaaGreat

namespace Go.Proofs.YtfplalgoopkmaaaGreat
open Go.ChangeShapes Go.WideShapes Go.ChangeAt Go.RowKit

theorem own19 : ownKnob Tryz.prog.godebug = none := by kernel_rfl
theorem Only.frame {W w' : World} (h : Only Nobody W w') (may : MemPlace → Prop) : W.keptBut w' may := by
  refine Below.frame ⟨h.os, h.tape, h.output, h.size, fun b hb => h.same b hb (fun h => h)⟩ may
theorem post_plain {H : Type} {P : Program} {enc : TypeId × Value → H} {f : Func} {s : ChangeSpec} {apart fresh handsOn : Bool} {W W' : World} {args : Array Value} {v : Value} {ds gs : List (DataW H)} {before pa pv : List MemPlace}
    (hW : DataW.Whole enc P f.params.toList s.vars apart W args.toList ds gs before)
    (hres : ∀ (b : Nat) (sp : Nat → Bool) (hd : Bool), DataW.TrodAll enc P W' b sp hd f.resultTypes.toList (v.resultList f.resultTypes.size) (s.fn H (ds ++ gs)).results [])
    (hargs : ∀ sp : Nat → Bool, (∀ p ∈ before, sp p.block = true) → DataW.TrodAll enc P W' 0 sp true f.params.toList args.toList (s.fn H (ds ++ gs)).args pa)
    (hvars : ∀ sp : Nat → Bool, (∀ p ∈ before, sp p.block = true) → DataW.TrodVars enc P W' sp s.vars (s.fn H (ds ++ gs)).vars pv)
    (hps : before = pa ++ pv) (hk : W.keptBut W' (· ∈ before)) : s.post enc P f apart fresh handsOn false W args v W' := by
  have hold : ∀ p ∈ before, (fun b => decide (b < W.heap.size)) p.block = true := fun p hp => by simpa using hW.lt p hp
  refine ⟨ds, gs, before, [], pa, pv, hW, hres _ _ _, hargs _ hold, hvars _ hold, World.keptBut_mono (fun p hp => ⟨hp, ?_⟩) hk, fun h => by cases h⟩
  rw [hps, List.mem_append] at hp
  exact Or.inr hp

theorem u64_of {a : Int} (w : (Lit.int .u64 a).wf = true) : ∃ x : Nat, a = x ∧ x < 18446744073709551616 := by
  have h : (decide (IntKind.u64.min ≤ a) && decide (a ≤ IntKind.u64.max)) = true := w
  simp only [Bool.and_eq_true, decide_eq_true_eq] at h
  have h1 : (0 : Int) ≤ a := h.1
  have h2 : a ≤ 18446744073709551615 := h.2
  exact ⟨a.toNat, by omega, by omega⟩

end Go.Proofs.YtfplalgoopkmaaaGreat
