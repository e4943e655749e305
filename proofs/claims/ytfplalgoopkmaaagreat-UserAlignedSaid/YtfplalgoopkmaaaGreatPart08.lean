/- Layer 5: sizes, plans. Layer 10: sixteen slices, cut into pages. Conditions: none. -/
import Derived.Test.YtfplalgoopkmaaaGreatPart07
import Derived.Test.YtfplalgoopkmaaaGreatPart01
import Derived.Test.YtfplalgoopkmaaaGreatPart04

set_option linter.unusedVariables false
set_option linter.unusedSimpArgs false

namespace Go.Proofs.YtfplalgoopkmaaaGreat
open Go.RowKit

abbrev sizesV : Value := .agg #[.int .u64 16, .int .u64 32, .int .u64 48, .int .u64 64, .int .u64 96, .int .u64 128, .int .u64 192, .int .u64 256, .int .u64 384, .int .u64 512, .int .u64 768, .int .u64 1024]

theorem class_sizes (w : World) : Calls Tryz.prog 90 #[] w fun e w' => e = .returned sizesV ∧ Only Nobody w w' := by
  go_enter Tryz.func90, Tryz.ntmps90
  go_wp2
  exact bodyPost_ret (v := sizesV) (by simp [results, Tryz.f90, go_sem]) rfl ⟨rfl, (Only.refl _ _).alloc _⟩

theorem class_Size (c : Nat) (hc : c < 12) (w : World) :
    Calls Tryz.prog 108 #[.int .i64 c] w fun e w' => e = .returned (.tuple #[.int .u64 (sizeOf c), .int .i64 0]) ∧ Only Nobody w w' := by
  rcases c12 hc with rfl | rfl | rfl | rfl | rfl | rfl | rfl | rfl | rfl | rfl | rfl | rfl
  all_goals
    clear hc
    go_enter Tryz.func108, Tryz.ntmps108
    go_wp2_with (go_at_call 90; refine (class_sizes _).mono ?_; rintro e w1 ⟨rfl, ho⟩; have HO := Lib.hid ho; clear ho)
    go_ret2
    exact ⟨rfl, HO.out.alloc _⟩

theorem class_Slices (c : Nat) (hc : c < 12) (w : World) :
    Calls Tryz.prog 91 #[.int .i64 c] w fun e w' => e = .returned (.tuple #[.int .i64 (slicesOf c), .int .i64 0]) ∧ Only Nobody w w' := by
  have hs := class_Size c hc w
  have h256 : sizeOf c ≤ 1024 := by rcases c12 hc with rfl | rfl | rfl | rfl | rfl | rfl | rfl | rfl | rfl | rfl | rfl | rfl <;> decide
  unfold slicesOf
  generalize sizeOf c = s at *
  have Hs := Lib.hid hs
  clear hs hc
  by_cases h1 : s ≤ 256
  · rw [if_pos h1]
    go_enter Tryz.func91, Tryz.ntmps91
    go_wp2_with (go_at_call 108; refine Hs.out.mono ?_; rintro e w1 ⟨rfl, ho⟩; have HO := Lib.hid ho; clear ho)
    go_ret2
    exact ⟨rfl, HO.out⟩
  · rw [if_neg h1]
    by_cases h2 : s ≤ 512
    · rw [if_pos h2]
      go_enter Tryz.func91, Tryz.ntmps91
      go_wp2_with (go_at_call 108; refine Hs.out.mono ?_; rintro e w1 ⟨rfl, ho⟩; have HO := Lib.hid ho; clear ho)
      go_ret2
      exact ⟨rfl, HO.out⟩
    · rw [if_neg h2]
      go_enter Tryz.func91, Tryz.ntmps91
      go_wp2_with (go_at_call 108; refine Hs.out.mono ?_; rintro e w1 ⟨rfl, ho⟩; have HO := Lib.hid ho; clear ho)
      go_ret2
      exact ⟨rfl, HO.out⟩

theorem class_Blocks (c : Nat) (hc : c < 12) (w : World) :
    Calls Tryz.prog 229 #[.int .i64 c] w fun e w' => e = .returned (.tuple #[.int .i64 (blocksOf c), .int .i64 0]) ∧ Only Nobody w w' := by
  have hs := fun w => class_Size c hc w
  have ht := fun w => class_Slices c hc w
  have h256 : 16 ≤ sizeOf c ∧ sizeOf c ≤ 1024 ∧ slicesOf c ≤ 4 := by rcases c12 hc with rfl | rfl | rfl | rfl | rfl | rfl | rfl | rfl | rfl | rfl | rfl | rfl <;> decide
  unfold blocksOf
  generalize sizeOf c = s at *
  generalize slicesOf c = sl at *
  obtain ⟨h1, h2, h3⟩ := h256
  have Hs := Lib.hid hs
  have Ht := Lib.hid ht
  clear hs ht hc
  go_enter Tryz.func229, Tryz.ntmps229
  go_wp2_with (first | (go_at_call 108; refine (Hs.out _).mono ?_; rintro e w1 ⟨rfl, ho⟩; have HO := Lib.hid ho; clear ho) | (go_at_call 91; refine (Ht.out _).mono ?_; rintro e w2 ⟨rfl, ho⟩; have HO2 := Lib.hid ho; clear ho))
  go_ret2
  exact ⟨by simp, HO.out.trans HO2.out⟩

theorem class_units1 (n : Nat) (hn : n ≤ 1048576) (w : World) :
    Calls Tryz.prog 92 #[.int .u64 n, .int .u64 1024] w fun e w' => e = .returned (.tuple #[.int .i64 ((n + 1023) / 1024 : Nat), .int .u64 ((n + 1023) / 1024 * 1024 : Nat)]) ∧ w = w' := by
  go_enter Tryz.func92, Tryz.ntmps92
  go_wp2
  go_ret2
  exact ⟨ret2 (intv (by omega)) (intv (by omega)), rfl⟩
theorem class_units2 (n : Nat) (hn : n ≤ 1048576) (w : World) :
    Calls Tryz.prog 92 #[.int .u64 n, .int .u64 16384] w fun e w' => e = .returned (.tuple #[.int .i64 ((n + 16383) / 16384 : Nat), .int .u64 ((n + 16383) / 16384 * 16384 : Nat)]) ∧ w = w' := by
  go_enter Tryz.func92, Tryz.ntmps92
  go_wp2
  go_ret2
  exact ⟨ret2 (intv (by omega)) (intv (by omega)), rfl⟩

theorem and_u64 (a b : Nat) (ha : a < 18446744073709551616) (hb : b < 18446744073709551616) : bits .and .u64 (a : Int) (b : Int) = ((a &&& b : Nat) : Int) := u64_and_nat a b ha hb

theorem sizes_index (k : Nat) (hk : k < 12) (w : World) : (Instr.index 192 sizesV (.int .i64 k)).run Tryz.prog w = .ok (.int .u64 (sizeOf k)) w := by
  rcases c12 hk with rfl | rfl | rfl | rfl | rfl | rfl | rfl | rfl | rfl | rfl | rfl | rfl <;> kernel_rfl

abbrev planV (p : Plan) : Value := .agg #[.int .i64 p.cls, .int .i64 p.slices, .int .i64 p.segs, .int .u64 p.usable]

theorem class_For_bad (n al : Nat) (hn : n < 18446744073709551616) (hal : al < 18446744073709551616) (h : pw2 al = false ∨ 1024 < al ∨ 1048576 < n) (w : World) :
    Calls Tryz.prog 70 #[.int .u64 n, .int .u64 al] w fun e w' => e = .returned (.tuple #[planV ⟨0, 0, 0, 0⟩, .int .i64 2]) ∧ Only Nobody w w' := by
  have hp := fun w => pow2_calls al hal w
  generalize pw2 al = b at *
  have Hp := Lib.hid hp
  clear hp
  cases b with
  | false =>
    clear h
    go_enter Tryz.func70, Tryz.ntmps70
    go_wp2_with (go_at_call 89; refine (Hp.out _).mono ?_; rintro e w1 ⟨rfl, rfl⟩)
    exact bodyPost_ret (v := .tuple #[planV ⟨0, 0, 0, 0⟩, .int .i64 2]) (by simp [results, Tryz.f70, go_sem]) rfl ⟨rfl, (Only.refl _ _).alloc _⟩
  | true =>
    by_cases h1 : 1024 < al
    · clear h
      go_enter Tryz.func70, Tryz.ntmps70
      go_wp2_with (go_at_call 89; refine (Hp.out _).mono ?_; rintro e w1 ⟨rfl, rfl⟩)
      exact bodyPost_ret (v := .tuple #[planV ⟨0, 0, 0, 0⟩, .int .i64 2]) (by simp [results, Tryz.f70, go_sem]) rfl ⟨rfl, (Only.refl _ _).alloc _⟩
    · have h2 : 1048576 < n := by simp at h; omega
      clear h
      go_enter Tryz.func70, Tryz.ntmps70
      go_wp2_with (go_at_call 89; refine (Hp.out _).mono ?_; rintro e w1 ⟨rfl, rfl⟩)
      exact bodyPost_ret (v := .tuple #[planV ⟨0, 0, 0, 0⟩, .int .i64 2]) (by simp [results, Tryz.f70, go_sem]) rfl ⟨rfl, (Only.refl _ _).alloc _⟩

theorem pw2_pos {al : Nat} (h : pw2 al = true) : 1 ≤ al := by
  rcases Nat.eq_zero_or_pos al with rfl | h1
  · exact absurd h (by decide)
  · exact h1
theorem sizeOf_le {k : Nat} (hk : k < 12) : 16 ≤ sizeOf k ∧ sizeOf k ≤ 1024 := by
  rcases c12 hk with rfl | rfl | rfl | rfl | rfl | rfl | rfl | rfl | rfl | rfl | rfl | rfl <;> decide
/-- No class below k fits. -/
def NoFit (n al k : Nat) : Prop := ∀ j, j < k → fits n al (sizeOf j) = false
theorem classFrom_of (n al k d c : Nat) (hkd : k + d = 12) (hkc : k ≤ c) (hc : c < 12) (hno : ∀ j, k ≤ j → j < c → fits n al (sizeOf j) = false) (hyes : fits n al (sizeOf c) = true) : classFrom n al k d = c := by
  induction d generalizing k with
  | zero => omega
  | succ d ih =>
    unfold classFrom
    by_cases e : k = c
    · subst e; rw [if_pos hyes]
    · rw [hno k (Nat.le_refl _) (by omega)]
      exact ih (k + 1) (by omega) (by omega) (fun j h1 h2 => hno j (by omega) h2)
theorem classFor_of {n al c : Nat} (hc : c < 12) (hno : NoFit n al c) (hyes : fits n al (sizeOf c) = true) : classFor n al = c :=
  classFrom_of n al 0 12 c rfl (by omega) hc (fun j _ h => hno j h) hyes
theorem classFrom_no (n al k d : Nat) (hkd : k + d = 12) (hno : ∀ j, k ≤ j → j < 12 → fits n al (sizeOf j) = false) : classFrom n al k d = 12 := by
  induction d generalizing k with
  | zero => rfl
  | succ d ih =>
    unfold classFrom
    rw [hno k (Nat.le_refl _) (by omega)]
    exact ih (k + 1) (by omega) (fun j h1 h2 => hno j (by omega) h2)
theorem classFor_no {n al : Nat} (hno : NoFit n al 12) : classFor n al = 12 := classFrom_no n al 0 12 rfl (fun j _ h => hno j h)

theorem plan_result (w : World) (b : Nat) (tmps : Array Value) (p : Plan) (hb : Blk w b 172 #[.int .i64 p.cls, .int .i64 p.slices, .int .i64 p.segs, .int .u64 p.usable]) (h4 : tmps[4]? = some (.pointer (some ⟨b, 0, none⟩))) (h5 : tmps[5]? = some (.int .i64 0)) :
    (results Tryz.f70 tmps).run Tryz.prog w = .ok (.tuple #[planV p, .int .i64 0]) w := by
  have hc := hb.cell
  simp [results, Tryz.f70, go_sem, h4, h5, hc]

set_option maxHeartbeats 2000000 in
theorem class_For_ok (n al : Nat) (hn1 : 1 ≤ n) (hn : n ≤ 1048576) (hal : al ≤ 1024) (hp0 : pw2 al = true) (w : World) :
    Calls Tryz.prog 70 #[.int .u64 n, .int .u64 al] w fun e w' => e = .returned (.tuple #[planV (planOf n al), .int .i64 0]) ∧ Only Nobody w w' := by
  have hp := fun w => pow2_calls al (by omega) w
  rw [hp0] at hp
  have hal1 := pw2_pos hp0
  have Hp := Lib.hid hp
  clear hp hp0
  go_enter Tryz.func70, Tryz.ntmps70
  go_wp2_with (first | (go_at_call 89; refine (Hp.out _).mono ?_; rintro e w1 ⟨rfl, rfl⟩) | (go_at_call 90; refine (class_sizes _).mono ?_; rintro e w1 ⟨rfl, ho⟩; have HO := Lib.hid ho; clear ho))
  have hb1 : Blk w1 w.heap.size 172 #[.int .i64 0, .int .i64 0, .int .i64 0, .int .u64 0] := (Blk.new w 172 #[.int .i64 0, .int .i64 0, .int .i64 0, .int .u64 0]).only HO.out (fun h => h)
  have HB1 := Lib.hid hb1
  clear hb1
  go_loop [25] (fun i => ∃ k : Nat, k ≤ 12 ∧ i = .int .i64 k ∧ NoFit n al k) (fun i => 12 - (intOf i).toNat)
  case atStart => exact ⟨0, by omega, rfl, fun j h => absurd h (by omega)⟩
  case round =>
    obtain ⟨k, hk, rfl, hno⟩ := hrel
    have HN := Lib.hid hno
    clear hno
    have hc := HB1.out.cell
    have hf := HB1.out.frozen
    by_cases hlt : k < 12
    · have hix := sizes_index k hlt
      have hss := sizeOf_le hlt
      have hcl := class_Slices k hlt
      generalize hsz : sizeOf k = s at *
      generalize hsl : slicesOf k = sl at *
      have Hsz := Lib.hid hsz
      have Hsl := Lib.hid hsl
      have Hcl := Lib.hid hcl
      clear hsz hsl hcl
      obtain ⟨hs1, hs2⟩ := hss
      have hbits : bits .and .u64 (s : Int) ((al : Int) - 1) = ((s &&& (al - 1) : Nat) : Int) := by
        rw [show (al : Int) - 1 = ((al - 1 : Nat) : Int) from by omega]; exact u64_and_nat _ _ (by omega) (by omega)
      by_cases h1 : n ≤ s
      · by_cases h2 : s &&& (al - 1) = 0
        · have h2' : (((s &&& (al - 1) : Nat) : Int) == 0) = true := by rw [h2]; rfl
          have H2 := Lib.hid h2
          clear h2
          clear hc hf
          go_wp2_with (go_at_call 91; refine (Hcl.out _).mono ?_; rintro e w2 ⟨rfl, ho⟩; have hb2 := HB1.out.only ho (fun h => h); have hc2 := hb2.cell; have hf2 := hb2.frozen; have HO2 := Lib.hid ho; have HB2 := Lib.hid hb2; clear ho hb2)
          have hp := classFor_of hlt HN.out (by unfold fits; rw [Hsz.out]; simp [h1, H2.out])
          exact bodyPost_ret (v := .tuple #[planV ⟨k, sl, 0, s⟩, .int .i64 0]) (by simp [results, Tryz.f70, go_sem, hc2]) rfl
            ⟨ret2 (by unfold planOf; rw [Nat.max_eq_left hn1]; simp only [hp, if_pos hlt, Hsl.out, Hsz.out]) rfl,
             ((((((Only.refl _ _).alloc _).trans HO.out).trans HO2.out).setCell (fun h => absurd h (by simp)) _).setCell (fun h => absurd h (by simp)) _ |>.setCell (fun h => absurd h (by simp)) _ |>.setCell (fun h => absurd h (by simp)) _)⟩
        · have h2' : (((s &&& (al - 1) : Nat) : Int) == 0) = false := by simp; omega
          have H2 := Lib.hid h2
          clear h2 hc hf
          go_wp2
          go_round
          case rel =>
            refine ⟨k + 1, by omega, by go_num, fun j hj => ?_⟩
            by_cases e : j = k
            · subst e; unfold fits; rw [Hsz.out]; simp [H2.out]
            · exact HN.out j (by omega)
          case measure => simp [intOf]; omega
      · clear hc hf
        go_wp2
        go_round
        case rel =>
          refine ⟨k + 1, by omega, by go_num, fun j hj => ?_⟩
          by_cases e : j = k
          · subst e; unfold fits; rw [Hsz.out]; simp; omega
          · exact HN.out j (by omega)
        case measure => simp [intOf]; omega
    · obtain rfl : k = 12 := by omega
      have hp := classFor_no HN.out
      have HP := Lib.hid hp
      have hbase := ((Only.refl Nobody w).alloc _).trans HO.out
      have HBase := Lib.hid hbase
      clear hp hbase
      by_cases hl : n ≤ 15360
      · go_wp2_with (go_at_call 92; refine (class_units1 n hn _).mono ?_; rintro e w2 ⟨rfl, rfl⟩)
        have hb2 := HB1.out.set_ 0 (.int .i64 (-1)) |>.set_ 1 (.int .i64 (((n : Int) + 1023) / 1024)) |>.set_ 3 (.int .u64 (((n : Int) + 1023) / 1024 * 1024)) |>.set_ 0 (.int .i64 (-1)) |>.set_ 1 (.int .i64 (((n : Int) + 1023) / 1024)) |>.set_ 2 (.int .i64 0) |>.set_ 3 (.int .u64 (((n : Int) + 1023) / 1024 * 1024))
        exact bodyPost_ret (plan_result _ w.heap.size _ ⟨-1, (n + 1023) / 1024, 0, (n + 1023) / 1024 * 1024⟩ (by simpa using hb2) rfl rfl) rfl
            ⟨ret2 (by unfold planOf; rw [Nat.max_eq_left hn1]; simp only [HP.out, if_neg hlt, if_pos hl]) rfl, (by repeat (first | refine Only.setNew ?_ (by simp) _ | exact HBase.out))⟩
      · go_wp2_with (go_at_call 92; refine (class_units2 n hn _).mono ?_; rintro e w2 ⟨rfl, rfl⟩)
        have hb2 := HB1.out.set_ 0 (.int .i64 (-1)) |>.set_ 2 (.int .i64 (((n : Int) + 16383) / 16384)) |>.set_ 3 (.int .u64 (((n : Int) + 16383) / 16384 * 16384)) |>.set_ 0 (.int .i64 (-1)) |>.set_ 1 (.int .i64 0) |>.set_ 2 (.int .i64 (((n : Int) + 16383) / 16384)) |>.set_ 3 (.int .u64 (((n : Int) + 16383) / 16384 * 16384))
        exact bodyPost_ret (plan_result _ w.heap.size _ ⟨-1, 0, (n + 16383) / 16384, (n + 16383) / 16384 * 16384⟩ (by simpa using hb2) rfl rfl) rfl
            ⟨ret2 (by unfold planOf; rw [Nat.max_eq_left hn1]; simp only [HP.out, if_neg hlt, if_neg hl]) rfl, (by repeat (first | refine Only.setNew ?_ (by simp) _ | exact HBase.out))⟩

theorem class_units_one (w : World) :
    Calls Tryz.prog 92 #[.int .u64 1, .int .u64 1024] w fun e w' => e = .returned (.tuple #[.int .i64 1, .int .u64 1024]) ∧ w = w' := by
  go_enter Tryz.func92, Tryz.ntmps92
  go_wp2
  go_ret2
  exact ⟨rfl, rfl⟩

set_option maxHeartbeats 2000000 in
theorem class_For_zero (al : Nat) (hal : al ≤ 1024) (hp0 : pw2 al = true) (w : World) :
    Calls Tryz.prog 70 #[.int .u64 0, .int .u64 al] w fun e w' => e = .returned (.tuple #[planV (planOf 0 al), .int .i64 0]) ∧ Only Nobody w w' := by
  have hp := fun w => pow2_calls al (by omega) w
  rw [hp0] at hp
  have hal1 := pw2_pos hp0
  have Hp := Lib.hid hp
  clear hp hp0
  go_enter Tryz.func70, Tryz.ntmps70
  go_wp2_with (first | (go_at_call 89; refine (Hp.out _).mono ?_; rintro e w1 ⟨rfl, rfl⟩) | (go_at_call 90; refine (class_sizes _).mono ?_; rintro e w1 ⟨rfl, ho⟩; have HO := Lib.hid ho; clear ho))
  have hb1 : Blk w1 w.heap.size 172 #[.int .i64 0, .int .i64 0, .int .i64 0, .int .u64 0] := (Blk.new w 172 #[.int .i64 0, .int .i64 0, .int .i64 0, .int .u64 0]).only HO.out (fun h => h)
  have HB1 := Lib.hid hb1
  clear hb1
  go_loop [25] (fun i => ∃ k : Nat, k ≤ 12 ∧ i = .int .i64 k ∧ NoFit 1 al k) (fun i => 12 - (intOf i).toNat)
  case atStart => exact ⟨0, by omega, rfl, fun j h => absurd h (by omega)⟩
  case round =>
    obtain ⟨k, hk, rfl, hno⟩ := hrel
    have HN := Lib.hid hno
    clear hno
    have hc := HB1.out.cell
    have hf := HB1.out.frozen
    by_cases hlt : k < 12
    · have hix := sizes_index k hlt
      have hss := sizeOf_le hlt
      have hcl := class_Slices k hlt
      generalize hsz : sizeOf k = s at *
      generalize hsl : slicesOf k = sl at *
      have Hsz := Lib.hid hsz
      have Hsl := Lib.hid hsl
      have Hcl := Lib.hid hcl
      clear hsz hsl hcl
      obtain ⟨hs1, hs2⟩ := hss
      have hbits : bits .and .u64 (s : Int) ((al : Int) - 1) = ((s &&& (al - 1) : Nat) : Int) := by
        rw [show (al : Int) - 1 = ((al - 1 : Nat) : Int) from by omega]; exact u64_and_nat _ _ (by omega) (by omega)
      have h1 : 1 ≤ s := by omega
      · by_cases h2 : s &&& (al - 1) = 0
        · have h2' : (((s &&& (al - 1) : Nat) : Int) == 0) = true := by rw [h2]; rfl
          have H2 := Lib.hid h2
          clear h2
          clear hc hf
          go_wp2_with (go_at_call 91; refine (Hcl.out _).mono ?_; rintro e w2 ⟨rfl, ho⟩; have hb2 := HB1.out.only ho (fun h => h); have hc2 := hb2.cell; have hf2 := hb2.frozen; have HO2 := Lib.hid ho; have HB2 := Lib.hid hb2; clear ho hb2)
          have hp := classFor_of hlt HN.out (by unfold fits; rw [Hsz.out]; simp [h1, H2.out])
          exact bodyPost_ret (v := .tuple #[planV ⟨k, sl, 0, s⟩, .int .i64 0]) (by simp [results, Tryz.f70, go_sem, hc2]) rfl
            ⟨ret2 (by unfold planOf; rw [show max 0 1 = 1 from rfl]; simp only [hp, if_pos hlt, Hsl.out, Hsz.out]) rfl,
             ((((((Only.refl _ _).alloc _).trans HO.out).trans HO2.out).setCell (fun h => absurd h (by simp)) _).setCell (fun h => absurd h (by simp)) _ |>.setCell (fun h => absurd h (by simp)) _ |>.setCell (fun h => absurd h (by simp)) _)⟩
        · have h2' : (((s &&& (al - 1) : Nat) : Int) == 0) = false := by simp; omega
          have H2 := Lib.hid h2
          clear h2 hc hf
          go_wp2
          go_round
          case rel =>
            refine ⟨k + 1, by omega, by go_num, fun j hj => ?_⟩
            by_cases e : j = k
            · subst e; unfold fits; rw [Hsz.out]; simp [H2.out]
            · exact HN.out j (by omega)
          case measure => simp [intOf]; omega
    · obtain rfl : k = 12 := by omega
      have hp := classFor_no HN.out
      have HP := Lib.hid hp
      have hbase := ((Only.refl Nobody w).alloc _).trans HO.out
      have HBase := Lib.hid hbase
      clear hp hbase
      go_wp2_with (go_at_call 92; refine (class_units_one _).mono ?_; rintro e w2 ⟨rfl, rfl⟩)
      have hb2 := HB1.out.set_ 0 (.int .i64 (-1)) |>.set_ 1 (.int .i64 1) |>.set_ 3 (.int .u64 1024) |>.set_ 0 (.int .i64 (-1)) |>.set_ 1 (.int .i64 1) |>.set_ 2 (.int .i64 0) |>.set_ 3 (.int .u64 1024)
      exact bodyPost_ret (plan_result _ w.heap.size _ ⟨-1, 1, 0, 1024⟩ (by simpa using hb2) rfl rfl) rfl
          ⟨ret2 (by unfold planOf; rw [show max 0 1 = 1 from rfl]; simp only [HP.out, if_neg hlt]; rfl) rfl, (by repeat (first | refine Only.setNew ?_ (by simp) _ | exact HBase.out))⟩

end Go.Proofs.YtfplalgoopkmaaaGreat

namespace Go.Proofs.YtfplalgoopkmaaaGreat
open Go.RowKit

structure SegM where
  bk : Nat
  bt : Nat
  T : Nat → Bool
  left : Int
  place : Nat
  of : Nat → Option Nat
  ow : Nat
  ot : Nat
  oa : Int

def ownV (o : Option Nat) : Value := .pointer (o.map fun b => ⟨b, 0, none⟩)
abbrev segV (bm : Nat) (s : SegM) : Array Value := #[.pointer (some ⟨s.bk, 0, none⟩), .pointer (some ⟨bm, 0, none⟩), .int .i64 s.place,
  ownV (s.of 0), ownV (s.of 1), ownV (s.of 2), ownV (s.of 3), ownV (s.of 4), ownV (s.of 5), ownV (s.of 6), ownV (s.of 7),
  ownV (s.of 8), ownV (s.of 9), ownV (s.of 10), ownV (s.of 11), ownV (s.of 12), ownV (s.of 13), ownV (s.of 14), ownV (s.of 15),
  .int .u64 s.ow, .int .u64 s.ot, .int .i64 s.oa]

theorem segV_of (bm : Nat) (s : SegM) (i : Nat) (h : i < 16) : (segV bm s)[3 + i]? = some (ownV (s.of i)) := by
  match i, h with
  | 0, _ | 1, _ | 2, _ | 3, _ | 4, _ | 5, _ | 6, _ | 7, _ | 8, _ | 9, _ | 10, _ | 11, _ | 12, _ | 13, _ | 14, _ | 15, _ => rfl
  | n + 16, h => omega
theorem segV_set (bm : Nat) (s : SegM) (i : Nat) (h : i < 16) (x : Option Nat) : (segV bm s).setIfInBounds (3 + i) (ownV x) = segV bm { s with of := setOf s.of i 1 x } := by
  match i, h with
  | 0, _ | 1, _ | 2, _ | 3, _ | 4, _ | 5, _ | 6, _ | 7, _ | 8, _ | 9, _ | 10, _ | 11, _ | 12, _ | 13, _ | 14, _ | 15, _ => simp [segV, setOf]
  | n + 16, h => omega
theorem MarksAt.alloc {w : World} {bk bt n : Nat} {T : Nat → Bool} {left : Int} (h : MarksAt w bk bt n T left) (o : Obj) : MarksAt (w.alloc o) bk bt n T left := ⟨h.st.alloc o, h.pl.alloc o, h.n1, h.le, h.lb, h.lu⟩
structure SegAt (w : World) (bs bm : Nat) (s : SegM) : Prop where
  st : Blk w bs 217 (segV bm s)
  marks : MarksAt w s.bk s.bt 16 s.T s.left
  pl : s.place < 64

theorem SegAt.only {w w' : World} {S : Nat → Prop} {bs bm : Nat} {s : SegM} (h : SegAt w bs bm s) (ho : Only S w w') (h1 : ¬ S bs) (h2 : ¬ S s.bk) (h3 : ¬ S s.bt) : SegAt w' bs bm s :=
  ⟨h.st.only ho h1, h.marks.only ho h2 h3, h.pl⟩

abbrev segNew (bk bt place : Nat) : SegM := ⟨bk, bt, setB (fun _ => false) 0 1 true, 15, place, fun _ => none, 0, 0, 0⟩

set_option maxHeartbeats 2000000 in
theorem seg_New (bm bb sz at_ : Nat) (f : Nat → Nat) (w : World) (hm : MemAt w bm bb sz f) (hat : (at_ + 1) * 16384 ≤ sz) (h64 : at_ < 64) :
    Calls Tryz.prog 175 #[.pointer (some ⟨bm, 0, none⟩), .int .i64 at_] w fun e w' => ∃ bs, w.heap.size ≤ bs ∧
      e = .returned (.tuple #[.pointer (some ⟨bs, 0, none⟩), .int .i64 0]) ∧ SegAt w' bs bm (segNew (w.heap.size + 1) w.heap.size at_) ∧ Only Nobody w w' := by
  have HM := Lib.hid hm
  have hr1 : decide ((64 : Int) ≤ at_) = false := by rw [decide_eq_false_iff_not]; omega
  have hr2 : decide (sz < (at_ + 1) * 16384) = false := by rw [decide_eq_false_iff_not]; omega
  have hr3 : decide (64 ≤ at_) = false := by rw [decide_eq_false_iff_not]; omega
  have hr4 : decide ((at_ : Int) < 0) = false := by rw [decide_eq_false_iff_not]; omega
  clear hm
  go_enter Tryz.func175, Tryz.ntmps175
  go_wp2_with (first | (go_at_call 57; refine (Mem.size _ HM.out).mono ?_; rintro e w1 ⟨rfl, rfl⟩) | (go_at_call 45; refine (marks_New 16 (by decide) (by decide) _).mono ?_; rintro e w1 ⟨rfl, hk, ho, hs⟩; have HK := Lib.hid hk; have HO := Lib.hid ho; have HS := Lib.hid hs; clear hk ho hs) | (go_at_call 63; refine (marks_Mark_ok _ _ 16 0 1 _ _ _ (HK.out.alloc _) (by decide) (by decide) (by decide) (by decide)).mono ?_; rintro e w2 ⟨rfl, hk2, ho2⟩; have HK2 := Lib.hid hk2; have HO2 := Lib.hid ho2; clear hk2 ho2))
  go_ret2
  have hsz := HS.out
  have ho := HO.out.size
  exact ⟨_, ho, rfl, ⟨(Blk.new _ _ _).only HO2.out (by omega), HK2.out, h64⟩, (HO.out.alloc _).trans_new HO2.out (fun b hb h => by omega)⟩

abbrev OwnedAt (w : World) (bo bp : Nat) (c : Int) (at_ sl : Nat) : Prop := Blk w bo 243 #[.pointer (some ⟨bp, 0, none⟩), .int .i64 c, .int .i64 at_, .int .i64 sl]

set_option maxHeartbeats 4000000 in
theorem seg_add (bm bb sz bs sl s n : Nat) (c : Int) (f : Nat → Nat) (S : SegM) (w : World) (hm : MemAt w bm bb sz f) (hs : SegAt w bs bm S) (h1 : 1 ≤ sl) (h16 : sl ≤ 16) (hl : ∀ a, a + sl ≤ 16 → (∀ j, j < sl → S.T (a + j) = false) → sl ≤ S.left)
    (r : Row S.T 16) (ht : takeRow S.T 16 sl = some r) (at_ fr : Nat) (hat : r.1.1 = at_) (hfrg : S.place * 16384 + at_ * 1024 = fr) (ha : at_ + sl ≤ 16) (hok : RunOK (fr) s n) (hfr : 1 ≤ fr) (hs16 : 16 ≤ s) (hn : 1 ≤ n) (hend : fr + n * s ≤ sz) :
    Calls Tryz.prog 228 #[.pointer (some ⟨bs, 0, none⟩), .int .i64 c, .int .i64 sl, .int .u64 s, .int .i64 n] w fun e w' => ∃ bo bp, w.heap.size ≤ bo ∧ w.heap.size ≤ bp ∧
      e = .returned (.tuple #[.pointer (some ⟨bo, 0, none⟩), .int .i64 0]) ∧ SegAt w' bs bm { S with T := setB S.T at_ sl true, left := S.left - sl, of := setOf S.of at_ sl (some bo) } ∧
      OwnedAt w' bo bp c at_ sl ∧ PageAt w' bp bm (pgNew (fr) s n) ∧ Only (fun g => g = bs ∨ g = S.bk ∨ g = S.bt) w w' := by
  have HM := Lib.hid hm
  have HS := Lib.hid hs
  have hpl := hs.pl
  have HTK := Lib.hid (fun w h => take_some S.bk S.bt 16 sl S.T S.left r w h h1 h16 hl ht)
  have HAD := Lib.hid (fun w => geo_Addr S.place at_ hpl (by omega) w)
  rw [hfrg] at HAD
  rw [hat] at HTK
  have HPN := Lib.hid (fun w hm => page_New bm bb sz fr s n f w hm hok hfr hs16 hn hend)
  have hne1 : bs ≠ S.bk := hs.st.ne_ hs.marks.st (by decide)
  have hne2 : bs ≠ S.bt := hs.st.ne_ hs.marks.pl (by decide)
  have hmk : bm ≠ S.bk := hm.st.ne_ hs.marks.st (by decide)
  have hmt : bm ≠ S.bt := hm.st.ne_ hs.marks.pl (by decide)
  have hbk : bb ≠ S.bk := hm.by_.ne_ hs.marks.st (by decide)
  have hbt : bb ≠ S.bt := hm.by_.ne_ hs.marks.pl (by decide)
  have HN := Lib.hid (And.intro (And.intro hne1 hne2) (And.intro (And.intro hmk hmt) (And.intro hbk hbt)))
  have c0 : w.cell? ⟨bs, 0, none⟩ = some (.pointer (some ⟨S.bk, 0, none⟩)) := hs.st.cell 0
  have HHL := Lib.hid hl
  have HT := Lib.hid ht
  have HOK := Lib.hid hok
  have HAT := Lib.hid hat
  have HFR := Lib.hid hfrg
  clear hm hs hl ht hok hne1 hne2 hmk hmt hbk hbt hat hfrg hend hfr
  go_enter Tryz.func228, Tryz.ntmps228
  go_wp2_with (first | (go_at_call 48; refine (HTK.out _ HS.out.marks).mono ?_; rintro e w1 ⟨rfl, hk, ho⟩; have HK := Lib.hid hk; have HO := Lib.hid ho; have HB1 := Lib.hid (HS.out.st.only ho (by have := HN.out; omega)); have HM1 := Lib.hid (HM.out.only ho (by have := HN.out; omega) (by have := HN.out; omega)); have d2 : w1.cell? ⟨bs, 2, none⟩ = some (.int .i64 S.place) := HB1.out.cell 2; clear hk ho) | (go_at_call 237; refine (HAD.out _).mono ?_; rintro e w2 ⟨rfl, ho⟩; have HK2 := Lib.hid (HK.out.only ho (fun h => h) (fun h => h)); have HO2 := Lib.hid (HO.out.trans (ho.mono fun x h => h.elim)); have HB2 := Lib.hid (HB1.out.only ho (fun h => h)); have HM2 := Lib.hid (HM1.out.only ho (fun h => h) (fun h => h)); have d1 : w2.cell? ⟨bs, 1, none⟩ = some (.pointer (some ⟨bm, 0, none⟩)) := HB2.out.cell 1; clear ho) | (go_at_call 238; refine (HPN.out _ HM2.out).mono ?_; rintro e w3 ⟨bp, hbp, rfl, hpg, ho⟩; have HPG := Lib.hid hpg; have HK3 := Lib.hid (HK2.out.only ho (fun h => h) (fun h => h)); have HO3 := Lib.hid (HO2.out.trans (ho.mono fun x h => h.elim)); have HB3 := Lib.hid (HB2.out.only ho (fun h => h)); have HBP := Lib.hid hbp; clear hbp hpg ho))
  have HOW := Lib.hid (Blk.new w3 243 #[.pointer (some ⟨bp, 0, none⟩), .int .i64 c, .int .i64 at_, .int .i64 sl])
  have HPG4 := Lib.hid (HPG.out.alloc (.cells #[.pointer (some ⟨bp, 0, none⟩), .int .i64 c, .int .i64 at_, .int .i64 sl] 243))
  have HK4 := Lib.hid (HK3.out.alloc (.cells #[.pointer (some ⟨bp, 0, none⟩), .int .i64 c, .int .i64 at_, .int .i64 sl] 243))
  have HB4 := Lib.hid (HB3.out.alloc (.cells #[.pointer (some ⟨bp, 0, none⟩), .int .i64 c, .int .i64 at_, .int .i64 sl] 243))
  have HO4 := Lib.hid (HO3.out.alloc (.cells #[.pointer (some ⟨bp, 0, none⟩), .int .i64 c, .int .i64 at_, .int .i64 sl] 243))
  have HBO := Lib.hid (HO3.out.size)
  generalize w3.alloc (.cells #[.pointer (some ⟨bp, 0, none⟩), .int .i64 c, .int .i64 at_, .int .i64 sl] 243) = w4 at *
  generalize w3.heap.size = bo at *
  clear c0 d1 d2
  go_loopw [17] (fun i wr => ∃ k : Nat, i = .int .i64 ((at_ : Int) + k) ∧ k ≤ sl ∧ Blk wr bs 217 (segV bm { S with T := setB S.T at_ sl true, left := S.left - sl, of := setOf S.of at_ k (some bo) }) ∧ Only (fun g => g = bs) w4 wr) (fun i _ => ((at_ : Int) + sl - intOf i).toNat)
  case atStart => exact ⟨0, intv (by simp), by omega, by rw [setOf_zero]; exact HB4.out, Only.refl _ _⟩
  case round =>
    obtain ⟨k, rfl, hk, hb, ho⟩ := hrel
    have HB := Lib.hid hb
    have HOR := Lib.hid ho
    clear hb ho
    by_cases hks : k = sl
    · subst hks
      go_wp2
      go_ret2
      have hn := HN.out
      have e1 : ¬ S.bk = bs := fun e => hn.1.1 e.symm
      have e2 : ¬ S.bt = bs := fun e => hn.1.2 e.symm
      have e3 : ¬ bo = bs := HOW.out.ne_ HB4.out (by decide)
      have e4 : ¬ bp = bs := HPG4.out.ne_ HB4.out (by decide)
      exact ⟨bo, bp, HBO.out, Nat.le_trans HO2.out.size HBP.out, rfl, ⟨HB.out, HK4.out.only HOR.out e1 e2, hpl⟩, HOW.out.only HOR.out e3, HPG4.out.only HOR.out e4,
        (HO4.out.mono (S' := fun g => g = bs ∨ g = S.bk ∨ g = S.bt) (fun x h => .inr h)).trans (HOR.out.mono fun x h => .inl h)⟩
    · have hlt : (k : Int) < sl := by omega
      have e3 : wr.cell? ⟨bs, 3 + (at_ + k), none⟩ = some (ownV (setOf S.of at_ k (some bo) (at_ + k))) := (HB.out.cell _).trans (segV_of bm _ _ (by omega))
      have f3 := HB.out.frozen (3 + (at_ + k))
      go_wp2
      refine ⟨⟨k + 1, intv (by omega), by omega, ?_, Only.setAt (S := fun g => g = bs) HOR.out (show bs = bs from rfl) _ _⟩, by show ((at_ : Int) + sl - (at_ + k + 1)).toNat < ((at_ : Int) + sl - (at_ + k)).toNat; omega⟩
      have h := HB.out.set_ (3 + (at_ + k)) (ownV (some bo))
      rw [segV_set bm _ _ (by omega)] at h
      dsimp only at h
      rw [setOf_succ] at h
      exact h
end Go.Proofs.YtfplalgoopkmaaaGreat
