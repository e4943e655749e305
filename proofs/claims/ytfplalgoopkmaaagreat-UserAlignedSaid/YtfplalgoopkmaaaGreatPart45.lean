/- UserAligned: for every input it returns true. Conditions: none. -/
import Derived.Test.YtfplalgoopkmaaaGreatPart44

set_option linter.unusedVariables false
set_option linter.unusedSimpArgs false

namespace Go.Proofs.YtfplalgoopkmaaaGreat
open Go.RowKit

theorem pw2_and : ∀ a, a < 1025 → pw2 a = decide (a ≠ 0 ∧ a &&& (a - 1) = 0) := by decide +kernel
theorem pw2_mod : ∀ a, a < 1025 → pw2 a = true → 17408 % a = 0 ∧ 16384 % a = 0 := by decide +kernel

/-- A state with one block, and its thread up. -/
structure Has1 (C : St) (n a k al : Nat) : Prop where
  led : C.wl.led = [⟨a, k, max al 1, false⟩]
  up : Up1 C 0
  fr : C.fr false 0 = none
  nn : C.n = n
section
variable {m k al : Nat}
/-- What a call of Aligned does to a user's world anew. -/
def ACall (k al : Nat) (a : Nat) (e : Int) (C : St) : Prop := ∀ w L bu, Rep w L (S1 12 2) → UserAt w bu L 0 → Calls Tryz.prog 10 #[.pointer (some ⟨bu, 0, none⟩), .int .u64 k, .int .u64 al] w fun r w' => ∃ L', r = .returned (.tuple #[.int .u64 a, .int .i64 e]) ∧ Run w L (S1 12 2) w' L' C

set_option maxRecDepth 100000 in
set_option maxHeartbeats 4000000 in
theorem aligned_bad {C : St} (hm : m < 4294967296) (hk : m % 40000 = k) (hal : al < 18446744073709551616) (hbad : al = 0 ∨ (al ≠ 0 ∧ al &&& (al - 1) ≠ 0) ∨ (al ≠ 0 ∧ al &&& (al - 1) = 0 ∧ 1024 < al)) (hz : ACall k al 0 2 C) (hled : C.wl.led = []) (w : World) :
    Calls Tryz.prog 4 #[.int .u32 m, .int .u64 al] w fun e w' => e = .returned (.bool true) ∧ Only Nobody w w' := by
  have HA := Lib.hid (law_alive w)
  have HM := Lib.hid (fun w1 => law_made 12 (by omega) (by omega) w1)
  have HZ := Lib.hid hz
  have HL := Lib.hid (fun w1 L b h hb => live_len (A := C) (n := 0) (by rw [hled]; rfl) (by rw [hled]; exact List.Pairwise.nil) (by omega) w1 L b h hb)
  have hkk : (m : Int) % 40000 = (k : Int) := by omega
  have hconv : IntKind.u64.wrap (m : Int) = (m : Int) := m64_wrap _ (by omega)
  have hconv2 : IntKind.u64.wrap (k : Int) = (k : Int) := m64_wrap _ (by omega)
  clear hz hled hk
  rcases hbad with rfl | ⟨h0, hq⟩ | ⟨h0, hq, hgt⟩
  · go_enter Tryz.func4, Tryz.ntmps4
    go_wp2_with (first | (go_at_call 5; refine HA.out.mono ?_; rintro e w1 ⟨rfl, ho1⟩; have HO1 := Lib.hid ho1; clear ho1) | (go_at_call 6; refine (HM.out _).mono ?_; rintro e w2 ⟨L, bu, rfl, hm⟩; have HMA := Lib.hid hm; clear hm) | (go_at_call 10; refine (HZ.out _ L bu HMA.out.rep HMA.out.usr).mono ?_; rintro e w3 ⟨L3, rfl, hr3⟩; have HR3 := Lib.hid hr3; clear hr3) | (go_at_call 8; refine (HL.out _ L3 L.bw HR3.out.rep HR3.out.fix.bw).mono ?_; rintro e w4 ⟨ra, rc, rfl, ho4⟩; have HO4 := Lib.hid ho4; clear ho4))
    go_ret
    exact ⟨rfl, (HO1.out.trans (fresh_foot HMA.out.only HMA.out.new HR3.out)).trans HO4.out⟩
  · have b0 : ((al : Int) == 0) = false := by rw [beq_eq_false_iff_ne]; omega
    have hsub : IntKind.u64.wrap ((al : Int) - 1) = ((al - 1 : Nat) : Int) := by rw [show (al : Int) - 1 = ((al - 1 : Nat) : Int) from by omega]; exact m64_wrap _ (by omega)
    have hand : bits BinOp.and IntKind.u64 (al : Int) ((al - 1 : Nat) : Int) = ((al &&& (al - 1) : Nat) : Int) := u64_and_nat al (al - 1) hal (by omega)
    generalize al - 1 = a1 at *
    generalize al &&& a1 = q at *
    have b1 : ((q : Int) == 0) = false := by rw [beq_eq_false_iff_ne]; omega
    have b1n : ((q : Int) != 0) = true := by rw [bne_iff_ne]; omega
    go_enter Tryz.func4, Tryz.ntmps4
    go_wp2_with (first | (go_at_call 5; refine HA.out.mono ?_; rintro e w1 ⟨rfl, ho1⟩; have HO1 := Lib.hid ho1; clear ho1) | (go_at_call 6; refine (HM.out _).mono ?_; rintro e w2 ⟨L, bu, rfl, hm⟩; have HMA := Lib.hid hm; clear hm) | (go_at_call 10; refine (HZ.out _ L bu HMA.out.rep HMA.out.usr).mono ?_; rintro e w3 ⟨L3, rfl, hr3⟩; have HR3 := Lib.hid hr3; clear hr3) | (go_at_call 8; refine (HL.out _ L3 L.bw HR3.out.rep HR3.out.fix.bw).mono ?_; rintro e w4 ⟨ra, rc, rfl, ho4⟩; have HO4 := Lib.hid ho4; clear ho4))
    go_ret
    exact ⟨rfl, (HO1.out.trans (fresh_foot HMA.out.only HMA.out.new HR3.out)).trans HO4.out⟩
  · have b0 : ((al : Int) == 0) = false := by rw [beq_eq_false_iff_ne]; omega
    have hsub : IntKind.u64.wrap ((al : Int) - 1) = ((al - 1 : Nat) : Int) := by rw [show (al : Int) - 1 = ((al - 1 : Nat) : Int) from by omega]; exact m64_wrap _ (by omega)
    have hand : bits BinOp.and IntKind.u64 (al : Int) ((al - 1 : Nat) : Int) = 0 := by rw [u64_and_nat al (al - 1) hal (by omega), hq]; rfl
    generalize al - 1 = a1 at *
    have b2 : decide ((1024 : Int) < al) = true := by rw [decide_eq_true_eq]; omega
    have b2n : decide (1024 < al) = true := by rw [decide_eq_true_eq]; omega
    go_enter Tryz.func4, Tryz.ntmps4
    go_wp2_with (first | (go_at_call 5; refine HA.out.mono ?_; rintro e w1 ⟨rfl, ho1⟩; have HO1 := Lib.hid ho1; clear ho1) | (go_at_call 6; refine (HM.out _).mono ?_; rintro e w2 ⟨L, bu, rfl, hm⟩; have HMA := Lib.hid hm; clear hm) | (go_at_call 10; refine (HZ.out _ L bu HMA.out.rep HMA.out.usr).mono ?_; rintro e w3 ⟨L3, rfl, hr3⟩; have HR3 := Lib.hid hr3; clear hr3) | (go_at_call 8; refine (HL.out _ L3 L.bw HR3.out.rep HR3.out.fix.bw).mono ?_; rintro e w4 ⟨ra, rc, rfl, ho4⟩; have HO4 := Lib.hid ho4; clear ho4))
    go_ret
    exact ⟨rfl, (HO1.out.trans (fresh_foot HMA.out.only HMA.out.new HR3.out)).trans HO4.out⟩

set_option maxRecDepth 100000 in
set_option maxHeartbeats 4000000 in
theorem aligned_good {C : St} {a : Nat} (hm : m < 4294967296) (hk : m % 40000 = k) (h0 : al ≠ 0) (hq : al &&& (al - 1) = 0) (hle : al ≤ 1024) (hmod : a % al = 0) (ha : a + max k 1 ≤ 12 * 16384) (hz : ACall k al a 0 C) (hc : Has1 C 12 a k al) (w : World) :
    Calls Tryz.prog 4 #[.int .u32 m, .int .u64 al] w fun e w' => e = .returned (.bool true) ∧ Only Nobody w w' := by
  have HA := Lib.hid (law_alive w)
  have HM := Lib.hid (fun w1 => law_made 12 (by omega) (by omega) w1)
  have HZ := Lib.hid hz
  have hrise : Rising (C.wl.led.map entKey) := by rw [hc.led]; simp [Rising]
  have hlen : C.wl.led.length ≤ 990 := by rw [hc.led]; simp
  have hi : C.wl.led[0]? = some ⟨a, k, max al 1, false⟩ := by rw [hc.led]; rfl
  have HS : Hid (∀ w1 L bu, Rep w1 L C → UserAt w1 bu L 0 → Calls Tryz.prog 9 #[.pointer (some ⟨bu, 0, none⟩), .int .u64 a] w1 fun e w' => e = .returned (.tuple #[.int .u64 k, .int .i64 0]) ∧ Only Nobody w1 w') := Lib.hid fun w1 L bu h hu =>
    user_Size C bu a 0 0 ⟨a, k, max al 1, false⟩ w1 L h hrise hlen hu hi rfl (fun i e hi => by omega)
  have HG : Hid (∀ w1 L bu, Rep w1 L C → UserAt w1 bu L 0 → Calls Tryz.prog 11 #[.pointer (some ⟨bu, 0, none⟩), .int .u64 a, .int .u64 k] w1 fun e w' => ∃ v', e = .returned (.tuple #[v', .int .i64 0]) ∧ Only Nobody w1 w') := Lib.hid fun w1 L bu h hu => by
    refine (user_Get C bu 0 0 k ⟨a, k, max al 1, false⟩ w1 L h hu hc.up.ht hc.up.up hc.fr hrise hlen hi rfl (by show a + max k 1 < 18446744073709551616; omega) (Nat.le_refl _) (by show a + k ≤ C.n * 16384; rw [hc.nn]; omega) (by show a < C.n * 16384; rw [hc.nn]; omega)).mono ?_
    rintro e w' ⟨v', rfl, hrow, ho⟩
    exact ⟨v', rfl, ho⟩
  have hkk : (m : Int) % 40000 = (k : Int) := by omega
  have hconv : IntKind.u64.wrap (m : Int) = (m : Int) := m64_wrap _ (by omega)
  have hmi : (a : Int) % (al : Int) = 0 := by rw [← Int.natCast_emod, hmod]; rfl
  have b0 : ((al : Int) == 0) = false := by rw [beq_eq_false_iff_ne]; omega
  have hsub : IntKind.u64.wrap ((al : Int) - 1) = ((al - 1 : Nat) : Int) := by rw [show (al : Int) - 1 = ((al - 1 : Nat) : Int) from by omega]; exact m64_wrap _ (by omega)
  have hand : bits BinOp.and IntKind.u64 (al : Int) ((al - 1 : Nat) : Int) = 0 := by rw [u64_and_nat al (al - 1) (by omega) (by omega), hq]; rfl
  generalize al - 1 = a1 at *
  have b2 : decide ((1024 : Int) < al) = false := by rw [decide_eq_false_iff_not]; omega
  have b2n : decide (1024 < al) = false := by rw [decide_eq_false_iff_not]; omega
  clear hz hc hrise hlen hi hk hq hmod ha
  go_enter Tryz.func4, Tryz.ntmps4
  go_wp2_with (first | (go_at_call 5; refine HA.out.mono ?_; rintro e w1 ⟨rfl, ho1⟩; have HO1 := Lib.hid ho1; clear ho1) | (go_at_call 6; refine (HM.out _).mono ?_; rintro e w2 ⟨L, bu, rfl, hm⟩; have HMA := Lib.hid hm; clear hm) | (go_at_call 10; refine (HZ.out _ L bu HMA.out.rep HMA.out.usr).mono ?_; rintro e w3 ⟨L3, rfl, hr3⟩; have HR3 := Lib.hid hr3; have HU3 := Lib.hid (HMA.out.usr.keep hr3 HMA.out.no); have HN3 := Lib.hid (hr3.keep HMA.out.usr HMA.out.no).2; clear hr3) | (go_at_call 9; refine (HS.out _ L3 bu HR3.out.rep HU3.out).mono ?_; rintro e w4 ⟨rfl, ho4⟩; have HO4 := Lib.hid ho4; clear ho4) | (go_at_call 11; refine (HG.out _ L3 bu (HR3.out.rep.quiet HO4.out) (HU3.out.only HO4.out (fun h => h))).mono ?_; rintro e w5 ⟨v', rfl, ho5⟩; have HO5 := Lib.hid ho5; clear ho5))
  go_ret
  exact ⟨rfl, ((HO1.out.trans (fresh_foot HMA.out.only HMA.out.new HR3.out)).trans HO4.out).trans HO5.out⟩
end

theorem Bare.has1 {B3 : St} {n s : Nat} {p : Plan} {c : CallM} (h : Bare B3 n) (hled : B3.wl.led = []) : Has1 (B3.got1 n p c s) n 17408 c.n c.align := by
  refine ⟨?_, ⟨by omega, h.up.ht, by rw [got1_th]; exact h.up.up⟩, ?_, h.nn⟩
  · show B3.wl.led ++ _ = _
    rw [hled]; rfl
  · show updF B3.fr false 0 none false 0 = none
    exact updF_same _ _ _ _
theorem Bare.hasH {A : St} {n : Nat} {p : Plan} {c : CallM} (h : Bare A n) (hled : A.wl.led = []) : Has1 (A.gotH n p c) n 16384 c.n c.align := by
  have hth : (A.gotH n p c).wl.th 0 = ((A.wl.th 0).ask c).told ⟨16384, 0, 1⟩ := by
    show upd (A.asks 0 c).wl.th 0 (((A.asks 0 c).wl.th 0).told ⟨16384, 0, 1⟩) 0 = _
    rw [upd_same, asks_th]
  refine ⟨?_, ⟨by omega, h.up.ht, by rw [hth]; exact h.up.up⟩, ?_, h.nn⟩
  · show A.wl.led ++ _ = _
    rw [hled]; rfl
  · show updF A.fr false 0 none false 0 = none
    exact updF_same _ _ _ _

theorem law_aligned (m al : Nat) (hm : m < 4294967296) (hal : al < 18446744073709551616) (w : World) :
    Calls Tryz.prog 4 #[.int .u32 m, .int .u64 al] w fun e w' => e = .returned (.bool true) ∧ Only Nobody w w' := by
  have hbare := bare_S1 12 2 (by omega) (by omega) (by omega)
  obtain ⟨k, hk⟩ : ∃ k, m % 40000 = k := ⟨_, rfl⟩
  have hk4 : k < 40000 := by omega
  by_cases h0 : al = 0
  · subst h0
    refine aligned_bad (k := k) (C := S1 12 2) hm hk hal (.inl rfl) (fun w L bu h hu => ?_) rfl w
    refine (user_Aligned_no w).mono ?_
    rintro r w' ⟨rfl, rfl⟩
    exact ⟨L, rfl, Run.refl h (Only.refl _ _)⟩
  have ac : ∀ {r : ResM} {C : St}, Done 0 ⟨1, 0, k, al, false, false⟩ (S1 12 2) r C → ACall k al r.addr r.err C := fun {r C} hd w L bu h hu => user_Aligned_ok h0 hd w L h hu
  have hmax : max al 1 = al := by omega
  have hbad : mallocPlan k al = none → (al &&& (al - 1) ≠ 0 ∨ (al &&& (al - 1) = 0 ∧ 1024 < al)) → Calls Tryz.prog 4 #[.int .u32 m, .int .u64 al] w fun e w' => e = .returned (.bool true) ∧ Only Nobody w w' := fun hp hb => by
    have hd := refused (A := S1 12 2) (t := 0) (c := ⟨1, 0, k, al, false, false⟩) hbare.up hbare.live (by rw [hbare.nn]; omega) rfl rfl rfl (by show k < 18446744073709551616; omega) hal hp
    exact aligned_bad hm hk hal (.inr (by rcases hb with hb | hb; exact .inl ⟨h0, hb⟩; exact .inr ⟨h0, hb⟩)) (ac hd) rfl w
  by_cases hle : al ≤ 1024
  · have hpw := pw2_and al (by omega)
    by_cases hq : al &&& (al - 1) = 0
    · have hp2 : pw2 al = true := by rw [hpw, decide_eq_true_eq]; exact ⟨h0, hq⟩
      have hp : mallocPlan k al = some (planOf k al) := by
        unfold mallocPlan
        rw [hmax, if_pos ⟨hp2, hle, by omega⟩]
      have his := planOf_is k al (by omega)
      have hmod := pw2_mod al (by omega) hp2
      obtain ⟨q, hqq⟩ : ∃ q, q = planOf k al := ⟨_, rfl⟩
      rw [← hqq] at hp his
      by_cases hs0 : q.segs = 0
      · obtain ⟨B3, s, b1, b2, b3, b4, b5⟩ := hbare.first_block (c := ⟨1, 0, k, al, false, false⟩) rfl (by show 0 ≤ 1000; omega) rfl hal hp hs0
        have hus := his.usable hs0
        exact aligned_good hm hk h0 hq hle hmod.1 (by omega) (ac b5) (b1.has1 (by rw [b2]; rfl)) w
      · cases his with
        | cls c hc hpp hn ha => rw [hpp] at hs0; exact absurd rfl hs0
        | big j hk1 hk2 hpp hn => rw [hpp] at hs0; exact absurd rfl hs0
        | huge j hk1 hk2 hpp hn hj hb =>
          have hs : q.segs = j := by rw [hpp]
          have hus : q.usable = j * 16384 := by rw [hpp]
          have hd := hbare.first_huge (c := ⟨1, 0, k, al, false, false⟩) (p := q) rfl rfl hal hp (by omega) (by omega) (by rw [hus, hs]) (by rw [hus]; exact hn)
          exact aligned_good hm hk h0 hq hle hmod.2 (by omega) (ac hd) (hbare.hasH rfl) w
    · refine hbad ?_ (.inl hq)
      unfold mallocPlan
      rw [if_neg]
      intro h
      have := h.1
      rw [hmax, hpw, decide_eq_true_eq] at this
      exact hq this.2
  · have hp : mallocPlan k al = none := by
      unfold mallocPlan
      rw [if_neg]
      intro h
      have := h.2.1
      omega
    by_cases hq : al &&& (al - 1) = 0
    · exact hbad hp (.inr ⟨hq, by omega⟩)
    · exact hbad hp (.inl hq)
end Go.Proofs.YtfplalgoopkmaaaGreat
