/- Layer 7: free blocks in a row. Layer 6: addresses, runs of blocks. Layer 9: blocks of one size. Conditions: none. -/
import Derived.Test.YtfplalgoopkmaaaGreatPart03
import Derived.Test.YtfplalgoopkmaaaGreatPart02
import Derived.Test.YtfplalgoopkmaaaGreatPart01
import Derived.Deep.RegionHeld3

set_option linter.unusedVariables false
set_option linter.unusedSimpArgs false

namespace Go.Proofs.YtfplalgoopkmaaaGreat
open Go.RowKit

theorem MemAt.only {w w' : World} {S : Nat → Prop} {bm bb n : Nat} {f : Nat → Nat} (h : MemAt w bm bb n f) (ho : Only S w w') (h1 : ¬ S bm) (h2 : ¬ S bb) : MemAt w' bm bb n f :=
  ⟨h.st.only ho h1, h.by_.only ho h2, h.lt, h.le⟩
theorem MemAt.drewN {w : World} {bm bb n : Nat} {f : Nat → Nat} (h : MemAt w bm bb n f) (k : Nat) : MemAt (w.drewN k) bm bb n f := ⟨h.st, h.by_, h.lt, h.le⟩
theorem MemAt.drew {w : World} {bm bb n : Nat} {f : Nat → Nat} (h : MemAt w bm bb n f) : MemAt w.drew bm bb n f := ⟨h.st, h.by_, h.lt, h.le⟩
theorem MemAt.away {w : World} {bm bb n : Nat} {f : Nat → Nat} (h : MemAt w bm bb n f) {p : Addr} (h1 : bm ≠ p.block) (h2 : bb ≠ p.block) (u : Value) : MemAt (w.setCell p u) bm bb n f := ⟨h.st.far h1 u, h.by_.far h2 u, h.lt, h.le⟩

theorem fold_back (f : Nat → Nat) (hf : ∀ i, f i < 256) (a : Nat) : fold8 0 (back f hf a 0 8) = ld8 f a := by
  simp [back, fold8, ld8]; omega
/-- A list's two cells at place o of block b. -/
structure LstAt (w : World) (b : Nat) (t : TypeId) (cs : Array Value) (o hd k : Nat) : Prop where
  blk : Blk w b t cs
  h0 : cs[o]? = some (.int .u64 hd)
  h1 : cs[o + 1]? = some (.int .i64 k)
  kb : k ≤ 1000000

def lstSet (cs : Array Value) (o hd k : Nat) : Array Value := (cs.setIfInBounds o (.int .u64 hd)).setIfInBounds (o + 1) (.int .i64 k)

set_option maxHeartbeats 1000000 in
theorem list_Push (bm bb n : Nat) (f : Nat → Nat) (b : Nat) (t : TypeId) (cs : Array Value) (o hd k g a : Nat) (w : World) (hm : MemAt w bm bb n f) (hl : LstAt w b t cs o hd k) (hk : k < 1000000) (hhd : hd < 18446744073709551616)
    (hg : Blk w g 22 #[.int .u64 a]) (ha : 1 ≤ a) (han : a + 8 ≤ n) (hbt : t ≠ 5) (hbt2 : t ≠ 122) :
    Calls Tryz.prog 215 #[.pointer (some ⟨b, o, none⟩), .pointer (some ⟨bm, 0, none⟩), .slice (some ⟨g, 0, none⟩) 1 1] w fun e w' =>
      e = .returned (.int .i64 0) ∧ MemAt w' bm bb n (st8 f a hd) ∧ Blk w' b t (lstSet cs o a (k + 1)) ∧ Only (fun x => x = b ∨ x = bb) w w' := by
  have hbb : b ≠ bb := hl.blk.ne_ hm.by_ hbt
  have hmb : bm ≠ bb := hm.ne
  have hlb : b ≠ bm := hl.blk.ne_ hm.st hbt2
  have hne : a ≠ 0 := by omega
  have hst := Mem.store8 w hm a hd han hhd
  have c0 : w.cell? ⟨b, o, none⟩ = some (.int .u64 hd) := (hl.blk.cell o).trans hl.h0
  have cg : w.cell? ⟨g, 0, none⟩ = some (.int .u64 a) := hg.cell 0
  have HL := Lib.hid hl
  have HM := Lib.hid hm
  have HST := Lib.hid hst
  have ht0 : ((a : Int) == 0) = false := by rw [beq_eq_false_iff_ne]; omega
  clear hl hm hst hg hne
  go_enter Tryz.func215, Tryz.ntmps215
  go_wp2
  refine wp_loop_rounds 2 ?_
  rw [rounds_succ]
  go_wp2_with (go_at_call 193; refine HST.out.mono ?_; rintro e w1 ⟨rfl, hb, ho⟩; have HB1 := Lib.hid hb; have HO1 := Lib.hid ho; have hb1 := HL.out.blk.only ho (by omega); have d0 : w1.cell? ⟨b, o, none⟩ = some (.int .u64 hd) := (hb1.cell o).trans HL.out.h0; have d1 : w1.cell? ⟨b, o + 1, none⟩ = some (.int .i64 k) := (hb1.cell (o + 1)).trans HL.out.h1; have f0 := hb1.frozen o; have f1 := hb1.frozen (o + 1); have HBL := Lib.hid hb1; clear hb ho hb1)
  rw [rounds_succ]
  go_wp2
  go_ret
  refine ⟨rfl, ⟨?_, ?_, fun i => stN_lt HM.out.lt a hd 8 i, HM.out.le⟩, ?_, ?_⟩
  · exact ((HM.out.st.only HO1.out hmb).far (by simp; omega) _).far (by simp; omega) _
  · exact (HB1.out.far (by simp; omega) _).far (by simp; omega) _
  · exact (HBL.out.set_ o _).set_ (o + 1) _
  · exact Only.setAt (Only.setAt (S := fun x => x = b ∨ x = bb) (HO1.out.mono fun x h => .inr h) (.inl rfl) _ _) (.inl rfl) _ _

set_option maxHeartbeats 1000000 in
theorem list_Pop (bm bb n : Nat) (f : Nat → Nat) (b : Nat) (t : TypeId) (cs : Array Value) (o hd k : Nat) (w : World) (hm : MemAt w bm bb n f) (hl : LstAt w b t cs o hd (k + 1)) (hdn : hd + 8 ≤ n) :
    Calls Tryz.prog 196 #[.pointer (some ⟨b, o, none⟩), .pointer (some ⟨bm, 0, none⟩)] w fun e w' =>
      e = .returned (.tuple #[.int .u64 hd, .int .i64 0]) ∧ Blk w' b t (lstSet cs o (ld8 f hd) k) ∧ Only (· = b) w w' := by
  have hld := Mem.load8 w hm hd hdn
  rw [fold_back] at hld
  have c0 : w.cell? ⟨b, o, none⟩ = some (.int .u64 hd) := (hl.blk.cell o).trans hl.h0
  have c1 : w.cell? ⟨b, o + 1, none⟩ = some (.int .i64 ((k : Int) + 1)) := (hl.blk.cell (o + 1)).trans hl.h1
  have hkb := hl.kb
  have HL := Lib.hid hl
  have HLD := Lib.hid hld
  clear hl hm hld
  go_enter Tryz.func196, Tryz.ntmps196
  go_wp2_with (go_at_call 222; refine HLD.out.mono ?_; rintro e w1 ⟨rfl, ho⟩; have HO1 := Lib.hid ho; have hb1 := HL.out.blk.only ho (fun h => h); have d0 : w1.cell? ⟨b, o, none⟩ = some (.int .u64 hd) := (hb1.cell o).trans HL.out.h0; have d1 : w1.cell? ⟨b, o + 1, none⟩ = some (.int .i64 ((k : Int) + 1)) := (hb1.cell (o + 1)).trans HL.out.h1; have f0 := hb1.frozen o; have f1 := hb1.frozen (o + 1); have HBL := Lib.hid hb1; clear ho hb1)
  go_ret2
  refine ⟨rfl, ?_, Only.setAt (S := fun x => x = b) (Only.setAt (S := fun x => x = b) (HO1.out.mono fun x h => h.elim) (show b = b from rfl) _ _) (show b = b from rfl) _ _⟩
  exact (HBL.out.set_ o _).set_ (o + 1) _
end Go.Proofs.YtfplalgoopkmaaaGreat

namespace Go.Proofs.YtfplalgoopkmaaaGreat
open Go.RowKit

abbrev runV (f s n : Nat) : Value := .agg #[.int .u64 f, .int .u64 s, .int .i64 n]

theorem RunOK.mul {f s n : Nat} (h : RunOK f s n) : IntKind.u64.wrap ((n : Int) * s) = ((n * s : Nat) : Int) := by
  have := h.fe
  rw [show (n : Int) * s = ((n * s : Nat) : Int) from by simp, IntWalk.u64_in _ (by omega)]

set_option maxHeartbeats 400000 in
theorem run_may (f s n : Nat) (h : RunOK f s n) (w : World) :
    Calls Tryz.prog 213 #[runV f s n] w fun e w' => e = .returned (.bool true) ∧ Only Nobody w w' := by
  obtain ⟨h1, h2, h3, h4⟩ := h
  have hm := RunOK.mul ⟨h1, h2, h3, h4⟩
  have hle : ((n * s : Nat) : Int) ≤ 1048576 - f := by omega
  generalize n * s = p at *
  go_enter Tryz.func213, Tryz.ntmps213
  go_wp2
  go_ret
  exact ⟨ret1 (boolv (by simp [hm])), (Only.refl _ _).alloc _⟩

theorem run_End (f s n : Nat) (h : RunOK f s n) (w : World) :
    Calls Tryz.prog 214 #[runV f s n] w fun e w' => e = .returned (.int .u64 (f + n * s : Nat)) ∧ Only Nobody w w' := by
  have hm := RunOK.mul h
  have h4 := h.fe
  have h3 := h.n1
  have hmay := fun w => run_may f s n h w
  have Hmay := Lib.hid hmay
  clear h hmay
  have hle : ((n * s : Nat) : Int) ≤ 1048576 - f := by omega
  generalize n * s = p at *
  go_enter Tryz.func214, Tryz.ntmps214
  go_wp2_with (go_at_call 213; refine (Hmay.out _).mono ?_; rintro e w1 ⟨rfl, ho⟩; have hb := (Blk.new w 239 #[.int .u64 f, .int .u64 s, .int .i64 n]).only ho (fun h => h); have hc := hb.cell; have HO := Lib.hid ho; clear ho hb)
  go_ret
  exact ⟨ret1 (intv (by simp)), ((Only.refl _ _).alloc _).trans HO.out⟩

theorem run_Block (f s n i : Nat) (h : RunOK f s n) (hi : i < n) (w : World) :
    Calls Tryz.prog 221 #[runV f s n, .int .i64 i] w fun e w' => e = .returned (.tuple #[.int .u64 (f + i * s : Nat), .int .i64 0]) ∧ Only Nobody w w' := by
  have h4 := h.fe
  have h3 := h.n1
  have hle : i * s ≤ n * s := Nat.mul_le_mul_right s (by omega)
  have hm : IntKind.u64.wrap ((i : Int) * s) = ((i * s : Nat) : Int) := by
    rw [show (i : Int) * s = ((i * s : Nat) : Int) from by simp, IntWalk.u64_in _ (by omega)]
  have hmay := fun w => run_may f s n h w
  have Hmay := Lib.hid hmay
  clear h hmay
  have hle : ((i * s : Nat) : Int) ≤ 1048576 - f := by omega
  generalize i * s = p at *
  go_enter Tryz.func221, Tryz.ntmps221
  go_wp2_with (go_at_call 213; refine (Hmay.out _).mono ?_; rintro e w1 ⟨rfl, ho⟩; have hb := (Blk.new w 239 #[.int .u64 f, .int .u64 s, .int .i64 n]).only ho (fun h => h); have hc := hb.cell; have HO := Lib.hid ho; clear ho hb)
  go_ret2
  exact ⟨ret2 (intv (by simp)) rfl, ((Only.refl _ _).alloc _).trans HO.out⟩

theorem run_Index (f s n a : Nat) (h : RunOK f s n) (ha : a < 18446744073709551616) (w : World) :
    Calls Tryz.prog 185 #[runV f s n, .int .u64 a] w fun e w' => e = .returned (.tuple #[.int .i64 (runIndex f s n a).1, .int .i64 (runIndex f s n a).2]) ∧ Only Nobody w w' := by
  have h4 := h.fe
  have h3 := h.n1
  have h1 := h.s1
  have h2 := h.s2
  have hmay := fun w => run_may f s n h w
  have hend := fun w => run_End f s n h w
  have Hmay := Lib.hid hmay
  have Hend := Lib.hid hend
  clear h hmay hend
  unfold runIndex
  generalize n * s = q at *
  by_cases c1 : a < f
  · rw [if_pos (Or.inl c1)]
    go_enter Tryz.func185, Tryz.ntmps185
    go_wp2_with (first | (go_at_call 213; refine (Hmay.out _).mono ?_; rintro e w1 ⟨rfl, ho⟩; have hb := (Blk.new w 239 #[.int .u64 f, .int .u64 s, .int .i64 n]).only ho (fun h => h); have hc := hb.cell; have HO := Lib.hid ho; have HB := Lib.hid hb; clear ho hb) | (go_at_call 214; refine (Hend.out _).mono ?_; rintro e w2 ⟨rfl, ho⟩; have hb := HB.out.only ho (fun h => h); have hc2 := hb.cell; have HO2 := Lib.hid ho; clear ho hb))
    go_ret2
    exact ⟨rfl, ((Only.refl _ _).alloc _).trans HO.out⟩
  · by_cases c2 : f + q ≤ a
    · rw [if_pos (Or.inr c2)]
      go_enter Tryz.func185, Tryz.ntmps185
      go_wp2_with (first | (go_at_call 213; refine (Hmay.out _).mono ?_; rintro e w1 ⟨rfl, ho⟩; have hb := (Blk.new w 239 #[.int .u64 f, .int .u64 s, .int .i64 n]).only ho (fun h => h); have hc := hb.cell; have HO := Lib.hid ho; have HB := Lib.hid hb; clear ho hb) | (go_at_call 214; refine (Hend.out _).mono ?_; rintro e w2 ⟨rfl, ho⟩; have hb := HB.out.only ho (fun h => h); have hc2 := hb.cell; have HO2 := Lib.hid ho; clear ho hb))
      go_ret2
      exact ⟨rfl, (((Only.refl _ _).alloc _).trans HO.out).trans HO2.out⟩
    · rw [if_neg (by omega)]
      have hmod : ((a : Int) - f) % s = ((a - f) % s : Nat) := by rw [Int.natCast_emod]; congr 1; omega
      have hdiv : ((a : Int) - f) / s = ((a - f) / s : Nat) := by rw [Int.natCast_ediv]; congr 1; omega
      have hdle : (a - f) / s ≤ 1048576 := Nat.le_trans (Nat.div_le_self _ _) (by omega)
      generalize (a - f) % s = m at *
      generalize (a - f) / s = d at *
      by_cases c3 : 0 < m
      · rw [if_pos c3]
        go_enter Tryz.func185, Tryz.ntmps185
        go_wp2_with (first | (go_at_call 213; refine (Hmay.out _).mono ?_; rintro e w1 ⟨rfl, ho⟩; have hb := (Blk.new w 239 #[.int .u64 f, .int .u64 s, .int .i64 n]).only ho (fun h => h); have hc := hb.cell; have HO := Lib.hid ho; have HB := Lib.hid hb; clear ho hb) | (go_at_call 214; refine (Hend.out _).mono ?_; rintro e w2 ⟨rfl, ho⟩; have hb := HB.out.only ho (fun h => h); have hc2 := hb.cell; have HO2 := Lib.hid ho; clear ho hb))
        go_ret2
        exact ⟨rfl, (((Only.refl _ _).alloc _).trans HO.out).trans HO2.out⟩
      · rw [if_neg c3]
        go_enter Tryz.func185, Tryz.ntmps185
        go_wp2_with (first | (go_at_call 213; refine (Hmay.out _).mono ?_; rintro e w1 ⟨rfl, ho⟩; have hb := (Blk.new w 239 #[.int .u64 f, .int .u64 s, .int .i64 n]).only ho (fun h => h); have hc := hb.cell; have HO := Lib.hid ho; have HB := Lib.hid hb; clear ho hb) | (go_at_call 214; refine (Hend.out _).mono ?_; rintro e w2 ⟨rfl, ho⟩; have hb := HB.out.only ho (fun h => h); have hc2 := hb.cell; have HO2 := Lib.hid ho; clear ho hb))
        go_ret2
        exact ⟨rfl, (((Only.refl _ _).alloc _).trans HO.out).trans HO2.out⟩

theorem geo_At (a : Nat) (ha : a < 1048576) (w : World) :
    Calls Tryz.prog 211 #[.int .u64 a] w fun e w' => e = .returned (.tuple #[.agg #[.int .i64 (a / 16384 : Nat), .int .i64 (a / 1024 % 16 : Nat), .int .u64 (a % 1024 : Nat)], .int .i64 0]) ∧ Only Nobody w w' := by
  have ht : decide ((1048576 : Int) ≤ a) = false := by rw [decide_eq_false_iff_not]; omega
  obtain ⟨s, hs⟩ : ∃ s, a / 16384 = s := ⟨_, rfl⟩
  obtain ⟨x, hx⟩ : ∃ x, a / 1024 = x := ⟨_, rfl⟩
  obtain ⟨o, ho⟩ : ∃ o, a % 1024 = o := ⟨_, rfl⟩
  have b1 : (s : Int) ≤ 63 := by omega
  have b2 : (x : Int) ≤ 1023 := by omega
  have b3 : (o : Int) ≤ 1023 := by omega
  have e1 : (a : Int) / 16384 = s := by omega
  have e2 : (a : Int) / 1024 = x := by omega
  have e3 : (a : Int) % 1024 = o := by omega
  rw [hs, hx, ho]
  clear hs hx ho ha
  go_enter Tryz.func211, Tryz.ntmps211
  go_wp2
  exact bodyPost_ret (v := .tuple #[.agg #[.int .i64 s, .int .i64 (x % 16 : Nat), .int .u64 o], .int .i64 0]) (by simp [results, Tryz.f211, go_sem]) rfl ⟨rfl, (Only.refl _ _).alloc _⟩
theorem geo_At_out (a : Nat) (ha : 1048576 ≤ a) (ha2 : a < 18446744073709551616) (w : World) :
    Calls Tryz.prog 211 #[.int .u64 a] w fun e w' => e = .returned (.tuple #[.agg #[.int .i64 0, .int .i64 0, .int .u64 0], .int .i64 3]) ∧ Only Nobody w w' := by
  have h1 : 1048576 ≤ (a : Int) := by omega
  have HA := Lib.hid ha
  clear ha ha2
  go_enter Tryz.func211, Tryz.ntmps211
  go_wp2
  exact bodyPost_ret (v := .tuple #[.agg #[.int .i64 0, .int .i64 0, .int .u64 0], .int .i64 3]) (by simp [results, Tryz.f211, go_sem]) rfl ⟨rfl, (Only.refl _ _).alloc _⟩
theorem geo_Addr (s l : Nat) (hs : s < 64) (hl : l < 16) (w : World) :
    Calls Tryz.prog 237 #[.agg #[.int .i64 s, .int .i64 l, .int .u64 0]] w fun e w' => e = .returned (.tuple #[.int .u64 (s * 16384 + l * 1024 : Nat), .int .i64 0]) ∧ Only Nobody w w' := by
  go_enter Tryz.func237, Tryz.ntmps237
  go_wp2
  go_ret2
  exact ⟨ret2 (intv (by omega)) rfl, (Only.refl _ _).alloc _⟩
end Go.Proofs.YtfplalgoopkmaaaGreat

namespace Go.Proofs.YtfplalgoopkmaaaGreat
open Go.RowKit

structure PgM where
  from_ : Nat
  size : Nat
  n : Nat
  made : Nat
  used : Nat
  fh : Nat
  fn : Nat
  lh : Nat
  ln : Nat
  pw : Nat
  pt : Nat
  pa : Int
  head : Nat

abbrev pgV (bm : Nat) (p : PgM) : Array Value := #[.int .u64 p.from_, .int .u64 p.size, .int .i64 p.n, .int .i64 p.made, .int .i64 p.used, .pointer (some ⟨bm, 0, none⟩),
  .int .u64 p.fh, .int .i64 p.fn, .int .u64 p.lh, .int .i64 p.ln, .int .u64 p.pw, .int .u64 p.pt, .int .i64 p.pa, .int .u64 p.head]

structure PgOK (p : PgM) : Prop where
  run : RunOK p.from_ p.size p.n
  made : p.made ≤ p.n
  used : p.used ≤ 1000
  fn : p.fn ≤ 10000
  ln : p.ln ≤ 10000
  fh : p.fh < 18446744073709551616
  lh : p.lh < 18446744073709551616
  from1 : 1 ≤ p.from_
  size8 : 8 ≤ p.size

abbrev PageAt (w : World) (bp bm : Nat) (p : PgM) : Prop := Blk w bp 272 (pgV bm p)

set_option maxRecDepth 100000 in
set_option maxHeartbeats 4000000 in
theorem page_more (bp bm bb sz : Nat) (f : Nat → Nat) (p : PgM) (w : World) (hm : MemAt w bm bb sz f) (hp : PageAt w bp bm p) (hok : PgOK p) (hend : p.from_ + p.n * p.size ≤ sz) :
    Calls Tryz.prog 195 #[.pointer (some ⟨bp, 0, none⟩)] w fun e w' =>
      e = .returned (.int .i64 0) ∧ MemAt w' bm bb sz (pushN p.from_ p.size p.made (min 4 (p.n - p.made)) (f, p.fh)).1 ∧
      PageAt w' bp bm { p with made := p.made + min 4 (p.n - p.made), fh := (pushN p.from_ p.size p.made (min 4 (p.n - p.made)) (f, p.fh)).2, fn := p.fn + min 4 (p.n - p.made) } ∧
      Only (fun x => x = bp ∨ x = bb) w w' := by
  have n1 := hok.run.n1
  have hmade := hok.made
  have hfn := hok.fn
  have HM := Lib.hid hm
  have HP := Lib.hid hp
  have HOK := Lib.hid hok
  obtain ⟨fr, size, n, made, used, fh, fn, lh, ln, pw, pt, pa, head⟩ := p
  dsimp only at n1 hmade hfn hend
  have c2 : w.cell? ⟨bp, 2, none⟩ = some (.int .i64 n) := HP.out.cell 2
  have c3 : w.cell? ⟨bp, 3, none⟩ = some (.int .i64 made) := HP.out.cell 3
  clear hm hp hok
  obtain ⟨q, hq⟩ : ∃ q, min 4 (n - made) = q := ⟨_, rfl⟩
  have HQ := Lib.hid hq
  have hqn : made + q ≤ n := by omega
  have hq4 : q ≤ 4 := by omega
  have hcase : (n = made + q) ∨ (q = 4 ∧ 4 < n - made) := by omega
  clear hq
  rcases hcase with hnq | ⟨hq5, h4⟩
  · obtain ⟨r, hr⟩ : ∃ r, r = q := ⟨q, rfl⟩
    have HR := Lib.hid hr
    rw [← hr] at hnq
    subst hnq
    have h4' : (r : Int) ≤ 4 := by omega
    clear hr
    go_enter Tryz.func195, Tryz.ntmps195
    go_wp2
    go_quiet (fail)
    rw [show (if (made : Int) + r - made < 4 then (made : Int) + r - made else 4) = (r : Int) from by split <;> omega]
    go_wp2
    go_loopw [4, 5, 6, 7] (fun i _ _ _ wr => ∃ (j : Nat) (f' : Nat → Nat) (hd : Nat), i = .int .i64 ((j : Int) - 1) ∧ j ≤ q ∧ Hid (pushN fr size made j (f', hd) = pushN fr size made q (f, fh)) ∧ hd < 18446744073709551616 ∧
      MemAt wr bm bb sz f' ∧ PageAt wr bp bm ⟨fr, size, made + r, made, used, hd, fn + (q - j), lh, ln, pw, pt, pa, head⟩ ∧ Only (fun x => x = bp ∨ x = bb) w wr) (fun i _ _ _ _ => (intOf i + 1).toNat)
    case atStart => exact ⟨q, f, fh, intv (by have := HR.out; omega), Nat.le_refl _, Lib.hid rfl, HOK.out.fh, HM.out.drewN _, by rw [Nat.sub_self]; exact HP.out, (Only.refl _ _).drewN _⟩
    case round =>
      obtain ⟨j, f', hd, rfl, hj, hpush, hhd, hm, hp, ho⟩ := hrel
      have HMR := Lib.hid hm
      have HPR := Lib.hid hp
      have HOR := Lib.hid ho
      have d2 : wr.cell? ⟨bp, 0, none⟩ = some (.int .u64 fr) := hp.cell 0
      have d3 : wr.cell? ⟨bp, 1, none⟩ = some (.int .u64 size) := hp.cell 1
      have d4 : wr.cell? ⟨bp, 2, none⟩ = some (.int .i64 ((made : Int) + r)) := hp.cell 2
      have d5 : wr.cell? ⟨bp, 3, none⟩ = some (.int .i64 made) := hp.cell 3
      have d6 : wr.cell? ⟨bp, 5, none⟩ = some (.pointer (some ⟨bm, 0, none⟩)) := hp.cell 5
      clear hm hp ho c2 c3
      cases j with
      | zero =>
        have f3 := HPR.out.frozen 3
        go_wp2
        go_ret
        have hpu := hpush.out
        have hq' := HQ.out
        have hrq : r = q := HR.out
        rw [hq', ← hpu]
        refine ⟨rfl, HMR.out.away (HMR.out.st.ne_ HPR.out (by decide)) (HMR.out.by_.ne_ HPR.out (by decide)) _, ?_, ?_⟩
        · have h := HPR.out.set_ 3 (.int .i64 ((made : Int) + r))
          rw [show (made : Int) + r = ((made + q : Nat) : Int) from by omega] at h ⊢
          exact h
        · exact Only.setAt (S := fun x => x = bp ∨ x = bb) HOR.out (.inl rfl) _ _
      | succ j =>
        have hblk := fun w => run_Block fr size (made + r) (made + j) HOK.out.run (by omega) w
        have HB := Lib.hid hblk
        have hfr1 : 1 ≤ fr := HOK.out.from1
        have hs8 : 8 ≤ size := HOK.out.size8
        have HEND : Hid (fr + (made + j) * size + 8 ≤ sz) := Lib.hid (by
          have h1 : (made + j + 1) * size ≤ (made + r) * size := Nat.mul_le_mul_right size (by omega)
          rw [Nat.add_mul (made + j)] at h1; omega)
        have HLST := Lib.hid (fun (wx : World) (h : PageAt wx bp bm ⟨fr, size, made + r, made, used, hd, fn + (q - (j + 1)), lh, ln, pw, pt, pa, head⟩) => (⟨h, rfl, rfl, by omega⟩ : LstAt wx bp _ _ 6 hd (fn + (q - (j + 1)))))
        clear hblk
        have hsum : IntKind.i64.wrap ((made : Int) + j) = (made : Int) + j := IntWalk.i64_in _ (by omega)
        go_wp2
        go_region_held3 (fun w' => w'.cell? ⟨bp, 0, none⟩ = some (.int .u64 fr) ∧ w'.cell? ⟨bp, 1, none⟩ = some (.int .u64 size) ∧ w'.cell? ⟨bp, 2, none⟩ = some (.int .i64 ((made : Int) + r)) ∧ w'.cell? ⟨bp, 3, none⟩ = some (.int .i64 made)) (first | exact ⟨d2, d3, d4, d5⟩ | exact ⟨HPB.out.cell 0, HPB.out.cell 1, HPB.out.cell 2, HPB.out.cell 3⟩) (first | (go_at_call 221; refine (HB.out _).mono ?_; rintro e w1 ⟨rfl, ho⟩; have HPB := Lib.hid (HPR.out.drew.only ho (fun h => h)); have HMB := Lib.hid (HMR.out.drew.only ho (fun h => h) (fun h => h)); have HOB := Lib.hid (HOR.out.drew.trans (ho.mono fun x h => h.elim)); clear ho))
        have e5 : w1.cell? ⟨bp, 5, none⟩ = some (.pointer (some ⟨bm, 0, none⟩)) := HPB.out.cell 5
        clear d2 d3 d4 d5 d6
        go_wp2
        go_region_held3 (fun w' => w'.cell? ⟨bp, 5, none⟩ = some (.pointer (some ⟨bm, 0, none⟩))) (first | exact e5 | exact (HPB.out.drew.alloc _).cell 5 | exact HPC.out.cell 5) (first | (go_at_call 215; refine (list_Push bm bb sz f' bp _ _ 6 hd (fn + (q - (j + 1))) w1.heap.size (fr + (made + j) * size) _ ((HMB.out.drew).alloc _) (HLST.out _ (HPB.out.drew.alloc _)) (by omega) hhd (Blk.new w1.drew _ _) (by omega) HEND.out (by decide) (by decide)).mono ?_; rintro e w2 ⟨rfl, hm2, hp2, ho2⟩; have HPC := Lib.hid hp2; have HMC := Lib.hid hm2; have HOC := Lib.hid (((HOB.out.drew).alloc _).trans ho2); clear hm2 hp2 ho2))
        go_wp2
        have hsz : sz ≤ 1048576 := HM.out.le
        have hend2 := HEND.out
        have hfq : fn + (q - (j + 1)) + 1 = fn + (q - j) := by omega
        refine ⟨⟨j, _, fr + (made + j) * size, rfl, by omega, hpush, by omega, HMC.out, ?_, HOC.out.mono ?_⟩, ?_⟩
        · have h := HPC.out
          rw [hfq] at h
          exact h
        · intro x h; exact h
        · show ((j : Int) - 1 + 1).toNat < (((j + 1 : Nat) : Int) - 1 + 1).toNat
          omega
  · obtain ⟨r, hr⟩ : ∃ r, n = made + r := ⟨n - made, by omega⟩
    subst hr
    have h4' : (4 : Int) < r := by omega
    have HQ5 := Lib.hid hq5
    clear hq5 h4
    go_enter Tryz.func195, Tryz.ntmps195
    go_wp2
    go_quiet (fail)
    go_wp2
    go_loopw [4, 5, 6, 7] (fun i _ _ _ wr => ∃ (j : Nat) (f' : Nat → Nat) (hd : Nat), i = .int .i64 ((j : Int) - 1) ∧ j ≤ q ∧ Hid (pushN fr size made j (f', hd) = pushN fr size made q (f, fh)) ∧ hd < 18446744073709551616 ∧
      MemAt wr bm bb sz f' ∧ PageAt wr bp bm ⟨fr, size, made + r, made, used, hd, fn + (q - j), lh, ln, pw, pt, pa, head⟩ ∧ Only (fun x => x = bp ∨ x = bb) w wr) (fun i _ _ _ _ => (intOf i + 1).toNat)
    case atStart => exact ⟨4, f, fh, rfl, by have := HQ5.out; omega, by rw [HQ5.out]; rfl, HOK.out.fh, HM.out.drewN _, by rw [HQ5.out]; exact HP.out, (Only.refl _ _).drewN _⟩
    case round =>
      obtain ⟨j, f', hd, rfl, hj, hpush, hhd, hm, hp, ho⟩ := hrel
      have HMR := Lib.hid hm
      have HPR := Lib.hid hp
      have HOR := Lib.hid ho
      have d2 : wr.cell? ⟨bp, 0, none⟩ = some (.int .u64 fr) := hp.cell 0
      have d3 : wr.cell? ⟨bp, 1, none⟩ = some (.int .u64 size) := hp.cell 1
      have d4 : wr.cell? ⟨bp, 2, none⟩ = some (.int .i64 ((made : Int) + r)) := hp.cell 2
      have d5 : wr.cell? ⟨bp, 3, none⟩ = some (.int .i64 made) := hp.cell 3
      have d6 : wr.cell? ⟨bp, 5, none⟩ = some (.pointer (some ⟨bm, 0, none⟩)) := hp.cell 5
      clear hm hp ho c2 c3
      cases j with
      | zero =>
        have f3 := HPR.out.frozen 3
        go_wp2
        go_ret
        have hpu := hpush.out
        have hq' := HQ.out
        have hq4' : q = 4 := HQ5.out
        rw [hq', ← hpu]
        refine ⟨rfl, HMR.out.away (HMR.out.st.ne_ HPR.out (by decide)) (HMR.out.by_.ne_ HPR.out (by decide)) _, ?_, ?_⟩
        · have h := HPR.out.set_ 3 (.int .i64 ((made : Int) + 4))
          rw [hq4'] at h ⊢
          exact h
        · exact Only.setAt (S := fun x => x = bp ∨ x = bb) HOR.out (.inl rfl) _ _
      | succ j =>
        have hblk := fun w => run_Block fr size (made + r) (made + j) HOK.out.run (by omega) w
        have HB := Lib.hid hblk
        have hfr1 : 1 ≤ fr := HOK.out.from1
        have hs8 : 8 ≤ size := HOK.out.size8
        have HEND : Hid (fr + (made + j) * size + 8 ≤ sz) := Lib.hid (by
          have h1 : (made + j + 1) * size ≤ (made + r) * size := Nat.mul_le_mul_right size (by omega)
          rw [Nat.add_mul (made + j)] at h1; omega)
        have HLST := Lib.hid (fun (wx : World) (h : PageAt wx bp bm ⟨fr, size, made + r, made, used, hd, fn + (q - (j + 1)), lh, ln, pw, pt, pa, head⟩) => (⟨h, rfl, rfl, by omega⟩ : LstAt wx bp _ _ 6 hd (fn + (q - (j + 1)))))
        clear hblk
        have hsum : IntKind.i64.wrap ((made : Int) + j) = (made : Int) + j := IntWalk.i64_in _ (by omega)
        go_wp2
        go_region_held3 (fun w' => w'.cell? ⟨bp, 0, none⟩ = some (.int .u64 fr) ∧ w'.cell? ⟨bp, 1, none⟩ = some (.int .u64 size) ∧ w'.cell? ⟨bp, 2, none⟩ = some (.int .i64 ((made : Int) + r)) ∧ w'.cell? ⟨bp, 3, none⟩ = some (.int .i64 made)) (first | exact ⟨d2, d3, d4, d5⟩ | exact ⟨HPB.out.cell 0, HPB.out.cell 1, HPB.out.cell 2, HPB.out.cell 3⟩) (first | (go_at_call 221; refine (HB.out _).mono ?_; rintro e w1 ⟨rfl, ho⟩; have HPB := Lib.hid (HPR.out.drew.only ho (fun h => h)); have HMB := Lib.hid (HMR.out.drew.only ho (fun h => h) (fun h => h)); have HOB := Lib.hid (HOR.out.drew.trans (ho.mono fun x h => h.elim)); clear ho))
        have e5 : w1.cell? ⟨bp, 5, none⟩ = some (.pointer (some ⟨bm, 0, none⟩)) := HPB.out.cell 5
        clear d2 d3 d4 d5 d6
        go_wp2
        go_region_held3 (fun w' => w'.cell? ⟨bp, 5, none⟩ = some (.pointer (some ⟨bm, 0, none⟩))) (first | exact e5 | exact (HPB.out.drew.alloc _).cell 5 | exact HPC.out.cell 5) (first | (go_at_call 215; refine (list_Push bm bb sz f' bp _ _ 6 hd (fn + (q - (j + 1))) w1.heap.size (fr + (made + j) * size) _ ((HMB.out.drew).alloc _) (HLST.out _ (HPB.out.drew.alloc _)) (by omega) hhd (Blk.new w1.drew _ _) (by omega) HEND.out (by decide) (by decide)).mono ?_; rintro e w2 ⟨rfl, hm2, hp2, ho2⟩; have HPC := Lib.hid hp2; have HMC := Lib.hid hm2; have HOC := Lib.hid (((HOB.out.drew).alloc _).trans ho2); clear hm2 hp2 ho2))
        go_wp2
        have hsz : sz ≤ 1048576 := HM.out.le
        have hend2 := HEND.out
        have hfq : fn + (q - (j + 1)) + 1 = fn + (q - j) := by omega
        refine ⟨⟨j, _, fr + (made + j) * size, rfl, by omega, hpush, by omega, HMC.out, ?_, HOC.out.mono ?_⟩, ?_⟩
        · have h := HPC.out
          rw [hfq] at h
          exact h
        · intro x h; exact h
        · show ((j : Int) - 1 + 1).toNat < (((j + 1 : Nat) : Int) - 1 + 1).toNat
          omega
end Go.Proofs.YtfplalgoopkmaaaGreat
