/- A block of a page. A page anew; a block back. Layer 1: powers of two. Conditions: none. -/
import Derived.Test.YtfplalgoopkmaaaGreatPart06
import Derived.Test.YtfplalgoopkmaaaGreatPart02

set_option linter.unusedVariables false
set_option linter.unusedSimpArgs false

namespace Go.Proofs.YtfplalgoopkmaaaGreat
open Go.RowKit

set_option maxHeartbeats 2000000 in
theorem page_Alloc_free (bp bm bb sz : Nat) (f : Nat → Nat) (p : PgM) (k : Nat) (w : World) (hm : MemAt w bm bb sz f) (hp : PageAt w bp bm p) (hok : PgOK p) (hk : p.fn = k + 1) (hfh : p.fh + 8 ≤ sz) :
    Calls Tryz.prog 169 #[.pointer (some ⟨bp, 0, none⟩)] w fun e w' =>
      e = .returned (.tuple #[.int .u64 p.fh, .int .i64 0]) ∧ PageAt w' bp bm { p with fh := ld8 f p.fh, fn := k, used := p.used + 1 } ∧ Only (· = bp) w w' := by
  have hfn := hok.fn
  have hus := hok.used
  have HM := Lib.hid hm
  have HP := Lib.hid hp
  obtain ⟨fr, size, n, made, used, fh, fn, lh, ln, pw, pt, pa, head⟩ := p
  dsimp only at hk hfh hfn hus ⊢
  subst hk
  have c7 : w.cell? ⟨bp, 7, none⟩ = some (.int .i64 ((k : Int) + 1)) := HP.out.cell 7
  have c5 : w.cell? ⟨bp, 5, none⟩ = some (.pointer (some ⟨bm, 0, none⟩)) := HP.out.cell 5
  have HL := Lib.hid (fun (wx : World) (h : PageAt wx bp bm ⟨fr, size, n, made, used, fh, k + 1, lh, ln, pw, pt, pa, head⟩) => (⟨h, rfl, rfl, by omega⟩ : LstAt wx bp _ _ 6 fh (k + 1)))
  clear hm hp hok
  go_enter Tryz.func169, Tryz.ntmps169
  go_wp2
  go_region_held3 (fun w' => w'.cell? ⟨bp, 5, none⟩ = some (.pointer (some ⟨bm, 0, none⟩))) (first | exact c5 | exact HPC.out.cell 5) (first | (go_at_call 196; refine (list_Pop bm bb sz f bp _ _ 6 fh k _ HM.out.drew (HL.out _ HP.out.drew) hfh).mono ?_; rintro e w1 ⟨rfl, hp2, ho2⟩; have HPC := Lib.hid hp2; have HOC := Lib.hid (((Only.refl _ w).drew).trans ho2); clear hp2 ho2))
  have d4 : w1.cell? ⟨bp, 4, none⟩ = some (.int .i64 used) := HPC.out.cell 4
  have f4 := HPC.out.frozen 4
  go_wp2
  go_ret2
  exact ⟨rfl, HPC.out.set_ 4 _, Only.setAt (S := fun x => x = bp) HOC.out (show bp = bp from rfl) _ _⟩

set_option maxHeartbeats 2000000 in
theorem page_Alloc_local (bp bm bb sz : Nat) (f : Nat → Nat) (p : PgM) (k : Nat) (w : World) (hm : MemAt w bm bb sz f) (hp : PageAt w bp bm p) (hok : PgOK p) (h0 : p.fn = 0) (hk : p.ln = k + 1) (hlh : p.lh + 8 ≤ sz) :
    Calls Tryz.prog 169 #[.pointer (some ⟨bp, 0, none⟩)] w fun e w' =>
      e = .returned (.tuple #[.int .u64 p.lh, .int .i64 0]) ∧ PageAt w' bp bm { p with fh := ld8 f p.lh, fn := k, lh := 0, ln := 0, used := p.used + 1 } ∧ Only (· = bp) w w' := by
  have hln := hok.ln
  have hus := hok.used
  have HM := Lib.hid hm
  have HP := Lib.hid hp
  obtain ⟨fr, size, n, made, used, fh, fn, lh, ln, pw, pt, pa, head⟩ := p
  dsimp only at hk h0 hlh hln hus ⊢
  subst hk h0
  have c7 : w.cell? ⟨bp, 7, none⟩ = some (.int .i64 (0 : Nat)) := HP.out.cell 7
  have c8 : w.cell? ⟨bp, 8, none⟩ = some (.int .u64 lh) := HP.out.cell 8
  have c9 : w.cell? ⟨bp, 9, none⟩ = some (.int .i64 ((k : Int) + 1)) := HP.out.cell 9
  have f6 := HP.out.frozen 6
  have f7 := HP.out.frozen 7
  have f8 := HP.out.frozen 8
  have f9 := HP.out.frozen 9
  have d6 : w.cell? ⟨bp, 6, none⟩ = some (.int .u64 fh) := HP.out.cell 6
  have HL := Lib.hid (fun (wx : World) (h : PageAt wx bp bm ⟨fr, size, n, made, used, lh, k + 1, 0, 0, pw, pt, pa, head⟩) => (⟨h, rfl, rfl, by omega⟩ : LstAt wx bp _ _ 6 lh (k + 1)))
  clear hm hp hok
  go_enter Tryz.func169, Tryz.ntmps169
  go_wp2
  have HPX := Lib.hid ((((HP.out.set_ 6 (.int .u64 lh)).set_ 7 (.int .i64 ((k : Int) + 1))).set_ 8 (.int .u64 0)).set_ 9 (.int .i64 0))
  have hmb := HM.out.st.ne_ HP.out (by decide)
  have hbb := HM.out.by_.ne_ HP.out (by decide)
  have HMX := Lib.hid ((((HM.out.away hmb hbb (p := ⟨bp, 6, none⟩) (.int .u64 lh)).away hmb hbb (p := ⟨bp, 7, none⟩) (.int .i64 ((k : Int) + 1))).away hmb hbb (p := ⟨bp, 8, none⟩) (.int .u64 0)).away hmb hbb (p := ⟨bp, 9, none⟩) (.int .i64 0))
  have HOX : Hid (Only (fun x => x = bp) w _) := Lib.hid ((((Only.refl _ w).setAt (S := fun x => x = bp) (show bp = bp from rfl) 6 (.int .u64 lh)).setAt (S := fun x => x = bp) (show bp = bp from rfl) 7 (.int .i64 ((k : Int) + 1))).setAt (S := fun x => x = bp) (show bp = bp from rfl) 8 (.int .u64 0) |>.setAt (S := fun x => x = bp) (show bp = bp from rfl) 9 (.int .i64 0))
  clear c7 c8 c9 f6 f7 f8 f9 d6 hmb hbb
  generalize (((w.setCell ⟨bp, 6, none⟩ (.int .u64 lh)).setCell ⟨bp, 7, none⟩ (.int .i64 ((k : Int) + 1))).setCell ⟨bp, 8, none⟩ (.int .u64 0)).setCell ⟨bp, 9, none⟩ (.int .i64 0) = wx at *
  go_region_held3 (fun w' => w'.cell? ⟨bp, 5, none⟩ = some (.pointer (some ⟨bm, 0, none⟩))) (first | exact HPX.out.cell 5 | exact HPC.out.cell 5) (first | (go_at_call 196; refine (list_Pop bm bb sz f bp _ _ 6 lh k _ HMX.out.drew (HL.out _ HPX.out.drew) hlh).mono ?_; rintro e w1 ⟨rfl, hp2, ho2⟩; have HPC := Lib.hid hp2; have HOC := Lib.hid ((HOX.out.drew).trans (ho2.mono (fun x h => h))); clear hp2 ho2))
  have d4 : w1.cell? ⟨bp, 4, none⟩ = some (.int .i64 used) := HPC.out.cell 4
  have f4 := HPC.out.frozen 4
  go_wp2
  go_ret2
  exact ⟨rfl, HPC.out.set_ 4 _, Only.setAt (S := fun x => x = bp) HOC.out (show bp = bp from rfl) _ _⟩

set_option maxHeartbeats 2000000 in
theorem page_Alloc_more (bp bm bb sz : Nat) (f : Nat → Nat) (p : PgM) (w : World) (hm : MemAt w bm bb sz f) (hp : PageAt w bp bm p) (hok : PgOK p) (hend : p.from_ + p.n * p.size ≤ sz) (h0 : p.fn = 0) (hl0 : p.ln = 0) (hmn : p.made < p.n)
    (k : Nat) (hk : min 4 (p.n - p.made) = k + 1) (f' : Nat → Nat) (hd : Nat) (hx : pushN p.from_ p.size p.made (k + 1) (f, p.lh) = (f', hd)) (hhd : hd + 8 ≤ sz) :
    Calls Tryz.prog 169 #[.pointer (some ⟨bp, 0, none⟩)] w fun e w' =>
      e = .returned (.tuple #[.int .u64 hd, .int .i64 0]) ∧ MemAt w' bm bb sz f' ∧ PageAt w' bp bm { p with made := p.made + (k + 1), fh := ld8 f' hd, fn := k, lh := 0, ln := 0, used := p.used + 1 } ∧ Only (fun x => x = bp ∨ x = bb) w w' := by
  have hok2 : PgOK { p with fh := p.lh, fn := 0, lh := 0, ln := 0 } := ⟨hok.run, hok.made, hok.used, by simp, by simp, hok.lh, by simp, hok.from1, hok.size8⟩
  have HMORE := Lib.hid (fun (wx : World) hm (hp : PageAt wx bp bm { p with fh := p.lh, fn := 0, lh := 0, ln := 0 }) => page_more bp bm bb sz f { p with fh := p.lh, fn := 0, lh := 0, ln := 0 } wx hm hp hok2 hend)
  dsimp only at HMORE
  rw [hk, hx] at HMORE
  have hus := hok.used
  have HM := Lib.hid hm
  have HP := Lib.hid hp
  have hk4 : k + 1 ≤ 4 := by omega
  obtain ⟨fr, size, n, made, used, fh, fn, lh, ln, pw, pt, pa, head⟩ := p
  dsimp only at HMORE h0 hl0 hmn hus ⊢
  subst hl0 h0
  have c7 : w.cell? ⟨bp, 7, none⟩ = some (.int .i64 (0 : Nat)) := HP.out.cell 7
  have c8 : w.cell? ⟨bp, 8, none⟩ = some (.int .u64 lh) := HP.out.cell 8
  have c9 : w.cell? ⟨bp, 9, none⟩ = some (.int .i64 (0 : Nat)) := HP.out.cell 9
  have f6 := HP.out.frozen 6
  have f7 := HP.out.frozen 7
  have f8 := HP.out.frozen 8
  have f9 := HP.out.frozen 9
  have d6 : w.cell? ⟨bp, 6, none⟩ = some (.int .u64 fh) := HP.out.cell 6
  have HL := Lib.hid (fun (wx : World) (h : PageAt wx bp bm ⟨fr, size, n, made + (k + 1), used, hd, 0 + (k + 1), 0, 0, pw, pt, pa, head⟩) => (⟨h, rfl, by simp, by omega⟩ : LstAt wx bp _ _ 6 hd (k + 1)))
  have HPX := Lib.hid ((((HP.out.set_ 6 (.int .u64 lh)).set_ 7 (.int .i64 (0 : Nat))).set_ 8 (.int .u64 0)).set_ 9 (.int .i64 0))
  have hmb := HM.out.st.ne_ HP.out (by decide)
  have hbb := HM.out.by_.ne_ HP.out (by decide)
  have HMX := Lib.hid ((((HM.out.away hmb hbb (p := ⟨bp, 6, none⟩) (.int .u64 lh)).away hmb hbb (p := ⟨bp, 7, none⟩) (.int .i64 (0 : Nat))).away hmb hbb (p := ⟨bp, 8, none⟩) (.int .u64 0)).away hmb hbb (p := ⟨bp, 9, none⟩) (.int .i64 0))
  have HOX : Hid (Only (fun x => x = bp) w _) := Lib.hid ((((Only.refl _ w).setAt (S := fun x => x = bp) (show bp = bp from rfl) 6 (.int .u64 lh)).setAt (S := fun x => x = bp) (show bp = bp from rfl) 7 (.int .i64 (0 : Nat))).setAt (S := fun x => x = bp) (show bp = bp from rfl) 8 (.int .u64 0) |>.setAt (S := fun x => x = bp) (show bp = bp from rfl) 9 (.int .i64 0))
  have HC := Lib.hid (HMORE.out _ HMX.out HPX.out)
  clear hm hp hok hok2 hmb hbb
  go_enter Tryz.func169, Tryz.ntmps169
  go_wp2_with (first | (go_at_call 195; refine HC.out.mono ?_; rintro e wx ⟨rfl, hm2, hp2, ho2⟩; have HMY := Lib.hid hm2; have HPY := Lib.hid hp2; have HOY := Lib.hid ((HOX.out.mono (S' := fun x => x = bp ∨ x = bb) (fun x h => .inl h)).trans ho2); clear hm2 hp2 ho2 c7 c8 c9 f6 f7 f8 f9 d6))
  go_region_held3 (fun w' => w'.cell? ⟨bp, 5, none⟩ = some (.pointer (some ⟨bm, 0, none⟩))) (first | exact HPY.out.cell 5 | exact HPC.out.cell 5) (first | (go_at_call 196; refine (list_Pop bm bb sz f' bp _ _ 6 hd k _ HMY.out.drew (HL.out _ HPY.out.drew) hhd).mono ?_; rintro e w1 ⟨rfl, hp2, ho2⟩; have HPC := Lib.hid hp2; have HLAST := Lib.hid ho2; have HOC := Lib.hid ((HOY.out.drew).trans (ho2.mono (fun x h => .inl h))); clear hp2 ho2))
  have d4 : w1.cell? ⟨bp, 4, none⟩ = some (.int .i64 used) := HPC.out.cell 4
  have f4 := HPC.out.frozen 4
  go_wp2
  go_ret2
  have n1 := HMY.out.st.ne_ HPY.out (by decide)
  have n2 := HMY.out.by_.ne_ HPY.out (by decide)
  exact ⟨rfl, (HMY.out.drew.only HLAST.out n1 n2).away n1 n2 _, HPC.out.set_ 4 _, Only.setAt (S := fun x => x = bp ∨ x = bb) HOC.out (.inl rfl) _ _⟩
end Go.Proofs.YtfplalgoopkmaaaGreat

namespace Go.Proofs.YtfplalgoopkmaaaGreat
open Go.RowKit

abbrev pgNew (fr s n : Nat) : PgM := ⟨fr, s, n, 0, 0, 0, 0, 0, 0, 0, 0, 0, 0⟩

set_option maxHeartbeats 2000000 in
theorem page_New (bm bb sz fr s n : Nat) (f : Nat → Nat) (w : World) (hm : MemAt w bm bb sz f) (hok : RunOK fr s n) (h1 : 1 ≤ fr) (hs : 16 ≤ s) (hn : 1 ≤ n) (hend : fr + n * s ≤ sz) :
    Calls Tryz.prog 238 #[.pointer (some ⟨bm, 0, none⟩), runV fr s n] w fun e w' => ∃ bp, w.heap.size ≤ bp ∧
      e = .returned (.tuple #[.pointer (some ⟨bp, 0, none⟩), .int .i64 0]) ∧ PageAt w' bp bm (pgNew fr s n) ∧ Only Nobody w w' := by
  have hE := fun w => run_End fr s n hok w
  have hlow : fr ≤ fr + n * s := Nat.le_add_right _ _
  generalize fr + n * s = E at hE hend hlow
  have HM := Lib.hid hm
  have hsz : sz ≤ 1048576 := hm.le
  have hE1 : fr ≤ E := hlow
  have HE := Lib.hid hE
  have hr1 : ((E : Int) == 0) = false := by rw [beq_eq_false_iff_ne]; omega
  have hr2 : ((fr : Int) == 0) = false := by rw [beq_eq_false_iff_ne]; omega
  have hr3 : decide ((s : Int) < 16) = false := by rw [decide_eq_false_iff_not]; omega
  have hr4 : decide ((n : Int) < 1) = false := by rw [decide_eq_false_iff_not]; omega
  have hr5 : decide ((sz : Int) < E) = false := by rw [decide_eq_false_iff_not]; omega
  clear hok hm hsz hE
  have HB0 := Lib.hid (Blk.new w 239 #[.int .u64 fr, .int .u64 s, .int .i64 n])
  have HM0 := Lib.hid (HM.out.alloc (.cells #[.int .u64 fr, .int .u64 s, .int .i64 n] 239))
  have HO0 := Lib.hid ((Only.refl Nobody w).alloc (.cells #[.int .u64 fr, .int .u64 s, .int .i64 n] 239))
  clear HM
  go_enter Tryz.func238, Tryz.ntmps238
  go_wp2_with (first | (go_at_call 214; refine (HE.out _).mono ?_; rintro e w1 ⟨rfl, ho⟩; have HB0 := Lib.hid (HB0.out.only ho (fun h => h)); have HM0 := Lib.hid (HM0.out.only ho (fun h => h) (fun h => h)); have HO0 := Lib.hid (HO0.out.trans ho); have c0 : w1.cell? ⟨w.heap.size, 0, none⟩ = some (.int .u64 fr) := HB0.out.cell 0; have c1 : w1.cell? ⟨w.heap.size, 1, none⟩ = some (.int .u64 s) := HB0.out.cell 1; have c2 : w1.cell? ⟨w.heap.size, 2, none⟩ = some (.int .i64 n) := HB0.out.cell 2; clear ho) | (go_at_call 57; refine (Mem.size _ HM0.out).mono ?_; rintro e w1 ⟨rfl, rfl⟩))
  go_ret2
  exact ⟨_, HO0.out.size, rfl, Blk.new _ _ _, HO0.out.alloc _⟩

theorem page_given (bp bm a i : Nat) (p : PgM) (w : World) (hp : PageAt w bp bm p) (hok : PgOK p) (ha : a < 18446744073709551616) (hi : runIndex p.from_ p.size p.n a = (i, 0)) (him : i < p.made) :
    Calls Tryz.prog 192 #[.pointer (some ⟨bp, 0, none⟩), .int .u64 a] w fun e w' => e = .returned (.int .i64 0) ∧ Only Nobody w w' := by
  have HI := Lib.hid (fun w => run_Index p.from_ p.size p.n a hok.run ha w)
  rw [hi] at HI
  have HP := Lib.hid hp
  obtain ⟨fr, size, n, made, used, fh, fn, lh, ln, pw, pt, pa, head⟩ := p
  dsimp only at him HI
  have hge : decide (made ≤ i) = false := by rw [decide_eq_false_iff_not]; omega
  have c0 : w.cell? ⟨bp, 0, none⟩ = some (.int .u64 fr) := HP.out.cell 0
  have c1 : w.cell? ⟨bp, 1, none⟩ = some (.int .u64 size) := HP.out.cell 1
  have c2 : w.cell? ⟨bp, 2, none⟩ = some (.int .i64 n) := HP.out.cell 2
  clear hp hok ha hi him
  go_enter Tryz.func192, Tryz.ntmps192
  go_wp2_with (first | (go_at_call 185; refine (HI.out _).mono ?_; rintro e w1 ⟨rfl, ho⟩; have HO := Lib.hid ho; have d3 : w1.cell? ⟨bp, 3, none⟩ = some (.int .i64 made) := (HP.out.only ho (fun h => h)).cell 3; clear ho))
  go_ret
  exact ⟨rfl, HO.out⟩

theorem page_Used (bp bm : Nat) (p : PgM) (w : World) (hp : PageAt w bp bm p) :
    Calls Tryz.prog 217 #[.pointer (some ⟨bp, 0, none⟩)] w fun e w' => e = .returned (.int .i64 p.used) ∧ w = w' := by
  have c : w.cell? ⟨bp, 4, none⟩ = some (.int .i64 p.used) := hp.cell 4
  clear hp
  go_enter Tryz.func217, Tryz.ntmps217
  go_wp2
  go_ret
  exact ⟨rfl, rfl⟩
theorem page_Made (bp bm : Nat) (p : PgM) (w : World) (hp : PageAt w bp bm p) :
    Calls Tryz.prog 186 #[.pointer (some ⟨bp, 0, none⟩)] w fun e w' => e = .returned (.int .i64 p.made) ∧ w = w' := by
  have c : w.cell? ⟨bp, 3, none⟩ = some (.int .i64 p.made) := hp.cell 3
  clear hp
  go_enter Tryz.func186, Tryz.ntmps186
  go_wp2
  go_ret
  exact ⟨rfl, rfl⟩

set_option maxHeartbeats 2000000 in
theorem page_Free (bp bm bb sz a i g : Nat) (f : Nat → Nat) (p : PgM) (w : World) (hm : MemAt w bm bb sz f) (hp : PageAt w bp bm p) (hok : PgOK p) (hg : Blk w g 22 #[.int .u64 a])
    (ha : a + 8 ≤ sz) (ha1 : 1 ≤ a) (hi : runIndex p.from_ p.size p.n a = (i, 0)) (him : i < p.made) (hu : 1 ≤ p.used) :
    Calls Tryz.prog 189 #[.pointer (some ⟨bp, 0, none⟩), .slice (some ⟨g, 0, none⟩) 1 1] w fun e w' =>
      e = .returned (.int .i64 0) ∧ MemAt w' bm bb sz (st8 f a p.lh) ∧ PageAt w' bp bm { p with lh := a, ln := p.ln + 1, used := p.used - 1 } ∧ Only (fun x => x = bp ∨ x = bb) w w' := by
  have hsz : sz ≤ 1048576 := hm.le
  have HGI := Lib.hid (fun w hp => page_given bp bm a i p w hp hok (by omega) hi him)
  have HM := Lib.hid hm
  have HP := Lib.hid hp
  have hln := hok.ln
  have hlh := hok.lh
  have hus := hok.used
  obtain ⟨fr, size, n, made, used, fh, fn, lh, ln, pw, pt, pa, head⟩ := p
  dsimp only at HGI HP hu hln hlh hus ⊢
  have hu0 : ((used : Int) == 0) = false := by rw [beq_eq_false_iff_ne]; omega
  have hneb : bp ≠ bb := (HM.out.by_.ne_ HP.out (by decide)).symm
  have cg : w.cell? ⟨g, 0, none⟩ = some (.int .u64 a) := hg.cell 0
  have HL := Lib.hid (fun (wx : World) (h : PageAt wx bp bm ⟨fr, size, n, made, used, fh, fn, lh, ln, pw, pt, pa, head⟩) => (⟨h, rfl, rfl, by omega⟩ : LstAt wx bp _ _ 8 lh ln))
  clear hm hp hok hg hi him
  go_enter Tryz.func189, Tryz.ntmps189
  go_wp2
  refine wp_loop_rounds 2 ?_
  rw [rounds_succ]
  go_wp2_with (first | (go_at_call 192; refine (HGI.out _ HP.out).mono ?_; rintro e w1 ⟨rfl, ho⟩; have HP1 := Lib.hid (HP.out.only ho (fun h => h)); have HM1 := Lib.hid (HM.out.only ho (fun h => h) (fun h => h)); have HO1 := Lib.hid ho; have d4 : w1.cell? ⟨bp, 4, none⟩ = some (.int .i64 used) := HP1.out.cell 4; have d5 : w1.cell? ⟨bp, 5, none⟩ = some (.pointer (some ⟨bm, 0, none⟩)) := HP1.out.cell 5; clear ho))
  go_region_held3 (fun w' => w'.cell? ⟨bp, 5, none⟩ = some (.pointer (some ⟨bm, 0, none⟩))) (first | exact d5 | exact (HP1.out.drew.alloc _).cell 5 | exact HPC.out.cell 5) (first | (go_at_call 215; refine (list_Push bm bb sz f bp _ _ 8 lh ln w1.heap.size a _ ((HM1.out.drew).alloc _) (HL.out _ (HP1.out.drew.alloc _)) (by omega) hlh (Blk.new w1.drew _ _) (by omega) ha (by decide) (by decide)).mono ?_; rintro e w2 ⟨rfl, hm2, hp2, ho2⟩; have HPC := Lib.hid hp2; have HMC := Lib.hid hm2; have HOC := Lib.hid ((((HO1.out.mono (S' := fun x => x = bp ∨ x = bb) (fun x h => h.elim)).drew).alloc _).trans ho2); clear hm2 hp2 ho2))
  have e4 : w2.cell? ⟨bp, 4, none⟩ = some (.int .i64 used) := HPC.out.cell 4
  have f4 := HPC.out.frozen 4
  go_wp2
  rw [rounds_succ]
  go_wp2
  go_ret
  have n1 := HMC.out.st.ne_ HPC.out (by decide)
  have n2 := HMC.out.by_.ne_ HPC.out (by decide)
  refine ⟨rfl, HMC.out.away n1 n2 _, ?_, Only.setAt (S := fun x => x = bp ∨ x = bb) HOC.out (.inl rfl) _ _⟩
  have h := HPC.out.set_ 4 (.int .i64 ((used : Int) - 1))
  rw [show (used : Int) - 1 = ((used - 1 : Nat) : Int) from by omega] at h ⊢
  exact h
end Go.Proofs.YtfplalgoopkmaaaGreat

namespace Go.Proofs.YtfplalgoopkmaaaGreat
open Go.RowKit

def one1 (x : Nat) : Nat := (x / 2 &&& 6148914691236517205) + (x &&& 6148914691236517205)
def one2 (x : Nat) : Nat := (x / 4 &&& 3689348814741910323) + (x &&& 3689348814741910323)
def one3 (x : Nat) : Nat := (x / 16 + x) % 18446744073709551616 &&& 1085102592571150095
def one4 (x : Nat) : Nat := (x + x / 256)
def one5 (x : Nat) : Nat := (x + x / 65536)
def one6 (x : Nat) : Nat := (x + x / 4294967296)
def ones (x : Nat) : Nat := one6 (one5 (one4 (one3 (one2 (one1 x))))) % 128
def pw2 (x : Nat) : Bool := decide (ones x = 1)
theorem one1_le (x : Nat) : one1 x ≤ 12297829382473034410 := by
  unfold one1
  have h1 := Nat.and_le_right (n := x / 2) (m := 6148914691236517205)
  have h2 := Nat.and_le_right (n := x) (m := 6148914691236517205)
  omega
theorem one2_le (x : Nat) : one2 x ≤ 7378697629483820646 := by
  unfold one2
  have h1 := Nat.and_le_right (n := x / 4) (m := 3689348814741910323)
  have h2 := Nat.and_le_right (n := x) (m := 3689348814741910323)
  omega
theorem one3_le (x : Nat) : one3 x ≤ 1085102592571150095 := Nat.and_le_right
theorem w1 (x : Nat) (hx : x < 18446744073709551616) : IntKind.u64.wrap (bits BinOp.and IntKind.u64 ((x : Int) / 2) 6148914691236517205 + bits BinOp.and IntKind.u64 (x : Int) 6148914691236517205) = (one1 x : Nat) := by
  have a := u64_and_nat (x / 2) 6148914691236517205 (by omega) (by omega)
  have b := u64_and_nat x 6148914691236517205 (by omega) (by omega)
  have c := one1_le x
  unfold one1 at *
  simp only [Int.natCast_ediv, Int.cast_ofNat_Int] at a b
  rw [a, b, IntWalk.u64_in _ (by omega)]; simp
theorem w2 (x : Nat) (hx : x < 18446744073709551616) : IntKind.u64.wrap (bits BinOp.and IntKind.u64 ((x : Int) / 4) 3689348814741910323 + bits BinOp.and IntKind.u64 (x : Int) 3689348814741910323) = (one2 x : Nat) := by
  have a := u64_and_nat (x / 4) 3689348814741910323 (by omega) (by omega)
  have b := u64_and_nat x 3689348814741910323 (by omega) (by omega)
  have c := one2_le x
  unfold one2 at *
  simp only [Int.natCast_ediv, Int.cast_ofNat_Int] at a b
  rw [a, b, IntWalk.u64_in _ (by omega)]; simp
theorem w3 (x : Nat) (hx : x ≤ 7378697629483820646) : bits BinOp.and IntKind.u64 (IntKind.u64.wrap ((x : Int) / 16 + x)) 1085102592571150095 = (one3 x : Nat) := by
  have a := u64_and_nat (x / 16 + x) 1085102592571150095 (by omega) (by omega)
  unfold one3
  rw [Nat.mod_eq_of_lt (by omega), IntWalk.u64_in _ (by omega)]
  simpa using a
theorem w4 (x : Nat) (hx : x ≤ 1085102592571150095) : IntKind.u64.wrap ((x : Int) + x / 256) = (one4 x : Nat) := by
  unfold one4; rw [IntWalk.u64_in _ (by omega)]; simp
theorem w5 (x : Nat) (hx : x ≤ 1089341274573849900) : IntKind.u64.wrap ((x : Int) + x / 65536) = (one5 x : Nat) := by
  unfold one5; rw [IntWalk.u64_in _ (by omega)]; simp
theorem w6 (x : Nat) (hx : x ≤ 2000000000000000000) : IntKind.u64.wrap ((x : Int) + x / 4294967296) = (one6 x : Nat) := by
  unfold one6; rw [IntWalk.u64_in _ (by omega)]; simp
set_option maxHeartbeats 1000000 in
theorem ones64 (x : Nat) (hx : x < 18446744073709551616) (w : World) :
    Calls Tryz.prog 107 #[.int .u64 x] w fun e w' => e = .returned (.int .i64 (ones x)) ∧ w = w' := by
  go_enter Tryz.func107, Tryz.ntmps107
  go_wp2
  go_ret
  refine ⟨?_, rfl⟩
  simp only [Array.getD_eq_getD_getElem?]
  show Ending.returned (Value.int _ _) = _
  congr 2
  rw [w1 x hx]
  have h1 := one1_le x
  rw [w2 _ (by omega)]
  have h2 := one2_le (one1 x)
  rw [w3 _ h2]
  have h3 := one3_le (one2 (one1 x))
  rw [w4 _ h3]
  rw [w5 _ (by unfold one4; omega)]
  rw [w6 _ (by unfold one5 one4; omega)]
  unfold ones
  have h6 : one6 (one5 (one4 (one3 (one2 (one1 x))))) ≤ 2000000000000000000 := by unfold one6 one5 one4; omega
  rw [i64_and127]
  unfold wrap64
  omega
theorem pow2_calls (x : Nat) (hx : x < 18446744073709551616) (w : World) :
    Calls Tryz.prog 89 #[.int .u64 x] w fun e w' => e = .returned (.bool (pw2 x)) ∧ w = w' := by
  go_enter Tryz.func89, Tryz.ntmps89
  go_wp2_with (go_at_call 107; refine (ones64 x hx _).mono ?_; rintro e w' ⟨rfl, rfl⟩)
  go_ret
  refine ⟨?_, rfl⟩
  unfold pw2
  simp
  congr 1
  rw [Bool.eq_iff_iff, beq_iff_eq, decide_eq_true_iff]
  omega
theorem pw2_one : pw2 1 = true := by decide
end Go.Proofs.YtfplalgoopkmaaaGreat
