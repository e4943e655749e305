/- Where an address lies, over the whole state. A block's page, over the whole state. A thread's own block is given back, over the whole state. Conditions: none. -/
import Derived.Test.YtfplalgoopkmaaaGreatPart27

set_option linter.unusedVariables false
set_option linter.unusedSimpArgs false

namespace Go.Proofs.YtfplalgoopkmaaaGreat
open Go.RowKit

set_option maxRecDepth 100000 in
set_option maxHeartbeats 1000000 in
theorem clone_regs (v : Value) (n : Nat) (xs : List Value) (w : World) (h : RowAt w 147 2 v n xs) (hn : n ≤ 1000) (h1 : ∀ u ∈ xs, Value.oneCell' u = true) :
    Calls Tryz.prog 233 #[v] w fun e w' => ∃ v', e = .returned v' ∧ w'.ownsRow w.heap.size 147 2 v' n xs ∧ Only Nobody w w' := by
  obtain ⟨i0, hi, hz0, hz1, hz2⟩ := info_parts Tryz.infoRegion
  have heq := fun (w : World) (a : Option Addr) (n c : Nat) => Lib.run_eql_slice_nil (P := Tryz.prog) w 126 147 a n c 0 0 Tryz.underlying126
  have HH := Lib.hid h
  rcases h.2 with ⟨rfl, rfl⟩ | ⟨g, cap, cur, rfl, _, hh, hcap, hmax, hcs, hcur⟩
  · clear h
    go_enter Tryz.func233, Tryz.ntmps233
    go_wp2
    go_ret
    have hx : xs = [] := List.eq_nil_of_length_eq_zero (by have := HH.out.1; omega)
    subst hx
    exact ⟨_, rfl, ⟨rfl, .inl ⟨rfl, rfl⟩⟩, Only.refl _ _⟩
  · have hnews := World.ownsRow.cells (RowAt.only h ((Only.refl Nobody w).alloc (.cells #[] 147)) (fun _ _ h => h)) (g := g) rfl
    have HN := Lib.hid hnews
    have hlx := h.1
    clear h hh hcap hmax hcs hcur hnews
    go_enter Tryz.func233, Tryz.ntmps233
    go_wp2_with (at_builtin; refine wpList_append_own _ rfl _ _ 126 rfl w.heap.size 147 i0 (.agg #[.int .i64 0, .int .i64 0]) 2 16 Tryz.underlying126 hi hz0 hz1 hz2 rfl (by decide) _ 0 [] rfl ⟨rfl, .inr ⟨w.heap.size, 0, #[], rfl, Nat.le_refl _, Blk.new w _ _, Nat.le_refl _, Nat.zero_le _, rfl, rfl⟩⟩ ⟨g, 0, none⟩ n cap xs rfl (by rw [hlx]) HN.out h1 (by unfold maxLen; omega) (by omega) (by simp) ?_; intro v' w1 hown hgr _)
    go_ret
    rw [Nat.zero_add, List.nil_append] at hown
    refine ⟨_, rfl, hown, ((Only.refl _ _).alloc _).grown hgr (fun k hk hlt => ?_)⟩
    cases hk
    exact absurd hlt (Nat.lt_irrefl _)

theorem regCells_all (l : List (Nat × Nat)) : ∀ u ∈ l.flatMap regCells, Value.oneCell' u = true := by
  intro u hu
  obtain ⟨r, _, hr⟩ := List.mem_flatMap.1 hu
  exact regCells_one r u hr

theorem arena_Regions (ba bk bt : Nat) (vr vt : Value) (A : ArenaM) (w : World) (h : ArenaAt w ba bk bt vr vt A) :
    Calls Tryz.prog 212 #[.pointer (some ⟨ba, 0, none⟩)] w fun e w' => ∃ v', e = .returned v' ∧ w'.ownsRow w.heap.size 147 2 v' A.regs.length (A.regs.flatMap regCells) ∧ Only Nobody w w' := by
  have HC := Lib.hid (clone_regs vr A.regs.length _ w h.rg (by have := h.few; omega) (regCells_all _))
  have c3 : w.cell? ⟨ba, 3, none⟩ = some vr := h.st.cell 3
  obtain ⟨a, n, c, rfl⟩ := rowShape h.rg
  clear h
  go_enter Tryz.func212, Tryz.ntmps212
  go_wp2_with (first | (go_at_call 233; refine HC.out.mono ?_; rintro e w1 ⟨v', rfl, hr, ho⟩; obtain ⟨a2, n2, c2, rfl⟩ := rowShape hr; have HR := Lib.hid hr; have HO := Lib.hid ho; clear hr ho))
  go_ret
  exact ⟨_, rfl, HR.out, HO.out⟩

/-- The region that a segment is in, but the first one. -/
def regAt : List (Nat × Nat) → Nat → Option Nat
  | [], _ => none
  | r :: l, s => if r.1 ≤ s ∧ s < r.1 + r.2 ∧ 0 < r.1 then some r.1 else regAt l s
def atV (o : Option Nat) : Int := match o with
  | some a => a
  | none => -1
theorem regAt_drop (s : Nat) : ∀ (l : List (Nat × Nat)) (j : Nat), (∀ i, i < j → ∀ r, l[i]? = some r → ¬ (r.1 ≤ s ∧ s < r.1 + r.2 ∧ 0 < r.1)) → regAt l s = regAt (l.drop j) s := by
  intro l j
  induction j generalizing l with
  | zero => intro _; rfl
  | succ j ih =>
    intro h
    cases l with
    | nil => rfl
    | cons r l =>
      rw [List.drop_succ_cons, ← ih l (fun i hi q hq => h (i + 1) (by omega) q (by simpa using hq))]
      conv => lhs; unfold regAt
      rw [if_neg (h 0 (by omega) r rfl)]

set_option maxHeartbeats 2000000 in
theorem sys_at (A : St) (a : Nat) (w : World) (L : Lay) (h : Rep w L A) (ha : a < 1048576) (hr64 : ∀ r, r ∈ A.ar.regs → r.1 ≤ 64 ∧ r.2 ≤ 64) :
    Calls Tryz.prog 183 #[ptrV L.bs, .int .u64 a] w fun e w' => e = .returned (.int .i64 (atV (regAt A.ar.regs (a / 16384)))) ∧ Only Nobody w w' := by
  obtain ⟨cs, hcs, hc⟩ := h.sysblk
  have hA : ArOK w L A.ar := h.all .arena
  have HAT := Lib.hid (geo_At a ha w)
  have HREP := Lib.hid h
  have HRG : Hid (∀ w1, Only Nobody w w1 → Calls Tryz.prog 212 #[.pointer (some ⟨L.ba, 0, none⟩)] w1 fun e w' => ∃ v', e = .returned v' ∧ w'.ownsRow w1.heap.size 147 2 v' A.ar.regs.length (A.ar.regs.flatMap regCells) ∧ Only Nobody w1 w') := Lib.hid fun w1 ho => arena_Regions L.ba L.bk L.bt L.vr L.vt A.ar w1 (show ArOK w1 L A.ar from (h.quiet ho).all .arena).at_
  have HC1 : Hid (∀ w1, Only Nobody w w1 → w1.cell? ⟨L.bs, 1, none⟩ = some (.pointer (some ⟨L.ba, 0, none⟩))) := Lib.hid fun w1 ho => ((hcs.only ho (fun h => h)).cell 1).trans hc.h1
  have HR64 := Lib.hid hr64
  have hl64 := hA.at_.few
  obtain ⟨l, hl⟩ : ∃ x, x = A.ar.regs := ⟨_, rfl⟩
  rw [← hl] at HRG HR64 hl64 ⊢
  obtain ⟨s, hs⟩ : ∃ x, x = a / 16384 := ⟨_, rfl⟩
  rw [← hs] at HAT ⊢
  have hs64 : s < 64 := by omega
  generalize a / 1024 % 16 = sl at HAT
  generalize a % 1024 = of at HAT
  show Calls _ _ #[.pointer (some ⟨L.bs, 0, none⟩), .int .u64 a] w _
  generalize L.bs = bs at *
  generalize L.ba = ba at *
  clear h hcs hc hA hr64 hl hs
  go_enter Tryz.func183, Tryz.ntmps183
  go_wp2_with (first | (go_at_call 211; refine HAT.out.mono ?_; rintro e w1 ⟨rfl, ho⟩; have HO1 := Lib.hid (ho.alloc (.cells #[.int .i64 s, .int .i64 sl, .int .u64 of] 288)); have d1 := HC1.out _ (ho.alloc (.cells #[.int .i64 s, .int .i64 sl, .int .u64 of] 288)); have HPL := Lib.hid (Blk.new w1 288 #[.int .i64 s, .int .i64 sl, .int .u64 of]); clear ho) | (go_at_call 212; refine (HRG.out _ HO1.out).mono ?_; rintro e w2 ⟨v', rfl, hr, ho⟩; obtain ⟨ra, rc, rfl⟩ := rowShapeN hr; have HR := Lib.hid hr; have HO2 := Lib.hid (HO1.out.trans ho); have HPL2 := Lib.hid (HPL.out.only ho (fun h => h)); clear hr ho d1))
  generalize w1.heap.size = pb at *
  go_loopw [8, 23] (fun _ i wr => ∃ j : Nat, j ≤ l.length ∧ i = .int .i64 j ∧ Hid (∀ i, i < j → ∀ r, l[i]? = some r → ¬ (r.1 ≤ s ∧ s < r.1 + r.2 ∧ 0 < r.1)) ∧ Only Nobody w2 wr) (fun _ i _ => l.length - (intOf i).toNat)
  case atStart => exact ⟨0, by omega, rfl, Lib.hid fun l h => absurd h (by omega), Only.refl _ _⟩
  case round =>
    obtain ⟨j, hj, rfl, HNO, ho⟩ := hrel
    have HOW := Lib.hid ho
    have p0 : wr.cell? ⟨pb, 0, none⟩ = some (.int .i64 s) := (HPL2.out.only ho (fun h => h)).cell 0
    by_cases hlt : j < l.length
    · obtain ⟨⟨r1, r2⟩, hr⟩ : ∃ r, l[j]? = some r := ⟨l[j], List.getElem?_eq_getElem hlt⟩
      have hrm := HR64.out _ (List.mem_of_getElem? hr)
      dsimp only at hrm
      obtain ⟨g, hra⟩ : ∃ g, ra = some ⟨g, 0, none⟩ := by
        rcases HR.out.2 with ⟨hv, h0⟩ | ⟨g, cap, cur, hv, _⟩
        · omega
        · injection hv with hv; exact ⟨g, hv⟩
      subst hra
      obtain ⟨k1, k2⟩ := regCells_at l j (r1, r2) hr
      have hgl := (HR.out.lt g rfl).2
      have q1 : wr.cell? ⟨g, j * 2, none⟩ = some (.int .i64 r1) := (World.cell?_of_block (ho.same g hgl (fun h => h))).trans (by have := World.ownsRow.cells HR.out (g := g) rfl _ _ k1; rw [Addr.add_lit, Nat.zero_add] at this; exact this)
      have q2 : wr.cell? ⟨g, j * 2 + 1, none⟩ = some (.int .i64 r2) := (World.cell?_of_block (ho.same g hgl (fun h => h))).trans (by have := World.ownsRow.cells HR.out (g := g) rfl _ _ k2; rw [Addr.add_lit, Nat.zero_add] at this; exact this)
      have HRJ := Lib.hid hr
      have p0' : (wr.alloc (.cells #[.int .i64 r1, .int .i64 r2] 147)).cell? ⟨pb, 0, none⟩ = some (.int .i64 s) := ((HPL2.out.only (ho.alloc (.cells #[.int .i64 r1, .int .i64 r2] 147)) (fun h => h))).cell 0
      have hsum : wrap64 ((r1 : Int) + r2) = (r1 : Int) + r2 := by unfold wrap64; omega
      clear ho hr k1 k2 hgl
      by_cases h1 : r1 ≤ s
      · have b1 : decide (r1 ≤ s) = true := by simpa using h1
        by_cases h2 : s < r1 + r2
        · have b2 : decide ((s : Int) < (r1 : Int) + r2) = true := by rw [decide_eq_true_eq]; omega
          by_cases h3 : 0 < r1
          · have b3 : decide (0 < r1) = true := by simpa using h3
            have hfin : regAt l s = some r1 := by
              rw [regAt_drop s l j HNO.out, List.drop_eq_getElem_cons hlt]
              have := HRJ.out
              rw [List.getElem?_eq_getElem hlt] at this
              injection this with this
              rw [this]
              unfold regAt
              rw [if_pos ⟨h1, h2, h3⟩]
            have HFIN := Lib.hid hfin
            clear h1 h2 h3 hfin
            go_wp2
            go_ret
            exact ⟨by rw [HFIN.out]; rfl, HO2.out.trans (HOW.out.alloc _)⟩
          · have b3 : decide (0 < r1) = false := by simpa using h3
            go_wp2
            refine ⟨⟨j + 1, by omega, by go_num, Lib.hid fun i hi r hri => ?_, HOW.out.alloc _⟩, by show l.length - (intOf (Value.int IntKind.i64 ((j : Int) + 1))).toNat < l.length - (intOf (Value.int IntKind.i64 (j : Int))).toNat; simp [intOf]; omega⟩
            by_cases e : i = j
            · subst e; rw [HRJ.out] at hri; injection hri with hri; subst hri; dsimp only; omega
            · exact HNO.out i (by omega) r hri
        · have b2 : decide ((s : Int) < (r1 : Int) + r2) = false := by rw [decide_eq_false_iff_not]; omega
          go_wp2
          refine ⟨⟨j + 1, by omega, by go_num, Lib.hid fun i hi r hri => ?_, HOW.out.alloc _⟩, by show l.length - (intOf (Value.int IntKind.i64 ((j : Int) + 1))).toNat < l.length - (intOf (Value.int IntKind.i64 (j : Int))).toNat; simp [intOf]; omega⟩
          by_cases e : i = j
          · subst e; rw [HRJ.out] at hri; injection hri with hri; subst hri; dsimp only; omega
          · exact HNO.out i (by omega) r hri
      · have b1 : decide (r1 ≤ s) = false := by simpa using h1
        go_wp2
        refine ⟨⟨j + 1, by omega, by go_num, Lib.hid fun i hi r hri => ?_, HOW.out.alloc _⟩, by show l.length - (intOf (Value.int IntKind.i64 ((j : Int) + 1))).toNat < l.length - (intOf (Value.int IntKind.i64 (j : Int))).toNat; simp [intOf]; omega⟩
        by_cases e : i = j
        · subst e; rw [HRJ.out] at hri; injection hri with hri; subst hri; dsimp only; omega
        · exact HNO.out i (by omega) r hri
    · obtain rfl : j = l.length := by omega
      have hfin : regAt l s = none := by rw [regAt_drop s l _ HNO.out, List.drop_length]; rfl
      have HFIN := Lib.hid hfin
      clear ho hfin
      go_wp2
      go_ret
      exact ⟨by rw [HFIN.out]; rfl, HO2.out.trans HOW.out⟩
end Go.Proofs.YtfplalgoopkmaaaGreat

namespace Go.Proofs.YtfplalgoopkmaaaGreat
open Go.RowKit

theorem run_result (w : World) (b : Nat) (tmps : Array Value) (f s n : Nat) (hb : Blk w b 239 #[.int .u64 f, .int .u64 s, .int .i64 n]) (h2 : tmps[2]? = some (.pointer (some ⟨b, 0, none⟩))) :
    (results Tryz.f153 tmps).run Tryz.prog w = .ok (runV f s n) w := by
  have hc := hb.cell
  simp [results, Tryz.f153, go_sem, h2, hc]
theorem page_Run (bp bm : Nat) (p : PgM) (w : World) (hp : PageAt w bp bm p) :
    Calls Tryz.prog 153 #[.pointer (some ⟨bp, 0, none⟩)] w fun e w' => e = .returned (runV p.from_ p.size p.n) ∧ Only Nobody w w' := by
  have hpa := hp.alloc (.cells #[.int .u64 0, .int .u64 0, .int .i64 0] 239)
  have c0 : (w.alloc (.cells #[.int .u64 0, .int .u64 0, .int .i64 0] 239)).cell? ⟨bp, 0, none⟩ = some (.int .u64 p.from_) := hpa.cell 0
  have c1 : (w.alloc (.cells #[.int .u64 0, .int .u64 0, .int .i64 0] 239)).cell? ⟨bp, 1, none⟩ = some (.int .u64 p.size) := hpa.cell 1
  have c2 : (w.alloc (.cells #[.int .u64 0, .int .u64 0, .int .i64 0] 239)).cell? ⟨bp, 2, none⟩ = some (.int .i64 p.n) := hpa.cell 2
  have HB := Lib.hid (Blk.new w 239 #[.int .u64 p.from_, .int .u64 p.size, .int .i64 p.n])
  clear hp hpa
  go_enter Tryz.func153, Tryz.ntmps153
  go_wp2
  exact bodyPost_ret (run_result _ _ _ _ _ _ HB.out rfl) rfl ⟨rfl, (Only.refl _ _).alloc _⟩

set_option maxHeartbeats 2000000 in
theorem sys_findPage (A : St) (k a : Nat) (g : Pg) (w : World) (L : Lay) (h : Rep w L A) (hsp : SP A) (hp : A.page k = some g) (hb : IsBlock k g a) (hreg : regAt A.ar.regs (a / 16384) = some (k / 16)) (hr64 : ∀ r, r ∈ A.ar.regs → r.1 ≤ 64 ∧ r.2 ≤ 64) (hhu : A.sy.huge (k / 16) = 0) (hkn : A.sy.kn (k / 16) = true) :
    Calls Tryz.prog 156 #[ptrV L.bs, .int .u64 a] w fun e w' => e = .returned (.tuple #[.int .i64 (k / 16 : Nat), ptrV (L.ow k), .int .i64 0]) ∧ Only Nobody w w' := by
  have hgd := (hsp.pg k g hp).1
  obtain ⟨b1, b2, b3, b4⟩ := hgd.block_lt hb
  have hat := sys_at A a w L h b4 hr64
  rw [hreg] at hat
  have HAT : Hid (Calls Tryz.prog 183 #[.pointer (some ⟨L.bs, 0, none⟩), .int .u64 a] w fun e w' => e = .returned (.int .i64 (k / 16 : Nat)) ∧ Only Nobody w w') := Lib.hid hat
  clear hat
  obtain ⟨s, hs⟩ := Option.isSome_iff_exists.1 (hsp.pg k g hp).2
  obtain ⟨cs, hcs, hc⟩ := h.sysblk
  have hk64 : k / 16 < 64 := by have := hgd.kn; have := hgd.n64; omega
  obtain ⟨o, hsg1, hsg2⟩ := hc.sg (k / 16) hk64
  have hfi := hsp.find_block hp hb (segs := [k / 16]) (by simp)
  have hof : s.of (a / 1024 % 16) = some (k % 16) := by
    unfold St.findIn at hfi
    rw [b3, if_pos (by simp), hs] at hfi
    simp only [Option.bind_some] at hfi
    cases h4 : s.of (a / 1024 % 16) with
    | none => rw [h4] at hfi; cases hfi
    | some x => rw [h4] at hfi; simp only [Option.map_some, Option.some.injEq] at hfi; congr 1; omega
  have hsf : segFind (segM L (k / 16) s) a = (some (L.ow k), 0) := by
    have e : (segM L (k / 16) s).of (a / 1024 % 16) = some (L.ow k) := by
      show (s.of (a / 1024 % 16)).map (fun x => L.ow (k / 16 * 16 + x)) = _
      rw [hof]
      show some (L.ow (k / 16 * 16 + k % 16)) = _
      rw [show k / 16 * 16 + k % 16 = k from by omega]
    unfold segFind
    rw [if_neg (by simp [b3]), e, if_neg (by simp)]
  have HSF : Hid (∀ w1, Only Nobody w w1 → Calls Tryz.prog 184 #[.pointer (some ⟨L.sg (k / 16), 0, none⟩), .int .u64 a] w1 fun e w' => e = .returned (.tuple #[.pointer (some ⟨L.ow k, 0, none⟩), .int .i64 0]) ∧ Only Nobody w1 w') := Lib.hid fun w1 ho => by
    have := seg_Find (L.sg (k / 16)) L.bm a (segM L (k / 16) s) w1 ((h.quiet ho).all (.seg _) s hs) b4
    rw [hsf] at this
    exact this
  obtain ⟨i, hi, him⟩ := hgd.runIndex hb
  have HRUN : Hid (∀ w1, Only Nobody w w1 → Calls Tryz.prog 153 #[.pointer (some ⟨L.pg k, 0, none⟩)] w1 fun e w' => e = .returned (runV (k * 1024) g.size g.n) ∧ Only Nobody w1 w') := Lib.hid fun w1 ho => page_Run _ _ _ w1 ((h.quiet ho).all (.page k) g hp).2
  have HIX : Hid (∀ w1, Calls Tryz.prog 185 #[runV (k * 1024) g.size g.n, .int .u64 a] w1 fun e w' => e = .returned (.tuple #[.int .i64 i, .int .i64 0]) ∧ Only Nobody w1 w') := Lib.hid fun w1 => by
    have := run_Index (k * 1024) g.size g.n a hgd.runOK (by omega) w1
    rw [hi] at this
    exact this
  have HMD : Hid (∀ w1, Only Nobody w w1 → Calls Tryz.prog 186 #[.pointer (some ⟨L.pg k, 0, none⟩)] w1 fun e w' => e = .returned (.int .i64 g.made) ∧ w1 = w') := Lib.hid fun w1 ho => page_Made _ _ _ w1 ((h.quiet ho).all (.page k) g hp).2
  have HC : Hid (∀ w1, Only Nobody w w1 → w1.cell? ⟨L.bs, 206 + k / 16, none⟩ = some (.int .i64 0) ∧ w1.cell? ⟨L.bs, 142 + k / 16, none⟩ = some (.pointer (some ⟨L.sg (k / 16), 0, none⟩)) ∧ w1.cell? ⟨L.ow k, 0, none⟩ = some (.pointer (some ⟨L.pg k, 0, none⟩))) := Lib.hid fun w1 ho => by
    have hb1 := hcs.only ho (fun h => h)
    refine ⟨(hb1.cell _).trans ?_, (hb1.cell _).trans ?_, ((h.quiet ho).all (.page k) g hp).1.cell 0⟩
    · have := hc.hu (k / 16) hk64; rw [hhu] at this; exact this
    · rw [hsg2 hkn] at hsg1; exact hsg1
  have hmade : i < g.made := him
  show Calls _ _ #[.pointer (some ⟨L.bs, 0, none⟩), .int .u64 a] w _
  generalize L.bs = bs at *
  generalize L.ow k = bo at *
  generalize L.pg k = bp at *
  generalize L.sg (k / 16) = bsg at *
  generalize k / 16 = p at *
  generalize g.made = md at *
  clear h hgd hs hcs hc hsg1 hsg2 hfi hof hsf hi him hp hb hreg hr64 hhu hkn hsp
  have hp2 : (p : Int) < 64 := by omega
  have hp3 : (0 : Int) ≤ p := by omega
  have hmd : decide (md ≤ i) = false := by rw [decide_eq_false_iff_not]; omega
  go_enter Tryz.func156, Tryz.ntmps156
  go_wp2_with (first | (go_at_call 183; refine HAT.out.mono ?_; rintro e w1 ⟨rfl, ho⟩; have HO1 := Lib.hid ho; obtain ⟨q1, q2, q3⟩ := HC.out w1 ho; clear ho) | (go_at_call 184; refine (HSF.out _ HO1.out).mono ?_; rintro e w2 ⟨rfl, ho⟩; have HO2 := Lib.hid (HO1.out.trans ho); obtain ⟨_, _, q3⟩ := HC.out w2 (HO1.out.trans ho); clear ho) | (go_at_call 153; refine (HRUN.out _ HO2.out).mono ?_; rintro e w3 ⟨rfl, ho⟩; have HO3 := Lib.hid (HO2.out.trans ho); clear ho) | (go_at_call 185; refine (HIX.out _).mono ?_; rintro e w4 ⟨rfl, ho⟩; have HO4 := Lib.hid (HO3.out.trans ho); obtain ⟨_, _, q4⟩ := HC.out w4 (HO3.out.trans ho); clear ho) | (go_at_call 186; refine (HMD.out _ HO4.out).mono ?_; rintro e w5 ⟨rfl, rfl⟩))
  go_ret3
  exact ⟨rfl, HO4.out⟩
end Go.Proofs.YtfplalgoopkmaaaGreat

namespace Go.Proofs.YtfplalgoopkmaaaGreat
open Go.RowKit

def St.setSeg (A : St) (p : Nat) (s : Sg) : St := { A with seg := upd A.seg p (some s) }

/-- A segment's own words change. -/
theorem Ste.seg1 {w w' : World} {L : Lay} {A : St} {p : Nat} {s s' : Sg} (h : Rep w L A) (hs : A.seg p = some s) (hb : SegAt w' (L.sg p) L.bm (segM L p s')) (ho : Only (fun x => x = L.sg p) w w') : Ste w L A w' L (A.setSeg p s') := by
  have hS : (A.seg p).isSome := by rw [hs]; rfl
  have hfo : ∀ j x, Foot L (A.setSeg p s') j x → Foot L A j x := by
    intro j x hx
    cases j with
    | seg q =>
      obtain ⟨h1, h2⟩ := hx
      refine ⟨?_, h2⟩
      by_cases e : q = p
      · rw [e]; exact hS
      · have h1 : (upd A.seg p (some s') q).isSome := h1
        rw [upd_ne _ _ e] at h1; exact h1
    | _ => exact hx
  refine Ste.chg (fun j => j = .seg p) h ho (fun x hx _ => ⟨.seg p, rfl, hS, .inl hx⟩) ?_ (fun j x _ hx => hfo j x hx) ?_ (fun j x hj hx => .inl ⟨j, hj, hfo j x hx⟩) ?_ (Fix.refl L)
  · intro j hj hh
    cases j with
    | seg q =>
      have e : q ≠ p := fun e => hj (by rw [e])
      intro x hx
      exact hh x (by have hx : upd A.seg p (some s') q = some x := hx; rw [upd_ne _ _ e] at hx; exact hx)
    | _ => exact hh
  · rintro j rfl x hx
    have hx : upd A.seg p (some s') p = some x := hx
    rw [upd_same] at hx
    injection hx with hx
    subst hx
    exact hb
  · rintro j k x rfl rfl _ _; rfl

theorem sys_tidy_used {A : St} {t k : Nat} {p : Pg} (hp : A.page k = some p) (hu : 1 ≤ p.used) (w : World) (L : Lay) (h : Rep w L A) :
    Calls Tryz.prog 191 #[ptrV (L.hp t), ptrV (L.sg (k / 16)), ptrV (L.ow k)] w fun e w' => ∃ L', e = .returned (.tuple #[]) ∧ Ste w L A w' L' A := by
  have hpg := h.all (.page k) p hp
  refine (heap_tidy_used (L.hp t) (L.sg (k / 16)) (L.ow k) (L.pg k) L.bm (k % 16) p.sl p.cls (pgM k p) w hpg.1 hpg.2 hu).mono ?_
  rintro e w' ⟨rfl, rfl⟩
  exact ⟨L, rfl, Ste.refl h (Only.refl _ _)⟩

section
variable {A : St} {i : Bool} {t : Nat} {F : Fr}
set_option maxHeartbeats 4000000 in
/-- find, of a block of the thread's own. -/
theorem st_find_own {A3 : St} {k : Nat} {g : Pg} {s : Sg} (hF : A.fr i t = some F) (ht : t < 8) (hp : A.page k = some g) (hb : IsBlock k g F.c.addr) (hreg : regAt A.ar.regs (F.c.addr / 16384) = some (k / 16)) (hr64 : ∀ r, r ∈ A.ar.regs → r.1 ≤ 64 ∧ r.2 ≤ 64) (hhu : A.sy.huge (k / 16) = 0) (hkn : A.sy.kn (k / 16) = true) (hsp : SP A)
    (hs : A.seg (k / 16) = some s) (how : s.ow = t + 1) (hoa : s.oa < 100000000000)
    (hfree : SysCalls 159 (fun L => #[ptrV (L.hp t), .int .u64 F.c.addr]) (A.setSeg (k / 16) { s with oa := s.oa + 1 }) (fun _ => .int .i64 0) A3) (hF3 : A3.fr i t = some F) (hk3 : F.c.kind ≠ 1) :
    SysCalls 127 (fun L => #[ptrV (L.fr i t)]) A (fun _ => .tuple #[]) (A3.setFr i t (F.over 0 0)) := by
  intro w L h
  have hk64 : k / 16 < 64 := by have := (hsp.pg k g hp).1.kn; have := (hsp.pg k g hp).1.n64; omega
  have HFD : Hid (∀ w1, Only Nobody w w1 → Calls Tryz.prog 156 #[.pointer (some ⟨L.bs, 0, none⟩), .int .u64 F.c.addr] w1 fun e w' => e = .returned (.tuple #[.int .i64 (k / 16 : Nat), .pointer (some ⟨L.ow k, 0, none⟩), .int .i64 0]) ∧ Only Nobody w1 w') := Lib.hid fun w1 ho => sys_findPage A k F.c.addr g w1 L (h.quiet ho) hsp hp hb hreg hr64 hhu hkn
  obtain ⟨cs, hcs, hc⟩ := h.sysblk
  obtain ⟨o, hsg1, hsg2⟩ := hc.sg (k / 16) hk64
  rw [hsg2 hkn] at hsg1
  obtain ⟨A1, hA1⟩ : ∃ x, x = A.setSeg (k / 16) { s with oa := s.oa + 1 } := ⟨_, rfl⟩
  rw [← hA1] at hfree
  have hF1 : A1.fr i t = some F := by rw [hA1]; exact hF
  have HLD : Hid (∀ w1, Only Nobody w w1 → Calls Tryz.prog 158 #[.pointer (some ⟨L.sg (k / 16), 19, none⟩)] w1 fun e w' => e = .returned (.tuple #[.int .u64 ((t : Int) + 1), .int .u64 s.ot]) ∧ Ste w L A w' L A1) := Lib.hid fun w1 ho => by
    have hsg := (h.quiet ho).all (.seg (k / 16)) s hs
    refine (cell_Load (L.sg (k / 16)) 19 _ _ s.ow s.ot s.oa w1 hsg.st rfl rfl rfl (by omega) (by omega)).mono ?_
    rintro e w' ⟨rfl, hb2, ho2⟩
    refine ⟨by rw [how]; rfl, ?_⟩
    rw [hA1]
    have hn1 : L.sk (k / 16) ≠ L.sg (k / 16) := fun e => hsg.marks.st.ne_ hsg.st (by decide) e
    have hn2 : L.st (k / 16) ≠ L.sg (k / 16) := fun e => hsg.marks.pl.ne_ hsg.st (by decide) e
    exact Ste.quiet_left ho h (Ste.seg1 (h.quiet ho) hs ⟨hb2, hsg.marks.only ho2 hn1 hn2, hsg.pl⟩ ho2)
  have HFR : Hid (∀ w1, Rep w1 L A1 → Calls Tryz.prog 159 #[.pointer (some ⟨L.hp t, 0, none⟩), .int .u64 F.c.addr] w1 fun e w' => ∃ L', e = .returned (.int .i64 0) ∧ Ste w1 L A1 w' L' A3) := Lib.hid fun w1 h1 => hfree w1 L h1
  have hfin : A3.over i t F 0 0 = A3.setFr i t (F.over 0 0) := by
    unfold St.over Fr.fills
    rw [if_neg (fun e => hk3 e.1)]
    rfl
  have hO := (sys_over hF3 0 0)
  have HO : Hid (∀ w0 L0, Rep w0 L0 A3 → L0.fr i t = L.fr i t → Calls Tryz.prog 140 #[.pointer (some ⟨L.fr i t, 0, none⟩), .int .u64 0, .int .i64 0] w0 fun e w1 => ∃ L1, e = .returned (.tuple #[]) ∧ Ste w0 L0 A3 w1 L1 (A3.setFr i t (F.over 0 0))) := Lib.hid fun w0 L0 h0 e => by
    obtain ⟨s0, o0, hb0, hs0, ho0⟩ := (h0.fr hF3).blk
    rw [← e]
    refine (fr_over (L0.fr i t) _ 0 0 w0 hb0 (.inr (.inl hk3))).mono ?_
    rintro x w' ⟨rfl, hb2, ho2⟩
    exact ⟨L0, rfl, Ste.fr1 (F' := F.over 0 0) h0 hF3 rfl hs0 ho0 hb2 ho2⟩
  have HREP := Lib.hid h
  have HC : Hid (∀ w1 L1 A' F', Rep w1 L1 A' → A'.fr i t = some F' → F'.c = F.c → L1.fr i t = L.fr i t → L1.hp t = L.hp t → L1.bs = L.bs → w1.cell? ⟨L.fr i t, 0, none⟩ = some (.pointer (some ⟨L.bs, 0, none⟩)) ∧ w1.cell? ⟨L.fr i t, 4, none⟩ = some (.int .i64 t) ∧ w1.cell? ⟨L.fr i t, 5, none⟩ = some (.pointer (some ⟨L.hp t, 0, none⟩)) ∧ w1.cell? ⟨L.fr i t, 7, none⟩ = some (.int .u64 F.c.addr)) := Lib.hid fun w1 L1 A' F' h1 hf ec e1 e2 e3 => by
    have := h1.frc hf
    rw [e1, e2, e3] at this
    exact ⟨this.c0, this.c4, this.c5, by rw [this.c7, ec]⟩
  have HSG : Hid (∀ w1, Only Nobody w w1 → w1.cell? ⟨L.bs, 142 + k / 16, none⟩ = some (.pointer (some ⟨L.sg (k / 16), 0, none⟩))) := Lib.hid fun w1 ho => ((hcs.only ho (fun h => h)).cell _).trans hsg1
  have hc0 := HC.out w L A F h hF rfl rfl rfl rfl
  have HF1 := Lib.hid hF1
  have HF3 := Lib.hid hF3
  have HFQ := Lib.hid hF
  show Calls _ _ #[.pointer (some ⟨L.fr i t, 0, none⟩)] w _
  obtain ⟨bf, hbf⟩ : ∃ x, x = L.fr i t := ⟨_, rfl⟩
  obtain ⟨bs, hbs⟩ : ∃ x, x = L.bs := ⟨_, rfl⟩
  obtain ⟨bh, hbh⟩ : ∃ x, x = L.hp t := ⟨_, rfl⟩
  obtain ⟨bsg, hbsg⟩ : ∃ x, x = L.sg (k / 16) := ⟨_, rfl⟩
  obtain ⟨bo, hbo⟩ : ∃ x, x = L.ow k := ⟨_, rfl⟩
  obtain ⟨a, ha⟩ : ∃ x, x = F.c.addr := ⟨_, rfl⟩
  obtain ⟨p, hpp⟩ : ∃ x, x = k / 16 := ⟨_, rfl⟩
  have HBF := Lib.hid hbf
  have HBS := Lib.hid hbs
  have HBH := Lib.hid hbh
  rw [← hbf] at HO HC hc0 ⊢
  rw [← hbs] at HFD HC HSG hc0
  rw [← hbh] at HFR HC hc0
  rw [← hbsg] at HLD HSG
  rw [← hbo] at HFD
  rw [← ha] at HFD HFR HC hc0
  rw [← hpp] at HFD HSG hk64
  obtain ⟨c0, c4, c5, c7⟩ := hc0
  have hp2 : (p : Int) < 64 := by omega
  have hp3 : (0 : Int) ≤ p := by omega
  have hconv : IntKind.u64.wrap (t : Int) = t := IntWalk.u64_in _ (by omega)
  have hsum : IntKind.u64.wrap ((t : Int) + 1) = (t : Int) + 1 := IntWalk.u64_in _ (by omega)
  clear h hF hp hb hreg hr64 hhu hkn hsp hs how hoa hfree hF3 hk3 hcs hc hsg1 hsg2 hA1 hF1 hfin hO hbf hbs hbh hbsg hbo ha hpp
  go_enter Tryz.func127, Tryz.ntmps127
  go_wp2
  go_region_held3 (fun w' => w'.cell? ⟨bf, 0, none⟩ = some (.pointer (some ⟨bs, 0, none⟩)) ∧ w'.cell? ⟨bf, 7, none⟩ = some (.int .u64 a)) (first | exact ⟨c0, c7⟩ | exact ⟨HX1.out.1, HX1.out.2.2.2⟩) (first | (go_at_call 156; refine (HFD.out _ ((Only.refl _ w).drew)).mono ?_; rintro e w1 ⟨rfl, ho⟩; have HO1 := Lib.hid (((Only.refl Nobody w).drew).trans ho); have HX1 := Lib.hid (HC.out _ _ _ _ (HREP.out.quiet (((Only.refl Nobody w).drew).trans ho)) HFQ.out rfl HBF.out.symm HBH.out.symm HBS.out.symm); have q1 := HSG.out w1 (((Only.refl Nobody w).drew).trans ho); clear ho))
  obtain ⟨d0, d4, d5, d7⟩ := HX1.out
  go_wp2_with (first | (go_at_call 149; refine (seg_Owner bsg _).mono ?_; rintro e w2 ⟨rfl, rfl⟩) | (go_at_call 158; refine (HLD.out _ HO1.out).mono ?_; rintro e w2 ⟨rfl, hst⟩; have HS2 := Lib.hid hst; have HX2 := Lib.hid (HC.out _ _ _ _ hst.rep HF1.out rfl HBF.out.symm HBH.out.symm HBS.out.symm); clear hst; obtain ⟨e0, e4, e5, e7⟩ := HX2.out))
  go_region_held3 (fun w' => w'.cell? ⟨bf, 5, none⟩ = some (.pointer (some ⟨bh, 0, none⟩)) ∧ w'.cell? ⟨bf, 7, none⟩ = some (.int .u64 a)) (first | exact ⟨e5, e7⟩ | exact ⟨HX4.out.2.2.1, HX4.out.2.2.2⟩ | exact ⟨HX3.out.2.2.1, HX3.out.2.2.2⟩) (first | (go_at_call 159; refine (HFR.out _ (HS2.out.rep.quiet ((Only.refl _ _).drew))).mono ?_; rintro e w3 ⟨L3, rfl, hst⟩; have HS3 := Lib.hid ((HS2.out.quiet_right ((Only.refl _ _).drew)).trans hst); have HE3 := Lib.hid ((congrFun (congrFun hst.fix.fr i) t).trans HBF.out.symm); have HX3 := Lib.hid (HC.out _ _ _ _ hst.rep HF3.out rfl ((congrFun (congrFun hst.fix.fr i) t).trans HBF.out.symm) ((congrFun hst.fix.hp t).trans HBH.out.symm) (hst.fix.bs.trans HBS.out.symm)); clear hst) | (go_at_call 140; refine (HO.out _ _ HS3.out.rep HE3.out).mono ?_; rintro e w4 ⟨L4, rfl, hst⟩; have HS4 := Lib.hid (HS3.out.trans hst); have HX4 := Lib.hid (HC.out _ _ _ _ hst.rep (updF_same _ _ _ _) rfl ((congrFun (congrFun hst.fix.fr i) t).trans HE3.out) ((congrFun hst.fix.hp t).trans ((congrFun HS3.out.fix.hp t).trans HBH.out.symm)) (hst.fix.bs.trans (HS3.out.fix.bs.trans HBS.out.symm))); clear hst))
  go_wp2
  (try simp only [Exit.inBlock, Exit.then]); refine bodyPost_ret (results_none rfl _ _ _) rfl ?_
  exact ⟨L4, rfl, HS4.out⟩
end
end Go.Proofs.YtfplalgoopkmaaaGreat
