/- Layer 19: blocks of some sizes; some given back. Layer 1: products. Layer 1: a product of two. Conditions: none. -/
import Derived.Test.YtfplalgoopkmaaaGreatPart37
import Derived.Lib.Mul64

set_option linter.unusedVariables false
set_option linter.unusedSimpArgs false

namespace Go.Proofs.YtfplalgoopkmaaaGreat
open Go.RowKit

theorem Tryz.infoU64 : (Tryz.prog.info? 22).map (fun i => (i.zero, i.size, i.bytes)) = some (some (.int .u64 0), 1, 8) := by kernel_rfl
abbrev u64V (a : Nat) : Value := .int .u64 a
abbrev cMalloc (n : Nat) : CallM := ⟨1, 0, n, 1, false, false⟩
abbrev cFree (a : Nat) : CallM := ⟨2, a, 0, 0, false, false⟩
/-- Blocks of some sizes are made, all of them. -/
inductive Allocs (t : Nat) : List Nat → St → List Nat → St → Prop
  | nil (A : St) : Allocs t [] A [] A
  | cons {n a s : Nat} {ns bs_ : List Nat} {A B C : St} : Done t (cMalloc n) A ⟨a, 0, s⟩ B → Allocs t ns B bs_ C → Allocs t (n :: ns) A (a :: bs_) C
theorem Allocs.length {t : Nat} {ns bs_ : List Nat} {A C : St} (h : Allocs t ns A bs_ C) : bs_.length = ns.length := by
  induction h with
  | nil _ => rfl
  | cons _ _ ih => simp [ih]
/-- Blocks are given back, all of them. -/
inductive Frees (t : Nat) : List Nat → St → St → Prop
  | nil (A : St) : Frees t [] A A
  | cons {a x s : Nat} {bs_ : List Nat} {A B C : St} : Done t (cFree a) A ⟨x, 0, s⟩ B → Frees t bs_ B C → Frees t (a :: bs_) A C

theorem UserAt.keep {w w' : World} {L L' : Lay} {A A' : St} {bu t : Nat} (h : UserAt w bu L t) (hr : Run w L A w' L' A') (hn : ∀ i, ¬ Foot L A i bu) : UserAt w' bu L' t := by
  have := (hr.keep h hn).1
  show Blk w' bu _ #[.pointer (some ⟨L'.bw, 0, none⟩), .int .i64 t]
  rw [hr.fix.bw]; exact this

set_option maxRecDepth 100000 in
set_option maxHeartbeats 2000000 in
theorem user_Free_ok {A C : St} {t bu bg : Nat} {bs_ : List Nat} (hd : Frees t bs_ A C) (cs : Array Value) (ga : Option Addr) (cap : Nat) (hga : bs_ ≠ [] → ga = some ⟨bg, 0, none⟩) (w : World) (L : Lay) (h : Rep w L A) (hu : UserAt w bu L t) (hun : ∀ i, ¬ Foot L A i bu)
    (hg : bs_ ≠ [] → Blk w bg 22 cs ∧ (∀ i, ¬ Foot L A i bg) ∧ ∀ (j a : Nat), bs_[j]? = some a → cs[j]? = some (u64V a)) (hlen : bs_.length ≤ 100000) :
    Calls Tryz.prog 24 #[.pointer (some ⟨bu, 0, none⟩), .slice ga bs_.length cap] w fun e w' => ∃ L', e = .returned (.int .i64 0) ∧ Run w L A w' L' C := by
  have HS0 := Lib.hid (Run.refl h (Only.refl Nobody w))
  have HD := Lib.hid hd
  have HUK : Hid (∀ w' L' B, Run w L A w' L' B → UserAt w' bu L' t ∧ ∀ i, ¬ Foot L' B i bu) := Lib.hid fun w' L' B hr => ⟨hu.keep hr hun, (hr.keep hu hun).2⟩
  have HGK : Hid (bs_ ≠ [] → ∀ w' L' B, Run w L A w' L' B → ∀ (j a : Nat), bs_[j]? = some a → w'.cell? ⟨bg, j, none⟩ = some (.int .u64 a)) := Lib.hid fun hne w' L' B hr j a hj => by
    obtain ⟨h1, h2, h3⟩ := hg hne
    exact ((hr.keep h1 h2).1.cell j).trans (h3 j a hj)
  have HDO : Hid (∀ B D a x s wr L', Done t (cFree a) B ⟨x, 0, s⟩ D → Run w L A wr L' B → Calls Tryz.prog 16 #[.pointer (some ⟨bu, 0, none⟩), callV (cFree a)] wr fun e w' => ∃ L2, e = .returned (.tuple #[.int .u64 x, .int .i64 0]) ∧ Run w L A w' L2 D) := Lib.hid fun B D a x s wr L' hdn hr => by
    refine (user_do hdn wr L' hr.rep (hu.keep hr hun)).mono ?_
    rintro e w' ⟨L2, rfl, hr2⟩
    exact ⟨L2, rfl, hr.trans hr2⟩
  clear h hd hu hun hg
  obtain ⟨n, hn⟩ : ∃ n, n = bs_.length := ⟨_, rfl⟩
  rw [← hn]
  have hnle : n ≤ 100000 := by rw [hn]; exact hlen
  have HN := Lib.hid hn
  clear hn
  go_enter Tryz.func24, Tryz.ntmps24
  go_wp2
  go_loopw [6, 7, 8, 13] (fun _ _ _ i wr => ∃ (j : Nat) (B : St) (L' : Lay), i = .int .i64 j ∧ j ≤ n ∧ Frees t (bs_.drop j) B C ∧ Run w L A wr L' B) (fun _ _ _ i _ => n - (intOf i).toNat)
  case atStart => exact ⟨0, A, L, rfl, by omega, by rw [List.drop_zero]; exact HD.out, HS0.out⟩
  case round =>
    obtain ⟨j, B, L', rfl, hj, hfr, hrun⟩ := hrel
    have HR := Lib.hid hrun
    by_cases hlt : j < n
    · have hn := HN.out
      have hje : bs_[j]? = some bs_[j] := List.getElem?_eq_getElem (by omega)
      have hne : bs_ ≠ [] := by intro e; rw [e] at hn; simp at hn; omega
      have hdr : bs_.drop j = bs_[j] :: bs_.drop (j + 1) := List.drop_eq_getElem_cons (by omega)
      rw [hdr] at hfr
      generalize bs_[j] = a at *
      have hga2 := hga hne
      subst hga2
      have c1 := HGK.out hne _ _ _ hrun j a hje
      cases hfr with
      | @cons _ x s _ _ D _ h1 h2 =>
        have HDN := Lib.hid (HDO.out _ _ _ _ _ _ _ h1 hrun)
        have H2 := Lib.hid h2
        clear h1 h2 hrun hje hdr hga hn
        go_wp2_with (first | (go_at_call 16; refine HDN.out.mono ?_; rintro e w3 ⟨L3, rfl, hr3⟩; have HR3 := Lib.hid hr3; clear hr3))
        exact ⟨⟨j + 1, D, L3, by go_num, by omega, H2.out, HR3.out⟩, by show n - (intOf (Value.int IntKind.i64 ((j : Int) + 1))).toNat < n - (intOf (Value.int IntKind.i64 (j : Int))).toNat; simp [intOf]; omega⟩
    · obtain rfl : j = n := by omega
      have hBC : B = C := by
        rw [HN.out, List.drop_length] at hfr
        cases hfr with
        | nil _ => rfl
      subst hBC
      clear hfr hrun
      go_wp2
      go_ret
      exact ⟨L', rfl, HR.out⟩

theorem Run.outS {w w' w'' : World} {L L' : Lay} {A A' : St} {S : Nat → Prop} (h : Run w L A w' L' A') (ho : Only S w' w'') (hb : ∀ x, S x → w.heap.size ≤ x) (hn : ∀ x, S x → ∀ i, ¬ Foot L' A' i x) : Run w L A w'' L' A' :=
  ⟨⟨fun i => (h.rep.all i).keep ho (fun x hx e => hn x e i hx), h.rep.ap⟩, h.only.trans_new ho (fun x hx e => by have := hb x e; omega), h.foot, h.fix⟩
theorem row_ne {w : World} {B n g : Nat} {t : TypeId} {sz : Nat} {v : Value} {xs : List Value} (h : w.ownsRow B t sz v n xs) (hg : v.ownBlock = some g) : B ≤ g ∧ g < w.heap.size := by
  rcases h.2 with ⟨rfl, _⟩ | ⟨g', cap, cur, rfl, hB, hh, _⟩
  · cases hg
  · injection hg with hg
    subst hg
    exact ⟨hB, (show Blk w g' t cur from hh).lt⟩
theorem row_only {w w' : World} {S : Nat → Prop} {B n : Nat} {t : TypeId} {sz : Nat} {v : Value} {xs : List Value} (h : w.ownsRow B t sz v n xs) (ho : Only S w w') (hs : ∀ g, v.ownBlock = some g → ¬ S g) : w'.ownsRow B t sz v n xs := by
  obtain ⟨hl, h2⟩ := h
  refine ⟨hl, ?_⟩
  rcases h2 with h0 | ⟨g', cap, cur, rfl, hB, hh, h3⟩
  · exact .inl h0
  · exact .inr ⟨g', cap, cur, rfl, hB, (show Blk w' g' t cur from (show Blk w g' t cur from hh).only ho (hs g' rfl)), h3⟩

set_option maxRecDepth 100000 in
set_option maxHeartbeats 2000000 in
theorem user_Alloc_ok {A C : St} {t bu bg : Nat} {ns bs_ : List Nat} (hd : Allocs t ns A bs_ C) (cs : Array Value) (ga : Option Addr) (cap : Nat) (hga : ns ≠ [] → ga = some ⟨bg, 0, none⟩) (w : World) (L : Lay) (h : Rep w L A) (hu : UserAt w bu L t) (hun : ∀ i, ¬ Foot L A i bu)
    (hg : ns ≠ [] → Blk w bg 22 cs ∧ (∀ i, ¬ Foot L A i bg) ∧ ∀ (j a : Nat), ns[j]? = some a → cs[j]? = some (u64V a)) (hlen : ns.length ≤ 100000) :
    Calls Tryz.prog 14 #[.pointer (some ⟨bu, 0, none⟩), .slice ga ns.length cap] w fun e w' => ∃ L' v', e = .returned (.tuple #[v', .int .i64 0]) ∧ Run w L A w' L' C ∧ w'.ownsRow w.heap.size 22 1 v' bs_.length (bs_.map u64V) ∧ ∀ g, v'.ownBlock = some g → ∀ i, ¬ Foot L' C i g := by
  obtain ⟨i0, hi, hz0, hz1, hz2⟩ := info_parts Tryz.infoU64
  have HS0 := Lib.hid (Run.refl h (Only.refl Nobody w))
  have HD := Lib.hid hd
  have HUK : Hid (∀ w' L' B, Run w L A w' L' B → UserAt w' bu L' t ∧ ∀ i, ¬ Foot L' B i bu) := Lib.hid fun w' L' B hr => ⟨hu.keep hr hun, (hr.keep hu hun).2⟩
  have HGK : Hid (ns ≠ [] → ∀ w' L' B, Run w L A w' L' B → ∀ (j a : Nat), ns[j]? = some a → w'.cell? ⟨bg, j, none⟩ = some (.int .u64 a)) := Lib.hid fun hne w' L' B hr j a hj => by
    obtain ⟨h1, h2, h3⟩ := hg hne
    exact ((hr.keep h1 h2).1.cell j).trans (h3 j a hj)
  have HDO : Hid (∀ B D a x s wr L', Done t (cMalloc a) B ⟨x, 0, s⟩ D → Run w L A wr L' B → Calls Tryz.prog 16 #[.pointer (some ⟨bu, 0, none⟩), callV (cMalloc a)] wr fun e w' => ∃ L2, e = .returned (.tuple #[.int .u64 x, .int .i64 0]) ∧ Run w L A w' L2 D ∧ Run wr L' B w' L2 D) := Lib.hid fun B D a x s wr L' hdn hr => by
    refine (user_do hdn wr L' hr.rep (hu.keep hr hun)).mono ?_
    rintro e w' ⟨L2, rfl, hr2⟩
    exact ⟨L2, rfl, hr.trans hr2, hr2⟩
  have hbl := hd.length
  clear h hd hu hun hg
  obtain ⟨n, hn⟩ : ∃ n, n = ns.length := ⟨_, rfl⟩
  rw [← hn] at hbl ⊢
  have hnle : n ≤ 100000 := by rw [hn]; exact hlen
  have HN := Lib.hid hn
  have HBL := Lib.hid hbl
  clear hn hlen hbl
  go_enter Tryz.func14, Tryz.ntmps14
  go_wp2
  go_loopw [4, 7, 8, 9, 14] (fun o _ _ _ i wr => ∃ (j : Nat) (B : St) (L' : Lay), i = .int .i64 j ∧ j ≤ n ∧ Allocs t (ns.drop j) B (bs_.drop j) C ∧ Run w L A wr L' B ∧ wr.ownsRow w.heap.size 22 1 o j ((bs_.take j).map u64V) ∧ ∀ g, o.ownBlock = some g → ∀ i, ¬ Foot L' B i g) (fun _ _ _ _ i _ => n - (intOf i).toNat)
  case atStart => exact ⟨0, A, L, rfl, by omega, by rw [List.drop_zero, List.drop_zero]; exact HD.out, HS0.out, ⟨by simp, .inl ⟨rfl, rfl⟩⟩, fun g hg => by cases hg⟩
  case round =>
    obtain ⟨j, B, L', rfl, hj, hfr, hrun, hrow, hfo⟩ := hrel
    have HR := Lib.hid hrun
    have HROW := Lib.hid hrow
    have HFO := Lib.hid hfo
    obtain ⟨oa, oc, rfl⟩ := rowShapeN hrow
    by_cases hlt : j < n
    · have hn := HN.out
      have hb := HBL.out
      have hje : ns[j]? = some ns[j] := List.getElem?_eq_getElem (by omega)
      have hne : ns ≠ [] := by intro e; rw [e] at hn; simp at hn; omega
      have hdr : ns.drop j = ns[j] :: ns.drop (j + 1) := List.drop_eq_getElem_cons (by omega)
      have hdb : bs_.drop j = bs_[j] :: bs_.drop (j + 1) := List.drop_eq_getElem_cons (by omega)
      have htk : bs_.take (j + 1) = bs_.take j ++ [bs_[j]] := by rw [List.take_add_one, List.getElem?_eq_getElem (by omega)]; rfl
      have HTK := Lib.hid htk
      rw [hdr, hdb] at hfr
      generalize ns[j] = a at *
      generalize bs_[j] = x at *
      have hga2 := hga hne
      subst hga2
      have c1 := HGK.out hne _ _ _ hrun j a hje
      cases hfr with
      | @cons _ _ s _ _ _ D _ h1 h2 =>
        have HDN := Lib.hid (HDO.out _ _ _ _ _ _ _ h1 hrun)
        have H2 := Lib.hid h2
        clear h1 h2 hrun hje hdr hga hn hb hrow hfo hdb htk
        go_wp2_with (first | (go_at_call 16; refine HDN.out.mono ?_; rintro e w3 ⟨L3, rfl, hr3, hr4⟩; have HR3 := Lib.hid hr3; have HR4 := Lib.hid hr4; have HROW3 := Lib.hid (row_only HROW.out hr4.only (fun g hg ⟨i, hi⟩ => HFO.out g hg i hi)); have HA := Lib.hid (HROW3.out.alloc (.cells #[.int .u64 x] 22)); clear hr3 hr4) | (at_builtin; refine wpList_append_own_at _ rfl _ _ 44 rfl w.heap.size 22 i0 (.int .u64 0) 1 8 Tryz.underlying44 hi hz0 hz1 hz2 rfl (by decide) _ _ _ rfl HA.out ⟨w3.heap.size, 0, none⟩ 1 1 [u64V x] rfl rfl (fun k u hk => (by match k, hk with | 0, hk => cases hk; exact (Blk.new w3 22 #[.int .u64 x]).cell 0)) (by intro u hu; simp at hu; subst hu; rfl) (by unfold maxLen; omega) (by omega) (by simp; have := HR3.out.only.size; omega) ?_; intro v' w1 hown hgr _ hwho; have HW := Lib.hid hown; have HG := Lib.hid hgr; have HWHO := Lib.hid hwho; clear hown hgr hwho))
        have hfo3 : ∀ g, (Value.slice oa j oc).ownBlock = some g → ∀ i, ¬ Foot L3 D i g := fun g hg i hi => by
          rcases HR4.out.foot i g hi with ⟨k, hk⟩ | hk
          · exact HFO.out g hg k hk
          · have := row_ne HROW.out hg; omega
        have ho1 : Only (fun y => (Value.slice oa j oc).ownBlock = some y) w3 w1 := ((Only.refl _ w3).alloc (.cells #[.int .u64 x] 22)).grown HG.out (fun k hk _ => hk)
        have hrun1 := HR3.out.outS ho1 (fun y hy => (row_ne HROW3.out hy).1) hfo3
        refine ⟨⟨j + 1, D, L3, by go_num, by omega, H2.out, hrun1, ?_, fun g hg => ?_⟩, by show n - (intOf (Value.int IntKind.i64 ((j : Int) + 1))).toNat < n - (intOf (Value.int IntKind.i64 (j : Int))).toNat; simp [intOf]; omega⟩
        · rw [HTK.out, List.map_append]
          exact HW.out
        · rcases HWHO.out with hw | hw
          · exact hfo3 g (hw ▸ hg)
          · rw [hw] at hg
            injection hg with hg
            intro i hi
            have := HR3.out.rep.lt hi
            rw [World.size_alloc] at hg
            omega
    · obtain rfl : j = n := by omega
      have hBC : B = C ∧ bs_.take j = bs_ := by
        rw [HN.out, List.drop_length] at hfr
        refine ⟨?_, by rw [← HBL.out, List.take_length]⟩
        rw [← HN.out, ← HBL.out, List.drop_length] at hfr
        cases hfr with
        | nil _ => rfl
      obtain ⟨rfl, htk⟩ := hBC
      rw [htk] at HROW
      clear hfr hrun hrow hfo
      go_wp2
      go_ret2
      exact ⟨L', _, rfl, HR.out, by rw [HBL.out]; exact HROW.out, HFO.out⟩
end Go.Proofs.YtfplalgoopkmaaaGreat

namespace Go.Proofs.YtfplalgoopkmaaaGreat
open Go.RowKit

theorem m64_mask (a : Nat) (ha : a < 18446744073709551616) : bits .and .u64 (a : Int) 4294967295 = ((a % 4294967296 : Nat) : Int) := by
  have h := u64_and_nat a 4294967295 ha (by omega)
  have e : a &&& 4294967295 = a % 4294967296 := Nat.and_two_pow_sub_one_eq_mod a 32
  rw [e] at h
  exact h
theorem m64_div (a : Nat) : (a : Int) / 4294967296 = ((a / 4294967296 : Nat) : Int) := by omega
theorem m64_mul (a b : Nat) : (a : Int) * (b : Int) = ((a * b : Nat) : Int) := (Int.natCast_mul a b).symm
theorem m64_add (a b : Nat) : (a : Int) + (b : Int) = ((a + b : Nat) : Int) := (Int.natCast_add a b).symm
theorem m64_wrap (a : Nat) (ha : a < 18446744073709551616) : IntKind.u64.wrap (a : Int) = (a : Int) := by rw [IntKind.wrap_u64]; omega
theorem m64_wrapM (a : Nat) : IntKind.u64.wrap (a : Int) = ((a % 18446744073709551616 : Nat) : Int) := by rw [IntKind.wrap_u64]; omega

set_option maxHeartbeats 1000000 in
theorem bits_Mul64 (x y : Nat) (hx : x < 18446744073709551616) (hy : y < 18446744073709551616) (w : World) :
    Calls Tryz.prog 26 #[.int .u64 x, .int .u64 y] w fun e w' => e = .returned (.tuple #[.int .u64 ((x * y / 18446744073709551616 : Nat) : Int), .int .u64 ((x * y % 18446744073709551616 : Nat) : Int)]) ∧ w' = w := by
  obtain ⟨bd, bt, bw, hhi⟩ := Lib.mul64_hi x y hx hy
  have ba := Lib.half_mul_le (a := x / 4294967296) (b := y / 4294967296) (by omega) (by omega)
  have bb := Lib.half_mul_le (a := x / 4294967296) (b := y % 4294967296) (by omega) (by omega)
  have bc := Lib.half_mul_le (a := x % 4294967296) (b := y / 4294967296) (by omega) (by omega)
  have ba' : x / 4294967296 * (y / 4294967296) < 18446744073709551616 := by omega
  have bb' : x / 4294967296 * (y % 4294967296) < 18446744073709551616 := by omega
  have bc' : x % 4294967296 * (y / 4294967296) < 18446744073709551616 := by omega
  have bh1 : x / 4294967296 * (y / 4294967296) + (x / 4294967296 * (y % 4294967296) + x % 4294967296 * (y % 4294967296) / 4294967296) / 4294967296 < 18446744073709551616 := by omega
  have bh : x / 4294967296 * (y / 4294967296) + (x / 4294967296 * (y % 4294967296) + x % 4294967296 * (y % 4294967296) / 4294967296) / 4294967296 + ((x / 4294967296 * (y % 4294967296) + x % 4294967296 * (y % 4294967296) / 4294967296) % 4294967296 + x % 4294967296 * (y / 4294967296)) / 4294967296 < 18446744073709551616 := by omega
  go_enter Tryz.func26, Tryz.ntmps26
  go_wp2
  simp only [m64_mask x hx, m64_mask y hy, m64_div, m64_mul, m64_add, m64_wrap _ bd, m64_wrap _ bb', m64_wrap _ bt, m64_mask _ bt, m64_wrap _ bc', m64_wrap _ bw, m64_wrap _ ba', m64_wrap _ bh1, m64_wrap _ bh, m64_wrapM (x * y)]
  rw [hhi]
  go_ret2
  exact ⟨rfl, rfl⟩

/-- A product of two, as Mul tells it. -/
def mul2 (x y : Nat) : Nat × Int := if x = 0 ∨ y = 0 then (0, 0) else if x ≤ 1099511627776 ∧ x * y ≤ 1099511627776 then (x * y, 0) else (0, 3)

theorem u64_Index2 (g x y : Nat) (c : Nat) (w : World) (h : Blk w g 22 #[.int .u64 x, .int .u64 y]) :
    Calls Tryz.prog 25 #[.slice (some ⟨g, 0, none⟩) 2 c, .int .u64 0] w fun e w' => e = .returned (.bool (decide (x = 0 ∨ y = 0))) ∧ w = w' := by
  have c0 : w.cell? ⟨g, 0, none⟩ = some (.int .u64 x) := h.cell 0
  have c1 : w.cell? ⟨g, 1, none⟩ = some (.int .u64 y) := h.cell 1
  have HI : Hid (Calls Tryz.prog 37 #[.slice (some ⟨g, 0, none⟩) 2 c, .int .u64 0] w fun e w' => e = .returned (.int .i64 (if x = 0 then 0 else if y = 0 then 1 else -1)) ∧ w = w') := Lib.hid (by
    clear h
    by_cases h0 : x = 0
    · subst h0
      go_enter Tryz.func37, Tryz.ntmps37
      go_wp2
      refine wp_loop_rounds 1 ?_
      rw [rounds_succ]
      go_wp2
      go_ret
      exact ⟨rfl, rfl⟩
    · have b0 : ((0 : Int) == (x : Int)) = false := by rw [beq_eq_false_iff_ne]; omega
      rw [if_neg h0]
      by_cases h1 : y = 0
      · subst h1
        go_enter Tryz.func37, Tryz.ntmps37
        go_wp2
        refine wp_loop_rounds 2 ?_
        rw [rounds_succ]
        go_wp2
        rw [rounds_succ]
        go_wp2
        go_ret
        exact ⟨rfl, rfl⟩
      · have b1 : ((0 : Int) == (y : Int)) = false := by rw [beq_eq_false_iff_ne]; omega
        rw [if_neg h1]
        go_enter Tryz.func37, Tryz.ntmps37
        go_wp2
        refine wp_loop_rounds 3 ?_
        rw [rounds_succ]
        go_wp2
        rw [rounds_succ]
        go_wp2
        rw [rounds_succ]
        go_wp2
        go_ret
        exact ⟨rfl, rfl⟩)
  obtain ⟨k, hk⟩ : ∃ k : Int, k = if x = 0 then 0 else if y = 0 then 1 else -1 := ⟨_, rfl⟩
  have hd : decide (x = 0 ∨ y = 0) = decide ((0 : Int) ≤ k) := by
    rw [hk]
    by_cases h0 : x = 0
    · simp [h0]
    · by_cases h1 : y = 0
      · simp [h0, h1]
      · simp [h0, h1]
  rw [← hk] at HI
  rw [hd]
  clear h hk hd c0 c1
  go_enter Tryz.func25, Tryz.ntmps25
  go_wp2_with (go_at_call 37; refine HI.out.mono ?_; rintro e w1 ⟨rfl, rfl⟩)
  go_ret
  exact ⟨rfl, rfl⟩

theorem calc_held_beyond (w : World) : Calls Tryz.prog 27 #[.int .u64 0, .bool true] w fun e w' => e = .returned (.tuple #[.int .u64 0, .int .i64 3]) ∧ w = w' := by
  go_enter Tryz.func27, Tryz.ntmps27
  go_wp2
  go_ret2
  exact ⟨rfl, rfl⟩
end Go.Proofs.YtfplalgoopkmaaaGreat

namespace Go.Proofs.YtfplalgoopkmaaaGreat
open Go.RowKit

set_option maxHeartbeats 1000000 in
set_option maxRecDepth 100000 in
theorem calc_Mul2 (g x y : Nat) (c : Nat) (hx : x < 18446744073709551616) (hy : y < 18446744073709551616) (w : World) (h : Blk w g 22 #[.int .u64 x, .int .u64 y]) :
    Calls Tryz.prog 15 #[.slice (some ⟨g, 0, none⟩) 2 c] w fun e w' => e = .returned (.tuple #[.int .u64 (mul2 x y).1, .int .i64 (mul2 x y).2]) ∧ w = w' := by
  have c0 : w.cell? ⟨g, 0, none⟩ = some (.int .u64 x) := h.cell 0
  have c1 : w.cell? ⟨g, 1, none⟩ = some (.int .u64 y) := h.cell 1
  have HC := Lib.hid (u64_Index2 g x y c w h)
  have HH := Lib.hid (calc_held_beyond w)
  have HM1 : Hid (Calls Tryz.prog 26 #[.int .u64 1, .int .u64 x] w fun e w' => e = .returned (.tuple #[.int .u64 0, .int .u64 x]) ∧ w' = w) := Lib.hid (by
    have := bits_Mul64 1 x (by omega) hx w
    rw [Nat.one_mul, Nat.div_eq_of_lt hx, Nat.mod_eq_of_lt hx] at this
    exact this)
  have HM2 := Lib.hid (bits_Mul64 x y hx hy w)
  clear h
  by_cases hz : x = 0 ∨ y = 0
  · have e : mul2 x y = (0, 0) := by unfold mul2; rw [if_pos hz]
    rw [e]
    rw [show decide (x = 0 ∨ y = 0) = true from by rw [decide_eq_true_eq]; exact hz] at HC
    clear hz e
    go_enter Tryz.func15, Tryz.ntmps15
    go_wp2_with (go_at_call 25; refine HC.out.mono ?_; rintro e w1 ⟨rfl, rfl⟩)
    go_ret2
    exact ⟨rfl, rfl⟩
  · rw [show decide (x = 0 ∨ y = 0) = false from by rw [decide_eq_false_iff_not]; exact hz] at HC
    by_cases hx2 : x ≤ 1099511627776
    · have b1 : decide ((1099511627776 : Int) < x) = false := by rw [decide_eq_false_iff_not]; omega
      have b1n : decide (1099511627776 < x) = false := by rw [decide_eq_false_iff_not]; omega
      by_cases hp : x * y ≤ 1099511627776
      · have e : mul2 x y = (x * y, 0) := by unfold mul2; rw [if_neg hz, if_pos ⟨hx2, hp⟩]
        rw [e]
        rw [Nat.div_eq_of_lt (by omega), Nat.mod_eq_of_lt (by omega)] at HM2
        generalize x * y = p at *
        have b2 : decide ((1099511627776 : Int) < p) = false := by rw [decide_eq_false_iff_not]; omega
        have b2n : decide (1099511627776 < p) = false := by rw [decide_eq_false_iff_not]; omega
        clear hz e
        go_enter Tryz.func15, Tryz.ntmps15
        go_wp2_with (go_at_call 25; refine HC.out.mono ?_; rintro e w1 ⟨rfl, rfl⟩)
        refine wp_loop_rounds 3 ?_
        rw [rounds_succ]
        go_wp2_with (go_at_call 26; refine HM1.out.mono ?_; rintro e w1 ⟨rfl, rfl⟩)
        rw [rounds_succ]
        go_wp2_with (go_at_call 26; refine HM2.out.mono ?_; rintro e w1 ⟨rfl, rfl⟩)
        rw [rounds_succ]
        go_wp2
        go_ret2
        exact ⟨rfl, rfl⟩
      · have e : mul2 x y = (0, 3) := by unfold mul2; rw [if_neg hz, if_neg (by omega)]
        rw [e]
        have hdm := Nat.div_add_mod (x * y) 18446744073709551616
        generalize x * y / 18446744073709551616 = q at *
        generalize x * y % 18446744073709551616 = l at *
        generalize x * y = p at *
        clear hz e
        by_cases hq : q = 0
        · have b2 : decide ((1099511627776 : Int) < l) = true := by rw [decide_eq_true_eq]; omega
          have b2n : decide (1099511627776 < l) = true := by rw [decide_eq_true_eq]; omega
          subst hq
          clear hdm hp
          go_enter Tryz.func15, Tryz.ntmps15
          go_wp2_with (go_at_call 25; refine HC.out.mono ?_; rintro e w1 ⟨rfl, rfl⟩)
          refine wp_loop_rounds 2 ?_
          rw [rounds_succ]
          go_wp2_with (go_at_call 26; refine HM1.out.mono ?_; rintro e w1 ⟨rfl, rfl⟩)
          rw [rounds_succ]
          go_wp2_with (first | (go_at_call 26; refine HM2.out.mono ?_; rintro e w1 ⟨rfl, rfl⟩) | (go_at_call 27; refine HH.out.mono ?_; rintro e w1 ⟨rfl, rfl⟩))
          go_ret2
          exact ⟨rfl, rfl⟩
        · have b2 : decide ((0 : Int) < q) = true := by rw [decide_eq_true_eq]; omega
          have b2n : decide (0 < q) = true := by rw [decide_eq_true_eq]; omega
          clear hdm hp
          go_enter Tryz.func15, Tryz.ntmps15
          go_wp2_with (go_at_call 25; refine HC.out.mono ?_; rintro e w1 ⟨rfl, rfl⟩)
          refine wp_loop_rounds 2 ?_
          rw [rounds_succ]
          go_wp2_with (go_at_call 26; refine HM1.out.mono ?_; rintro e w1 ⟨rfl, rfl⟩)
          rw [rounds_succ]
          go_wp2_with (first | (go_at_call 26; refine HM2.out.mono ?_; rintro e w1 ⟨rfl, rfl⟩) | (go_at_call 27; refine HH.out.mono ?_; rintro e w1 ⟨rfl, rfl⟩))
          go_ret2
          exact ⟨rfl, rfl⟩
    · have b1 : decide ((1099511627776 : Int) < x) = true := by rw [decide_eq_true_eq]; omega
      have b1n : decide (1099511627776 < x) = true := by rw [decide_eq_true_eq]; omega
      have e : mul2 x y = (0, 3) := by unfold mul2; rw [if_neg hz, if_neg (by omega)]
      rw [e]
      clear hz e hx2
      go_enter Tryz.func15, Tryz.ntmps15
      go_wp2_with (go_at_call 25; refine HC.out.mono ?_; rintro e w1 ⟨rfl, rfl⟩)
      refine wp_loop_rounds 1 ?_
      rw [rounds_succ]
      go_wp2_with (first | (go_at_call 26; refine HM1.out.mono ?_; rintro e w1 ⟨rfl, rfl⟩) | (go_at_call 27; refine HH.out.mono ?_; rintro e w1 ⟨rfl, rfl⟩))
      go_ret2
      exact ⟨rfl, rfl⟩
end Go.Proofs.YtfplalgoopkmaaaGreat
