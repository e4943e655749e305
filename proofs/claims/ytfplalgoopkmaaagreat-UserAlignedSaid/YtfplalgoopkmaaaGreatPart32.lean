/- Layer 16: a call begins. Layer 16: Call of a malloc. Layer 16: Call of a free. Conditions: none. -/
import Derived.Test.YtfplalgoopkmaaaGreatPart31

set_option linter.unusedVariables false
set_option linter.unusedSimpArgs false

namespace Go.Proofs.YtfplalgoopkmaaaGreat
open Go.RowKit

def updN (g : Bool → Nat → Nat) (i : Bool) (t : Nat) (v : Nat) : Bool → Nat → Nat := fun j u => if j = i ∧ u = t then v else g j u
theorem updN_same (g : Bool → Nat → Nat) (i : Bool) (t : Nat) (v : Nat) : updN g i t v i t = v := if_pos ⟨rfl, rfl⟩
theorem updN_ne (g : Bool → Nat → Nat) {i j : Bool} {t u : Nat} (v : Nat) (h : ¬ (j = i ∧ u = t)) : updN g i t v j u = g j u := if_neg h
def Lay.call (L : Lay) (t bf : Nat) : Lay := { L with fr := updN L.fr false t bf, fl := updFl L.fl false t (.slice none 0 0) }
/-- A call's frame as it begins. -/
def Fr.new (c : CallM) (p : Plan) (s : ByteArray) : Fr := ⟨0, 0, 0, c, p, s, [], none, 0, ⟨0, 0, 0⟩⟩
abbrev Th.ask (x : Th) (c : CallM) : Th := { x with asked := c }
abbrev St.call (A : St) (t : Nat) (F : Fr) : St := { A with wl := A.wl.setTh t ((A.wl.th t).ask F.c), fr := updF A.fr false t (some F) }

/-- Rep.chg, for what is in no footprint. -/
theorem Rep.chg2 {w w' : World} {L L' : Lay} {A A' : St} {S : Nat → Prop} (I : Ix → Prop) (h : Rep w L A) (ho : Only S w w')
    (hS : ∀ x, S x → x < w.heap.size → ∃ i, I i ∧ Foot L A i x)
    (hk : ∀ i, ¬ I i → Holds w' L A i → Holds w' L' A' i)
    (hf : ∀ i x, ¬ I i → Foot L' A' i x → Foot L A i x)
    (hn : ∀ i, I i → Holds w' L' A' i)
    (hfn : ∀ i x, I i → Foot L' A' i x → (∃ j, I j ∧ Foot L A j x) ∨ ∀ k, ¬ Foot L A k x)
    (hap : ∀ i j x, I i → I j → Foot L' A' i x → Foot L' A' j x → i = j) : Rep w' L' A' := by
  have key : ∀ i j x, ¬ I i → I j → Foot L' A' i x → Foot L' A' j x → False := fun i j x hi hj h1 h2 => by
    have h1' := hf i x hi h1
    rcases hfn j x hj h2 with ⟨k, hk, h3⟩ | h3
    · exact hi (h.ap i k x h1' h3 ▸ hk)
    · exact h3 i h1'
  refine ⟨fun i => ?_, fun i j x h1 h2 => ?_⟩
  · by_cases hi : I i
    · exact hn i hi
    · refine hk i hi ((h.all i).keep ho fun x hx hs => ?_)
      obtain ⟨j, hj, h3⟩ := hS x hs (h.lt hx)
      exact hi (h.ap i j x hx h3 ▸ hj)
  · by_cases hi : I i
    · by_cases hj : I j
      · exact hap i j x hi hj h1 h2
      · exact (key j i x hj hi h2 h1).elim
    · by_cases hj : I j
      · exact (key i j x hi hj h1 h2).elim
      · exact h.ap i j x (hf i x hi h1) (hf j x hj h2)

theorem Rep.call {w w' : World} {L : Lay} {A : St} (h : Rep w L A) (t bf : Nat) (F : Fr) (ht : t < A.wl.nth) (hno : A.fr false t = none) (hni : A.fr true t = none) (hbf : ∀ i, ¬ Foot L A i bf)
    (hF : FrAt w' bf (frM (L.call t bf) t F (.slice none 0 0) (.pointer none) (.pointer none))) (hl : F.list = []) (hsp : F.sp = none) (ho : Only (fun x => x = L.bth) w w')
    (hth : Blk w' L.bth 112 (thsV (L.call t bf) (A.wl.setTh t ((A.wl.th t).ask F.c)) fun u => ((updF A.fr false t (some F)) false u).isSome)) :
    Rep w' (L.call t bf) (A.call t F) := by
  have hw : WldOK w L A.wl _ := h.all .wld
  refine Rep.chg2 (fun i => i = .wld ∨ i = .fr false t) h ho (fun x hx _ => ⟨.wld, .inl rfl, .inr (.inl hx)⟩) ?_ ?_ ?_ ?_ ?_
  · intro i hi hh
    cases i with
    | wld => exact absurd (.inl rfl) hi
    | sys =>
      obtain ⟨cs, hb, hc⟩ := hh
      exact ⟨cs, hb, hc.lay rfl rfl rfl (fun _ _ => rfl)⟩
    | fr i u =>
      have hne : ¬ (i = false ∧ u = t) := fun ⟨e1, e2⟩ => hi (.inr (by rw [e1, e2]))
      intro G hG
      have hG2 : A.fr i u = some G := by have := hG; simp only [updF_ne _ _ hne] at this; exact this
      have hins : ((A.call t F).fr true u).isSome = (A.fr true u).isSome := by show ((updF A.fr false t (some F)) true u).isSome = _; rw [updF_ne _ _ (by simp)]
      rw [hins]
      exact (hh G hG2).lay rfl rfl (updN_ne _ _ hne) (updFl_ne _ _ hne) (fun _ _ => rfl) (fun _ _ => updN_ne L.fr (i := false) (j := true) (t := t) (u := u) bf (fun h => by cases h.1))
    | arena => exact ⟨hh.at_, hh.ap, hh.tb⟩
    | _ => exact hh
  · intro i x hi hx
    cases i with
    | wld => exact absurd (.inl rfl) hi
    | fr i u =>
      have hne : ¬ (i = false ∧ u = t) := fun ⟨e1, e2⟩ => hi (.inr (by rw [e1, e2]))
      obtain ⟨h1, h2⟩ := hx
      refine ⟨by have := h1; simp only [updF_ne _ _ hne] at this; exact this, ?_⟩
      have e1 : (L.call t bf).fr i u = L.fr i u := updN_ne _ _ hne
      have e2 : (L.call t bf).fl i u = L.fl i u := updFl_ne _ _ hne
      rw [e1, e2] at h2
      exact h2
    | _ => exact hx
  · rintro i (rfl | rfl)
    · exact ⟨hw.st.only ho (fun e => hw.st.ne_ hw.ths (by decide) e), hw.led.only ho (fun g hg e => row_blk_ne hw.led hw.ths (by decide) (by rw [hg, e])), hth, hw.n8⟩
    · intro G hG
      have e : F = G := by have := hG; simp only [updF_same, Option.some.injEq] at this; exact this
      subst e
      have e1 : (L.call t bf).fr false t = bf := updN_same _ _ _ _
      have e2 : (L.call t bf).fl false t = .slice none 0 0 := updFl_same _ _ _ _
      have hn8 := hw.n8
      refine ⟨by omega, ⟨none, none, by rw [e1, e2]; exact hF, fun p hp => by (rw [hsp] at hp; cases hp), fun _ hn => ?_⟩, by rw [e2, hl]; exact ⟨none, 0, rfl, .inl ⟨rfl, rfl⟩⟩⟩
      exfalso
      have : ((A.call t F).fr true t).isSome = (A.fr true t).isSome := by show ((updF A.fr false t (some F)) true t).isSome = _; rw [updF_ne _ _ (by simp)]
      rw [this, hni] at hn
      cases hn
  · rintro i x (rfl | rfl) hx
    · exact .inl ⟨.wld, .inl rfl, hx⟩
    · obtain ⟨_, hx⟩ := hx
      have e1 : (L.call t bf).fr false t = bf := updN_same _ _ _ _
      have e2 : (L.call t bf).fl false t = .slice none 0 0 := updFl_same _ _ _ _
      rw [e1, e2] at hx
      rcases hx with rfl | hx
      · exact .inr hbf
      · cases hx
  · have key : ∀ x, Foot (L.call t bf) (A.call t F) .wld x → Foot (L.call t bf) (A.call t F) (.fr false t) x → False := by
      intro x h1 h2
      have e1 : (L.call t bf).fr false t = bf := updN_same _ _ _ _
      have e2 : (L.call t bf).fl false t = .slice none 0 0 := updFl_same _ _ _ _
      obtain ⟨_, h2⟩ := h2
      rw [e1, e2] at h2
      rcases h2 with rfl | h2
      · exact hbf .wld h1
      · cases h2
    rintro i j x (rfl | rfl) (rfl | rfl) h1 h2
    · rfl
    · exact (key x h1 h2).elim
    · exact (key x h2 h1).elim
    · rfl

theorem flatMap12_sets {α : Type} (t n : Nat) (ht : t < n) : ∀ (ks : List (Nat × α)) (f f' : Nat → List α), (∀ p ∈ ks, p.1 < 12) → (∀ t, (f t).length = 12) → (∀ i, i ≠ t → f' i = f i) → f' t = ks.foldl (fun l p => l.set p.1 p.2) (f t) →
    (List.range n).flatMap f' = ks.foldl (fun l p => l.set (t * 12 + p.1) p.2) ((List.range n).flatMap f) := by
  intro ks
  induction ks with
  | nil =>
    intro f f' _ _ h1 h2
    have : f' = f := by
      funext i
      by_cases e : i = t
      · rw [e]; exact h2
      · exact h1 i e
    rw [this]; rfl
  | cons p ks ih =>
    intro f f' hk hf h1 h2
    have hg : ∀ i, i ≠ t → (fun i => if i = t then (f t).set p.1 p.2 else f i) i = f i := fun i hi => if_neg hi
    have e := flatMap12_set f (fun i => if i = t then (f t).set p.1 p.2 else f i) hf t p.1 p.2 hg (if_pos rfl) (hk p (by simp)) n ht
    rw [List.foldl_cons, ← e]
    refine ih _ f' (fun q hq => hk q (by simp [hq])) (fun i => ?_) (fun i hi => by rw [h1 i hi]; exact (if_neg hi).symm) (by rw [h2, List.foldl_cons]; simp)
    by_cases e : i = t
    · simp [e, hf]
    · simp [e, hf]

theorem thsV_sets (L L' : Lay) (W W' : Wl) (fs fs' : Nat → Bool) (t : Nat) (ks : List (Nat × Value)) (hn : W'.nth = W.nth) (ht : t < W.nth) (hk : ∀ p ∈ ks, p.1 < 12)
    (h1 : ∀ i, i ≠ t → thCells (W'.th i) (frV_ L' (fs' i) i) = thCells (W.th i) (frV_ L (fs i) i)) (h2 : thCells (W'.th t) (frV_ L' (fs' t) t) = ks.foldl (fun l p => l.set p.1 p.2) (thCells (W.th t) (frV_ L (fs t) t))) :
    thsV L' W' fs' = ks.foldl (fun a p => a.setIfInBounds (t * 12 + p.1) p.2) (thsV L W fs) := by
  unfold thsV
  rw [hn, flatMap12_sets t _ ht ks _ _ hk (fun _ => rfl) h1 h2]
  clear h1 h2 hk
  generalize (List.range W.nth).flatMap (fun t => thCells (W.th t) (frV_ L (fs t) t)) = l
  induction ks generalizing l with
  | nil => rfl
  | cons p ks ih => rw [List.foldl_cons, List.foldl_cons, ih]; simp

/-- What Call writes into a thread. -/
theorem thsV_call (L : Lay) (A : St) (t bf : Nat) (F : Fr) (ht : t < A.wl.nth) (hno : A.fr false t = none) :
    thsV (L.call t bf) (A.wl.setTh t ((A.wl.th t).ask F.c)) (fun u => ((updF A.fr false t (some F)) false u).isSome) =
    ((((((((thsV L A.wl (fun u => (A.fr false u).isSome)).setIfInBounds (t * 12 + 1) (.int .i64 F.c.kind)).setIfInBounds (t * 12 + 2) (.int .u64 F.c.addr)).setIfInBounds (t * 12 + 3) (.int .u64 F.c.n)).setIfInBounds (t * 12 + 4) (.int .u64 F.c.align)).setIfInBounds (t * 12 + 5) (.bool F.c.zero)).setIfInBounds (t * 12 + 6) (.bool F.c.force)).setIfInBounds (t * 12 + 7) (ptrV bf)) := by
  have h1 : ∀ i, i ≠ t → thCells ((A.wl.setTh t ((A.wl.th t).ask F.c)).th i) (frV_ (L.call t bf) ((updF A.fr false t (some F)) false i).isSome i) = thCells (A.wl.th i) (frV_ L (A.fr false i).isSome i) := fun i hi => by
    have hne : ¬ (false = false ∧ i = t) := fun h => hi h.2
    show thCells (upd A.wl.th t _ i) (frV_ (L.call t bf) ((updF A.fr false t (some F)) false i).isSome i) = _
    rw [upd_ne _ _ hi, updF_ne _ _ hne]
    have : frV_ (L.call t bf) (A.fr false i).isSome i = frV_ L (A.fr false i).isSome i := by
      unfold frV_
      have : (L.call t bf).fr false i = L.fr false i := updN_ne _ _ hne
      rw [this]
    rw [this]
  have h2 : thCells ((A.wl.setTh t ((A.wl.th t).ask F.c)).th t) (frV_ (L.call t bf) ((updF A.fr false t (some F)) false t).isSome t) = [((1 : Nat), Value.int .i64 F.c.kind), (2, .int .u64 F.c.addr), (3, .int .u64 F.c.n), (4, .int .u64 F.c.align), (5, .bool F.c.zero), (6, .bool F.c.force), (7, ptrV bf)].foldl (fun l p => l.set p.1 p.2) (thCells (A.wl.th t) (frV_ L (A.fr false t).isSome t)) := by
    show thCells (upd A.wl.th t _ t) (frV_ (L.call t bf) ((updF A.fr false t (some F)) false t).isSome t) = _
    rw [upd_same, updF_same]
    have : frV_ (L.call t bf) (some F).isSome t = ptrV bf := by
      show ptrV ((L.call t bf).fr false t) = _
      rw [show (L.call t bf).fr false t = bf from updN_same _ _ _ _]
    rw [this]
    rfl
  have e := thsV_sets L (L.call t bf) A.wl (A.wl.setTh t ((A.wl.th t).ask F.c)) (fun u => (A.fr false u).isSome) (fun u => ((updF A.fr false t (some F)) false u).isSome) t _ rfl ht (by simp) h1 h2
  rw [e]
  simp only [List.foldl_cons, List.foldl_nil]
end Go.Proofs.YtfplalgoopkmaaaGreat

namespace Go.Proofs.YtfplalgoopkmaaaGreat
open Go.RowKit

set_option maxRecDepth 100000 in
set_option maxHeartbeats 2000000 in
theorem world_Call_malloc (A : St) (t : Nat) (c : CallM) (hk : c.kind = 1) (hn : c.n < 18446744073709551616) (hal : c.align < 18446744073709551616) (w : World) (L : Lay) (h : Rep w L A) (ht : t < A.wl.nth) (h1 : (A.wl.th t).is = 1) (h2 : A.fr false t = none) (h3 : A.fr true t = none) :
    Calls Tryz.prog 38 #[.pointer (some ⟨L.bw, 0, none⟩), .int .i64 t, callV c] w fun e w' => ∃ bf, e = .returned (.int .i64 0) ∧ w.heap.size ≤ bf ∧ Rep w' (L.call t bf) (A.call t (Fr.new c ((mallocPlan c.n c.align).getD zeroPlan) (mallocState (mallocPlan c.n c.align)))) ∧ Only (fun x => x = L.bth) w w' := by
  have hw : WldOK w L A.wl _ := h.all .wld
  have ht8 : t < 8 := by have := hw.n8; omega
  obtain ⟨kind, addr, n, align, zero, force⟩ := c
  dsimp only at hk hn hal ⊢
  subst hk
  have hob := (Only.refl Nobody w).alloc (.cells #[.int .i64 1, .int .u64 addr, .int .u64 n, .int .u64 align, .bool zero, .bool force] 50)
  have HRD := Lib.hid (world_ready A t _ L (h.quiet hob) ht h1 h2)
  have HBG := Lib.hid (fun w1 ho => sys_Begin_malloc A t ⟨1, addr, n, align, zero, force⟩ ht8 rfl hn hal w1 L (h.quiet (w := w) (w' := w1) ho))
  dsimp only at HBG
  generalize hpp : (mallocPlan n align).getD zeroPlan = pp at *
  generalize hps : mallocState (mallocPlan n align) = ps at *
  have HB := Lib.hid (Blk.new w 50 #[.int .i64 1, .int .u64 addr, .int .u64 n, .int .u64 align, .bool zero, .bool force])
  have HTH : Hid (∀ w1, Only Nobody w w1 → Blk w1 L.bth 112 (thsV L A.wl fun u => (A.fr false u).isSome)) := Lib.hid fun w1 ho => (show WldOK w1 L A.wl _ from (h.quiet ho).all .wld).ths
  have c1 : (w.alloc (.cells #[.int .i64 1, .int .u64 addr, .int .u64 n, .int .u64 align, .bool zero, .bool force] 50)).cell? ⟨L.bw, 1, none⟩ = some (.pointer (some ⟨L.bs, 0, none⟩)) := (hw.st.only hob (fun h => h)).cell 1
  have HC : Hid (∀ w1, Only Nobody w w1 → w1.cell? ⟨L.bw, 1, none⟩ = some (.pointer (some ⟨L.bs, 0, none⟩))) := Lib.hid fun w1 ho => (hw.st.only ho (fun h => h)).cell 1
  have hlt : L.bth < w.heap.size := hw.ths.lt
  have HH := Lib.hid h
  have HT := Lib.hid (fun u k (hu : u < A.wl.nth) (hk : k < 12) => thsV_at L A.wl (fun u => (A.fr false u).isSome) u k hu hk)
  obtain ⟨LL, hLL⟩ : ∃ x, x = L := ⟨_, rfl⟩
  have HO0 := Lib.hid hob
  show Calls _ _ #[.pointer (some ⟨L.bw, 0, none⟩), .int .i64 t, .agg #[.int .i64 1, .int .u64 addr, .int .u64 n, .int .u64 align, .bool zero, .bool force]] w _
  generalize hbw : L.bw = bw at *
  generalize hbs : L.bs = bs at *
  generalize hbt : L.bth = bth at *
  have hno := h2
  clear h hw hbw hbs hLL h1 h2 hob
  go_enter Tryz.func38, Tryz.ntmps38
  go_wp2_with (first | (go_at_call 41; refine HRD.out.mono ?_; rintro e w1 ⟨rfl, rfl⟩) | fail)
  have HBd := Lib.hid (HB.out.drew)
  have d1 := HB.out.cell 0
  go_region_held3 (fun w' => w'.cell? ⟨bw, 1, none⟩ = some (.pointer (some ⟨bs, 0, none⟩)) ∧ w'.cell? ⟨w.heap.size, 0, none⟩ = some (.int .i64 1) ∧ w'.cell? ⟨w.heap.size, 1, none⟩ = some (.int .u64 addr) ∧ w'.cell? ⟨w.heap.size, 2, none⟩ = some (.int .u64 n) ∧ w'.cell? ⟨w.heap.size, 3, none⟩ = some (.int .u64 align) ∧ w'.cell? ⟨w.heap.size, 4, none⟩ = some (.bool zero) ∧ w'.cell? ⟨w.heap.size, 5, none⟩ = some (.bool force)) (first | exact ⟨c1, HB.out.cell 0, HB.out.cell 1, HB.out.cell 2, HB.out.cell 3, HB.out.cell 4, HB.out.cell 5⟩ | exact ⟨HC4.out, HB4.out.cell 0, HB4.out.cell 1, HB4.out.cell 2, HB4.out.cell 3, HB4.out.cell 4, HB4.out.cell 5⟩) (first | (go_at_call 51; refine (HBG.out _ HO0.out.drew).mono ?_; rintro e w4 ⟨bf, rfl, hbf, hfr, ho⟩; have HB4 := Lib.hid (HBd.out.only ho (fun h => h)); have HO4 := Lib.hid (HO0.out.drew.trans ho); have HC4 := Lib.hid (HC.out _ HO4.out); have HFR := Lib.hid hfr; have HBF := Lib.hid hbf; clear ho hfr hbf))
  have HBX := HB4.out
  have b0 := HBX.cell 0
  have b1 := HBX.cell 1
  have b2 := HBX.cell 2
  have b3 := HBX.cell 3
  have b4 := HBX.cell 4
  have b5 := HBX.cell 5
  have g1 : w4.cell? ⟨bth, t * 12 + 1, none⟩ = some _ := ((HTH.out _ HO4.out).cell _).trans (HT.out t 1 ht (by omega)); have f1 := (HTH.out _ HO4.out).frozen (t * 12 + 1); have g2 : w4.cell? ⟨bth, t * 12 + 2, none⟩ = some _ := ((HTH.out _ HO4.out).cell _).trans (HT.out t 2 ht (by omega)); have f2 := (HTH.out _ HO4.out).frozen (t * 12 + 2); have g3 : w4.cell? ⟨bth, t * 12 + 3, none⟩ = some _ := ((HTH.out _ HO4.out).cell _).trans (HT.out t 3 ht (by omega)); have f3 := (HTH.out _ HO4.out).frozen (t * 12 + 3); have g4 : w4.cell? ⟨bth, t * 12 + 4, none⟩ = some _ := ((HTH.out _ HO4.out).cell _).trans (HT.out t 4 ht (by omega)); have f4 := (HTH.out _ HO4.out).frozen (t * 12 + 4); have g5 : w4.cell? ⟨bth, t * 12 + 5, none⟩ = some _ := ((HTH.out _ HO4.out).cell _).trans (HT.out t 5 ht (by omega)); have f5 := (HTH.out _ HO4.out).frozen (t * 12 + 5); have g6 : w4.cell? ⟨bth, t * 12 + 6, none⟩ = some _ := ((HTH.out _ HO4.out).cell _).trans (HT.out t 6 ht (by omega)); have f6 := (HTH.out _ HO4.out).frozen (t * 12 + 6); have g7 : w4.cell? ⟨bth, t * 12 + 7, none⟩ = some _ := ((HTH.out _ HO4.out).cell _).trans (HT.out t 7 ht (by omega)); have f7 := (HTH.out _ HO4.out).frozen (t * 12 + 7)
  clear c1 d1 HBX
  go_wp2
  go_ret
  subst hbt
  have hbf : w.heap.size + 1 ≤ bf := by have := HBF.out; rw [World.size_drew, World.size_alloc] at this; exact this
  have o7 : ∀ u1 u2 u3 u4 u5 u6 u7, Only (fun g => g = L.bth) w4 (((((((w4.setCell ⟨L.bth, t * 12 + 1, none⟩ u1).setCell ⟨L.bth, t * 12 + 1 + 1, none⟩ u2).setCell ⟨L.bth, t * 12 + 1 + 2, none⟩ u3).setCell ⟨L.bth, t * 12 + 1 + 3, none⟩ u4).setCell ⟨L.bth, t * 12 + 1 + 4, none⟩ u5).setCell ⟨L.bth, t * 12 + 1 + 5, none⟩ u6).setCell ⟨L.bth, t * 12 + 7, none⟩ u7) := fun _ _ _ _ _ _ _ =>
    Only.setAt (Only.setAt (Only.setAt (Only.setAt (Only.setAt (Only.setAt (Only.setAt (S := fun g => g = L.bth) (Only.refl _ _) rfl _ _) rfl _ _) rfl _ _) rfl _ _) rfl _ _) rfl _ _) rfl _ _
  have ho := (HO4.out.mono (S' := fun g => g = L.bth) (fun _ h => h.elim)).trans (o7 (.int .i64 1) (.int .u64 addr) (.int .u64 n) (.int .u64 align) (.bool zero) (.bool force) (.pointer (some ⟨bf, 0, none⟩)))
  have hbth := ((((((((HTH.out _ HO4.out).set_ (t * 12 + 1) (.int .i64 1)).set_ (t * 12 + 1 + 1) (.int .u64 addr)).set_ (t * 12 + 1 + 2) (.int .u64 n)).set_ (t * 12 + 1 + 3) (.int .u64 align)).set_ (t * 12 + 1 + 4) (.bool zero)).set_ (t * 12 + 1 + 5) (.bool force)).set_ (t * 12 + 7) (.pointer (some ⟨bf, 0, none⟩)))
  refine ⟨bf, rfl, by omega, Rep.call HH.out t bf (Fr.new ⟨1, addr, n, align, zero, force⟩ pp ps) ht hno h3 (fun i hi => by have := HH.out.lt hi; omega) (HFR.out.only (o7 _ _ _ _ _ _ _) (by omega)) rfl rfl ho ?_, ho⟩
  rw [thsV_call L A t bf (Fr.new ⟨1, addr, n, align, zero, force⟩ pp ps) ht hno]
  exact hbth
end Go.Proofs.YtfplalgoopkmaaaGreat

namespace Go.Proofs.YtfplalgoopkmaaaGreat
open Go.RowKit

set_option maxRecDepth 100000 in
set_option maxHeartbeats 2000000 in
theorem world_Call_free (A : St) (t i : Nat) (E : Ent) (c : CallM) (hk : c.kind = 2) (hr : Rising (A.wl.led.map entKey)) (hf : A.wl.led.length ≤ 990) (hi : A.wl.led[i]? = some E) (he : E.addr = c.addr) (hb : E.held = false) (hx : c.addr < 18446744073709551616) (w : World) (L : Lay) (h : Rep w L A) (ht : t < A.wl.nth) (h1 : (A.wl.th t).is = 1) (h2 : A.fr false t = none) (h3 : A.fr true t = none) :
    Calls Tryz.prog 38 #[.pointer (some ⟨L.bw, 0, none⟩), .int .i64 t, callV c] w fun e w' => ∃ bf, e = .returned (.int .i64 0) ∧ w.heap.size ≤ bf ∧ ∃ L', Rep w' (L'.call t bf) ((A.setWl (A.wl.setLed (A.wl.led.set i (entHeld E true)))).call t (Fr.new c zeroPlan sFind)) ∧ Kept L L' ∧ Fix L L' ∧ Only (fun x => ∃ i, Foot L A i x) w w' ∧ ∀ j x, Foot L' (A.setWl (A.wl.setLed (A.wl.led.set i (entHeld E true)))) j x → Foot L A j x := by
  have hw : WldOK w L A.wl _ := h.all .wld
  have ht8 : t < 8 := by have := hw.n8; omega
  obtain ⟨kind, addr, n, align, zero, force⟩ := c
  dsimp only at hk he hx ⊢
  subst hk
  have hob := (Only.refl Nobody w).alloc (.cells #[.int .i64 2, .int .u64 addr, .int .u64 n, .int .u64 align, .bool zero, .bool force] 50)
  have HRD := Lib.hid (world_ready A t _ L (h.quiet hob) ht h1 h2)
  have HBG := Lib.hid (fun w1 ho => sys_Begin_free A t ⟨2, addr, n, align, zero, force⟩ ht8 rfl w1 L (h.quiet (w := w) (w' := w1) ho))
  have HB := Lib.hid (Blk.new w 50 #[.int .i64 2, .int .u64 addr, .int .u64 n, .int .u64 align, .bool zero, .bool force])
  have HTH : Hid (∀ w1, Only Nobody w w1 → Blk w1 L.bth 112 (thsV L A.wl fun u => (A.fr false u).isSome)) := Lib.hid fun w1 ho => (show WldOK w1 L A.wl _ from (h.quiet ho).all .wld).ths
  have c1 : (w.alloc (.cells #[.int .i64 2, .int .u64 addr, .int .u64 n, .int .u64 align, .bool zero, .bool force] 50)).cell? ⟨L.bw, 1, none⟩ = some (.pointer (some ⟨L.bs, 0, none⟩)) := (hw.st.only hob (fun h => h)).cell 1
  have HC : Hid (∀ w1, Only Nobody w w1 → w1.cell? ⟨L.bw, 1, none⟩ = some (.pointer (some ⟨L.bs, 0, none⟩))) := Lib.hid fun w1 ho => (hw.st.only ho (fun h => h)).cell 1
  have HHO : Hid (∀ w1, Only Nobody w w1 → Calls Tryz.prog 52 #[.pointer (some ⟨L.bw, 0, none⟩), .slice (some ⟨w1.heap.size, 0, none⟩) 1 1] (w1.alloc (.cells #[.int .u64 addr] 22)) fun e w' => e = .returned (.int .i64 0) ∧ ∃ L', Ste w L A w' L' (A.setWl (A.wl.setLed (A.wl.led.set i (entHeld E true)))) ∧ Kept L L' ∧ (∀ j x, Foot L' (A.setWl (A.wl.setLed (A.wl.led.set i (entHeld E true)))) j x → Foot L A j x) ∧ Only (fun x => ∃ i, Foot L A i x) w1 w') := Lib.hid fun w1 ho => by
    refine (sys_Hold A addr i w1.heap.size E _ L (h.quiet (ho.alloc (.cells #[.int .u64 addr] 22))) hr hf hi he hb hx (Blk.new w1 22 #[.int .u64 addr])).mono ?_
    rintro e w' ⟨L', rfl, hs, hk, hfo⟩
    refine ⟨rfl, L', (Ste.refl h (ho.alloc (.cells #[.int .u64 addr] 22))).trans hs, hk, hfo, (((Only.refl Nobody w1).alloc (.cells #[.int .u64 addr] 22)).mono (fun _ h => h.elim)).trans hs.only⟩
  have hft : ∀ i x, Foot L A i x → x < w.heap.size := fun i x hx => h.lt hx
  have HFT := Lib.hid hft
  clear hft
  have hlt : L.bth < w.heap.size := hw.ths.lt
  have HH := Lib.hid h
  have HT := Lib.hid (fun u k (hu : u < A.wl.nth) (hk : k < 12) => thsV_at L A.wl (fun u => (A.fr false u).isSome) u k hu hk)
  obtain ⟨LL, hLL⟩ : ∃ x, x = L := ⟨_, rfl⟩
  have HO0 := Lib.hid hob
  show Calls _ _ #[.pointer (some ⟨L.bw, 0, none⟩), .int .i64 t, .agg #[.int .i64 2, .int .u64 addr, .int .u64 n, .int .u64 align, .bool zero, .bool force]] w _
  generalize hbw : L.bw = bw at *
  generalize hbs : L.bs = bs at *
  generalize hbt : L.bth = bth at *
  have hno := h2
  clear h hw hbw hbs hLL h1 h2 hob
  go_enter Tryz.func38, Tryz.ntmps38
  go_wp2_with (first | (go_at_call 41; refine HRD.out.mono ?_; rintro e w1 ⟨rfl, rfl⟩) | fail)
  have HBd := Lib.hid (HB.out.drew)
  have d1 := HB.out.cell 0
  go_region_held3 (fun w' => w'.cell? ⟨bw, 1, none⟩ = some (.pointer (some ⟨bs, 0, none⟩)) ∧ w'.cell? ⟨w.heap.size, 0, none⟩ = some (.int .i64 2) ∧ w'.cell? ⟨w.heap.size, 1, none⟩ = some (.int .u64 addr) ∧ w'.cell? ⟨w.heap.size, 2, none⟩ = some (.int .u64 n) ∧ w'.cell? ⟨w.heap.size, 3, none⟩ = some (.int .u64 align) ∧ w'.cell? ⟨w.heap.size, 4, none⟩ = some (.bool zero) ∧ w'.cell? ⟨w.heap.size, 5, none⟩ = some (.bool force)) (first | exact ⟨c1, HB.out.cell 0, HB.out.cell 1, HB.out.cell 2, HB.out.cell 3, HB.out.cell 4, HB.out.cell 5⟩ | exact ⟨HC4.out, HB4.out.cell 0, HB4.out.cell 1, HB4.out.cell 2, HB4.out.cell 3, HB4.out.cell 4, HB4.out.cell 5⟩) (first | (go_at_call 51; refine (HBG.out _ HO0.out.drew).mono ?_; rintro e w4 ⟨bf, rfl, hbf, hfr, ho⟩; have HB4 := Lib.hid (HBd.out.only ho (fun h => h)); have HO4 := Lib.hid (HO0.out.drew.trans ho); have HC4 := Lib.hid (HC.out _ HO4.out); have HFR := Lib.hid hfr; have HBF := Lib.hid hbf; clear ho hfr hbf))
  have HBX := HB4.out
  have b0 := HBX.cell 0
  have b1 := HBX.cell 1
  have b2 := HBX.cell 2
  have b3 := HBX.cell 3
  have b4 := HBX.cell 4
  have b5 := HBX.cell 5
  clear c1 d1 HBX
  go_wp2_with fail
  have hbf : w.heap.size + 1 ≤ bf := by have := HBF.out; rw [World.size_drew, World.size_alloc] at this; exact this
  go_region_held3 (fun w' => w'.cell? ⟨w.heap.size, 0, none⟩ = some (.int .i64 2) ∧ w'.cell? ⟨w.heap.size, 1, none⟩ = some (.int .u64 addr) ∧ w'.cell? ⟨w.heap.size, 2, none⟩ = some (.int .u64 n) ∧ w'.cell? ⟨w.heap.size, 3, none⟩ = some (.int .u64 align) ∧ w'.cell? ⟨w.heap.size, 4, none⟩ = some (.bool zero) ∧ w'.cell? ⟨w.heap.size, 5, none⟩ = some (.bool force)) (first | exact ⟨b0, b1, b2, b3, b4, b5⟩ | exact ⟨(HB4.out.drew.alloc _).cell 0, (HB4.out.drew.alloc _).cell 1, (HB4.out.drew.alloc _).cell 2, (HB4.out.drew.alloc _).cell 3, (HB4.out.drew.alloc _).cell 4, (HB4.out.drew.alloc _).cell 5⟩ | exact ⟨HB5.out.cell 0, HB5.out.cell 1, HB5.out.cell 2, HB5.out.cell 3, HB5.out.cell 4, HB5.out.cell 5⟩) (first | (go_at_call 52; refine (HHO.out _ HO4.out.drew).mono ?_; rintro e w5 ⟨rfl, L5, hst, hkp, hfo, ho⟩; have HB5 := Lib.hid (HB4.out.drew.only ho (fun ⟨i, hi⟩ => Nat.lt_irrefl _ (HFT.out i _ hi))); have HFR5 := Lib.hid (HFR.out.drew.only ho (fun ⟨i, hi⟩ => by have := HFT.out i _ hi; omega)); have HST := Lib.hid hst; have HKP := Lib.hid hkp; have HFO := Lib.hid hfo; clear hst hkp hfo ho))
  have h5 : L5.bth = bth := HST.out.fix.bth.trans hbt
  have HT5 : Hid (Blk w5 bth 112 (thsV L5 (A.wl.setLed (A.wl.led.set i (entHeld E true))) fun u => (A.fr false u).isSome)) := Lib.hid (h5 ▸ (show WldOK w5 L5 _ _ from HST.out.rep.all .wld).ths)
  have HBX := HB5.out
  have b0 := HBX.cell 0
  have b1 := HBX.cell 1
  have b2 := HBX.cell 2
  have b3 := HBX.cell 3
  have b4 := HBX.cell 4
  have b5 := HBX.cell 5
  have g1 : w5.cell? ⟨bth, t * 12 + 1, none⟩ = some _ := (HT5.out.cell _).trans (thsV_at L5 _ _ t 1 ht (by omega)); have f1 := HT5.out.frozen (t * 12 + 1); have g2 : w5.cell? ⟨bth, t * 12 + 2, none⟩ = some _ := (HT5.out.cell _).trans (thsV_at L5 _ _ t 2 ht (by omega)); have f2 := HT5.out.frozen (t * 12 + 2); have g3 : w5.cell? ⟨bth, t * 12 + 3, none⟩ = some _ := (HT5.out.cell _).trans (thsV_at L5 _ _ t 3 ht (by omega)); have f3 := HT5.out.frozen (t * 12 + 3); have g4 : w5.cell? ⟨bth, t * 12 + 4, none⟩ = some _ := (HT5.out.cell _).trans (thsV_at L5 _ _ t 4 ht (by omega)); have f4 := HT5.out.frozen (t * 12 + 4); have g5 : w5.cell? ⟨bth, t * 12 + 5, none⟩ = some _ := (HT5.out.cell _).trans (thsV_at L5 _ _ t 5 ht (by omega)); have f5 := HT5.out.frozen (t * 12 + 5); have g6 : w5.cell? ⟨bth, t * 12 + 6, none⟩ = some _ := (HT5.out.cell _).trans (thsV_at L5 _ _ t 6 ht (by omega)); have f6 := HT5.out.frozen (t * 12 + 6); have g7 : w5.cell? ⟨bth, t * 12 + 7, none⟩ = some _ := (HT5.out.cell _).trans (thsV_at L5 _ _ t 7 ht (by omega)); have f7 := HT5.out.frozen (t * 12 + 7)
  clear HBX
  go_wp2
  go_ret
  subst hbt
  have o7 : ∀ u1 u2 u3 u4 u5 u6 u7, Only (fun g => g = L.bth) w5 (((((((w5.setCell ⟨L.bth, t * 12 + 1, none⟩ u1).setCell ⟨L.bth, t * 12 + 1 + 1, none⟩ u2).setCell ⟨L.bth, t * 12 + 1 + 2, none⟩ u3).setCell ⟨L.bth, t * 12 + 1 + 3, none⟩ u4).setCell ⟨L.bth, t * 12 + 1 + 4, none⟩ u5).setCell ⟨L.bth, t * 12 + 1 + 5, none⟩ u6).setCell ⟨L.bth, t * 12 + 7, none⟩ u7) := fun _ _ _ _ _ _ _ =>
    Only.setAt (Only.setAt (Only.setAt (Only.setAt (Only.setAt (Only.setAt (Only.setAt (S := fun g => g = L.bth) (Only.refl _ _) rfl _ _) rfl _ _) rfl _ _) rfl _ _) rfl _ _) rfl _ _) rfl _ _
  have ho5 := o7 (.int .i64 2) (.int .u64 addr) (.int .u64 n) (.int .u64 align) (.bool zero) (.bool force) (.pointer (some ⟨bf, 0, none⟩))
  have hbth := (((((((HT5.out.set_ (t * 12 + 1) (.int .i64 2)).set_ (t * 12 + 1 + 1) (.int .u64 addr)).set_ (t * 12 + 1 + 2) (.int .u64 n)).set_ (t * 12 + 1 + 3) (.int .u64 align)).set_ (t * 12 + 1 + 4) (.bool zero)).set_ (t * 12 + 1 + 5) (.bool force)).set_ (t * 12 + 7) (.pointer (some ⟨bf, 0, none⟩)))
  have hb5 : L5.bs = L.bs := HST.out.fix.bs
  have hh5 : L5.hp = L.hp := HST.out.fix.hp
  have hFR : FrAt w5 bf (frM (L5.call t bf) t (Fr.new ⟨2, addr, n, align, zero, force⟩ zeroPlan sFind) (.slice none 0 0) (.pointer none) (.pointer none)) := by
    have := HFR5.out
    show FrAt w5 bf ⟨L5.bs, 0, 0, 0, t, L5.hp t, 2, addr, n, align, zero, force, zeroPlan, sFind, .slice none 0 0, .pointer none, .pointer none, 0, 0, 0, 0⟩
    rw [hb5, hh5]
    exact this
  refine ⟨rfl, bf, by omega, L5, Rep.call HST.out.rep t bf (Fr.new ⟨2, addr, n, align, zero, force⟩ zeroPlan sFind) ht hno h3 (fun i hi => by have := HFT.out i _ (HFO.out i _ hi); omega) (hFR.only ho5 (by omega)) rfl rfl (by rw [h5]; exact ho5) ?_, HKP.out, HST.out.fix, HST.out.only.trans (ho5.mono fun x hx => ⟨.wld, .inr (.inl hx)⟩), HFO.out⟩
  rw [thsV_call L5 (A.setWl (A.wl.setLed (A.wl.led.set i (entHeld E true)))) t bf (Fr.new ⟨2, addr, n, align, zero, force⟩ zeroPlan sFind) ht hno, h5]
  exact hbth
end Go.Proofs.YtfplalgoopkmaaaGreat
