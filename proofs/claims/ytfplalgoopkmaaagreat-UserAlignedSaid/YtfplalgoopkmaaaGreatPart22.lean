/- A block of a page that a heap has. A page anew in a segment, over the whole state. What cut answers, over the whole state. Conditions: none. -/
import Derived.Test.YtfplalgoopkmaaaGreatPart21

set_option linter.unusedVariables false
set_option linter.unusedSimpArgs false

namespace Go.Proofs.YtfplalgoopkmaaaGreat
open Go.RowKit

/-- Ready pages are right, and found. -/
def ReadyOK (A : St) (t c : Nat) : Prop := ∀ k, k ∈ (A.heap t).L c → ∃ p, A.page k = some p ∧ PgGood A.n A.f k p ∧ A.findIn (A.heap t).segs (k * 1024) = some k ∧ k < 1024

/-- Behind j full pages. -/
def LocInv (t c : Nat) (A : St) (L : Lay) (w1 wr : World) (j : Nat) : Prop :=
  ∃ Aj Lj, St.localGo t c (((A.heap t).L c).drop j) Aj = A.local_ t c ∧ Aj.n = A.n ∧ Aj.f = A.f ∧ Aj.page = A.page ∧ Aj.seg = A.seg ∧ (Aj.heap t).segs = (A.heap t).segs ∧ (Aj.heap t).L c = ((A.heap t).L c).drop j ∧ ((Aj.heap t).FL c).length = ((A.heap t).FL c).length + j ∧ Ste w1 L A wr Lj Aj

theorem findV_some {L : Lay} {A : St} {segs : List Nat} {a k : Nat} (h : A.findIn segs a = some k) : findV L A segs a = .tuple #[ptrV (L.sg (a / 16384)), ptrV (L.ow k)] := by
  unfold findV; rw [h]

theorem ready_blk {w : World} {B : Nat} {l : List Nat} {v : Value} (hr : w.ownsRow B 3 1 v l.length (l.map natV)) (hl : l ≠ []) :
    ∃ g cap cur, v = .slice (some ⟨g, 0, none⟩) l.length cap ∧ B ≤ g ∧ Blk w g 3 cur ∧ ∀ j, j < l.length → cur[j]? = some (.int .i64 (l.getD j 0 : Nat)) := by
  rcases hr.2 with ⟨_, h0⟩ | ⟨g, cap, cur, hv, hB, hh, hcap, _, hs, hx⟩
  · exact absurd (List.eq_nil_of_length_eq_zero h0) hl
  · refine ⟨g, cap, cur, hv, hB, hh, fun j hj => ?_⟩
    have h1 : (cur.toList.take (l.length * 1))[j]? = (l.map natV)[j]? := by rw [hx]
    rw [Nat.mul_one, List.getElem?_take, if_pos hj, List.getElem?_map, List.getElem?_eq_getElem hj] at h1
    rw [← Array.getElem?_toList, h1, List.getD_eq_getElem?_getD, List.getElem?_eq_getElem hj]
    rfl

set_option maxHeartbeats 2000000 in
theorem sys_Local (A : St) (t c : Nat) (ht : t < 8) (hc : c < 12) (hl : Live A t) (hk : ReadyOK A t c) (hn : ((A.heap t).L c).length + ((A.heap t).FL c).length ≤ 990) :
    SysCalls 142 (fun L => #[ptrV (L.hp t), .int .i64 c]) A (fun _ => .tuple #[.int .u64 (A.local_ t c).1, .int .i64 (A.local_ t c).2.1]) (A.local_ t c).2.2 := by
  intro w L h
  have hH := h.hap t ht
  by_cases he : (A.heap t).L c = []
  · have e0 : A.local_ t c = (0, 4, A) := by unfold St.local_; rw [he]; rfl
    refine (heap_Local_nil (L.hp t) L.bm L.ba c _ w hH hc he).mono ?_
    rintro e w' ⟨rfl, ho⟩
    exact ⟨L, by rw [e0]; rfl, by rw [e0]; exact Ste.refl h ho⟩
  have hrow := fun w => heap_row (L.hp t) c w (by omega) (by omega)
  have hr : rowIx (c : Int) = c := by unfold rowIx; rw [if_neg (by omega)]; omega
  rw [hr] at hrow
  have HROW := Lib.hid hrow
  have HQ := Lib.hid (queue_Ready (L.hp t) (2 * c) _ _ _ _ _ _ w (hH.q c (by omega)))
  have HREP := Lib.hid h
  have HE := Lib.hid he
  have HL := Lib.hid hl
  have HK := Lib.hid hk
  have hb : ((c : Int) == -1) = false := by rw [beq_eq_false_iff_ne]; omega
  obtain ⟨bh, hbh⟩ : ∃ x, x = L.hp t := ⟨_, rfl⟩
  have HBH := Lib.hid hbh
  show Calls _ _ #[.pointer (some ⟨L.hp t, 0, none⟩), .int .i64 c] w _
  rw [← hbh] at HROW HQ ⊢
  obtain ⟨n, hnn⟩ : ∃ n, n = ((A.heap t).L c).length := ⟨_, rfl⟩
  have HN := Lib.hid hnn
  have hn2 : n + ((A.heap t).FL c).length ≤ 990 := by rw [hnn]; exact hn
  rw [← hnn] at HQ
  clear h hH hr hrow he hl hk hbh hnn hn
  go_enter Tryz.func142, Tryz.ntmps142
  go_wp2_with (first | (go_at_call 93; refine (HROW.out _).mono ?_; rintro e w1 ⟨rfl, rfl⟩) | (go_at_call 110; refine HQ.out.mono ?_; rintro e w1 ⟨v', rfl, hr, ho⟩; rw [HN.out] at hr; obtain ⟨g, cap, cur, rfl, hg, hblk, hcur⟩ := ready_blk hr HE.out; rw [← HN.out] at hcur ⊢; have HO := Lib.hid ho; have HG := Lib.hid hg; have HBLK := Lib.hid hblk; have HCUR := Lib.hid hcur; clear hr ho hg hblk hcur))
  go_loopw [8, 9, 10, 11, 12, 29] (fun _ _ _ _ _ i wr => ∃ j : Nat, j ≤ n ∧ i = .int .i64 j ∧ LocInv t c A L w1 wr j) (fun _ _ _ _ _ i _ => n - (intOf i).toNat)
  case atStart => exact ⟨0, by omega, rfl, A, L, rfl, rfl, rfl, rfl, rfl, rfl, rfl, rfl, Ste.refl (HREP.out.quiet HO.out) (Only.refl _ _)⟩
  case round =>
    obtain ⟨j, hj, rfl, Aj, Lj, e1, e2, e3, e4, e5, e6, e7, e8, hst⟩ := hrel
    have hgf : ¬ ∃ i, Foot L A i g := fun ⟨i, hi⟩ => by have := HREP.out.lt hi; have := HG.out; omega
    have hbr : Blk wr g 3 cur := HBLK.out.only hst.only hgf
    have HST := Lib.hid hst
    have HGF := Lib.hid hgf
    have E1 := Lib.hid e1
    by_cases hlt : j < n
    · obtain ⟨k, hkk⟩ : ∃ k, k = ((A.heap t).L c).getD j 0 := ⟨_, rfl⟩
      have cj : wr.cell? ⟨g, j, none⟩ = some (.int .i64 k) := by rw [hkk]; exact (hbr.cell j).trans (HCUR.out j hlt)
      have hjl : j < ((A.heap t).L c).length := by rw [← HN.out]; exact hlt
      have hmem : k ∈ (A.heap t).L c := by rw [hkk, List.getD_eq_getElem?_getD, List.getElem?_eq_getElem hjl]; exact List.getElem_mem hjl
      have hdrop : ((A.heap t).L c).drop j = k :: ((A.heap t).L c).drop (j + 1) := by
        rw [List.drop_eq_getElem_cons hjl, hkk, List.getD_eq_getElem?_getD, List.getElem?_eq_getElem hjl]; rfl
      obtain ⟨p, hp, hg, hf, hk1⟩ := HK.out k hmem
      have hpj : Aj.page k = some p := by rw [e4]; exact hp
      have hfj : Aj.findIn (Aj.heap t).segs (k * 1024) = some k := by rw [e6]; unfold St.findIn at hf ⊢; rw [e5]; exact hf
      have hlj : Live Aj t := fun q hq => by rw [e5]; exact HL.out q (by rw [← e6]; exact hq)
      have hgj : PgGood Aj.n Aj.f k p := by rw [e2, e3]; exact hg
      have hrep := hst.rep
      have HF := Lib.hid (sys_find Aj t (k * 1024) ht hlj (by omega) wr Lj hrep)
      rw [findV_some hfj] at HF
      have hA := fun w2 h2 => (sys_Alloc Aj k p hpj hgj).plain w2 Lj h2
      have hown := (hrep.all (.page k) p hpj).1
      have hbhj : Lj.hp t = bh := by rw [hst.fix.hp]; exact HBH.out.symm
      rw [hbhj] at HF
      obtain ⟨bo, hbo⟩ : ∃ x, x = Lj.ow k := ⟨_, rfl⟩
      obtain ⟨bp, hbp⟩ : ∃ x, x = Lj.pg k := ⟨_, rfl⟩
      obtain ⟨bs, hbs⟩ : ∃ x, x = Lj.sg (k * 1024 / 16384) := ⟨_, rfl⟩
      rw [← hbo, ← hbs] at HF
      rw [← hbo, ← hbp] at hown
      have HOWN := Lib.hid hown
      have HBP := Lib.hid hbp
      have HBHJ := Lib.hid hbhj
      cases hal : (pgAlloc Aj.f k p).1 with
      | some a =>
        rw [hal] at hA
        have HA : Hid (∀ w2, Rep w2 Lj Aj → Calls Tryz.prog 169 #[.pointer (some ⟨bp, 0, none⟩)] w2 fun e w' => ∃ L', e = .returned (.tuple #[.int .u64 a, .int .i64 0]) ∧ Ste w2 Lj Aj w' L' (Aj.setPage k (pgAlloc Aj.f k p).2.1 (pgAlloc Aj.f k p).2.2)) := Lib.hid (by rw [hbp]; exact hA)
        have hfin : A.local_ t c = (a, 0, Aj.setPage k (pgAlloc Aj.f k p).2.1 (pgAlloc Aj.f k p).2.2) := by
          rw [← e1, hdrop]
          unfold St.localGo
          rw [hpj]
          simp only []
          have : pgAlloc Aj.f k p = (some a, (pgAlloc Aj.f k p).2.1, (pgAlloc Aj.f k p).2.2) := by rw [← hal]
          rw [this]
        have HFIN := Lib.hid hfin
        have HREPJ := Lib.hid hrep
        clear hst hgf hbr e1 e2 e3 e4 e5 e6 e7 e8 hkk hmem hdrop hp hg hf hpj hfj hlj hgj hA hown hbhj hbo hbp hbs hal hfin hrep hjl
        go_wp2_with (first | (go_at_call 95; refine (heap_start k hk1 _).mono ?_; rintro e w2 ⟨rfl, rfl⟩) | (go_at_call 168; refine HF.out.mono ?_; rintro e w2 ⟨rfl, ho⟩; have HO2 := Lib.hid ho; have d0 : w2.cell? ⟨bo, 0, none⟩ = some (.pointer (some ⟨bp, 0, none⟩)) := (HOWN.out.only ho (fun h => h)).cell 0; clear ho) | (go_at_call 169; refine (HA.out _ (HREPJ.out.quiet HO2.out)).mono ?_; rintro e w3 ⟨L3, rfl, hs⟩; have HS3 := Lib.hid hs; clear hs))
        go_ret2
        refine ⟨L3, by rw [HFIN.out]; rfl, ?_⟩
        rw [HFIN.out]
        exact (Ste.refl HREP.out HO.out).trans ((HST.out.quiet_right HO2.out).trans HS3.out)
      | none =>
        have hno := pgAlloc_none hal
        rw [hno] at hA
        have hself := St.setPage_self hpj
        have HA : Hid (∀ w2, Rep w2 Lj Aj → Calls Tryz.prog 169 #[.pointer (some ⟨bp, 0, none⟩)] w2 fun e w' => ∃ L', e = .returned (.tuple #[.int .u64 0, .int .i64 4]) ∧ Ste w2 Lj Aj w' L' Aj) := Lib.hid (by
          rw [hbp]; intro w2 h2; have := hA w2 h2; rw [hself] at this; exact this)
        have hkin : k ∈ (Aj.heap t).L c := by rw [e7, hdrop]; simp
        have hFill : ∀ w2 L3, Rep w2 L3 Aj → L3.hp t = bh → Calls Tryz.prog 170 #[.pointer (some ⟨bh, 2 * c, none⟩), .int .i64 k] w2 fun e w' => ∃ L', e = .returned (.int .i64 0) ∧ Ste w2 L3 Aj w' L' (Aj.setHeap t ((Aj.heap t).fill c k)) := fun w2 L3 h2 hb3 => by
          rw [← hb3]; exact (sys_Fill ht (by omega) hkin (by rw [e8]; omega)).plain w2 L3 h2
        have HFILL := Lib.hid hFill
        have HNEXT : Hid (∀ wx L4, Ste w1 L A wx L4 (Aj.setHeap t ((Aj.heap t).fill c k)) → LocInv t c A L w1 wx (j + 1)) := Lib.hid (fun wx L4 hs => by
          refine ⟨Aj.setHeap t ((Aj.heap t).fill c k), L4, ?_, e2, e3, e4, e5, ?_, ?_, ?_, hs⟩
          · rw [← e1, hdrop]
            conv => rhs; unfold St.localGo
            rw [hpj]
            simp only [hno]
          · show (upd Aj.heap t _ t).segs = _
            rw [upd_same]; exact e6
          · show (upd Aj.heap t _ t).L c = _
            rw [upd_same]
            show updL (Aj.heap t).L c _ c = _
            unfold updL
            rw [if_pos rfl, e7, hdrop]
            simp
          · show ((upd Aj.heap t _ t).FL c).length = _
            rw [upd_same]
            show (updL (Aj.heap t).FL c _ c).length = _
            unfold updL
            rw [if_pos rfl, List.length_append, e8]
            simp; omega)
        have HREPJ := Lib.hid hrep
        clear hst hgf hbr e1 e2 e3 e4 e5 e6 e7 e8 hkk hmem hdrop hp hg hf hpj hfj hlj hgj hA hown hbhj hbo hbp hbs hal hrep hjl hno hself hkin hFill
        go_wp2_with (first | (go_at_call 95; refine (heap_start k hk1 _).mono ?_; rintro e w2 ⟨rfl, rfl⟩) | (go_at_call 168; refine HF.out.mono ?_; rintro e w2 ⟨rfl, ho⟩; have HO2 := Lib.hid ho; have d0 : w2.cell? ⟨bo, 0, none⟩ = some (.pointer (some ⟨bp, 0, none⟩)) := (HOWN.out.only ho (fun h => h)).cell 0; clear ho) | (go_at_call 169; refine (HA.out _ (HREPJ.out.quiet HO2.out)).mono ?_; rintro e w3 ⟨L3, rfl, hs⟩; have HS3 := Lib.hid hs; have HB3 : Hid (L3.hp t = bh) := Lib.hid ((congrFun hs.fix.hp t).trans HBHJ.out); clear hs) | (go_at_call 170; refine (HFILL.out _ _ HS3.out.rep HB3.out).mono ?_; rintro e w4 ⟨L4, rfl, hs⟩; have HS4 := Lib.hid hs; clear hs))
        exact ⟨⟨j + 1, by omega, by go_num, HNEXT.out _ _ ((HST.out.quiet_right HO2.out).trans (HS3.out.trans HS4.out))⟩, by show n - (intOf (Value.int IntKind.i64 ((j : Int) + 1))).toNat < n - (intOf (Value.int IntKind.i64 (j : Int))).toNat; simp [intOf]; omega⟩
    · obtain rfl : j = n := by omega
      have hfin : A.local_ t c = (0, 4, Aj) := by
        rw [← e1, HN.out, List.drop_length]; rfl
      have HFIN := Lib.hid hfin
      clear hst hgf hbr e1 e2 e3 e4 e5 e6 e7 e8 hfin
      go_wp2
      go_ret2
      exact ⟨Lj, by rw [HFIN.out]; rfl, by rw [HFIN.out]; exact (Ste.refl HREP.out HO.out).trans HST.out⟩
end Go.Proofs.YtfplalgoopkmaaaGreat

namespace Go.Proofs.YtfplalgoopkmaaaGreat
open Go.RowKit

abbrev Lay.newPage (L : Lay) (k bo bp : Nat) : Lay := { L with ow := upd L.ow k bo, pg := upd L.pg k bp }

theorem Sg.T_set (s : Sg) (a k x : Nat) (l : Nat) (h1 : 1 ≤ a) : (Sg.T { s with of := setOf s.of a k (some x), left := l }) = setB s.T a k true := by
  funext i
  unfold Sg.T setB setOf
  dsimp only
  split
  · simp
  · rfl

/-- A page anew. -/
theorem Ste.newPage {w w' : World} {L : Lay} {A : St} {p at_ bo bp : Nat} {s : Sg} {pl : Plan} (h : Rep w L A) (hs : A.seg p = some s) (hg : SgGood A p s) (hofk : ∀ q s', A.seg q = some s' → ∀ i a, s'.of i = some a → a < 16) (hno : A.page (p * 16 + at_) = none) (hat : at_ < 16) (hat1 : 1 ≤ at_) (hsl : plSl pl ≤ s.left)
    (hseg : SegAt w' (L.sg p) L.bm { segM L p s with T := setB s.T at_ (plSl pl) true, left := (s.left : Int) - plSl pl, of := setOf (segM L p s).of at_ (plSl pl) (some bo) })
    (hown : OwnedAt w' bo bp pl.cls at_ (plSl pl)) (hpg : PageAt w' bp L.bm (pgNew ((p * 16 + at_) * 1024) (plSize pl) (plN pl)))
    (ho : Only (fun g => g = L.sg p ∨ g = L.sk p ∨ g = L.st p) w w') (hbo : w.heap.size ≤ bo) (hbp : w.heap.size ≤ bp) :
    Ste w L A w' (L.newPage (p * 16 + at_) bo bp) (A.newPage p s at_ pl) := by
  have hsS : (A.seg p).isSome := by rw [hs]; rfl
  refine Ste.chg (fun i => i = .seg p ∨ i = .page (p * 16 + at_)) h ho ?_ ?_ ?_ ?_ ?_ ?_ ⟨rfl, rfl, rfl, rfl, rfl, rfl, rfl, rfl⟩
  · rintro x (rfl | rfl | rfl) _
    · exact ⟨.seg p, .inl rfl, hsS, .inl rfl⟩
    · exact ⟨.seg p, .inl rfl, hsS, .inr (.inl rfl)⟩
    · exact ⟨.seg p, .inl rfl, hsS, .inr (.inr rfl)⟩
  · intro i hi hh
    cases i with
    | seg q =>
      have e : q ≠ p := fun e => hi (.inl (by rw [e]))
      intro s' hs'
      have hs2 : A.seg q = some s' := by simpa only [St.newPage, upd_ne _ _ e] using hs'
      have h1 := hh s' hs2
      have hof : (fun i => (s'.of i).map fun a => upd L.ow (p * 16 + at_) bo (q * 16 + a)) = fun i => (s'.of i).map fun a => L.ow (q * 16 + a) := by
        funext i
        cases h3 : s'.of i with
        | none => rfl
        | some a =>
          show some _ = some _
          congr 1
          refine upd_ne _ _ fun e2 => ?_
          by_cases ha : a < 16
          · omega
          · exact ha (hofk q s' hs2 i a h3)
      show SegAt w' (L.sg q) L.bm ⟨L.sk q, L.st q, s'.T, s'.left, q, fun i => (s'.of i).map fun a => upd L.ow (p * 16 + at_) bo (q * 16 + a), s'.ow, s'.ot, s'.oa⟩
      rw [hof]
      exact h1
    | page j =>
      have e : j ≠ p * 16 + at_ := fun e => hi (.inr (by rw [e]))
      intro q hq
      have hq2 : A.page j = some q := by simpa only [St.newPage, upd_ne _ _ e] using hq
      have h1 := hh q hq2
      show OwnedAt w' (upd L.ow (p * 16 + at_) bo j) (upd L.pg (p * 16 + at_) bp j) _ _ _ ∧ PageAt w' (upd L.pg (p * 16 + at_) bp j) _ _
      rw [upd_ne _ _ e, upd_ne _ _ e]
      exact h1
    | arena => exact ⟨hh.1, hh.2, hh.3⟩
    | sys =>
      obtain ⟨cs, hb, hc⟩ := hh
      exact ⟨cs, hb, hc.lay rfl rfl rfl (fun _ _ => rfl)⟩
    | wld => exact WldOK.lay hh rfl rfl rfl rfl (fun _ _ => rfl)
    | fr i u => exact fun F hF => (hh F hF).lay rfl rfl rfl rfl (fun _ _ => rfl) (fun _ _ => rfl)
    | _ => exact hh
  · intro i x hi hx
    cases i with
    | seg q =>
      have e : q ≠ p := fun e => hi (.inl (by rw [e]))
      simp only [Foot, St.newPage, upd_ne _ _ e] at hx
      exact hx
    | page j =>
      have e : j ≠ p * 16 + at_ := fun e => hi (.inr (by rw [e]))
      simp only [Foot, St.newPage, upd_ne _ _ e] at hx
      exact hx
    | _ => exact hx
  · rintro i (rfl | rfl)
    · intro s' hs'
      obtain rfl : { s with of := setOf s.of at_ (plSl pl) (some at_), left := s.left - plSl pl } = s' := by simpa only [St.newPage, upd_same, Option.some.injEq] using hs'
      have hT := Sg.T_set s at_ (plSl pl) at_ (s.left - plSl pl) hat1
      have hof : (fun i => (setOf s.of at_ (plSl pl) (some at_) i).map fun a => upd L.ow (p * 16 + at_) bo (p * 16 + a)) = setOf (fun i => (s.of i).map fun a => L.ow (p * 16 + a)) at_ (plSl pl) (some bo) := by
        funext i
        unfold setOf
        split
        · show some (upd L.ow _ bo _) = some bo
          rw [upd_same]
        · show _ = (s.of i).map fun a => L.ow (p * 16 + a)
          cases h3 : s.of i with
          | none => rfl
          | some a =>
            show some _ = some _
            congr 1
            refine upd_ne _ _ fun e2 => ?_
            obtain ⟨_, _, _, g, hg1, _⟩ := hg.ofk i a h3
            rw [e2, hno] at hg1; cases hg1
      show SegAt w' (L.sg p) L.bm ⟨L.sk p, L.st p, _, _, p, fun i => (setOf s.of at_ (plSl pl) (some at_) i).map fun a => upd L.ow (p * 16 + at_) bo (p * 16 + a), s.ow, s.ot, s.oa⟩
      rw [hof, hT]
      have hl : ((s.left - plSl pl : Nat) : Int) = (s.left : Int) - plSl pl := by omega
      rw [hl]
      exact hseg
    · intro q hq
      obtain rfl : pgFor pl = q := by simpa only [St.newPage, upd_same, Option.some.injEq] using hq
      show OwnedAt w' (upd L.ow (p * 16 + at_) bo (p * 16 + at_)) (upd L.pg (p * 16 + at_) bp (p * 16 + at_)) _ _ _ ∧ PageAt w' (upd L.pg (p * 16 + at_) bp (p * 16 + at_)) _ _
      rw [upd_same, upd_same, show (p * 16 + at_) % 16 = at_ from by omega]
      exact ⟨hown, hpg⟩
  · rintro i x (rfl | rfl) hx
    · refine .inl ⟨.seg p, .inl rfl, hsS, hx.2⟩
    · have hx2 := hx.2
      simp only [upd_same] at hx2
      rcases hx2 with rfl | rfl
      · exact .inr hbo
      · exact .inr hbp
  · rintro i j x (rfl | rfl) (rfl | rfl) hi hj
    · rfl
    · have hx2 := hj.2
      simp only [upd_same] at hx2
      have hlt : x < w.heap.size := h.lt (i := .seg p) ⟨hsS, hi.2⟩
      rcases hx2 with rfl | rfl <;> omega
    · have hx2 := hi.2
      simp only [upd_same] at hx2
      have hlt : x < w.heap.size := h.lt (i := .seg p) ⟨hsS, hj.2⟩
      rcases hx2 with rfl | rfl <;> omega
    · rfl
end Go.Proofs.YtfplalgoopkmaaaGreat

namespace Go.Proofs.YtfplalgoopkmaaaGreat
open Go.RowKit

section
variable {A : St} {p : Nat} {s : Sg} {pl : Plan}
theorem Rep.seg {w : World} {L : Lay} (h : Rep w L A) (hs : A.seg p = some s) : SegAt w (L.sg p) L.bm (segM L p s) := h.all (.seg p) s hs

theorem SgGood.run (h : SgGood A p s) (k : Nat) : ∀ a, a + k ≤ 16 → (∀ j, j < k → s.T (a + j) = false) → (k : Int) ≤ (s.left : Int) := fun a h1 h2 => by
  have := cnt_run s.T 16 a k h1 h2
  rw [← h.left] at this; omega

theorem sys_cut_none (hs : A.seg p = some s) (hsp : SP A) (hpl : PlanOK pl) (ht : takeRow s.T 16 (plSl pl) = none) (w : World) (L : Lay) (h : Rep w L A) :
    Calls Tryz.prog 172 #[ptrV (L.sg p), planV pl] w fun e w' => e = .returned (.tuple #[.pointer none, .int .i64 4]) ∧ Only Nobody w w' := by
  have hg := (hsp.sg p s hs).1
  rcases hpl with ⟨c, hc, e⟩ | ⟨e, h1, h2⟩
  · have hsl : plSl pl = slicesOf c := by unfold plSl; rw [if_neg (by omega), e, Int.toNat_natCast]
    rw [hsl] at ht
    refine (heap_cut_page (L.sg p) c pl w (fun r1 r2 w' => r1 = .pointer none ∧ r2 = .int .i64 4 ∧ Only Nobody w w') e hc fun w1 ho => ?_).mono ?_
    · refine (seg_Page_none L.bm (L.sg p) c (segM L p s) w1 ((h.seg hs).quiet ho) hc (hg.run _) ht).mono ?_
      rintro x w' ⟨rfl, ho2⟩
      exact ⟨_, _, rfl, rfl, rfl, ho.trans ho2⟩
    · rintro x w' ⟨r1, r2, rfl, rfl, rfl, ho⟩
      exact ⟨rfl, ho⟩
  · have hsl : plSl pl = pl.slices := by unfold plSl; rw [if_pos e]
    rw [hsl] at ht
    refine (heap_cut_big (L.sg p) pl.slices pl w (fun r1 r2 w' => r1 = .pointer none ∧ r2 = .int .i64 4 ∧ Only Nobody w w') e rfl fun w1 ho => ?_).mono ?_
    · refine (seg_Big_none L.bm (L.sg p) pl.slices (segM L p s) w1 ((h.seg hs).quiet ho) h1 h2 (hg.run _) ht).mono ?_
      rintro x w' ⟨rfl, ho2⟩
      exact ⟨_, _, rfl, rfl, rfl, ho.trans ho2⟩
    · rintro x w' ⟨r1, r2, rfl, rfl, rfl, ho⟩
      exact ⟨rfl, ho⟩

theorem SP.no_page (hsp : SP A) (hs : A.seg p = some s) {a : Nat} (ha : a < 16) (hf : s.T a = false) : A.page (p * 16 + a) = none := by
  cases e : A.page (p * 16 + a) with
  | none => rfl
  | some g =>
    have h1 := (hsp.sg p s hs).1.own a g ha e 0 (hsp.pgsl e)
    rw [Nat.add_zero] at h1
    unfold Sg.T at hf
    rw [h1] at hf
    simp at hf

theorem sys_cut_some (hs : A.seg p = some s) (hsp : SP A) (hpl : PlanOK pl) (r : Row s.T 16) (ht : takeRow s.T 16 (plSl pl) = some r) (w : World) (L : Lay) (h : Rep w L A) :
    Calls Tryz.prog 172 #[ptrV (L.sg p), planV pl] w fun e w' => ∃ L', e = .returned (.tuple #[ptrV (L'.ow (p * 16 + r.1.1)), .int .i64 0]) ∧ Ste w L A w' L' (A.newPage p s r.1.1 pl) ∧ L'.sg = L.sg := by
  have hg := (hsp.sg p s hs).1
  have h1p := (hsp.sg p s hs).2
  have hT0 : s.T 0 = true := by unfold Sg.T; simp
  obtain ⟨f1, f2, f3⟩ := takeRow_facts ht hT0
  have hsl := hpl.sl
  have hno : A.page (p * 16 + r.1.1) = none := hsp.no_page hs (by omega) (by have := f3 0 (by omega); simpa using this)
  have hrun := hg.run (plSl pl) r.1.1 f2 f3
  have hM : ∀ w1, Only Nobody w w1 → MemAt w1 L.bm L.bb (A.n * 16384) A.f := fun w1 ho => (h.quiet ho).all .mem
  have hpn := hg.pn
  have hfin : p * 16384 + r.1.1 * 1024 + plSl pl * 1024 ≤ A.n * 16384 := by omega
  have hat : r.1.1 < 16 := by omega
  generalize hr : r.1.1 = at_ at *
  have key : ∀ w1 w' bo bp, Only Nobody w w1 → w1.heap.size ≤ bo → w1.heap.size ≤ bp →
      SegAt w' (L.sg p) L.bm { segM L p s with T := setB s.T at_ (plSl pl) true, left := (s.left : Int) - plSl pl, of := setOf (segM L p s).of at_ (plSl pl) (some bo) } → OwnedAt w' bo bp pl.cls at_ (plSl pl) → PageAt w' bp L.bm (pgNew (p * 16384 + at_ * 1024) (plSize pl) (plN pl)) → Only (fun g => g = L.sg p ∨ g = L.sk p ∨ g = L.st p) w1 w' →
      ∃ L', (Value.tuple #[ptrV bo, .int .i64 0]) = (.tuple #[ptrV (L'.ow (p * 16 + at_)), .int .i64 0]) ∧ Ste w L A w' L' (A.newPage p s at_ pl) ∧ L'.sg = L.sg := by
    intro w1 w' bo bp ho hbo hbp hseg hown hpg ho1
    refine ⟨L.newPage (p * 16 + at_) bo bp, by show _ = Value.tuple #[ptrV (upd L.ow (p * 16 + at_) bo (p * 16 + at_)), _]; rw [upd_same], ?_, rfl⟩
    refine Ste.quiet_left ho h (Ste.newPage (h.quiet ho) hs hg hsp.ofk hno hat f1 (by omega) hseg hown ?_ ho1 hbo hbp)
    rw [show (p * 16 + at_) * 1024 = p * 16384 + at_ * 1024 from by omega]
    exact hpg
  rcases hpl with ⟨c, hc, e⟩ | ⟨e, h1, h2⟩
  · have e1 : plSl pl = slicesOf c := by unfold plSl; rw [if_neg (by omega), e, Int.toNat_natCast]
    have e2 : plSize pl = sizeOf c := by unfold plSize; rw [if_neg (by omega), e, Int.toNat_natCast]
    have e3 : plN pl = blocksOf c := by unfold plN; rw [if_neg (by omega), e, Int.toNat_natCast]
    rw [e1, e2, e3, e] at key
    rw [e1] at ht f2 hfin
    refine (heap_cut_page (L.sg p) c pl w (fun r1 r2 w' => ∃ w1 bo bp, r1 = ptrV bo ∧ r2 = .int .i64 0 ∧ Only Nobody w w1 ∧ w1.heap.size ≤ bo ∧ w1.heap.size ≤ bp ∧ SegAt w' (L.sg p) L.bm { segM L p s with T := setB s.T at_ (slicesOf c) true, left := (s.left : Int) - slicesOf c, of := setOf (segM L p s).of at_ (slicesOf c) (some bo) } ∧ OwnedAt w' bo bp c at_ (slicesOf c) ∧ PageAt w' bp L.bm (pgNew (p * 16384 + at_ * 1024) (sizeOf c) (blocksOf c)) ∧ Only (fun g => g = L.sg p ∨ g = L.sk p ∨ g = L.st p) w1 w') e hc fun w1 ho => ?_).mono ?_
    · refine (seg_Page_ok L.bm L.bb (A.n * 16384) (L.sg p) c A.f (segM L p s) w1 (hM w1 ho) ((h.seg hs).quiet ho) hc (hg.run _) r ht at_ (p * 16384 + at_ * 1024) hr rfl f2 (by omega) (by omega)).mono ?_
      rintro x w' ⟨bo, bp, hbo, hbp, rfl, hseg, hown, hpg, ho2⟩
      exact ⟨_, _, rfl, w1, bo, bp, rfl, rfl, ho, hbo, hbp, hseg, hown, hpg, ho2⟩
    · rintro x w' ⟨r1, r2, rfl, w1, bo, bp, rfl, rfl, ho, hbo, hbp, hseg, hown, hpg, ho2⟩
      obtain ⟨L', hv, hst, hsg⟩ := key w1 w' bo bp ho hbo hbp hseg hown hpg ho2
      exact ⟨L', by rw [hv], hst, hsg⟩
  · have e1 : plSl pl = pl.slices := by unfold plSl; rw [if_pos e]
    have e2 : plSize pl = pl.slices * 1024 := by unfold plSize; rw [if_pos e]
    have e3 : plN pl = 1 := by unfold plN; rw [if_pos e]
    rw [e1, e2, e3, e] at key
    rw [e1] at ht f2 hfin
    refine (heap_cut_big (L.sg p) pl.slices pl w (fun r1 r2 w' => ∃ w1 bo bp, r1 = ptrV bo ∧ r2 = .int .i64 0 ∧ Only Nobody w w1 ∧ w1.heap.size ≤ bo ∧ w1.heap.size ≤ bp ∧ SegAt w' (L.sg p) L.bm { segM L p s with T := setB s.T at_ pl.slices true, left := (s.left : Int) - pl.slices, of := setOf (segM L p s).of at_ pl.slices (some bo) } ∧ OwnedAt w' bo bp (-1) at_ pl.slices ∧ PageAt w' bp L.bm (pgNew (p * 16384 + at_ * 1024) (pl.slices * 1024) 1) ∧ Only (fun g => g = L.sg p ∨ g = L.sk p ∨ g = L.st p) w1 w') e rfl fun w1 ho => ?_).mono ?_
    · refine (seg_Big_ok L.bm L.bb (A.n * 16384) (L.sg p) pl.slices A.f (segM L p s) w1 (hM w1 ho) ((h.seg hs).quiet ho) h1 h2 (hg.run _) r ht at_ (p * 16384 + at_ * 1024) hr rfl f2 (by omega) (by omega)).mono ?_
      rintro x w' ⟨bo, bp, hbo, hbp, rfl, hseg, hown, hpg, ho2⟩
      exact ⟨_, _, rfl, w1, bo, bp, rfl, rfl, ho, hbo, hbp, hseg, hown, hpg, ho2⟩
    · rintro x w' ⟨r1, r2, rfl, w1, bo, bp, rfl, rfl, ho, hbo, hbp, hseg, hown, hpg, ho2⟩
      obtain ⟨L', hv, hst, hsg⟩ := key w1 w' bo bp ho hbo hbp hseg hown hpg ho2
      exact ⟨L', by rw [hv], hst, hsg⟩
end
end Go.Proofs.YtfplalgoopkmaaaGreat
