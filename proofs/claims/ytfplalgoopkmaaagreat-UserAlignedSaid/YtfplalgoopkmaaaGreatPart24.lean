/- A block is given back, over the whole state. Segments of the arena, over the whole state. Conditions: none. -/
import Derived.Test.YtfplalgoopkmaaaGreatPart23

set_option linter.unusedVariables false
set_option linter.unusedSimpArgs false

namespace Go.Proofs.YtfplalgoopkmaaaGreat
open Go.RowKit

/-- A block that is made, of a page. -/
def IsBlock (k : Nat) (p : Pg) (a : Nat) : Prop := ∃ i, i < p.made ∧ a = k * 1024 + i * p.size
def Pg.give (p : Pg) (a : Nat) : Pg := { p with loc := a :: p.loc, used := p.used - 1 }

theorem PgGood.runIndex {n k a : Nat} {f : Nat → Nat} {p : Pg} (h : PgGood n f k p) (hb : IsBlock k p a) : ∃ i, runIndex (k * 1024) p.size p.n a = (i, 0) ∧ i < p.made := by
  obtain ⟨i, hi, rfl⟩ := hb
  have hs := h.shape.facts
  have hm := h.made
  have h1 : (i + 1) * p.size ≤ p.n * p.size := Nat.mul_le_mul_right _ (by omega)
  rw [Nat.add_mul] at h1
  refine ⟨i, ?_, hi⟩
  unfold Go.Proofs.YtfplalgoopkmaaaGreat.runIndex
  rw [if_neg (by omega), show k * 1024 + i * p.size - k * 1024 = i * p.size from by omega, Nat.mul_mod_left, if_neg (by omega), Nat.mul_div_cancel _ (by omega)]

theorem sys_PageFree (A : St) (k a : Nat) (p : Pg) (hp : A.page k = some p) (hg : PgGood A.n A.f k p) (hb : IsBlock k p a) (hu : 1 ≤ p.used) (g : Nat) (w : World) (L : Lay) (h : Rep w L A) (hgb : Blk w g 22 #[.int .u64 a]) :
    Calls Tryz.prog 189 #[ptrV (L.pg k), .slice (some ⟨g, 0, none⟩) 1 1] w fun e w' => e = .returned (.int .i64 0) ∧ Ste w L A w' L (A.setPage k (p.give a) (st8 A.f a (hd p.loc))) := by
  have hP := (h.all (.page k) p hp).2
  have hM : MemAt w L.bm L.bb (A.n * 16384) A.f := h.all .mem
  obtain ⟨i, hi, him⟩ := hg.runIndex hb
  have hbl : 1024 ≤ a ∧ a + 16 ≤ A.n * 16384 := by
    obtain ⟨j, hj, rfl⟩ := hb
    have := hg.block (Nat.lt_of_lt_of_le hj hg.made); omega
  have hl := hg.lens
  refine (page_Free (L.pg k) L.bm L.bb (A.n * 16384) a i g A.f (pgM k p) w hM hP hg.pgOK hgb (by omega) (by omega) hi him hu).mono ?_
  rintro e w' ⟨rfl, hm, hpg, ho⟩
  refine ⟨rfl, Ste.page h hp rfl rfl ?_ hm ho⟩
  exact hpg

theorem PgGood.block_lt {n k a : Nat} {f : Nat → Nat} {p : Pg} (h : PgGood n f k p) (hb : IsBlock k p a) : 1024 ≤ a ∧ a + 16 ≤ n * 16384 ∧ a / 16384 = k / 16 ∧ a < 1048576 := by
  obtain ⟨j, hj, rfl⟩ := hb
  have h1 := h.block (Nat.lt_of_lt_of_le hj h.made)
  have h2 := h.k1; have h3 := h.k2; have h4 := h.kn; have h5 := h.n64
  have h6 := h.shape.facts
  have hm := h.made
  have h7 : (j + 1) * p.size ≤ p.n * p.size := Nat.mul_le_mul_right _ (by omega)
  rw [Nat.add_mul] at h7
  have hk := Nat.div_add_mod k 16
  refine ⟨by omega, by omega, ?_, by omega⟩
  omega

/-- The page is found at each of its blocks. -/
theorem SP.find_block {A : St} {k a : Nat} (h : SP A) {g : Pg} (hg : A.page k = some g) (hb : IsBlock k g a) {segs : List Nat} (hm : k / 16 ∈ segs) : A.findIn segs a = some k := by
  have hgd := (h.pg k g hg).1
  obtain ⟨s, hs, ho⟩ := h.first hg
  obtain ⟨_, _, h1, _⟩ := hgd.block_lt hb
  obtain ⟨j, hj, rfl⟩ := hb
  have h2 := hgd.k1; have h3 := hgd.k2
  have h6 := hgd.shape.facts
  have hmd := hgd.made
  have h7 : (j + 1) * g.size ≤ g.n * g.size := Nat.mul_le_mul_right _ (by omega)
  rw [Nat.add_mul] at h7
  have hk := Nat.div_add_mod k 16
  have hof : s.of ((k * 1024 + j * g.size) / 1024 % 16) = some (k % 16) := by
    have := (h.sg _ s hs).1.own (k % 16) g (by omega) (by rw [show k / 16 * 16 + k % 16 = k from by omega]; exact hg) ((k * 1024 + j * g.size) / 1024 % 16 - k % 16) (by omega)
    rw [show k % 16 + ((k * 1024 + j * g.size) / 1024 % 16 - k % 16) = (k * 1024 + j * g.size) / 1024 % 16 from by omega] at this
    exact this
  unfold St.findIn
  rw [h1, if_pos hm, hs]
  simp only [Option.bind_some, hof, Option.map_some]
  congr 1; omega

/-- What Wake does. -/
def Hp.woken (h : Hp) (c k : Nat) : Hp := if k ∈ h.FL c then h.wake c k else h
def St.given (A : St) (t k a : Nat) (p : Pg) : St := (A.setPage k (p.give a) (st8 A.f a (hd p.loc))).setHeap t ((A.heap t).woken (rowIx p.cls) k)
theorem St.setHeap_self (A : St) (t : Nat) : A.setHeap t (A.heap t) = A := by
  unfold St.setHeap
  have : upd A.heap t (A.heap t) = A.heap := by funext u; unfold upd; by_cases e : u = t <;> simp [e]
  rw [this]

set_option maxHeartbeats 2000000 in
/-- Free, by what tidy does. -/
theorem sys_Free (A A3 : St) (t k a : Nat) (p : Pg) (ht : t < 8) (hsp : SP A) (hhp : HP A t) (hp : A.page k = some p) (hm : k / 16 ∈ (A.heap t).segs) (hb : IsBlock k p a) (hu : 1 ≤ p.used)
    (htidy : ∀ w L, Rep w L (A.given t k a p) → Calls Tryz.prog 191 #[ptrV (L.hp t), ptrV (L.sg (k / 16)), ptrV (L.ow k)] w fun e w' => ∃ L', e = .returned (.tuple #[]) ∧ Ste w L (A.given t k a p) w' L' A3) :
    SysCalls 159 (fun L => #[ptrV (L.hp t), .int .u64 a]) A (fun _ => .int .i64 0) A3 := by
  intro w L h
  have hgd := (hsp.pg k p hp).1
  obtain ⟨b1, b2, b3, b4⟩ := hgd.block_lt hb
  have hfind := sys_find A t a ht hhp.live b4 w L h
  rw [findV_some (hsp.find_block hp hb hm), b3] at hfind
  have HFD := Lib.hid hfind
  have hcls := hgd.shape.facts
  have hri : rowIx p.cls < 13 := by unfold rowIx; split <;> omega
  have hown := h.all (.page k) p hp
  obtain ⟨s, hs⟩ := Option.isSome_iff_exists.1 (hsp.pg k p hp).2
  have HPF := Lib.hid (fun w1 g h1 hg => sys_PageFree A k a p hp hgd hb hu g w1 L h1 hg)
  obtain ⟨A1, hA1⟩ : ∃ x, x = A.setPage k (p.give a) (st8 A.f a (hd p.loc)) := ⟨_, rfl⟩
  rw [← hA1] at HPF
  have hA2 : A.given t k a p = A1.setHeap t ((A1.heap t).woken (rowIx p.cls) k) := by rw [hA1]; rfl
  rw [hA2] at htidy
  have hp1 : A1.page k = some (p.give a) := by rw [hA1]; show upd A.page k _ k = _; rw [upd_same]
  have hs1 : A1.seg (k / 16) = some s := by rw [hA1]; exact hs
  have hh1 : A1.heap t = A.heap t := by rw [hA1]; rfl
  have hfew := hhp.few hsp hri
  -- what Wake does
  have HWK : Hid (∀ w1, Rep w1 L A1 → Calls Tryz.prog 190 #[.pointer (some ⟨L.hp t, 2 * rowIx p.cls, none⟩), .int .i64 k] w1 fun e w' => ∃ x L', e = .returned (.int .i64 x) ∧ Ste w1 L A1 w' L' (A1.setHeap t ((A1.heap t).woken (rowIx p.cls) k)) ∧ Kept L L') := Lib.hid (fun w1 h1 => by
    unfold Hp.woken
    by_cases hin : k ∈ (A1.heap t).FL (rowIx p.cls)
    · rw [if_pos hin]
      refine (sys_Wake ht hri hin (by rw [hh1]; omega) w1 L h1).mono ?_
      rintro e w' ⟨L', rfl, hst, hk⟩
      exact ⟨_, L', rfl, hst, hk⟩
    · rw [if_neg hin, St.setHeap_self]
      refine (sys_Wake_none ht hri hin w1 L h1).mono ?_
      rintro e w' ⟨L', rfl, hst, hk⟩
      exact ⟨_, L', rfl, hst, hk⟩)
  have HROW := Lib.hid (fun w => heap_row (L.hp t) p.cls w (by omega) (by omega))
  have HKEY : Hid (∀ w1, Rep w1 L A1 → Calls Tryz.prog 174 #[.pointer (some ⟨L.sg (k / 16), 0, none⟩), .pointer (some ⟨L.ow k, 0, none⟩)] w1 fun e w' => e = .returned (.int .i64 k) ∧ Only Nobody w1 w') := Lib.hid (fun w1 h1 => by
    have hky := heap_key _ _ _ _ _ _ _ _ w1 (h1.all (.seg (k / 16)) s hs1) (h1.all (.page k) _ hp1).1 (by omega)
    refine hky.mono ?_
    rintro e w' ⟨rfl, ho⟩
    refine ⟨?_, ho⟩
    show Ending.returned (.int .i64 ((k / 16 * 16 + k % 16 : Nat) : Int)) = _
    rw [show k / 16 * 16 + k % 16 = k from by omega])
  have HOWN1 : Hid (∀ w1, Rep w1 L A1 → w1.cell? ⟨L.ow k, 1, none⟩ = some (.int .i64 p.cls)) := Lib.hid (fun w1 h1 => (h1.all (.page k) _ hp1).1.cell 1)
  have HOWN2 : Hid (∀ w1 L1, Rep w1 L1 (A1.setHeap t ((A1.heap t).woken (rowIx p.cls) k)) → Kept L L1 → w1.cell? ⟨L.ow k, 1, none⟩ = some (.int .i64 p.cls)) := Lib.hid (fun w1 L1 h1 hk => by
    have := (h1.all (.page k) (p.give a) hp1).1.cell 1
    rw [hk.ow] at this; exact this)
  have HOWN0 : Hid (∀ w1, Only Nobody w w1 → w1.cell? ⟨L.ow k, 0, none⟩ = some (.pointer (some ⟨L.pg k, 0, none⟩))) := Lib.hid (fun w1 ho => ((h.quiet ho).all (.page k) p hp).1.cell 0)
  have HTIDY : Hid (∀ w1 L1, Rep w1 L1 (A1.setHeap t ((A1.heap t).woken (rowIx p.cls) k)) → L1.hp = L.hp → Kept L L1 → Calls Tryz.prog 191 #[.pointer (some ⟨L.hp t, 0, none⟩), .pointer (some ⟨L.sg (k / 16), 0, none⟩), .pointer (some ⟨L.ow k, 0, none⟩)] w1 fun e w' => ∃ L', e = .returned (.tuple #[]) ∧ Ste w1 L1 (A1.setHeap t ((A1.heap t).woken (rowIx p.cls) k)) w' L' A3) := Lib.hid (fun w1 L1 h1 e1 hk => by
    have := htidy w1 L1 h1
    rw [e1, hk.sg, hk.ow] at this
    exact this)
  have HREP := Lib.hid h
  generalize A1.setHeap t ((A1.heap t).woken (rowIx p.cls) k) = A2 at *
  obtain ⟨bh, hbh⟩ : ∃ x, x = L.hp t := ⟨_, rfl⟩
  obtain ⟨bs, hbs⟩ : ∃ x, x = L.sg (k / 16) := ⟨_, rfl⟩
  obtain ⟨bo, hbo⟩ : ∃ x, x = L.ow k := ⟨_, rfl⟩
  obtain ⟨bp, hbp⟩ : ∃ x, x = L.pg k := ⟨_, rfl⟩
  show Calls _ _ #[.pointer (some ⟨L.hp t, 0, none⟩), .int .u64 a] w _
  rw [← hbh] at HFD HWK HROW HTIDY ⊢
  rw [← hbs] at HFD HKEY HTIDY
  rw [← hbo] at HFD HKEY HTIDY HOWN1 HOWN2 HOWN0
  rw [← hbp] at HPF HOWN0
  have hcl := hgd.shape.facts
  generalize p.cls = cls at *
  clear h hgd hfind hown hs htidy hA1 hA2 hp1 hs1 hh1 hfew hbh hbs hbo hbp hsp hhp hp hm hb hu
  go_enter Tryz.func159, Tryz.ntmps159
  go_wp2_with (first | (go_at_call 168; refine HFD.out.mono ?_; rintro e w1 ⟨rfl, ho⟩; have HO1 := Lib.hid ho; have d0 := HOWN0.out w1 ho; clear ho) | (go_at_call 189; refine (HPF.out _ w1.heap.size (HREP.out.quiet (HO1.out.alloc _)) (Blk.new w1 _ _)).mono ?_; rintro e w2 ⟨rfl, hst⟩; have HS2 := Lib.hid ((Ste.refl HREP.out (HO1.out.alloc _)).trans hst); have d1 := HOWN1.out w2 hst.rep; clear hst d0))
  go_region_held3 (fun w' => w'.cell? ⟨bo, 1, none⟩ = some (.int .i64 cls)) (first | exact d1 | exact HOWN2.out _ _ HS4.out.rep HK4.out | exact HOWN1.out _ (HS2.out.rep.quiet HO3.out)) (first | (go_at_call 93; refine (HROW.out _).mono ?_; rintro e wx ⟨rfl, rfl⟩) | (go_at_call 174; refine (HKEY.out _ (HS2.out.rep.quiet ((Only.refl _ _).drew))).mono ?_; rintro e w3 ⟨rfl, ho⟩; have HO3 := Lib.hid (((Only.refl Nobody w2).drew).trans ho); clear ho) | (go_at_call 190; refine (HWK.out _ (HS2.out.rep.quiet HO3.out)).mono ?_; rintro e w4 ⟨x, L4, rfl, hst, hk⟩; have HS4 := Lib.hid (HS2.out.quiet_right HO3.out |>.trans hst); have HK4 := Lib.hid hk; clear hst hk))
  go_wp2_with (first | (go_at_call 191; refine (HTIDY.out _ _ HS4.out.rep ((HS4.out.fix.hp)) HK4.out).mono ?_; rintro e w5 ⟨L5, rfl, hst⟩; have HS5 := Lib.hid (HS4.out.trans hst); clear hst))
  go_ret
  exact ⟨L5, rfl, HS5.out⟩
end Go.Proofs.YtfplalgoopkmaaaGreat

namespace Go.Proofs.YtfplalgoopkmaaaGreat
open Go.RowKit

abbrev Lay.arena (L : Lay) (vr vt : Value) : Lay := { L with vr := vr, vt := vt }
theorem Ste.arena {w w' : World} {L : Lay} {A : St} {ar' : ArenaM} {vr' vt' : Value} (h : Rep w L A) (ho : Only (Foot L A .arena) w w')
    (hn : ArOK w' { L with vr := vr', vt := vt' } ar') (hf1 : ∀ g, vr'.ownBlock = some g → L.vr.ownBlock = some g ∨ w.heap.size ≤ g) (hf2 : ∀ g, vt'.ownBlock = some g → L.vt.ownBlock = some g ∨ w.heap.size ≤ g) :
    Ste w L A w' { L with vr := vr', vt := vt' } (A.setAr ar') ∧ Kept L { L with vr := vr', vt := vt' } := by
  refine ⟨Ste.chg (fun i => i = .arena) h ho (fun x hx _ => ⟨.arena, rfl, hx⟩) ?_ ?_ ?_ ?_ ?_ ⟨rfl, rfl, rfl, rfl, rfl, rfl, rfl, rfl⟩, rfl, rfl, rfl⟩
  · intro i hi hh
    cases i with
    | arena => exact absurd rfl hi
    | sys =>
      obtain ⟨cs, hb, hc⟩ := hh
      exact ⟨cs, hb, hc.lay rfl rfl rfl (fun _ _ => rfl)⟩
    | wld => exact WldOK.lay hh rfl rfl rfl rfl (fun _ _ => rfl)
    | fr i u => exact fun F hF => (hh F hF).lay rfl rfl rfl rfl (fun _ _ => rfl) (fun _ _ => rfl)
    | _ => exact hh
  · intro i x hi hx
    cases i with
    | arena => exact absurd rfl hi
    | _ => exact hx
  · rintro i rfl; exact hn
  · rintro i x rfl hx
    rcases hx with hx | hx | hx | hx | hx
    · exact .inl ⟨.arena, rfl, .inl hx⟩
    · exact .inl ⟨.arena, rfl, .inr (.inl hx)⟩
    · exact .inl ⟨.arena, rfl, .inr (.inr (.inl hx))⟩
    · rcases hf1 x hx with h1 | h1
      · exact .inl ⟨.arena, rfl, .inr (.inr (.inr (.inl h1)))⟩
      · exact .inr h1
    · rcases hf2 x hx with h1 | h1
      · exact .inl ⟨.arena, rfl, .inr (.inr (.inr (.inr h1)))⟩
      · exact .inr h1
  · rintro i j x rfl rfl _ _; rfl

def resV_ (o : Option Nat) : Value := match o with
  | some a => .tuple #[.int .i64 a, .int .i64 0]
  | none => .tuple #[.int .i64 0, .int .i64 4]

theorem RowAt.own_of {w : World} {t : TypeId} {sz n g : Nat} {v : Value} {xs : List Value} (h : RowAt w t sz v n xs) (hg : v.ownBlock = some g) : ∃ cs, Blk w g t cs := by
  rcases h.2 with ⟨rfl, _⟩ | ⟨g', cap, cur, rfl, _, hh, _⟩
  · cases hg
  · injection hg with hg
    subst hg
    exact ⟨cur, hh⟩

theorem arena_of {w : World} {L : Lay} {A : ArenaM} (h : ArOK w L A) : Of w (fun x => x = L.ba ∨ x = L.bk ∨ x = L.bt ∨ L.vr.ownBlock = some x ∨ L.vt.ownBlock = some x) [129, 158, 4, 147] := by
  intro x hx _
  rcases hx with rfl | rfl | rfl | hx | hx
  · exact ⟨_, _, by simp, h.at_.st⟩
  · exact ⟨_, _, by simp, h.at_.marks.st⟩
  · exact ⟨_, _, by simp, h.at_.marks.pl⟩
  · obtain ⟨cs, hb⟩ := RowAt.own_of h.at_.rg hx
    exact ⟨_, cs, by simp, hb⟩
  · rcases h.tb with h0 | ⟨b, o, n, c, cs, hv, hb, _⟩
    · rw [h0] at hx; cases hx
    · rw [hv] at hx; injection hx with hx; subst hx
      exact ⟨_, cs, by simp, hb⟩

/-- Reserve, where nothing was told, and what is given stands behind all regions. -/
theorem sys_Reserve (A : St) (n : Nat) (hg : ArGood A.ar) (h1 : 1 ≤ n) (hn : n ≤ A.ar.segs) (ht : A.ar.told = [])
    (hcase : (A.ar.limit : Int) < A.ar.segs - A.ar.left + n ∨ ∃ r : Row A.ar.T A.ar.segs, takeRow A.ar.T A.ar.segs n = some r ∧ (∀ x ∈ A.ar.regs, x.1 < r.1.1) ∧ A.ar.regs.length < 64) (w : World) (L : Lay) (h : Rep w L A) :
    Calls Tryz.prog 35 #[ptrV (L.ba), .int .i64 n] w fun e w' => ∃ vr' vt', e = .returned (resV_ (A.ar.reserve n).1) ∧ Ste w L A w' (L.arena vr' vt') (A.setAr (A.ar.reserve n).2) ∧ Only (Foot L A .arena) w w' := by
  have hA : ArOK w L A.ar := h.all .arena
  have hl : ∀ a, a + n ≤ A.ar.segs → (∀ j, j < n → A.ar.T (a + j) = false) → (n : Int) ≤ A.ar.left := fun a h2 h3 => by
    have := cnt_run A.ar.T A.ar.segs a n h2 h3
    rw [hg.left]; omega
  have htb : ∀ w', Only (Foot L A .arena) w w' → (∀ g, L.vt.ownBlock = some g → ∀ cs, Blk w g 4 cs → ∃ cs', Blk w' g 4 cs' ∧ cs'.size = cs.size) → (L.vt.ownBlock = none ∨ ∃ b o n c cs, L.vt = .slice (some ⟨b, o, none⟩) n c ∧ Blk w' b 4 cs ∧ o + c ≤ cs.size) := fun w' ho hk => by
    rcases hA.tb with h0 | ⟨b, o, n, c, cs, hv, hb, hc⟩
    · exact .inl h0
    · obtain ⟨cs', hb', hs⟩ := hk b (by rw [hv]; rfl) cs hb
      exact .inr ⟨b, o, n, c, cs', hv, hb', by omega⟩
  by_cases hlim : (A.ar.limit : Int) < A.ar.segs - A.ar.left + n
  · refine (reserve_full L.ba L.bk L.bt L.vr L.vt A.ar n w hA.at_ h1 hn ht hlim (by have := hg.ref; omega)).mono ?_
    rintro e w' ⟨rfl, ha, ho⟩
    have e0 : A.ar.reserve n = (none, { A.ar with told := A.ar.told.tail, refused := A.ar.refused + 1 }) := by
      unfold ArenaM.reserve; rw [if_neg (by omega)]
    have ho2 : Only (Foot L A .arena) w w' := ho.mono fun x hx => .inl hx
    have hvt : ∀ g, L.vt.ownBlock = some g → g ≠ L.ba := fun g hg e => by
      rcases hA.tb with h0 | ⟨b, o, n, c, cs, hv, hb, _⟩
      · rw [h0] at hg; cases hg
      · rw [hv] at hg; injection hg with hg; subst hg; exact hb.ne_ hA.at_.st (by decide) e
    have hst := Ste.arena (vr' := L.vr) (vt' := L.vt) (ar' := { A.ar with told := A.ar.told.tail, refused := A.ar.refused + 1 }) h ho2 ⟨by rw [ht] at ha ⊢; exact ha, hA.ap, htb w' ho2 fun g hg cs hb => ⟨cs, hb.only ho (hvt g hg), rfl⟩⟩ (fun g hg => .inl hg) (fun g hg => .inl hg)
    exact ⟨L.vr, L.vt, by rw [e0]; rfl, by rw [e0]; exact hst.1, ho2⟩
  · obtain ⟨r, hr, hlast, hfew⟩ := hcase.resolve_left hlim
    refine (reserve_ok L.ba L.bk L.bt L.vr L.vt A.ar n w hA.at_ h1 hn ht (by omega) r hr hlast hfew hl).mono ?_
    rintro e w' ⟨vr', rfl, ha, ho, hnw⟩
    have e0 : A.ar.reserve n = (some r.1.1, { A.ar with told := A.ar.told.tail, T := setB A.ar.T r.1.1 n true, left := A.ar.left - n, regs := A.ar.regs.take (regIx A.ar.regs r.1.1) ++ (r.1.1, n) :: A.ar.regs.drop (regIx A.ar.regs r.1.1) }) := by
      unfold ArenaM.reserve; rw [if_pos ⟨by rw [ht]; rfl, by omega⟩, hr]
    have e1 : A.ar.regs.take (regIx A.ar.regs r.1.1) ++ (r.1.1, n) :: A.ar.regs.drop (regIx A.ar.regs r.1.1) = A.ar.regs ++ [(r.1.1, n)] := by
      rw [regIx_last _ _ hlast, List.take_length, List.drop_length]
    have ho2 : Only (Foot L A .arena) w w' := ho.mono fun x hx => by
      rcases hx with hx | hx | hx | hx
      · exact .inl hx
      · exact .inr (.inl hx)
      · exact .inr (.inr (.inl hx))
      · exact .inr (.inr (.inr (.inl hx)))
    have hvt : ∀ g, L.vt.ownBlock = some g → ¬ AS L.ba L.bk L.bt L.vr g := fun g hg hs => by
      rcases hA.tb with h0 | ⟨b, o, n, c, cs, hv, hb, _⟩
      · rw [h0] at hg; cases hg
      · have hgb := hg
        rw [hv] at hg; injection hg with hg; subst hg
        rcases hs with e | e | e | e
        · exact hb.ne_ hA.at_.st (by decide) e
        · exact hb.ne_ hA.at_.marks.st (by decide) e
        · rw [e] at hgb; exact hA.ap hgb
        · obtain ⟨cs2, hb2⟩ := RowAt.own_of hA.at_.rg e
          exact hb.ne_ hb2 (by decide) rfl
    have hvr : ∀ g, vr'.ownBlock = some g → L.vr.ownBlock = some g ∨ w.heap.size ≤ g := fun g hg => by
      rcases hnw with e | ⟨g', e, hle⟩
      · exact .inl (e ▸ hg)
      · rw [e] at hg; injection hg with hg; exact .inr (hg ▸ hle)
    have hst := Ste.arena (vr' := vr') (vt' := L.vt) (ar' := { A.ar with told := A.ar.told.tail, T := setB A.ar.T r.1.1 n true, left := A.ar.left - n, regs := A.ar.regs ++ [(r.1.1, n)] }) h ho2 ⟨by rw [ht] at ha ⊢; exact ha, hA.ap, htb w' ho2 fun g hg cs hb => ⟨cs, hb.only ho (hvt g hg), rfl⟩⟩ hvr (fun g hg => .inl hg)
    exact ⟨vr', L.vt, by rw [e0]; rfl, by rw [e0, e1]; exact hst.1, ho2⟩
abbrev Lay.grow (L : Lay) (t p bs bk bt : Nat) (sv : Value) : Lay := { L with sg := upd L.sg p bs, sk := upd L.sk p bk, st := upd L.st p bt, hS := fun u => if u = t then sv else L.hS u }
abbrev sgNew (t : Nat) : Sg := ⟨fun _ => none, 15, t + 1, 1, 1⟩
def Hp.more (h : Hp) (p : Nat) : Hp := { h with segs := h.segs ++ [p] }
def St.newSeg (A : St) (t p : Nat) : St := { A with seg := upd A.seg p (some (sgNew t)), heap := upd A.heap t ((A.heap t).more p) }

/-- A segment anew, that a heap has. -/
theorem Ste.newSeg {w w' : World} {L : Lay} {A : St} {t p bs bk bt : Nat} {sv : Value} (h : Rep w L A) (ht : t < 8) (hno : A.seg p = none)
    (hlive : ∀ u, u < 8 → Live A u) (hkn : ∀ i, A.sy.kn i = true → (A.seg i).isSome) (hsp : ∀ i u F q, A.fr i u = some F → F.sp = some q → (A.seg q).isSome)
    (hheap : HeapAt w' (L.hp t) L.bm L.ba { heapM L t (A.heap t) with sv := sv, segs := (A.heap t).segs.map L.sg ++ [bs] })
    (hseg : SegAt w' bs L.bm { segNew bk bt p with ow := t + 1, ot := 1, oa := 1 })
    (ho : Only (fun g => g = L.hp t ∨ (L.hS t).ownBlock = some g) w w') (hb1 : w.heap.size ≤ bs) (hb2 : w.heap.size ≤ bk) (hb3 : w.heap.size ≤ bt) (hsv : ∀ g, sv.ownBlock = some g → (L.hS t).ownBlock = some g ∨ w.heap.size ≤ g ∧ g ≠ bs ∧ g ≠ bk ∧ g ≠ bt) :
    Ste w L A w' (L.grow t p bs bk bt sv) (A.newSeg t p) := by
  refine Ste.chg (fun i => i = .heap t ∨ i = .seg p) h ho ?_ ?_ ?_ ?_ ?_ ?_ ⟨rfl, rfl, rfl, rfl, rfl, rfl, rfl, rfl⟩
  · rintro x (rfl | hx) _
    · exact ⟨.heap t, .inl rfl, ht, .inl rfl⟩
    · exact ⟨.heap t, .inl rfl, ht, .inr (.inr hx)⟩
  · intro i hi hh
    cases i with
    | heap u =>
      have e : u ≠ t := fun e => hi (.inl (by rw [e]))
      intro h8
      have h1 := hh h8
      have hm : (A.heap u).segs.map (upd L.sg p bs) = (A.heap u).segs.map L.sg := List.map_congr_left fun q hq => upd_ne _ _ fun e2 => by
        have := hlive u h8 q hq; rw [e2, hno] at this; cases this
      show HeapAt w' (L.hp u) L.bm L.ba ⟨u + 1, L.hR u, L.hF u, (upd A.heap t _ u).L, (upd A.heap t _ u).FL, if u = t then sv else L.hS u, (upd A.heap t _ u).segs.map (upd L.sg p bs)⟩
      rw [upd_ne _ _ e, if_neg e, hm]
      exact h1
    | seg q =>
      have e : q ≠ p := fun e => hi (.inr (by rw [e]))
      intro s hs
      have hs2 : A.seg q = some s := by simpa only [St.newSeg, upd_ne _ _ e] using hs
      show SegAt w' (upd L.sg p bs q) L.bm ⟨upd L.sk p bk q, upd L.st p bt q, s.T, s.left, q, fun i => (s.of i).map fun a => L.ow (q * 16 + a), s.ow, s.ot, s.oa⟩
      rw [upd_ne _ _ e, upd_ne _ _ e, upd_ne _ _ e]
      exact hh s hs2
    | arena => exact ⟨hh.1, hh.2, hh.3⟩
    | sys =>
      obtain ⟨cs, hb, hc⟩ := hh
      exact ⟨cs, hb, hc.lay rfl rfl rfl (fun i hi => upd_ne _ _ fun e => by have := hkn i hi; rw [e, hno] at this; cases this)⟩
    | wld => exact WldOK.lay hh rfl rfl rfl rfl (fun _ _ => rfl)
    | fr i u => exact fun F hF => (hh F hF).lay rfl rfl rfl rfl (fun q hq => upd_ne _ _ fun e => by have := hsp i u F q hF hq; rw [e, hno] at this; cases this) (fun _ _ => rfl)
    | _ => exact hh
  · intro i x hi hx
    cases i with
    | heap u =>
      have e : u ≠ t := fun e => hi (.inl (by rw [e]))
      simp only [Foot, if_neg e] at hx
      exact hx
    | seg q =>
      have e : q ≠ p := fun e => hi (.inr (by rw [e]))
      simp only [Foot, St.newSeg, upd_ne _ _ e] at hx
      exact hx
    | _ => exact hx
  · rintro i (rfl | rfl)
    · intro _
      show HeapAt w' (L.hp t) L.bm L.ba ⟨t + 1, L.hR t, L.hF t, (upd A.heap t _ t).L, (upd A.heap t _ t).FL, if t = t then sv else L.hS t, (upd A.heap t _ t).segs.map (upd L.sg p bs)⟩
      rw [upd_same, if_pos rfl]
      have hm : ((A.heap t).more p).segs.map (upd L.sg p bs) = (A.heap t).segs.map L.sg ++ [bs] := by
        show ((A.heap t).segs ++ [p]).map _ = _
        rw [List.map_append, List.map_cons, List.map_nil, upd_same]
        congr 1
        exact List.map_congr_left fun q hq => upd_ne _ _ fun e2 => by
          have := hlive t ht q hq; rw [e2, hno] at this; cases this
      rw [hm]
      exact hheap
    · intro s hs
      obtain rfl : sgNew t = s := by simpa only [St.newSeg, upd_same, Option.some.injEq] using hs
      have hT : Sg.T (sgNew t) = setB (fun _ => false) 0 1 true := by
        funext i; unfold Sg.T setB
        by_cases e : i = 0
        · subst e; rfl
        · rw [if_neg (by omega)]; simp [e]
      show SegAt w' (upd L.sg p bs p) L.bm ⟨upd L.sk p bk p, upd L.st p bt p, Sg.T (sgNew t), _, p, _, _, _, _⟩
      rw [upd_same, upd_same, upd_same, hT]
      exact hseg
  · rintro i x (rfl | rfl) hx
    · obtain ⟨_, hx⟩ := hx
      rcases hx with hx | hx | hx
      · exact .inl ⟨.heap t, .inl rfl, ht, .inl hx⟩
      · exact .inl ⟨.heap t, .inl rfl, ht, .inr (.inl hx)⟩
      · simp only [if_pos] at hx
        rcases hsv x hx with h1 | h1
        · exact .inl ⟨.heap t, .inl rfl, ht, .inr (.inr h1)⟩
        · exact .inr h1.1
    · have hx2 := hx.2
      simp only [upd_same] at hx2
      rcases hx2 with rfl | rfl | rfl
      · exact .inr hb1
      · exact .inr hb2
      · exact .inr hb3
  · have key : ∀ x, Foot (L.grow t p bs bk bt sv) (A.newSeg t p) (.heap t) x → Foot (L.grow t p bs bk bt sv) (A.newSeg t p) (.seg p) x → False := by
      intro x hi hj
      have hx2 := hj.2
      simp only [upd_same] at hx2
      obtain ⟨_, hi⟩ := hi
      rcases hi with hx | hx | hx
      · have := h.lt (i := .heap t) ⟨ht, .inl hx⟩; rcases hx2 with rfl | rfl | rfl <;> omega
      · have := h.lt (i := .heap t) ⟨ht, .inr (.inl hx)⟩; rcases hx2 with rfl | rfl | rfl <;> omega
      · simp only [if_pos] at hx
        rcases hsv x hx with h1 | h1
        · have := h.lt (i := .heap t) ⟨ht, .inr (.inr h1)⟩; rcases hx2 with rfl | rfl | rfl <;> omega
        · rcases hx2 with e | e | e
          · exact h1.2.1 e
          · exact h1.2.2.1 e
          · exact h1.2.2.2 e
    rintro i j x (rfl | rfl) (rfl | rfl) hi hj
    · rfl
    · exact (key x hi hj).elim
    · exact (key x hj hi).elim
    · rfl
/-- What Grow does to the state. -/
def St.grown (A : St) (t : Nat) : Int × St := match A.ar.reserve 1 with
  | (some p, ar) => (0, (A.setAr ar).newSeg t p)
  | (none, ar) => (4, A.setAr ar)
def ResOK (A : St) (n : Nat) : Prop := ∀ w L, Rep w L A → Calls Tryz.prog 35 #[ptrV (L.ba), .int .i64 n] w fun e w' => ∃ vr' vt', e = .returned (resV_ (A.ar.reserve n).1) ∧ Ste w L A w' (L.arena vr' vt') (A.setAr (A.ar.reserve n).2) ∧ Only (Foot L A .arena) w w'

theorem sys_Grow (A : St) (t : Nat) (ht : t < 8) (h64 : A.n ≤ 64) (hres : ResOK A 1) (hp : ∀ p, (A.ar.reserve 1).1 = some p → p < A.n ∧ A.seg p = none)
    (hlive : ∀ u, u < 8 → Live A u) (hkn : ∀ i, A.sy.kn i = true → (A.seg i).isSome) (hsp : ∀ i u F q, A.fr i u = some F → F.sp = some q → (A.seg q).isSome) (hfew : (A.heap t).segs.length < 64) :
    SysCalls 146 (fun L => #[ptrV (L.hp t)]) A (fun _ => .int .i64 (A.grown t).1) (A.grown t).2 := by
  intro w L h
  have hH := h.hap t ht
  have hM : MemAt w L.bm L.bb (A.n * 16384) A.f := h.all .mem
  have hR := hres w L h
  have hA : ArOK w L A.ar := h.all .arena
  cases hr : A.ar.reserve 1 with
  | mk o ar' =>
    rw [hr] at hR hp
    cases o with
    | none =>
      have e0 : A.grown t = (4, A.setAr ar') := by unfold St.grown; rw [hr]
      refine (heap_Grow_full (L.hp t) L.bm L.ba (heapM L t (A.heap t)) 4 w (fun w' => ∃ L', Ste w L A w' L' (A.setAr ar')) hH (by decide) ?_).mono ?_
      · refine hR.mono ?_
        rintro e w1 ⟨vr', vt', rfl, hst, _⟩
        exact ⟨rfl, _, hst⟩
      · rintro e w' ⟨rfl, L', hst⟩
        exact ⟨L', by rw [e0], by rw [e0]; exact hst⟩
    | some p =>
      obtain ⟨hp1, hp2⟩ := hp p rfl
      have e0 : A.grown t = (0, (A.setAr ar').newSeg t p) := by unfold St.grown; rw [hr]
      refine (heap_Grow_ok (L.hp t) L.bm L.ba L.bb (A.n * 16384) p A.f (heapM L t (A.heap t)) w (Foot L A .arena) [129, 158, 4, 147] (fun w1 => ∃ vr' vt', Ste w L A w1 (L.arena vr' vt') (A.setAr ar')) hH hM ?_ (arena_of hA) (by decide) (by decide) (by decide) (by decide) (by decide) (by omega) (by omega) (by simpa using hfew)).mono ?_
      · refine hR.mono ?_
        rintro e w1 ⟨vr', vt', rfl, hst, ho⟩
        exact ⟨rfl, ⟨vr', vt', hst⟩, ho⟩
      · rintro e w' ⟨rfl, bs, bk, bt, sv', hg⟩
        obtain ⟨w1, ⟨vr', vt', hst⟩, ho1, b1, b2, b3, ho2, hnw⟩ := hg.mid
        have hsgw := hg.heap.sg
        refine ⟨(L.arena vr' vt').grow t p bs bk bt sv', by rw [e0], ?_⟩
        rw [e0]
        refine hst.trans (Ste.newSeg (L := L.arena vr' vt') (A := A.setAr ar') (sv := sv') hst.rep ht hp2 hlive hkn hsp hg.heap hg.seg ho2 b1 b2 b3 fun g hgo => ?_)
        rcases hnw with e | ⟨g', e, hle⟩
        · exact .inl (e ▸ hgo)
        · rw [e] at hgo; injection hgo with hgo; subst hgo
          obtain ⟨cs, hb⟩ := RowAt.own_of hsgw e
          exact .inr ⟨hle, hb.ne_ hg.seg.st (by decide), hb.ne_ hg.seg.marks.st (by decide), hb.ne_ hg.seg.marks.pl (by decide)⟩
end Go.Proofs.YtfplalgoopkmaaaGreat
