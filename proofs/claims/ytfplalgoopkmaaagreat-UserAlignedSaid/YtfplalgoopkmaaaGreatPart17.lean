/- Where the system's state lies in memory; what a change of some parts leaves. What holds of a page that is right, without Go. A page that has no block. Conditions: none. -/
import Derived.Test.YtfplalgoopkmaaaGreatPart01
import Derived.Test.YtfplalgoopkmaaaGreatPart13
import Derived.Test.YtfplalgoopkmaaaGreatPart16
import Derived.Test.YtfplalgoopkmaaaGreatPart07

set_option linter.unusedVariables false
set_option linter.unusedSimpArgs false

namespace Go.Proofs.YtfplalgoopkmaaaGreat
open Go.RowKit

/-- Where all lies. -/
structure Lay where
  bm : Nat
  bb : Nat
  ba : Nat
  bk : Nat
  bt : Nat
  vr : Value
  vt : Value
  bs : Nat
  hp : Nat → Nat
  hR : Nat → Nat → Value
  hF : Nat → Nat → Value
  hS : Nat → Value
  sg : Nat → Nat
  sk : Nat → Nat
  st : Nat → Nat
  ow : Nat → Nat
  pg : Nat → Nat
  bw : Nat
  bth : Nat
  vl : Value
  fr : Bool → Nat → Nat
  fl : Bool → Nat → Value

abbrev pgM (k : Nat) (p : Pg) : PgM := ⟨k * 1024, p.size, p.n, p.made, p.used, hd p.free, p.free.length, hd p.loc, p.loc.length, hd p.post, p.pt, p.pa, hd p.post⟩
abbrev segM (L : Lay) (p : Nat) (s : Sg) : SegM := ⟨L.sk p, L.st p, s.T, s.left, p, fun i => (s.of i).map fun a => L.ow (p * 16 + a), s.ow, s.ot, s.oa⟩
abbrev heapM (L : Lay) (t : Nat) (h : Hp) : HeapM := ⟨t + 1, L.hR t, L.hF t, h.L, h.FL, L.hS t, h.segs.map L.sg⟩
abbrev frM (L : Lay) (t : Nat) (F : Fr) (lv sv iv : Value) : FrM := ⟨L.bs, F.top, F.word, F.tag, t, L.hp t, F.c.kind, F.c.addr, F.c.n, F.c.align, F.c.zero, F.c.force, F.plan, F.st, lv, sv, iv, F.moved, F.r.addr, F.r.err, F.r.steps⟩

structure SysC (cs : Array Value) (L : Lay) (A : Sy) : Prop where
  size : cs.size = 270
  h0 : cs[0]? = some (ptrV L.bm)
  h1 : cs[1]? = some (ptrV L.ba)
  h2 : cs[2]? = some (.int .u64 A.sw)
  h3 : cs[3]? = some (.int .u64 A.stg)
  h4 : cs[4]? = some (.int .i64 A.sa)
  below : ∀ i, i < 64 → cs[5 + i]? = some (.int .i64 (A.below i))
  inn : ∀ i, i < 64 → cs[69 + i]? = some (.bool (A.inn i))
  top : cs[133]? = some (.int .i64 A.top)
  hp : ∀ t, t < 8 → cs[134 + t]? = some (ptrV (L.hp t))
  sg : ∀ i, i < 64 → ∃ o, cs[142 + i]? = some (ownV o) ∧ (A.kn i = true → o = some (L.sg i))
  hu : ∀ i, i < 64 → cs[206 + i]? = some (.int .i64 (A.huge i))

/-- A slice of words. -/
def U64At (w : World) (v : Value) (l : List Nat) : Prop :=
  ∃ a c, v = .slice a l.length c ∧ ((a = none ∧ l = []) ∨ ∃ b o cs, a = some ⟨b, o, none⟩ ∧ Blk w b 22 cs ∧ ∀ i, i < l.length → cs[o + i]? = some (.int .u64 (l.getD i 0)))
abbrev entCells (e : Ent) : List Value := [.int .u64 e.addr, .int .u64 e.n, .int .u64 e.align, .bool e.held]
abbrev thCells (x : Th) (fv : Value) : List Value := [.int .i64 x.is, .int .i64 x.asked.kind, .int .u64 x.asked.addr, .int .u64 x.asked.n, .int .u64 x.asked.align, .bool x.asked.zero, .bool x.asked.force, fv, .int .u64 x.res.addr, .int .i64 x.res.err, .int .i64 x.res.steps, .bool x.has]
def frV_ (L : Lay) (b : Bool) (t : Nat) : Value := if b then ptrV (L.fr false t) else .pointer none
def thsV (L : Lay) (W : Wl) (fs : Nat → Bool) : Array Value := ((List.range W.nth).flatMap fun t => thCells (W.th t) (frV_ L (fs t) t)).toArray

inductive Ix
  | mem | arena | sys
  | heap (t : Nat)
  | seg (p : Nat)
  | page (k : Nat)
  | wld
  | fr (i : Bool) (t : Nat)

def Foot (L : Lay) (A : St) : Ix → Nat → Prop
  | .mem => fun x => x = L.bm ∨ x = L.bb
  | .arena => fun x => x = L.ba ∨ x = L.bk ∨ x = L.bt ∨ L.vr.ownBlock = some x ∨ L.vt.ownBlock = some x
  | .sys => fun x => x = L.bs
  | .heap t => fun x => t < 8 ∧ (x = L.hp t ∨ (∃ c, c < 13 ∧ ((L.hR t c).ownBlock = some x ∨ (L.hF t c).ownBlock = some x)) ∨ (L.hS t).ownBlock = some x)
  | .seg p => fun x => (A.seg p).isSome ∧ (x = L.sg p ∨ x = L.sk p ∨ x = L.st p)
  | .page k => fun x => (A.page k).isSome ∧ (x = L.ow k ∨ x = L.pg k)
  | .wld => fun x => x = L.bw ∨ x = L.bth ∨ L.vl.ownBlock = some x
  | .fr i t => fun x => (A.fr i t).isSome ∧ (x = L.fr i t ∨ (L.fl i t).ownBlock = some x)

structure FrOK (w : World) (L : Lay) (ins : Bool) (i : Bool) (t : Nat) (F : Fr) : Prop where
  t8 : t < 8
  blk : ∃ s o, FrAt w (L.fr i t) (frM L t F (L.fl i t) (ownV s) (ownV o)) ∧ (∀ p, F.sp = some p → s = some (L.sg p)) ∧ (i = false → ins = true → o = some (L.fr true t))
  list : U64At w (L.fl i t) F.list

structure ArOK (w : World) (L : Lay) (A : ArenaM) : Prop where
  at_ : ArenaAt w L.ba L.bk L.bt L.vr L.vt A
  ap : L.vt.ownBlock ≠ some L.bt
  tb : L.vt.ownBlock = none ∨ ∃ b o n c cs, L.vt = .slice (some ⟨b, o, none⟩) n c ∧ Blk w b 4 cs ∧ o + c ≤ cs.size

structure WldOK (w : World) (L : Lay) (A : Wl) (fs : Nat → Bool) : Prop where
  st : Blk w L.bw 57 #[L.vl, ptrV L.bs, .slice (some ⟨L.bth, 0, none⟩) A.nth A.nth]
  led : RowAt w 79 4 L.vl A.led.length (A.led.flatMap entCells)
  ths : Blk w L.bth 112 (thsV L A fs)
  n8 : A.nth ≤ 8

def Holds (w : World) (L : Lay) (A : St) : Ix → Prop
  | .mem => MemAt w L.bm L.bb (A.n * 16384) A.f
  | .arena => ArOK w L A.ar
  | .sys => ∃ cs, Blk w L.bs 101 cs ∧ SysC cs L A.sy
  | .heap t => t < 8 → HeapAt w (L.hp t) L.bm L.ba (heapM L t (A.heap t))
  | .seg p => ∀ s, A.seg p = some s → SegAt w (L.sg p) L.bm (segM L p s)
  | .page k => ∀ p, A.page k = some p → OwnedAt w (L.ow k) (L.pg k) p.cls (k % 16) p.sl ∧ PageAt w (L.pg k) L.bm (pgM k p)
  | .wld => WldOK w L A.wl fun t => (A.fr false t).isSome
  | .fr i t => ∀ F, A.fr i t = some F → FrOK w L (A.fr true t).isSome i t F

theorem RowAt.lt {w : World} {t : TypeId} {sz n g : Nat} {v : Value} {xs : List Value} (h : RowAt w t sz v n xs) (hg : v.ownBlock = some g) : g < w.heap.size := by
  rcases h.2 with ⟨rfl, _⟩ | ⟨g', cap, cur, rfl, _, hh, _⟩
  · cases hg
  · injection hg with hg
    subst hg
    have hb : Blk w g' t cur := hh
    exact hb.lt
theorem ToldAt.lt {w : World} {v : Value} {l : List Bool} {g : Nat} (h : ToldAt w v l) (hl : l ≠ []) (hg : v.ownBlock = some g) : g < w.heap.size := by
  obtain ⟨g', cs, h1, h2⟩ := h.blk hl
  rw [h1] at hg
  injection hg with hg
  subst hg
  exact h2.lt

theorem Foot.lt {w : World} {L : Lay} {A : St} {i : Ix} {x : Nat} (h : Holds w L A i) (hx : Foot L A i x) : x < w.heap.size := by
  cases i with
  | mem =>
    rcases hx with rfl | rfl
    · exact (show MemAt w _ _ _ _ from h).st.lt
    · exact (show MemAt w _ _ _ _ from h).by_.lt
  | arena =>
    have ha : ArOK w L A.ar := h
    rcases hx with rfl | rfl | rfl | hg | hg
    · exact ha.at_.st.lt
    · exact ha.at_.marks.st.lt
    · exact ha.at_.marks.pl.lt
    · exact RowAt.lt ha.at_.rg hg
    · rcases ha.tb with h0 | ⟨b, o, n, c, cs, hv, hb, _⟩
      · rw [h0] at hg; cases hg
      · rw [hv] at hg; injection hg with hg; subst hg; exact hb.lt
  | sys =>
    obtain ⟨cs, hb, _⟩ := h
    have hx : x = L.bs := hx
    subst hx; exact hb.lt
  | heap t =>
    obtain ⟨h8, hx⟩ := hx
    have hh : HeapAt w (L.hp t) L.bm L.ba (heapM L t (A.heap t)) := h h8
    rcases hx with rfl | ⟨c, hc, hg | hg⟩ | hg
    · exact hh.st.lt
    · exact RowAt.lt (hh.rr c hc).1 hg
    · exact RowAt.lt (hh.rf c hc).1 hg
    · exact RowAt.lt hh.sg hg
  | seg p =>
    obtain ⟨hs, hx⟩ := hx
    obtain ⟨s, hs⟩ := Option.isSome_iff_exists.1 hs
    have hh : SegAt w (L.sg p) L.bm (segM L p s) := h s hs
    rcases hx with rfl | rfl | rfl
    · exact hh.st.lt
    · exact hh.marks.st.lt
    · exact hh.marks.pl.lt
  | page k =>
    obtain ⟨hs, hx⟩ := hx
    obtain ⟨s, hs⟩ := Option.isSome_iff_exists.1 hs
    have hh : OwnedAt w (L.ow k) (L.pg k) s.cls (k % 16) s.sl ∧ PageAt w (L.pg k) L.bm (pgM k s) := h s hs
    rcases hx with rfl | rfl
    · exact hh.1.lt
    · exact hh.2.lt
  | wld =>
    have hh : WldOK w L A.wl _ := h
    rcases hx with rfl | rfl | hg
    · exact hh.st.lt
    · exact hh.ths.lt
    · exact RowAt.lt hh.led hg
  | fr i t =>
    obtain ⟨hs, hx⟩ := hx
    obtain ⟨F, hF⟩ := Option.isSome_iff_exists.1 hs
    have hh : FrOK w L (A.fr true t).isSome i t F := h F hF
    rcases hx with rfl | hg
    · obtain ⟨s, o, hb, _⟩ := hh.blk
      exact Blk.lt hb
    · obtain ⟨a, c, hv, ⟨h0, _⟩ | ⟨b, o, cs, h0, hb, _⟩⟩ := hh.list
      · rw [hv, h0] at hg; cases hg
      · rw [hv, h0] at hg; injection hg with hg; subst hg; exact hb.lt

theorem ArenaAt.only {w w' : World} {S : Nat → Prop} {ba bk bt : Nat} {vr vt : Value} {A : ArenaM} (h : ArenaAt w ba bk bt vr vt A) (ho : Only S w w') (h1 : ¬ S ba) (h2 : ¬ S bk) (h3 : ¬ S bt) (h4 : ∀ g, vr.ownBlock = some g → ¬ S g) (h5 : ∀ g, vt.ownBlock = some g → ¬ S g) : ArenaAt w' ba bk bt vr vt A :=
  ⟨h.st.only ho h1, h.marks.only ho h2 h3, RowAt.only h.rg ho h4, h.tl.only ho h5, h.rise, h.few, h.segs1, h.lim, h.ref, h.leq⟩

theorem U64At.only {w w' : World} {S : Nat → Prop} {v : Value} {l : List Nat} (h : U64At w v l) (ho : Only S w w') (hs : ∀ g, v.ownBlock = some g → ¬ S g) : U64At w' v l := by
  obtain ⟨a, c, hv, h0 | ⟨b, o, cs, h0, hb, hc⟩⟩ := h
  · exact ⟨a, c, hv, .inl h0⟩
  · exact ⟨a, c, hv, .inr ⟨b, o, cs, h0, hb.only ho (hs b (by rw [hv, h0]; rfl)), hc⟩⟩

/-- What a change leaves alone holds as it did. -/
theorem Holds.keep {w w' : World} {L : Lay} {A : St} {i : Ix} {S : Nat → Prop} (h : Holds w L A i) (ho : Only S w w') (hS : ∀ x, Foot L A i x → ¬ S x) : Holds w' L A i := by
  cases i with
  | mem => exact MemAt.only (show MemAt w _ _ _ _ from h) ho (hS _ (.inl rfl)) (hS _ (.inr rfl))
  | arena =>
    have ha : ArOK w L A.ar := h
    refine ⟨ha.at_.only ho (hS _ (.inl rfl)) (hS _ (.inr (.inl rfl))) (hS _ (.inr (.inr (.inl rfl)))) (fun g hg => hS g (.inr (.inr (.inr (.inl hg))))) (fun g hg => hS g (.inr (.inr (.inr (.inr hg))))), ha.ap, ?_⟩
    rcases ha.tb with h0 | ⟨b, o, n, c, cs, hv, hb, hc⟩
    · exact .inl h0
    · exact .inr ⟨b, o, n, c, cs, hv, hb.only ho (hS b (.inr (.inr (.inr (.inr (by rw [hv]; rfl)))))), hc⟩
  | sys =>
    obtain ⟨cs, hb, hc⟩ := h
    exact ⟨cs, hb.only ho (hS _ rfl), hc⟩
  | heap t =>
    intro h8
    exact HeapAt.only (h h8) ho (hS _ ⟨h8, .inl rfl⟩) (fun g ⟨c, hc, hg⟩ => hS g ⟨h8, .inr (.inl ⟨c, hc, hg⟩)⟩) (fun g hg => hS g ⟨h8, .inr (.inr hg)⟩)
  | seg p =>
    intro s hs
    have h1 : (A.seg p).isSome := by rw [hs]; rfl
    exact SegAt.only (h s hs) ho (hS _ ⟨h1, .inl rfl⟩) (hS _ ⟨h1, .inr (.inl rfl)⟩) (hS _ ⟨h1, .inr (.inr rfl)⟩)
  | page k =>
    intro p hp
    have h1 : (A.page k).isSome := by rw [hp]; rfl
    exact ⟨Blk.only (h p hp).1 ho (hS _ ⟨h1, .inl rfl⟩), Blk.only (h p hp).2 ho (hS _ ⟨h1, .inr rfl⟩)⟩
  | wld =>
    have hh : WldOK w L A.wl _ := h
    exact ⟨hh.st.only ho (hS _ (.inl rfl)), RowAt.only hh.led ho (fun g hg => hS g (.inr (.inr hg))), hh.ths.only ho (hS _ (.inr (.inl rfl))), hh.n8⟩
  | fr i t =>
    intro F hF
    have h1 : (A.fr i t).isSome := by rw [hF]; rfl
    have hh : FrOK w L (A.fr true t).isSome i t F := h F hF
    obtain ⟨s, o, hb, h2⟩ := hh.blk
    exact ⟨hh.t8, ⟨s, o, Blk.only hb ho (hS _ ⟨h1, .inl rfl⟩), h2⟩, hh.list.only ho (fun g hg => hS g ⟨h1, .inr hg⟩)⟩

/-- All lies there, each part by itself. -/
structure Rep (w : World) (L : Lay) (A : St) : Prop where
  all : ∀ i, Holds w L A i
  ap : ∀ i j x, Foot L A i x → Foot L A j x → i = j

theorem Rep.lt {w : World} {L : Lay} {A : St} (h : Rep w L A) {i : Ix} {x : Nat} (hx : Foot L A i x) : x < w.heap.size := Foot.lt (h.all i) hx

/-- A change of some parts alone. -/
theorem Rep.chg {w w' : World} {L L' : Lay} {A A' : St} {S : Nat → Prop} (I : Ix → Prop) (h : Rep w L A) (ho : Only S w w')
    (hS : ∀ x, S x → x < w.heap.size → ∃ i, I i ∧ Foot L A i x)
    (hk : ∀ i, ¬ I i → Holds w' L A i → Holds w' L' A' i)
    (hf : ∀ i x, ¬ I i → Foot L' A' i x → Foot L A i x)
    (hn : ∀ i, I i → Holds w' L' A' i)
    (hfn : ∀ i x, I i → Foot L' A' i x → (∃ j, I j ∧ Foot L A j x) ∨ w.heap.size ≤ x)
    (hap : ∀ i j x, I i → I j → Foot L' A' i x → Foot L' A' j x → i = j) : Rep w' L' A' := by
  have key : ∀ i j x, ¬ I i → I j → Foot L' A' i x → Foot L' A' j x → False := fun i j x hi hj h1 h2 => by
    have h1' := hf i x hi h1
    rcases hfn j x hj h2 with ⟨k, hk, h3⟩ | h3
    · exact hi (h.ap i k x h1' h3 ▸ hk)
    · have := h.lt h1'; omega
  refine ⟨fun i => ?_, fun i j x h1 h2 => ?_⟩
  · by_cases hi : I i
    · exact hn i hi
    · refine hk i hi ((h.all i).keep ho fun x hx hs => ?_)
      obtain ⟨j, hj, h3⟩ := hS x hs (h.lt hx)
      exact hi (h.ap i j x hx h3 ▸ hj)
  · by_cases hi : I i <;> by_cases hj : I j
    · exact hap i j x hi hj h1 h2
    · exact (key j i x hj hi h2 h1).elim
    · exact (key i j x hi hj h1 h2).elim
    · exact h.ap i j x (hf i x hi h1) (hf j x hj h2)

/-- Nothing of it changes. -/
theorem Rep.quiet {w w' : World} {L : Lay} {A : St} (h : Rep w L A) (ho : Only Nobody w w') : Rep w' L A :=
  ⟨fun i => (h.all i).keep ho (fun _ _ hs => hs), h.ap⟩

structure Fix (L L' : Lay) : Prop where
  bm : L'.bm = L.bm
  bb : L'.bb = L.bb
  ba : L'.ba = L.ba
  bs : L'.bs = L.bs
  hp : L'.hp = L.hp
  bw : L'.bw = L.bw
  bth : L'.bth = L.bth
  fr : L'.fr = L.fr
theorem Fix.refl (L : Lay) : Fix L L := ⟨rfl, rfl, rfl, rfl, rfl, rfl, rfl, rfl⟩
theorem Fix.trans {L L' L'' : Lay} (h : Fix L L') (k : Fix L' L'') : Fix L L'' := ⟨k.bm.trans h.bm, k.bb.trans h.bb, k.ba.trans h.ba, k.bs.trans h.bs, k.hp.trans h.hp, k.bw.trans h.bw, k.bth.trans h.bth, k.fr.trans h.fr⟩

/-- A step of it: the new state lies there; of what was there, its own blocks alone have changed. -/
structure Ste (w : World) (L : Lay) (A : St) (w' : World) (L' : Lay) (A' : St) : Prop where
  rep : Rep w' L' A'
  only : Only (fun x => ∃ i, Foot L A i x) w w'
  foot : ∀ i x, Foot L' A' i x → (∃ j, Foot L A j x) ∨ w.heap.size ≤ x
  fix : Fix L L'

theorem Ste.trans {w w1 w2 : World} {L L1 L2 : Lay} {A A1 A2 : St} (h : Ste w L A w1 L1 A1) (k : Ste w1 L1 A1 w2 L2 A2) : Ste w L A w2 L2 A2 :=
  ⟨k.rep, h.only.trans_new k.only (fun b hb ⟨i, hi⟩ => by
      rcases h.foot i b hi with hj | hj
      · exact hj
      · omega), fun i x hx => by
      rcases k.foot i x hx with ⟨j, hj⟩ | hj
      · exact h.foot j x hj
      · exact .inr (Nat.le_trans h.only.size hj), h.fix.trans k.fix⟩
theorem Ste.refl {w w' : World} {L : Lay} {A : St} (h : Rep w L A) (ho : Only Nobody w w') : Ste w L A w' L A :=
  ⟨h.quiet ho, ho.mono (fun _ h => h.elim), fun i x hx => .inl ⟨i, hx⟩, Fix.refl L⟩
theorem Ste.quiet_left {w w1 w2 : World} {L L2 : Lay} {A A2 : St} (ho : Only Nobody w w1) (h : Rep w L A) (k : Ste w1 L A w2 L2 A2) : Ste w L A w2 L2 A2 := (Ste.refl h ho).trans k
theorem Ste.quiet_right {w w1 w2 : World} {L L1 : Lay} {A A1 : St} (k : Ste w L A w1 L1 A1) (ho : Only Nobody w1 w2) : Ste w L A w2 L1 A1 := k.trans (Ste.refl k.rep ho)
/-- A change of some parts alone is a step. -/
theorem Ste.chg {w w' : World} {L L' : Lay} {A A' : St} {S : Nat → Prop} (I : Ix → Prop) (h : Rep w L A) (ho : Only S w w')
    (hS : ∀ x, S x → x < w.heap.size → ∃ i, I i ∧ Foot L A i x)
    (hk : ∀ i, ¬ I i → Holds w' L A i → Holds w' L' A' i)
    (hf : ∀ i x, ¬ I i → Foot L' A' i x → Foot L A i x)
    (hn : ∀ i, I i → Holds w' L' A' i)
    (hfn : ∀ i x, I i → Foot L' A' i x → (∃ j, I j ∧ Foot L A j x) ∨ w.heap.size ≤ x)
    (hap : ∀ i j x, I i → I j → Foot L' A' i x → Foot L' A' j x → i = j) (hfix : Fix L L') : Ste w L A w' L' A' :=
  ⟨h.chg I ho hS hk hf hn hfn hap, ⟨ho.os, ho.tape, ho.output, ho.size, fun b hb hn => ho.same b hb (fun hs => hn ((hS b hs hb).elim fun i hi => ⟨i, hi.2⟩))⟩, fun i x hx => by
      by_cases hi : I i
      · rcases hfn i x hi hx with ⟨j, _, hj⟩ | hj
        · exact .inl ⟨j, hj⟩
        · exact .inr hj
      · exact .inl ⟨i, hf i x hi hx⟩, hfix⟩

theorem SysC.lay {cs : Array Value} {L L' : Lay} {s : Sy} (h : SysC cs L s) (h1 : L'.bm = L.bm) (h2 : L'.ba = L.ba) (h3 : L'.hp = L.hp) (h4 : ∀ i, s.kn i = true → L'.sg i = L.sg i) : SysC cs L' s :=
  ⟨h.size, h1 ▸ h.h0, h2 ▸ h.h1, h.h2, h.h3, h.h4, h.below, h.inn, h.top, h3 ▸ h.hp, fun i hi => by
    obtain ⟨o, ho, hk⟩ := h.sg i hi
    exact ⟨o, ho, fun e => by rw [h4 i e]; exact hk e⟩, h.hu⟩
theorem WldOK.lay {w : World} {L L' : Lay} {W : Wl} {fs : Nat → Bool} (h : WldOK w L W fs) (h1 : L'.bw = L.bw) (h2 : L'.bs = L.bs) (h3 : L'.bth = L.bth) (h4 : L'.vl = L.vl) (h5 : ∀ t, fs t = true → L'.fr false t = L.fr false t) : WldOK w L' W fs := by
  refine ⟨by rw [h1, h2, h3, h4]; exact h.st, by rw [h4]; exact h.led, ?_, h.n8⟩
  have e : thsV L' W fs = thsV L W fs := by
    unfold thsV
    congr 2
    funext t
    unfold frV_
    cases e : fs t with
    | true => rw [h5 t e]
    | false => rfl
  rw [h3, e]; exact h.ths
theorem FrOK.lay {w : World} {L L' : Lay} {ins : Bool} {i : Bool} {t : Nat} {F : Fr} (h : FrOK w L ins i t F) (h1 : L'.bs = L.bs) (h2 : L'.hp t = L.hp t) (h3 : L'.fr i t = L.fr i t) (h4 : L'.fl i t = L.fl i t) (h5 : ∀ p, F.sp = some p → L'.sg p = L.sg p) (h6 : i = false → ins = true → L'.fr true t = L.fr true t) : FrOK w L' ins i t F := by
  obtain ⟨s, o, hb, hs, ho⟩ := h.blk
  refine ⟨h.t8, ⟨s, o, ?_, fun p hp => by rw [h5 p hp]; exact hs p hp, fun hi hn => by rw [h6 hi hn]; exact ho hi hn⟩, by rw [h4]; exact h.list⟩
  rw [h3, h4]
  show Blk w _ _ (frV ⟨L'.bs, F.top, F.word, F.tag, t, L'.hp t, F.c.kind, F.c.addr, F.c.n, F.c.align, F.c.zero, F.c.force, F.plan, F.st, L.fl i t, ownV s, ownV o, F.moved, F.r.addr, F.r.err, F.r.steps⟩)
  rw [h1, h2]
  exact hb

/-- No object is another one. -/
structure Kept (L L' : Lay) : Prop where
  ow : L'.ow = L.ow
  pg : L'.pg = L.pg
  sg : L'.sg = L.sg
theorem Kept.refl (L : Lay) : Kept L L := ⟨rfl, rfl, rfl⟩
theorem Kept.trans {L L' L'' : Lay} (h : Kept L L') (k : Kept L' L'') : Kept L L'' := ⟨k.ow.trans h.ow, k.pg.trans h.pg, k.sg.trans h.sg⟩
/-- A call that does a step of the state, with the objects that were. -/
def SysCallsK (K : Nat) (args : Lay → Array Value) (A : St) (v : Lay → Value) (A' : St) : Prop :=
  ∀ w L, Rep w L A → Calls Tryz.prog K (args L) w fun e w' => ∃ L', e = .returned (v L') ∧ Ste w L A w' L' A' ∧ Kept L L'
/-- A call that does a step of the state. -/
def SysCalls (K : Nat) (args : Lay → Array Value) (A : St) (v : Lay → Value) (A' : St) : Prop :=
  ∀ w L, Rep w L A → Calls Tryz.prog K (args L) w fun e w' => ∃ L', e = .returned (v L') ∧ Ste w L A w' L' A'
theorem SysCallsK.plain {K : Nat} {args : Lay → Array Value} {A : St} {v : Lay → Value} {A' : St} (h : SysCallsK K args A v A') : SysCalls K args A v A' :=
  fun w L hr => (h w L hr).mono fun _ _ ⟨L', h1, h2, _⟩ => ⟨L', h1, h2⟩
end Go.Proofs.YtfplalgoopkmaaaGreat

namespace Go.Proofs.YtfplalgoopkmaaaGreat

/-- What kind of page: of a class, or of one block alone. -/
def PgShape (p : Pg) : Prop := (∃ c : Nat, c < 12 ∧ p.cls = c ∧ p.size = sizeOf c ∧ p.n = blocksOf c ∧ p.sl = slicesOf c) ∨ (p.cls = -1 ∧ 1 ≤ p.sl ∧ p.sl ≤ 15 ∧ p.size = p.sl * 1024 ∧ p.n = 1)
structure PgGood (n : Nat) (f : Nat → Nat) (k : Nat) (p : Pg) : Prop where
  n64 : n ≤ 64
  k1 : 1 ≤ k % 16
  k2 : k % 16 + p.sl ≤ 16
  kn : k / 16 < n
  shape : PgShape p
  made : p.made ≤ p.n
  lf : Linked f p.free
  ll : Linked f p.loc
  lp : Linked f p.post
  mem : ∀ a, a ∈ p.free ∨ a ∈ p.loc ∨ a ∈ p.post → ∃ i, i < p.made ∧ a = k * 1024 + i * p.size
  nd : (p.free ++ p.loc ++ p.post).Nodup
  used : p.used + p.free.length + p.loc.length = p.made
  pu : p.post.length ≤ p.used
  pt : p.pt ≤ 100000000000
  pa : p.pa ≤ 100000000000

theorem PgShape.facts {p : Pg} (h : PgShape p) : 16 ≤ p.size ∧ p.size ≤ 15360 ∧ 1 ≤ p.n ∧ p.n ≤ 64 ∧ p.n * p.size ≤ p.sl * 1024 ∧ 1 ≤ p.sl ∧ p.sl ≤ 15 ∧ -1 ≤ p.cls ∧ p.cls < 12 := by
  rcases h with ⟨c, hc, h1, h2, h3, h4⟩ | ⟨h1, h2, h3, h4, h5⟩
  · have := class_facts hc
    rw [h1, h2, h3, h4]
    refine ⟨by omega, by omega, by omega, by omega, by omega, by omega, by omega, by omega, by omega⟩
  · rw [h1, h4, h5]
    refine ⟨by omega, by omega, by omega, by omega, by omega, by omega, by omega, by omega, by omega⟩

section
variable {n k : Nat} {f : Nat → Nat} {p : Pg}
theorem PgGood.runOK (h : PgGood n f k p) : RunOK (k * 1024) p.size p.n := by
  have := h.shape.facts
  have h1 := h.k1; have h2 := h.k2; have h3 := h.kn; have h4 := h.n64
  have hk := Nat.div_add_mod k 16
  refine ⟨by omega, by omega, by omega, ?_⟩
  have : k * 1024 + p.sl * 1024 ≤ 1048576 := by omega
  omega
theorem PgGood.fin (h : PgGood n f k p) : k * 1024 + p.n * p.size ≤ n * 16384 := by
  have := h.shape.facts
  have h1 := h.k1; have h2 := h.k2; have h3 := h.kn; have h4 := h.n64
  have hk := Nat.div_add_mod k 16
  omega
theorem PgGood.from1 (h : PgGood n f k p) : 1 ≤ k * 1024 := by
  have h1 := h.k1
  have hk := Nat.div_add_mod k 16
  omega
/-- A block that is made lies within. -/
theorem PgGood.block (h : PgGood n f k p) {i : Nat} (hi : i < p.n) : 1024 ≤ k * 1024 + i * p.size ∧ k * 1024 + i * p.size + p.size ≤ n * 16384 ∧ k * 1024 + i * p.size + 16 ≤ n * 16384 := by
  have hf := h.shape.facts
  have hfin := h.fin
  have h1 := h.k1
  have hk := Nat.div_add_mod k 16
  have hm : (i + 1) * p.size ≤ p.n * p.size := Nat.mul_le_mul_right _ (by omega)
  rw [Nat.add_mul] at hm
  omega
theorem PgGood.mem_lt (h : PgGood n f k p) {a : Nat} (ha : a ∈ p.free ∨ a ∈ p.loc ∨ a ∈ p.post) : 1024 ≤ a ∧ a + p.size ≤ n * 16384 ∧ a + 16 ≤ n * 16384 := by
  obtain ⟨i, hi, rfl⟩ := h.mem a ha
  exact h.block (Nat.lt_of_lt_of_le hi h.made)
theorem PgGood.lens (h : PgGood n f k p) : p.free.length ≤ 64 ∧ p.loc.length ≤ 64 ∧ p.used ≤ 64 ∧ p.made ≤ 64 ∧ p.post.length ≤ 64 := by
  have := h.shape.facts
  have := h.made; have := h.used; have := h.pu
  omega
theorem PgGood.hd_lt (h : PgGood n f k p) : hd p.free < 1048576 ∧ hd p.loc < 1048576 ∧ hd p.post < 1048576 := by
  have h4 := h.n64
  refine ⟨?_, ?_, ?_⟩
  · cases e : p.free with
    | nil => simp [hd]
    | cons a r => have := h.mem_lt (a := a) (.inl (by rw [e]; simp)); simp [hd]; omega
  · cases e : p.loc with
    | nil => simp [hd]
    | cons a r => have := h.mem_lt (a := a) (.inr (.inl (by rw [e]; simp))); simp [hd]; omega
  · cases e : p.post with
    | nil => simp [hd]
    | cons a r => have := h.mem_lt (a := a) (.inr (.inr (by rw [e]; simp))); simp [hd]; omega
end
theorem blocksFrom_cons {fr sz i k : Nat} (h : 1 ≤ k) : ∃ r, blocksFrom fr sz i k = (fr + i * sz) :: r ∧ r = blocksFrom fr sz (i + 1) (k - 1) ∧ r.length = k - 1 := by
  obtain ⟨k, rfl⟩ : ∃ j, k = j + 1 := ⟨k - 1, by omega⟩
  exact ⟨_, rfl, by simp, by rw [blocksFrom_length]; omega⟩
/-- Memory behind i pushes at most changes those blocks' words. -/
theorem pushN_far (fr sz made i : Nat) (x : (Nat → Nat) × Nat) (b : Nat) (hs : 8 ≤ sz) (h : b + 8 ≤ fr + made * sz ∨ fr + (made + i) * sz ≤ b) : ld8 (pushN fr sz made i x).1 b = ld8 x.1 b := by
  induction i generalizing x with
  | zero => rfl
  | succ i ih =>
    show ld8 (pushN fr sz made i _).1 b = _
    have hm : (made + (i + 1)) * sz = (made + i) * sz + sz := by rw [← Nat.add_assoc, Nat.add_mul]; omega
    have hm2 : made * sz ≤ (made + i) * sz := Nat.mul_le_mul_right _ (by omega)
    rw [ih _ (by omega)]
    exact ld8_st8_other _ _ _ _ (by omega)
theorem hd_blocksFrom (fr sz i k : Nat) (h : 1 ≤ k) : hd (blocksFrom fr sz i k) = fr + i * sz := by
  obtain ⟨r, h1, _⟩ := blocksFrom_cons (fr := fr) (sz := sz) (i := i) h
  rw [h1]; rfl
theorem linked_pushN (fr sz made i : Nat) (f : Nat → Nat) (x : Nat) (hs : 8 ≤ sz) (hx : x < 18446744073709551616) (hb : fr + (made + i) * sz < 18446744073709551616) :
    ∀ j, j < i → ld8 (pushN fr sz made i (f, x)).1 (fr + (made + j) * sz) = if j + 1 = i then x else fr + (made + (j + 1)) * sz := by
  induction i generalizing f x with
  | zero => intro j hj; omega
  | succ i ih =>
    intro j hj
    have hm : (made + (i + 1)) * sz = (made + i) * sz + sz := by rw [← Nat.add_assoc, Nat.add_mul]; omega
    show ld8 (pushN fr sz made i (st8 f (fr + (made + i) * sz) x, fr + (made + i) * sz)).1 _ = _
    by_cases e : j = i
    · subst e
      rw [pushN_far _ _ _ _ _ _ hs (by omega), if_pos rfl]
      exact ld8_st8 _ _ _ hx
    · rw [ih _ _ (by omega) (by omega) j (by omega), if_neg (show ¬ j + 1 = i + 1 from by omega)]
      split
      · rename_i h; rw [h]
      · rfl
theorem linked_blocks (fr sz : Nat) (f : Nat → Nat) (i k : Nat) (h : ∀ j, j < k → ld8 f (fr + (i + j) * sz) = if j + 1 = k then 0 else fr + (i + (j + 1)) * sz) : Linked f (blocksFrom fr sz i k) := by
  induction k generalizing i with
  | zero => trivial
  | succ k ih =>
    refine ⟨?_, ih (i + 1) fun j hj => ?_⟩
    · have := h 0 (by omega)
      rw [Nat.add_zero] at this
      rw [this]
      by_cases e : k = 0
      · subst e; rfl
      · rw [if_neg (by omega), hd_blocksFrom _ _ _ _ (by omega)]
    · have := h (j + 1) (by omega)
      rw [show i + 1 + j = i + (j + 1) from by omega, this, show i + 1 + (j + 1) = i + (j + 1 + 1) from by omega]
      by_cases e : j + 1 = k
      · rw [if_pos e, if_pos (by omega)]
      · rw [if_neg e, if_neg (by omega)]
theorem pgAlloc_none {f : Nat → Nat} {k : Nat} {p : Pg} (h : (pgAlloc f k p).1 = none) : pgAlloc f k p = (none, p, f) := by
  unfold pgAlloc at h ⊢
  split at h
  · cases h
  · split at h
    · cases h
    · split at h
      · cases h
      · rfl
end Go.Proofs.YtfplalgoopkmaaaGreat

namespace Go.Proofs.YtfplalgoopkmaaaGreat
open Go.RowKit

theorem page_more_none (bp bm fr size n made used fh fn lh ln pw pt head : Nat) (pa : Int) (w : World) (hp : PageAt w bp bm ⟨fr, size, n, made, used, fh, fn, lh, ln, pw, pt, pa, head⟩) (hmn : made = n) (hn : n ≤ 1024) :
    Calls Tryz.prog 195 #[.pointer (some ⟨bp, 0, none⟩)] w fun e w' =>
      e = .returned (.int .i64 0) ∧ PageAt w' bp bm ⟨fr, size, n, made, used, fh, fn, lh, ln, pw, pt, pa, head⟩ ∧ Only (· = bp) w w' := by
  subst hmn
  have c2 : w.cell? ⟨bp, 2, none⟩ = some (.int .i64 made) := hp.cell 2
  have c3 : w.cell? ⟨bp, 3, none⟩ = some (.int .i64 made) := hp.cell 3
  have f3 := hp.frozen 3
  have HP := Lib.hid hp
  clear hp
  go_enter Tryz.func195, Tryz.ntmps195
  go_wp2
  go_quiet (fail)
  go_wp2
  refine wp_loop_rounds 1 ?_
  rw [rounds_succ]
  go_wp2
  go_ret
  exact ⟨rfl, HP.out.drewN _ |>.set_ 3 _, Only.setAt (S := fun x => x = bp) ((Only.refl _ w).drewN _) rfl _ _⟩

theorem page_Alloc_full (bp bm bb sz : Nat) (f : Nat → Nat) (p : PgM) (w : World) (hm : MemAt w bm bb sz f) (hp : PageAt w bp bm p) (hn : p.n ≤ 1024) (hus : p.used ≤ 1000) (h0 : p.fn = 0) (hl0 : p.ln = 0) (hmn : p.made = p.n) :
    Calls Tryz.prog 169 #[.pointer (some ⟨bp, 0, none⟩)] w fun e w' =>
      e = .returned (.tuple #[.int .u64 0, .int .i64 4]) ∧ PageAt w' bp bm { p with fh := p.lh, fn := 0, lh := 0, ln := 0 } ∧ Only (· = bp) w w' := by
  have HP := Lib.hid hp
  obtain ⟨fr, size, n, made, used, fh, fn, lh, ln, pw, pt, pa, head⟩ := p
  dsimp only at h0 hl0 hmn hn hus ⊢
  subst hl0 h0
  have HMORE := Lib.hid (fun (wx : World) (hp : PageAt wx bp bm ⟨fr, size, n, made, used, lh, 0, 0, 0, pw, pt, pa, head⟩) => page_more_none bp bm fr size n made used lh 0 0 0 pw pt head pa wx hp hmn hn)
  have c7 : w.cell? ⟨bp, 7, none⟩ = some (.int .i64 (0 : Nat)) := HP.out.cell 7
  have c8 : w.cell? ⟨bp, 8, none⟩ = some (.int .u64 lh) := HP.out.cell 8
  have c9 : w.cell? ⟨bp, 9, none⟩ = some (.int .i64 (0 : Nat)) := HP.out.cell 9
  have f6 := HP.out.frozen 6
  have f7 := HP.out.frozen 7
  have f8 := HP.out.frozen 8
  have f9 := HP.out.frozen 9
  have d6 : w.cell? ⟨bp, 6, none⟩ = some (.int .u64 fh) := HP.out.cell 6
  have HPX := Lib.hid ((((HP.out.set_ 6 (.int .u64 lh)).set_ 7 (.int .i64 (0 : Nat))).set_ 8 (.int .u64 0)).set_ 9 (.int .i64 0))
  have HOX : Hid (Only (fun x => x = bp) w _) := Lib.hid ((((Only.refl _ w).setAt (S := fun x => x = bp) (show bp = bp from rfl) 6 (.int .u64 lh)).setAt (S := fun x => x = bp) (show bp = bp from rfl) 7 (.int .i64 (0 : Nat))).setAt (S := fun x => x = bp) (show bp = bp from rfl) 8 (.int .u64 0) |>.setAt (S := fun x => x = bp) (show bp = bp from rfl) 9 (.int .i64 0))
  have HC := Lib.hid (HMORE.out _ HPX.out)
  clear hm hp hmn
  go_enter Tryz.func169, Tryz.ntmps169
  go_wp2_with (first | (go_at_call 195; refine HC.out.mono ?_; rintro e wx ⟨rfl, hp2, ho2⟩; have HPY := Lib.hid hp2; have HOY := Lib.hid (HOX.out.trans ho2); clear hp2 ho2 c7 c8 c9 f6 f7 f8 f9 d6))
  have e7 : ∀ wx, PageAt wx bp bm ⟨fr, size, n, made, used, lh, 0, 0, 0, pw, pt, pa, head⟩ → Calls Tryz.prog 196 #[.pointer (some ⟨bp, 6, none⟩), .pointer (some ⟨bm, 0, none⟩)] wx fun e w' => e = .returned (.tuple #[.int .u64 0, .int .i64 5]) ∧ wx = w' := by
    intro wx hx
    have d7 : wx.cell? ⟨bp, 7, none⟩ = some (.int .i64 (0 : Nat)) := hx.cell 7
    clear hx
    go_enter Tryz.func196, Tryz.ntmps196
    go_wp2
    go_ret2
    exact ⟨rfl, rfl⟩
  have E7 := Lib.hid e7
  clear e7
  go_region_held3 (fun w' => w'.cell? ⟨bp, 5, none⟩ = some (.pointer (some ⟨bm, 0, none⟩))) (first | exact HPY.out.cell 5 | exact HPY.out.drew.cell 5) (first | (go_at_call 196; refine (E7.out _ HPY.out.drew).mono ?_; rintro e w1 ⟨rfl, rfl⟩))
  go_wp2
  go_ret2
  exact ⟨rfl, HPY.out.drew, HOY.out.drew⟩
end Go.Proofs.YtfplalgoopkmaaaGreat
