/- A page of the system: what its calls do to the whole. Conditions: none. -/
import Derived.Test.YtfplalgoopkmaaaGreatPart17

set_option linter.unusedVariables false
set_option linter.unusedSimpArgs false

namespace Go.Proofs.YtfplalgoopkmaaaGreat
open Go.RowKit

/-- A page's fields, and memory, change. -/
theorem Ste.page {w w' : World} {L : Lay} {A : St} {k : Nat} {p p' : Pg} {f' : Nat → Nat} (h : Rep w L A) (hp : A.page k = some p) (h1 : p'.cls = p.cls) (h2 : p'.sl = p.sl) (hb : PageAt w' (L.pg k) L.bm (pgM k p')) (hm : MemAt w' L.bm L.bb (A.n * 16384) f') (ho : Only (fun x => x = L.pg k ∨ x = L.bb) w w') : Ste w L A w' L (A.setPage k p' f') := by
  have hps : (A.page k).isSome := by rw [hp]; rfl
  have hdis : ∀ i j x, Foot L A i x → Foot L A j x → i = j := h.ap
  have hfoot : ∀ i x, Foot L (A.setPage k p' f') i x → Foot L A i x := by
    intro i x hx
    cases i with
    | page j =>
      obtain ⟨h1, h2⟩ := hx
      by_cases e : j = k
      · subst e; exact ⟨hps, h2⟩
      · have : (A.page j).isSome := by have := h1; simp only [St.setPage, upd_ne _ _ e] at this; exact this
        exact ⟨this, h2⟩
    | _ => exact hx
  refine Ste.chg (fun i => i = .mem ∨ i = .page k) h ho ?_ ?_ ?_ ?_ ?_ ?_ (Fix.refl L)
  · rintro x (rfl | rfl) _
    · exact ⟨.page k, .inr rfl, hps, .inr rfl⟩
    · exact ⟨.mem, .inl rfl, .inr rfl⟩
  · intro i hi hh
    cases i with
    | mem => exact absurd (.inl rfl) hi
    | page j =>
      have e : j ≠ k := fun e => hi (.inr (by rw [e]))
      intro q hq
      exact hh q (by simpa only [St.setPage, upd_ne _ _ e] using hq)
    | _ => exact hh
  · exact fun i x _ hx => hfoot i x hx
  · rintro i (rfl | rfl)
    · exact hm
    · intro q hq
      obtain rfl : p' = q := by simpa [St.setPage, upd_same] using hq
      refine ⟨?_, hb⟩
      have := (h.all (.page k) p hp).1
      rw [h1, h2]
      refine Blk.only this ho ?_
      rintro (e | e)
      · exact absurd (this.ne_ (h.all (.page k) p hp).2 (by decide)) (by simp [e])
      · exact Ix.noConfusion (h.ap (.page k) .mem (L.ow k) ⟨hps, .inl rfl⟩ (.inr e))
  · intro i x hi hx
    exact .inl ⟨i, hi, hfoot i x hx⟩
  · exact fun i j x _ _ hi hj => h.ap i j x (hfoot i x hi) (hfoot j x hj)

theorem PgGood.pgOK {n k : Nat} {f : Nat → Nat} {p : Pg} (h : PgGood n f k p) : PgOK (pgM k p) := by
  have hl := h.lens
  have hh := h.hd_lt
  have hs := h.shape.facts
  exact ⟨h.runOK, h.made, by show p.used ≤ 1000; omega, by show p.free.length ≤ 10000; omega, by show p.loc.length ≤ 10000; omega, by show hd p.free < 18446744073709551616; omega, by show hd p.loc < 18446744073709551616; omega, h.from1, by show 8 ≤ p.size; omega⟩

def allocV (o : Option Nat) : Value := match o with
  | some a => .tuple #[.int .u64 a, .int .i64 0]
  | none => .tuple #[.int .u64 0, .int .i64 4]

theorem sys_Alloc (A : St) (k : Nat) (p : Pg) (hp : A.page k = some p) (hg : PgGood A.n A.f k p) :
    SysCallsK 169 (fun L => #[ptrV (L.pg k)]) A (fun _ => allocV (pgAlloc A.f k p).1) (A.setPage k (pgAlloc A.f k p).2.1 (pgAlloc A.f k p).2.2) := by
  intro w L h
  have hP := (h.all (.page k) p hp).2
  have hM : MemAt w L.bm L.bb (A.n * 16384) A.f := h.all .mem
  have hl := hg.lens
  have hb8 : L.pg k ≠ L.bb := fun e => Ix.noConfusion (h.ap (.page k) .mem (L.pg k) ⟨by rw [hp]; rfl, .inr rfl⟩ (.inr e))
  have hbm : L.pg k ≠ L.bm := fun e => Ix.noConfusion (h.ap (.page k) .mem (L.pg k) ⟨by rw [hp]; rfl, .inr rfl⟩ (.inl e))
  cases hf : p.free with
  | cons a r =>
    have hlf := hg.lf
    rw [hf] at hlf
    have ha := hg.mem_lt (a := a) (.inl (by rw [hf]; simp))
    have hc := page_Alloc_free (L.pg k) L.bm L.bb _ A.f (pgM k p) r.length w hM hP hg.pgOK (by show p.free.length = _; rw [hf]; rfl) (by show hd p.free + 8 ≤ _; rw [hf]; show a + 8 ≤ _; omega)
    refine hc.mono ?_
    rintro e w' ⟨rfl, hb, ho⟩
    have e0 : pgAlloc A.f k p = (some a, { p with free := r, used := p.used + 1 }, A.f) := by unfold pgAlloc; rw [hf]
    have ehd : hd p.free = a := by rw [hf]; rfl
    refine ⟨L, ?_, ?_, Kept.refl L⟩
    · rw [e0]; show Ending.returned (.tuple #[.int .u64 (hd p.free), .int .i64 0]) = _; rw [ehd]; rfl
    · rw [e0]
      refine Ste.page h hp rfl rfl ?_ (hM.only ho (fun e => hbm e.symm) (fun e => hb8 e.symm)) (ho.mono fun x hx => .inl hx)
      have : ld8 A.f (hd p.free) = hd r := by rw [ehd]; exact hlf.1
      show Blk w' _ _ _
      rw [this] at hb
      exact hb
  | nil =>
    cases hf2 : p.loc with
    | cons a r =>
      have hll := hg.ll
      rw [hf2] at hll
      have ha := hg.mem_lt (a := a) (.inr (.inl (by rw [hf2]; simp)))
      have hc := page_Alloc_local (L.pg k) L.bm L.bb _ A.f (pgM k p) r.length w hM hP hg.pgOK (by show p.free.length = _; rw [hf]; rfl) (by show p.loc.length = _; rw [hf2]; rfl) (by show hd p.loc + 8 ≤ _; rw [hf2]; show a + 8 ≤ _; omega)
      refine hc.mono ?_
      rintro e w' ⟨rfl, hb, ho⟩
      have e0 : pgAlloc A.f k p = (some a, { p with free := r, loc := [], used := p.used + 1 }, A.f) := by unfold pgAlloc; rw [hf]; simp only [hf2]
      have ehd : hd p.loc = a := by rw [hf2]; rfl
      refine ⟨L, ?_, ?_, Kept.refl L⟩
      · rw [e0]; show Ending.returned (.tuple #[.int .u64 (hd p.loc), .int .i64 0]) = _; rw [ehd]; rfl
      · rw [e0]
        refine Ste.page h hp rfl rfl ?_ (hM.only ho (fun e => hbm e.symm) (fun e => hb8 e.symm)) (ho.mono fun x hx => .inl hx)
        have : ld8 A.f (hd p.loc) = hd r := by rw [ehd]; exact hll.1
        show Blk w' _ _ _
        rw [this] at hb
        exact hb
    | nil =>
      by_cases hmn : p.made < p.n
      · obtain ⟨j, hj⟩ : ∃ j, min 4 (p.n - p.made) = j + 1 := ⟨min 4 (p.n - p.made) - 1, by omega⟩
        have hbl := hg.block hmn
        have hsh := hg.shape.facts
        have h64 := hg.n64
        have hbig : k * 1024 + (p.made + (j + 1)) * p.size < 18446744073709551616 := by
          have h1 : (p.made + (j + 1)) * p.size ≤ p.n * p.size := Nat.mul_le_mul_right _ (by omega)
          have := hg.runOK.fe
          omega
        have hln := linked_pushN (k * 1024) p.size p.made (j + 1) A.f 0 (by omega) (by omega) hbig
        have hpp : pushN (k * 1024) p.size p.made (j + 1) (A.f, 0) = ((pushN (k * 1024) p.size p.made (j + 1) (A.f, 0)).1, k * 1024 + p.made * p.size) := by
          rw [← pushN_head (k * 1024) p.size p.made j (A.f, 0)]
        have hc := page_Alloc_more (L.pg k) L.bm L.bb _ A.f (pgM k p) w hM hP hg.pgOK hg.fin (by show p.free.length = _; rw [hf]; rfl) (by show p.loc.length = _; rw [hf2]; rfl) hmn j hj (pushN (k * 1024) p.size p.made (j + 1) (A.f, 0)).1 (k * 1024 + p.made * p.size) (by show pushN (k * 1024) p.size p.made (j + 1) (A.f, hd p.loc) = _; rw [hf2]; exact hpp) (by omega)
        refine hc.mono ?_
        rintro e w' ⟨rfl, hm, hb, ho⟩
        obtain ⟨r, hr1, hr2, hr3⟩ := blocksFrom_cons (fr := k * 1024) (sz := p.size) (i := p.made) (k := j + 1) (by omega)
        have e0 : pgAlloc A.f k p = (some (k * 1024 + p.made * p.size), { p with free := r, made := p.made + (j + 1), used := p.used + 1 }, (pushN (k * 1024) p.size p.made (j + 1) (A.f, 0)).1) := by unfold pgAlloc; rw [hf, hf2]; simp only [hj, hr1]
        refine ⟨L, by rw [e0]; rfl, ?_, Kept.refl L⟩
        rw [e0]
        refine Ste.page h hp rfl rfl ?_ hm ho
        have h1 : ld8 (pushN (k * 1024) p.size p.made (j + 1) (A.f, 0)).1 (k * 1024 + p.made * p.size) = hd r := by
          have := hln 0 (by omega)
          rw [show p.made + 0 = p.made from rfl] at this
          rw [this, hr2]
          by_cases e : j = 0
          · subst e; rfl
          · rw [if_neg (by omega), hd_blocksFrom _ _ _ _ (by omega)]
        show Blk w' _ _ _
        rw [h1] at hb
        have h2 : r.length = j := by rw [hr3]; rfl
        show Blk w' _ _ (pgV L.bm ⟨k * 1024, p.size, p.n, p.made + (j + 1), p.used + 1, hd r, r.length, hd p.loc, p.loc.length, hd p.post, p.pt, p.pa, hd p.post⟩)
        rw [h2, hf2]
        exact hb
      · have hmn2 : p.made = p.n := Nat.le_antisymm hg.made (by omega)
        have hc := page_Alloc_full (L.pg k) L.bm L.bb _ A.f (pgM k p) w hM hP (by show p.n ≤ 1024; have := hg.shape.facts; omega) (by show p.used ≤ 1000; omega) (by show p.free.length = _; rw [hf]; rfl) (by show p.loc.length = _; rw [hf2]; rfl) hmn2
        refine hc.mono ?_
        rintro e w' ⟨rfl, hb, ho⟩
        have e0 : pgAlloc A.f k p = (none, p, A.f) := by
          unfold pgAlloc; rw [hf, hf2, hmn2, Nat.sub_self]; rfl
        refine ⟨L, by rw [e0]; rfl, ?_, Kept.refl L⟩
        rw [e0]
        refine Ste.page h hp rfl rfl ?_ (hM.only ho (fun e => hbm e.symm) (fun e => hb8 e.symm)) (ho.mono fun x hx => .inl hx)
        have hb2 : Blk w' _ _ (pgV L.bm ⟨k * 1024, p.size, p.n, p.made, p.used, hd p.loc, 0, 0, 0, hd p.post, p.pt, p.pa, hd p.post⟩) := hb
        show Blk w' _ _ (pgV L.bm ⟨k * 1024, p.size, p.n, p.made, p.used, hd p.free, p.free.length, hd p.loc, p.loc.length, hd p.post, p.pt, p.pa, hd p.post⟩)
        rw [hf2] at hb2 ⊢
        rw [hf]
        exact hb2
end Go.Proofs.YtfplalgoopkmaaaGreat
