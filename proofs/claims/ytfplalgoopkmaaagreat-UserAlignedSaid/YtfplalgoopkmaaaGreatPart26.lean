/- A call's frame, over the whole state. What the states do, over the whole state: a block found, or made. What the states do, over the whole state: a page anew, none. Conditions: none. -/
import Derived.Test.YtfplalgoopkmaaaGreatPart24
import Derived.Test.YtfplalgoopkmaaaGreatPart25

set_option linter.unusedVariables false
set_option linter.unusedSimpArgs false

namespace Go.Proofs.YtfplalgoopkmaaaGreat
open Go.RowKit

def updF (g : Bool → Nat → Option Fr) (i : Bool) (t : Nat) (F : Option Fr) : Bool → Nat → Option Fr := fun j u => if j = i ∧ u = t then F else g j u
theorem updF_same (g : Bool → Nat → Option Fr) (i : Bool) (t : Nat) (F : Option Fr) : updF g i t F i t = F := if_pos ⟨rfl, rfl⟩
theorem updF_ne (g : Bool → Nat → Option Fr) {i j : Bool} {t u : Nat} (F : Option Fr) (h : ¬ (j = i ∧ u = t)) : updF g i t F j u = g j u := if_neg h
def St.setFr (A : St) (i : Bool) (t : Nat) (F : Fr) : St := { A with fr := updF A.fr i t (some F) }
def Fr.over (F : Fr) (addr : Nat) (e : Int) : Fr := { F with st := sDone, r := { F.r with addr := addr, err := e } }
def Fr.fills (F : Fr) (addr : Nat) (e : Int) (g : Nat → Nat) : Nat → Nat := if F.c.kind = 1 ∧ F.c.zero = true ∧ e = 0 then fillN g addr F.plan.usable else g
def St.over (A : St) (i : Bool) (t : Nat) (F : Fr) (addr : Nat) (e : Int) : St := { A.setFr i t (F.over addr e) with f := F.fills addr e A.f }

theorem updF_isSome {A : St} {i : Bool} {t : Nat} {F F' : Fr} (hF : A.fr i t = some F) (j : Bool) (u : Nat) : (updF A.fr i t (some F') j u).isSome = (A.fr j u).isSome := by
  by_cases e : j = i ∧ u = t
  · obtain ⟨rfl, rfl⟩ := e; rw [updF_same, hF]; rfl
  · rw [updF_ne _ _ e]

/-- A frame, and memory, change. -/
theorem Ste.frame {w w' : World} {L : Lay} {A : St} {i : Bool} {t : Nat} {F F' : Fr} {f' : Nat → Nat} (h : Rep w L A) (hF : A.fr i t = some F)
    (hn : FrOK w' L (A.fr true t).isSome i t F') (hm : MemAt w' L.bm L.bb (A.n * 16384) f') (ho : Only (fun x => x = L.fr i t ∨ x = L.bb) w w') :
    Ste w L A w' L { A.setFr i t F' with f := f' } := by
  have hs : (A.fr i t).isSome := by rw [hF]; rfl
  have hfo : ∀ j x, Foot L { A.setFr i t F' with f := f' } j x → Foot L A j x := by
    intro j x hx
    cases j with
    | fr j u =>
      obtain ⟨h1, h2⟩ := hx
      exact ⟨by have h1 : (updF A.fr i t (some F') j u).isSome := h1; rw [updF_isSome hF] at h1; exact h1, h2⟩
    | _ => exact hx
  refine Ste.chg (fun j => j = .mem ∨ j = .fr i t) h ho ?_ ?_ (fun j x _ hx => hfo j x hx) ?_ (fun j x hj hx => .inl ⟨j, hj, hfo j x hx⟩) (fun j k x _ _ h1 h2 => h.ap j k x (hfo j x h1) (hfo k x h2)) (Fix.refl L)
  · rintro x (rfl | rfl) _
    · exact ⟨.fr i t, .inr rfl, hs, .inl rfl⟩
    · exact ⟨.mem, .inl rfl, .inr rfl⟩
  · intro j hj hh
    cases j with
    | mem => exact absurd (.inl rfl) hj
    | wld =>
      have e : (fun u => (updF A.fr i t (some F') false u).isSome) = fun u => (A.fr false u).isSome := funext fun u => updF_isSome hF false u
      show WldOK w' L A.wl fun u => (updF A.fr i t (some F') false u).isSome
      rw [e]; exact hh
    | fr j u =>
      have e : ¬ (j = i ∧ u = t) := fun e => hj (.inr (by rw [e.1, e.2]))
      intro G hG
      have hG2 : A.fr j u = some G := by have := hG; simp only [St.setFr, updF_ne _ _ e] at this; exact this
      show FrOK w' L (updF A.fr i t (some F') true u).isSome j u G
      rw [updF_isSome hF]
      exact hh G hG2
    | _ => exact hh
  · rintro j (rfl | rfl)
    · exact hm
    · intro G hG
      obtain rfl : F' = G := by have := hG; simp only [St.setFr, updF_same, Option.some.injEq] at this; exact this
      show FrOK w' L (updF A.fr i t (some F') true t).isSome i t F'
      rw [updF_isSome hF]
      exact hn

theorem Rep.fr {w : World} {L : Lay} {A : St} {i : Bool} {t : Nat} {F : Fr} (h : Rep w L A) (hF : A.fr i t = some F) : FrOK w L (A.fr true t).isSome i t F := h.all (.fr i t) F hF
theorem FrOK.ne {w : World} {L : Lay} {ins i : Bool} {t : Nat} {F : Fr} (h : FrOK w L ins i t F) : (L.fl i t).ownBlock ≠ some (L.fr i t) := by
  obtain ⟨s, o, hb, _⟩ := h.blk
  obtain ⟨a, c, hv, ⟨h0, _⟩ | ⟨b, o2, cs, h0, hb2, _⟩⟩ := h.list
  · rw [hv, h0]; simp [Value.ownBlock]
  · rw [hv, h0]
    intro e
    injection e with e
    exact Blk.ne_ hb2 hb (by decide) e
theorem Rep.sysblk {w : World} {L : Lay} {A : St} (h : Rep w L A) : ∃ cs, Blk w L.bs 101 cs ∧ SysC cs L A.sy := h.all .sys
theorem Rep.mem {w : World} {L : Lay} {A : St} (h : Rep w L A) : MemAt w L.bm L.bb (A.n * 16384) A.f := h.all .mem

/-- The frame's fields change, but its list, segment, and call within. -/
theorem FrOK.chg {w w' : World} {L : Lay} {ins i : Bool} {t : Nat} {F F' : Fr} {s o : Option Nat} (h : FrOK w L ins i t F) (hl : F'.list = F.list) (hs : ∀ p, F'.sp = some p → s = some (L.sg p)) (ho : i = false → ins = true → o = some (L.fr true t)) (hb : FrAt w' (L.fr i t) (frM L t F' (L.fl i t) (ownV s) (ownV o))) {S : Nat → Prop} (hon : Only S w w') (hS : ∀ g, (L.fl i t).ownBlock = some g → ¬ S g) : FrOK w' L ins i t F' :=
  ⟨h.t8, ⟨s, o, hb, hs, ho⟩, by rw [hl]; exact h.list.only hon hS⟩

section
variable {A : St} {i : Bool} {t : Nat} {F : Fr}
theorem sys_over (hF : A.fr i t = some F) (addr : Nat) (e : Int) (ha : e = 0 → addr + F.plan.usable ≤ A.n * 16384 ∧ addr < A.n * 16384) :
    SysCallsK 140 (fun L => #[ptrV (L.fr i t), .int .u64 addr, .int .i64 e]) A (fun _ => .tuple #[]) (A.over i t F addr e) := by
  intro w L h
  have hf := h.fr hF
  obtain ⟨s, o, hb, hs, ho⟩ := hf.blk
  obtain ⟨cs, hcs, hc⟩ := h.sysblk
  refine (fr_over_all (L.fr i t) L.bm L.bb (A.n * 16384) A.f (frM L t F (L.fl i t) (ownV s) (ownV o)) addr e cs w hb hcs hc.h0 h.mem ha).mono ?_
  rintro x w' ⟨rfl, hb2, hm2, ho2⟩
  refine ⟨L, rfl, Ste.frame (F' := F.over addr e) h hF (hf.chg rfl hs ho hb2 ho2 ?_) hm2 ho2, Kept.refl L⟩
  rintro g hg (rfl | rfl)
  · exact hf.ne hg
  · exact Ix.noConfusion (h.ap (.fr i t) .mem L.bb ⟨by rw [hF]; rfl, .inr hg⟩ (.inr rfl))

theorem sys_got_ok (hF : A.fr i t = some F) (addr : Nat) (ha : addr + F.plan.usable ≤ A.n * 16384 ∧ addr < A.n * 16384) :
    SysCallsK 141 (fun L => #[ptrV (L.fr i t), .int .u64 addr, .int .i64 0]) A (fun _ => .bool true) (A.over i t F addr 0) := by
  intro w L h
  have hf := h.fr hF
  obtain ⟨s, o, hb, hs, ho⟩ := hf.blk
  obtain ⟨cs, hcs, hc⟩ := h.sysblk
  refine (fr_got_ok (L.fr i t) L.bm L.bb (A.n * 16384) A.f (frM L t F (L.fl i t) (ownV s) (ownV o)) addr cs w hb hcs hc.h0 h.mem ha).mono ?_
  rintro x w' ⟨rfl, hb2, hm2, ho2⟩
  refine ⟨L, rfl, Ste.frame (F' := F.over addr 0) h hF (hf.chg rfl hs ho hb2 ho2 ?_) hm2 ho2, Kept.refl L⟩
  rintro g hg (rfl | rfl)
  · exact hf.ne hg
  · exact Ix.noConfusion (h.ap (.fr i t) .mem L.bb ⟨by rw [hF]; rfl, .inr hg⟩ (.inr rfl))

def updFl (g : Bool → Nat → Value) (i : Bool) (t : Nat) (v : Value) : Bool → Nat → Value := fun j u => if j = i ∧ u = t then v else g j u
theorem updFl_same (g : Bool → Nat → Value) (i : Bool) (t : Nat) (v : Value) : updFl g i t v i t = v := if_pos ⟨rfl, rfl⟩
theorem updFl_ne (g : Bool → Nat → Value) {i j : Bool} {t u : Nat} (v : Value) (h : ¬ (j = i ∧ u = t)) : updFl g i t v j u = g j u := if_neg h
abbrev Lay.setFl (L : Lay) (i : Bool) (t : Nat) (v : Value) : Lay := { L with fl := updFl L.fl i t v }

/-- The frame changes, and its list is another one. -/
theorem Ste.frList {w w' : World} {L : Lay} {F' : Fr} {s o : Option Nat} {lv : Value} (h : Rep w L A) (hF : A.fr i t = some F) (hs : ∀ p, F'.sp = some p → s = some (L.sg p)) (ho : i = false → (A.fr true t).isSome = true → o = some (L.fr true t))
    (hb : FrAt w' (L.fr i t) (frM L t F' lv (ownV s) (ownV o))) (hl : U64At w' lv F'.list) (hfr : ∀ g, lv.ownBlock = some g → (L.fl i t).ownBlock = some g ∨ w.heap.size ≤ g) (hon : Only (fun x => x = L.fr i t) w w') : Ste w L A w' (L.setFl i t lv) (A.setFr i t F') := by
  have hS : (A.fr i t).isSome := by rw [hF]; rfl
  have hfo : ∀ j x, j ≠ .fr i t → Foot (L.setFl i t lv) (A.setFr i t F') j x → Foot L A j x := by
    intro j x hj hx
    cases j with
    | fr j u =>
      have e : ¬ (j = i ∧ u = t) := fun e => hj (by rw [e.1, e.2])
      obtain ⟨h1, h2⟩ := hx
      have h1 : (updF A.fr i t (some F') j u).isSome := h1
      rw [updF_isSome hF] at h1
      simp only [updFl_ne _ _ e] at h2
      exact ⟨h1, h2⟩
    | _ => exact hx
  refine Ste.chg (fun j => j = .fr i t) h hon ?_ ?_ hfo ?_ ?_ ?_ ⟨rfl, rfl, rfl, rfl, rfl, rfl, rfl, rfl⟩
  · rintro x rfl _
    exact ⟨.fr i t, rfl, hS, .inl rfl⟩
  · intro j hj hh
    cases j with
    | arena => exact ⟨hh.1, hh.2, hh.3⟩
    | sys =>
      obtain ⟨cs, hb, hc⟩ := hh
      exact ⟨cs, hb, hc.lay rfl rfl rfl (fun _ _ => rfl)⟩
    | wld =>
      have e : (fun u => (updF A.fr i t (some F') false u).isSome) = fun u => (A.fr false u).isSome := funext fun u => updF_isSome hF false u
      show WldOK w' (L.setFl i t lv) A.wl fun u => (updF A.fr i t (some F') false u).isSome
      rw [e]; exact WldOK.lay hh rfl rfl rfl rfl (fun _ _ => rfl)
    | fr j u =>
      have e : ¬ (j = i ∧ u = t) := fun e => hj (by rw [e.1, e.2])
      intro G hG
      have hG2 : A.fr j u = some G := by have := hG; simp only [St.setFr, updF_ne _ _ e] at this; exact this
      show FrOK w' (L.setFl i t lv) (updF A.fr i t (some F') true u).isSome j u G
      rw [updF_isSome hF]
      exact (hh G hG2).lay rfl rfl rfl (updFl_ne _ _ e) (fun _ _ => rfl) (fun _ _ => rfl)
    | _ => exact hh
  · rintro j rfl G hG
    obtain rfl : F' = G := by have := hG; simp only [St.setFr, updF_same, Option.some.injEq] at this; exact this
    show FrOK w' (L.setFl i t lv) (updF A.fr i t (some F') true t).isSome i t F'
    rw [updF_isSome hF]
    have e : (L.setFl i t lv).fl i t = lv := updFl_same _ _ _ _
    refine ⟨(h.fr hF).t8, ⟨s, o, ?_, hs, ho⟩, by rw [e]; exact hl⟩
    rw [e]; exact hb
  · rintro j x rfl ⟨_, hx⟩
    rcases hx with hx | hx
    · exact .inl ⟨.fr i t, rfl, hS, .inl hx⟩
    · have e : (L.setFl i t lv).fl i t = lv := updFl_same _ _ _ _
      rw [e] at hx
      rcases hfr x hx with h1 | h1
      · exact .inl ⟨.fr i t, rfl, hS, .inr h1⟩
      · exact .inr h1
  · rintro j k x rfl rfl _ _; rfl

/-- A field of the frame alone changes. -/
theorem Ste.fr1 {w w' : World} {L : Lay} {F' : Fr} {s o : Option Nat} (h : Rep w L A) (hF : A.fr i t = some F) (hl : F'.list = F.list) (hs : ∀ p, F'.sp = some p → s = some (L.sg p)) (ho : i = false → (A.fr true t).isSome = true → o = some (L.fr true t))
    (hb : FrAt w' (L.fr i t) (frM L t F' (L.fl i t) (ownV s) (ownV o))) (hon : Only (fun x => x = L.fr i t) w w') : Ste w L A w' L (A.setFr i t F') := by
  have hm := h.mem
  have hne : ∀ x, (x = L.bm ∨ x = L.bb) → x ≠ L.fr i t := fun x hx e => Ix.noConfusion (h.ap .mem (.fr i t) x hx ⟨by rw [hF]; rfl, .inl e⟩)
  exact Ste.frame h hF ((h.fr hF).chg hl hs ho hb hon (fun g hg e => (h.fr hF).ne (e ▸ hg))) (hm.only hon (hne _ (.inl rfl)) (hne _ (.inr rfl))) (hon.mono fun x hx => .inl hx)
end
end Go.Proofs.YtfplalgoopkmaaaGreat

namespace Go.Proofs.YtfplalgoopkmaaaGreat
open Go.RowKit

/-- What a frame's cells hold. -/
structure FrC (w : World) (bf bs bh me : Nat) (F : Fr) : Prop where
  c0 : w.cell? ⟨bf, 0, none⟩ = some (.pointer (some ⟨bs, 0, none⟩))
  c1 : w.cell? ⟨bf, 1, none⟩ = some (.int .i64 F.top)
  c2 : w.cell? ⟨bf, 2, none⟩ = some (.int .u64 F.word)
  c3 : w.cell? ⟨bf, 3, none⟩ = some (.int .u64 F.tag)
  c4 : w.cell? ⟨bf, 4, none⟩ = some (.int .i64 me)
  c5 : w.cell? ⟨bf, 5, none⟩ = some (.pointer (some ⟨bh, 0, none⟩))
  c6 : w.cell? ⟨bf, 6, none⟩ = some (.int .i64 F.c.kind)
  c7 : w.cell? ⟨bf, 7, none⟩ = some (.int .u64 F.c.addr)
  c8 : w.cell? ⟨bf, 8, none⟩ = some (.int .u64 F.c.n)
  c12 : w.cell? ⟨bf, 12, none⟩ = some (.int .i64 F.plan.cls)
  c13 : w.cell? ⟨bf, 13, none⟩ = some (.int .i64 F.plan.slices)
  c14 : w.cell? ⟨bf, 14, none⟩ = some (.int .i64 F.plan.segs)
  c15 : w.cell? ⟨bf, 15, none⟩ = some (.int .u64 F.plan.usable)
  c16 : w.cell? ⟨bf, 16, none⟩ = some (.string F.st)
  fz : ∀ j, w.frozen? ⟨bf, j, none⟩ = false
theorem Rep.frc {w : World} {L : Lay} {A : St} {i : Bool} {t : Nat} {F : Fr} (h : Rep w L A) (hF : A.fr i t = some F) : FrC w (L.fr i t) L.bs (L.hp t) t F := by
  obtain ⟨s, o, hb, _⟩ := (h.fr hF).blk
  exact ⟨hb.cell 0, hb.cell 1, hb.cell 2, hb.cell 3, hb.cell 4, hb.cell 5, hb.cell 6, hb.cell 7, hb.cell 8, hb.cell 12, hb.cell 13, hb.cell 14, hb.cell 15, hb.cell 16, hb.frozen⟩

theorem localGo_keeps (t c : Nat) : ∀ (l : List Nat) (A : St), (St.localGo t c l A).2.2.fr = A.fr ∧ (St.localGo t c l A).2.2.n = A.n ∧ (St.localGo t c l A).2.2.sy = A.sy ∧ (St.localGo t c l A).2.2.wl = A.wl ∧ (St.localGo t c l A).2.2.ar = A.ar ∧ (St.localGo t c l A).2.2.seg = A.seg := by
  intro l
  induction l with
  | nil => intro A; exact ⟨rfl, rfl, rfl, rfl, rfl, rfl⟩
  | cons k r ih =>
    intro A
    unfold St.localGo
    split
    · exact ⟨rfl, rfl, rfl, rfl, rfl, rfl⟩
    · split
      · exact ⟨rfl, rfl, rfl, rfl, rfl, rfl⟩
      · exact ih _
theorem freshGo_keeps (t : Nat) (pl : Plan) : ∀ (l : List Nat) (A : St), (St.freshGo t pl l A).2.2.fr = A.fr ∧ (St.freshGo t pl l A).2.2.n = A.n ∧ (St.freshGo t pl l A).2.2.sy = A.sy ∧ (St.freshGo t pl l A).2.2.wl = A.wl ∧ (St.freshGo t pl l A).2.2.ar = A.ar := by
  intro l
  induction l with
  | nil => intro A; exact ⟨rfl, rfl, rfl, rfl, rfl⟩
  | cons k r ih =>
    intro A
    unfold St.freshGo
    split
    · exact ih _
    · exact ⟨rfl, rfl, rfl, rfl, rfl⟩

section
variable {A : St} {i : Bool} {t : Nat} {F : Fr}

set_option maxHeartbeats 2000000 in
theorem st_local_ok (hF : A.fr i t = some F) (ht : t < 8) (c : Nat) (hc : c < 12) (hcl : F.plan.cls = c) (hsp : SP A) (hhp : HP A t) (he : (A.local_ t c).2.1 = 0) (ha : (A.local_ t c).1 + F.plan.usable ≤ A.n * 16384 ∧ (A.local_ t c).1 < A.n * 16384) :
    SysCalls 116 (fun L => #[ptrV (L.fr i t)]) A (fun _ => .tuple #[]) ((A.local_ t c).2.2.over i t F (A.local_ t c).1 0) := by
  intro w L h
  have hready : ReadyOK A t c := fun k hk => by
    obtain ⟨g, hg, _, hm⟩ := (hhp.mem c k (by omega)).1 (.inl hk)
    exact ⟨g, hg, (hsp.pg k g hg).1, hsp.find hg hm, (hsp.key hg).2.1⟩
  have hfew := hhp.few hsp (c := c) (by omega)
  have hL := sys_Local A t c ht hc hhp.live hready (by omega)
  obtain ⟨k1, k2, _⟩ := localGo_keeps t c ((A.heap t).L c) A
  have hF1 : (A.local_ t c).2.2.fr i t = some F := by show (St.localGo t c _ A).2.2.fr i t = _; rw [k1]; exact hF
  have hn1 : (A.local_ t c).2.2.n = A.n := k2
  have hG := sys_got_ok hF1 (A.local_ t c).1 (by rw [hn1]; exact ha)
  generalize (A.local_ t c).2.2 = A1 at *
  generalize (A.local_ t c).1 = addr at *
  rw [he] at hL
  have HL : Hid (∀ w0, Only Nobody w w0 → Calls Tryz.prog 142 #[.pointer (some ⟨L.hp t, 0, none⟩), .int .i64 c] w0 fun e w1 => ∃ L1, e = .returned (.tuple #[.int .u64 addr, .int .i64 0]) ∧ Ste w0 L A w1 L1 A1) := Lib.hid fun w0 ho => hL w0 L (h.quiet ho)
  have HG : Hid (∀ w0 L0, Rep w0 L0 A1 → L0.fr i t = L.fr i t → Calls Tryz.prog 141 #[.pointer (some ⟨L.fr i t, 0, none⟩), .int .u64 addr, .int .i64 0] w0 fun e w1 => ∃ L1, e = .returned (.bool true) ∧ Ste w0 L0 A1 w1 L1 (A1.over i t F addr 0) ∧ Kept L0 L1) := Lib.hid fun w0 L0 h0 e => by rw [← e]; exact hG w0 L0 h0
  have hc1 := h.frc hF
  have HREP := Lib.hid h
  have HC : Hid (∀ w1 L1 A', Rep w1 L1 A' → A'.fr i t = some F → L1.fr i t = L.fr i t → L1.hp t = L.hp t → w1.cell? ⟨L.fr i t, 5, none⟩ = some (.pointer (some ⟨L.hp t, 0, none⟩)) ∧ w1.cell? ⟨L.fr i t, 12, none⟩ = some (.int .i64 c)) := Lib.hid fun w1 L1 A' h1 hf e1 e2 => by
    have := h1.frc hf
    rw [e1, e2] at this
    exact ⟨this.c5, by rw [this.c12, hcl]⟩
  have HF1 := Lib.hid hF1
  have HFO : Hid ((A1.over i t F addr 0).fr i t = some (F.over addr 0)) := Lib.hid (updF_same _ _ _ _)
  have c5 := hc1.c5
  have c12 := hc1.c12
  rw [hcl] at c12
  show Calls _ _ #[.pointer (some ⟨L.fr i t, 0, none⟩)] w _
  generalize hbf : L.fr i t = bf at *
  generalize hbh : L.hp t = bh at *
  have HBF := Lib.hid hbf
  have HBH := Lib.hid hbh
  have HFC : Hid (∀ w1 L1, Rep w1 L1 (A1.over i t F addr 0) → L1.fr i t = bf → L1.hp t = bh → w1.cell? ⟨bf, 5, none⟩ = some (.pointer (some ⟨bh, 0, none⟩)) ∧ w1.cell? ⟨bf, 12, none⟩ = some (.int .i64 c)) := Lib.hid fun w1 L1 h1 e1 e2 => by
    have := h1.frc (F := F.over addr 0) (updF_same _ _ _ _)
    rw [e1, e2] at this
    exact ⟨this.c5, by have h2 := this.c12; rw [h2]; show some (Value.int .i64 F.plan.cls) = _; rw [hcl]⟩
  clear h hready hfew hL k1 k2 hF1 hn1 hG hc1 hF hsp hhp he ha hbf hbh hcl
  go_enter Tryz.func116, Tryz.ntmps116
  go_wp2
  go_region_held3 (fun w' => w'.cell? ⟨bf, 5, none⟩ = some (.pointer (some ⟨bh, 0, none⟩)) ∧ w'.cell? ⟨bf, 12, none⟩ = some (.int .i64 c)) (first | exact ⟨c5, c12⟩ | exact HFC.out _ _ HS2.out.rep HE2.out.1 HE2.out.2 | exact HC.out _ _ _ HS1.out.rep HF1.out HE1.out.1 HE1.out.2) (first | (go_at_call 142; refine (HL.out _ ((Only.refl _ w).drew)).mono ?_; rintro e w1 ⟨L1, rfl, hst⟩; have HS1 := Lib.hid hst; have HE1 := Lib.hid (And.intro ((congrFun (congrFun hst.fix.fr i) t).trans HBF.out) ((congrFun hst.fix.hp t).trans HBH.out)); clear hst) | (go_at_call 141; refine (HG.out _ _ HS1.out.rep HE1.out.1).mono ?_; rintro e w2 ⟨L2, rfl, hst, _⟩; have HS2 := Lib.hid hst; have HE2 := Lib.hid (And.intro ((congrFun (congrFun hst.fix.fr i) t).trans HE1.out.1) ((congrFun hst.fix.hp t).trans HE1.out.2)); clear hst))
  go_wp2
  go_end0
  exact ⟨L2, rfl, (Ste.quiet_left ((Only.refl _ w).drew) HREP.out HS1.out).trans HS2.out⟩
end
end Go.Proofs.YtfplalgoopkmaaaGreat

namespace Go.Proofs.YtfplalgoopkmaaaGreat
open Go.RowKit

/-- The cells that a page anew asks. -/
structure Fr5 (w : World) (bf bh : Nat) (p : Plan) : Prop where
  c5 : w.cell? ⟨bf, 5, none⟩ = some (.pointer (some ⟨bh, 0, none⟩))
  c12 : w.cell? ⟨bf, 12, none⟩ = some (.int .i64 p.cls)
  c13 : w.cell? ⟨bf, 13, none⟩ = some (.int .i64 p.slices)
  c14 : w.cell? ⟨bf, 14, none⟩ = some (.int .i64 p.segs)
  c15 : w.cell? ⟨bf, 15, none⟩ = some (.int .u64 p.usable)
theorem FrC.fr5 {w : World} {bf bs bh me : Nat} {F : Fr} (h : FrC w bf bs bh me F) : Fr5 w bf bh F.plan := ⟨h.c5, h.c12, h.c13, h.c14, h.c15⟩

section
variable {A : St} {i : Bool} {t : Nat} {F : Fr}

set_option maxHeartbeats 2000000 in
theorem st_fresh_ok (hF : A.fr i t = some F) (ht : t < 8) (hpl : PlanOK F.plan) (hsp : SP A) (hhp : HP A t) (he : (A.fresh t F.plan).2.1 = 0) (ha : (A.fresh t F.plan).1 + F.plan.usable ≤ A.n * 16384 ∧ (A.fresh t F.plan).1 < A.n * 16384) :
    SysCalls 118 (fun L => #[ptrV (L.fr i t)]) A (fun _ => .tuple #[]) ((A.fresh t F.plan).2.2.over i t F (A.fresh t F.plan).1 0) := by
  intro w L h
  have hL := sys_Fresh A t F.plan ht hsp hhp hpl
  obtain ⟨k1, k2, _⟩ := freshGo_keeps t F.plan (A.heap t).segs A
  have hF1 : (A.fresh t F.plan).2.2.fr i t = some F := by show (St.freshGo t _ _ A).2.2.fr i t = _; rw [k1]; exact hF
  have hn1 : (A.fresh t F.plan).2.2.n = A.n := k2
  have hG := sys_got_ok hF1 (A.fresh t F.plan).1 (by rw [hn1]; exact ha)
  generalize (A.fresh t F.plan).2.2 = A1 at *
  generalize (A.fresh t F.plan).1 = addr at *
  rw [he] at hL
  have HL : Hid (∀ w0, Only Nobody w w0 → Calls Tryz.prog 144 #[.pointer (some ⟨L.hp t, 0, none⟩), planV F.plan] w0 fun e w1 => ∃ L1, e = .returned (.tuple #[.int .u64 addr, .int .i64 0]) ∧ Ste w0 L A w1 L1 A1) := Lib.hid fun w0 ho => hL w0 L (h.quiet ho)
  have HG : Hid (∀ w0 L0, Rep w0 L0 A1 → L0.fr i t = L.fr i t → Calls Tryz.prog 141 #[.pointer (some ⟨L.fr i t, 0, none⟩), .int .u64 addr, .int .i64 0] w0 fun e w1 => ∃ L1, e = .returned (.bool true) ∧ Ste w0 L0 A1 w1 L1 (A1.over i t F addr 0) ∧ Kept L0 L1) := Lib.hid fun w0 L0 h0 e => by rw [← e]; exact hG w0 L0 h0
  have hc1 := (h.frc hF).fr5
  have HREP := Lib.hid h
  have HF1 := Lib.hid hF1
  have hFO : (A1.over i t F addr 0).fr i t = some (F.over addr 0) := updF_same _ _ _ _
  have HFO := Lib.hid hFO
  show Calls _ _ #[.pointer (some ⟨L.fr i t, 0, none⟩)] w _
  generalize hbf : L.fr i t = bf at *
  generalize hbh : L.hp t = bh at *
  have HBF := Lib.hid hbf
  have HBH := Lib.hid hbh
  have HC : Hid (∀ w1 L1 A' F', Rep w1 L1 A' → A'.fr i t = some F' → F'.plan = F.plan → L1.fr i t = bf → L1.hp t = bh → Fr5 w1 bf bh F.plan) := Lib.hid fun w1 L1 A' F' h1 hf ep e1 e2 => by
    have := (h1.frc hf).fr5
    rw [e1, e2, ep] at this
    exact this
  obtain ⟨⟨pc, ps, pn, pu⟩, hpq⟩ : ∃ p, F.plan = p := ⟨_, rfl⟩
  have HPQ := Lib.hid hpq
  rw [hpq] at HC HL hc1
  have c5 := hc1.c5
  have c12 := hc1.c12
  have c13 := hc1.c13
  have c14 := hc1.c14
  have c15 := hc1.c15
  clear h hL k1 k2 hF1 hn1 hG hc1 hF hsp hhp he ha hbf hbh hpl hFO hpq
  go_enter Tryz.func118, Tryz.ntmps118
  go_wp2
  go_region_held3 (fun w' => w'.cell? ⟨bf, 5, none⟩ = some (.pointer (some ⟨bh, 0, none⟩)) ∧ w'.cell? ⟨bf, 12, none⟩ = some (.int .i64 pc) ∧ w'.cell? ⟨bf, 13, none⟩ = some (.int .i64 ps) ∧ w'.cell? ⟨bf, 14, none⟩ = some (.int .i64 pn) ∧ w'.cell? ⟨bf, 15, none⟩ = some (.int .u64 pu)) (first | exact ⟨c5, c12, c13, c14, c15⟩ | exact ⟨HX2.out.c5, HX2.out.c12, HX2.out.c13, HX2.out.c14, HX2.out.c15⟩ | exact ⟨HX1.out.c5, HX1.out.c12, HX1.out.c13, HX1.out.c14, HX1.out.c15⟩) (first | (go_at_call 144; refine (HL.out _ ((Only.refl _ w).drew)).mono ?_; rintro e w1 ⟨L1, rfl, hst⟩; have HS1 := Lib.hid hst; have HE1 := Lib.hid (And.intro ((congrFun (congrFun hst.fix.fr i) t).trans HBF.out) ((congrFun hst.fix.hp t).trans HBH.out)); have HX1 := Lib.hid (HC.out _ _ _ _ hst.rep HF1.out HPQ.out HE1.out.1 HE1.out.2); clear hst) | (go_at_call 141; refine (HG.out _ _ HS1.out.rep HE1.out.1).mono ?_; rintro e w2 ⟨L2, rfl, hst, _⟩; have HS2 := Lib.hid hst; have HX2 := Lib.hid (HC.out _ _ _ _ hst.rep HFO.out HPQ.out ((congrFun (congrFun hst.fix.fr i) t).trans HE1.out.1) ((congrFun hst.fix.hp t).trans HE1.out.2)); clear hst))
  go_wp2
  go_end0
  exact ⟨L2, rfl, (Ste.quiet_left ((Only.refl _ w).drew) HREP.out HS1.out).trans HS2.out⟩

def Fr.to (F : Fr) (s : ByteArray) : Fr := { F with st := s }

/-- No page anew: on to the stack. -/
theorem st_fresh_no (hF : A.fr i t = some F) (ht : t < 8) (hpl : PlanOK F.plan) (hsp : SP A) (hhp : HP A t) (he : (A.heap t).segs = []) :
    SysCalls 118 (fun L => #[ptrV (L.fr i t)]) A (fun _ => .tuple #[]) (A.setFr i t (F.to sLook)) := by
  intro w L h
  obtain ⟨s, o, hb, hs, ho⟩ := (h.fr hF).blk
  refine (fr_fresh_no (L.fr i t) (frM L t F (L.fl i t) (ownV s) (ownV o)) w (fun _ => True) hb fun w1 ho1 => ?_).mono ?_
  · refine heap_Fresh_nil (L.hp t) L.bm L.ba F.plan _ w1 ((h.quiet ho1).hap t ht) ?_ ?_
    · rcases hpl with ⟨c, hc, e⟩ | ⟨e, h1, h2⟩
      · left; show 0 ≤ F.plan.cls ∧ F.plan.cls < 12; omega
      · right; show F.plan.cls = -1 ∧ _; omega
    · show ((A.heap t).segs.map L.sg) = []; rw [he]; rfl
  · rintro x w' ⟨rfl, hb2, ho2⟩
    exact ⟨L, rfl, Ste.fr1 h hF rfl hs ho hb2 ho2⟩

/-- No page of the class. -/
theorem st_local_none (hF : A.fr i t = some F) (ht : t < 8) (c : Nat) (hc : c < 12) (hcl : F.plan.cls = c) (h1 : (A.heap t).L c = []) (h2 : (A.heap t).FL c = []) :
    SysCalls 116 (fun L => #[ptrV (L.fr i t)]) A (fun _ => .tuple #[]) (A.setFr i t { F.to sFresh with list := [] }) := by
  intro w L h
  have hf := h.fr hF
  obtain ⟨s, o, hb, hs, ho⟩ := hf.blk
  obtain ⟨a, cp, hv, _⟩ := hf.list
  refine (fr_local_no (L.fr i t) L.bm L.ba (frM L t F (L.fl i t) (ownV s) (ownV o)) (heapM L t (A.heap t)) c w hb (h.hap t ht) hcl hc h1 h2 ⟨_, _, _, hv⟩).mono ?_
  rintro x w' ⟨rfl, hb2, ho2⟩
  exact ⟨L.setFl i t (.slice none 0 0), rfl, Ste.frList h hF hs ho hb2 ⟨none, 0, rfl, .inl ⟨rfl, rfl⟩⟩ (fun g hg => by cases hg) ho2⟩

theorem st_refuse (hF : A.fr i t = some F) :
    SysCalls 113 (fun L => #[ptrV (L.fr i t)]) A (fun _ => .tuple #[]) (A.setFr i t (F.over 0 2)) := by
  intro w L h
  obtain ⟨s, o, hb, hs, ho⟩ := (h.fr hF).blk
  refine (fr_refuse (L.fr i t) _ w hb).mono ?_
  rintro x w' ⟨rfl, hb2, ho2⟩
  exact ⟨L, rfl, Ste.fr1 h hF rfl hs ho hb2 ho2⟩
end
end Go.Proofs.YtfplalgoopkmaaaGreat
