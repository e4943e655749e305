/- Whose an address is, in a heap. A block of a page that a heap has; of a page anew. A block of a page anew. Conditions: none. -/
import Derived.Test.YtfplalgoopkmaaaGreatPart10

set_option linter.unusedVariables false
set_option linter.unusedSimpArgs false

namespace Go.Proofs.YtfplalgoopkmaaaGreat
open Go.RowKit

def findIx (S : Nat → SegM) (n a : Nat) : Int := idx (fun i => (segFind (S i) a).2 == 0) n
def heapFind (segs : List Nat) (S : Nat → SegM) (a : Nat) : Option Nat × Option Nat :=
  if findIx S segs.length a < 0 then (none, none) else (some (segs.getD (findIx S segs.length a).toNat 0), (segFind (S (findIx S segs.length a).toNat) a).1)

theorem ptr_cells {w : World} {v : Value} {l : List Nat} (h : RowAt w 98 1 v l.length (l.map ptrV)) : (v = .slice none 0 0 ∧ l = []) ∨ ∃ g cap cur, v = .slice (some ⟨g, 0, none⟩) l.length cap ∧ Blk w g 98 cur ∧ (∀ i, i < l.length → cur[i]? = some (ptrV (l.getD i 0))) := by
  rcases h.2 with ⟨rfl, hn⟩ | ⟨g, cap, cur, rfl, _, hh, _⟩
  · exact .inl ⟨rfl, List.eq_nil_of_length_eq_zero hn⟩
  · refine .inr ⟨g, cap, cur, rfl, hh, fun i hi => ?_⟩
    have hc := RowAt.cells h i (ptrV (l.getD i 0)) (by simp [hi])
    rw [show ((⟨g, 0, none⟩ : Addr).add i) = ⟨g, i, none⟩ from by simp [Addr.add]; omega] at hc
    rw [← Blk.cell (show Blk w g _ cur from hh)]
    exact hc

set_option maxHeartbeats 2000000 in
theorem heap_find (bh bm ba a : Nat) (H : HeapM) (S : Nat → SegM) (w : World) (h : HeapAt w bh bm ba H) (hs : ∀ i, i < H.segs.length → SegAt w (H.segs.getD i 0) bm (S i)) (ha : a < 1048576) :
    Calls Tryz.prog 168 #[.pointer (some ⟨bh, 0, none⟩), .int .u64 a] w fun e w' => e = .returned (.tuple #[ownV (heapFind H.segs S a).1, ownV (heapFind H.segs S a).2]) ∧ Only Nobody w w' := by
  have c0 : w.cell? ⟨bh, 29, none⟩ = some H.sv := h.st.cell 29
  have hfew := h.few
  rcases ptr_cells h.sg with ⟨hv, hl⟩ | ⟨g, cap, cur, hv, hblk, hcur⟩
  · rw [hv] at c0
    have HL := Lib.hid hl
    clear h hs hl hv
    go_enter Tryz.func168, Tryz.ntmps168
    go_wp2
    refine wp_loop_rounds 1 ?_
    rw [rounds_succ]
    go_wp2
    go_ret2
    rw [HL.out]
    exact ⟨rfl, Only.refl _ _⟩
  · rw [hv] at c0
    have HS := Lib.hid hs
    have HBLK := Lib.hid hblk
    have HCUR := Lib.hid hcur
    clear h hs hv hblk hcur
    have hdef : heapFind H.segs S a = if findIx S H.segs.length a < 0 then (none, none) else (some (H.segs.getD (findIx S H.segs.length a).toNat 0), (segFind (S (findIx S H.segs.length a).toNat) a).1) := rfl
    generalize hk : H.segs.length = k at *
    have HDEF := Lib.hid hdef
    clear hdef hk
    go_enter Tryz.func168, Tryz.ntmps168
    go_wp2
    go_loopw [7, 8, 9, 15] (fun _ _ _ i wr => ∃ j : Nat, j ≤ k ∧ i = .int .i64 j ∧ Hid (∀ l, l < j → ((segFind (S l) a).2 == 0) = false) ∧ Only Nobody w wr) (fun _ _ _ i _ => k - (intOf i).toNat)
    case atStart => exact ⟨0, by omega, rfl, Lib.hid fun l h => absurd h (by omega), Only.refl _ _⟩
    case round =>
      obtain ⟨j, hj, rfl, HNO, ho⟩ := hrel
      have HO := Lib.hid ho
      by_cases hlt : j < k
      · have cj : wr.cell? ⟨g, j, none⟩ = some (ptrV (H.segs.getD j 0)) := ((HBLK.out.only ho (fun h => h)).cell j).trans (HCUR.out j hlt)
        have HFD := Lib.hid (seg_Find (H.segs.getD j 0) bm a (S j) wr ((HS.out j hlt).only ho (fun h => h) (fun h => h) (fun h => h)) ha)
        clear ho c0
        generalize hsf : segFind (S j) a = sf at HFD
        obtain ⟨o, e⟩ := sf
        have HSF := Lib.hid hsf
        clear hsf
        generalize hb : H.segs.getD j 0 = bs at *
        have HBS := Lib.hid hb
        clear hb
        by_cases he : e = 0
        · subst he
          go_wp2_with (first | (go_at_call 184; refine HFD.out.mono ?_; rintro e w1 ⟨rfl, ho⟩; have HO1 := Lib.hid (HO.out.trans ho); clear ho))
          go_ret2
          have hp := idx_of (fun i => (segFind (S i) a).2 == 0) k j hlt HNO.out (by rw [HSF.out]; rfl)
          rw [HDEF.out]
          unfold findIx
          rw [hp, if_neg (by omega), Int.toNat_natCast, HBS.out, HSF.out]
          exact ⟨rfl, HO1.out⟩
        · have he2 : (e == 0) = false := by rw [beq_eq_false_iff_ne]; exact he
          have HE := Lib.hid he
          clear he
          go_wp2_with (first | (go_at_call 184; refine HFD.out.mono ?_; rintro e w1 ⟨rfl, ho⟩; have HO1 := Lib.hid (HO.out.trans ho); clear ho))
          refine ⟨⟨j + 1, by omega, by go_num, Lib.hid fun l hl => ?_, HO1.out⟩, by show k - (intOf (Value.int IntKind.i64 ((j : Int) + 1))).toNat < k - (intOf (Value.int IntKind.i64 (j : Int))).toNat; simp [intOf]; omega⟩
          by_cases e : l = j
          · subst e; rw [HSF.out]; exact he2
          · exact HNO.out l (by omega)
      · obtain rfl : j = k := by omega
        have hp := idx_no (fun i => (segFind (S i) a).2 == 0) j HNO.out
        have HP := Lib.hid hp
        clear hp ho
        go_wp2
        go_ret2
        rw [HDEF.out]
        unfold findIx
        rw [HP.out]
        exact ⟨rfl, HO.out⟩

theorem heap_find_some (bh bm ba a bs bo : Nat) (H : HeapM) (S : Nat → SegM) (w : World) (h : HeapAt w bh bm ba H) (hs : ∀ i, i < H.segs.length → SegAt w (H.segs.getD i 0) bm (S i)) (ha : a < 1048576) (hf : heapFind H.segs S a = (some bs, some bo)) :
    Calls Tryz.prog 168 #[.pointer (some ⟨bh, 0, none⟩), .int .u64 a] w fun e w' => e = .returned (.tuple #[.pointer (some ⟨bs, 0, none⟩), .pointer (some ⟨bo, 0, none⟩)]) ∧ Only Nobody w w' := by
  have h := heap_find bh bm ba a H S w h hs ha
  rw [hf] at h
  exact h

theorem heap_start (k : Nat) (hk : k < 1024) (w : World) :
    Calls Tryz.prog 95 #[.int .i64 k] w fun e w' => e = .returned (.int .u64 (k * 1024 : Nat)) ∧ w = w' := by
  go_enter Tryz.func95, Tryz.ntmps95
  go_wp2
  go_ret
  exact ⟨ret1 (intv (by simp)), rfl⟩

theorem heap_key (bs bm bo bp at_ sl : Nat) (c : Int) (S : SegM) (w : World) (hs : SegAt w bs bm S) (ho : OwnedAt w bo bp c at_ sl) (hat : at_ < 16) :
    Calls Tryz.prog 174 #[.pointer (some ⟨bs, 0, none⟩), .pointer (some ⟨bo, 0, none⟩)] w fun e w' => e = .returned (.int .i64 (S.place * 16 + at_ : Nat)) ∧ Only Nobody w w' := by
  have HP := Lib.hid (fun (k : Nat) => quiet_left (w := w) (n := k) (seg_Place bs bm S (w.drewN k) ⟨hs.st.drewN k, ⟨hs.marks.st.drewN k, hs.marks.pl.drewN k, hs.marks.n1, hs.marks.le, hs.marks.lb, hs.marks.lu⟩, hs.pl⟩))
  have c2 : w.cell? ⟨bo, 2, none⟩ = some (.int .i64 at_) := ho.cell 2
  have hpl := hs.pl
  have h1 : IntKind.i64.wrap ((S.place : Int) * 16) = (S.place : Int) * 16 := IntWalk.i64_in _ (by omega)
  have h2 : IntKind.i64.wrap ((S.place : Int) * 16 + at_) = (S.place : Int) * 16 + at_ := IntWalk.i64_in _ (by omega)
  clear hs ho
  go_enter Tryz.func174, Tryz.ntmps174
  go_wp2
  go_quiet (first | (go_at_call 100; exact HP.out _))
  go_wp2
  go_ret
  exact ⟨ret1 (intv (by simp)), (Only.refl _ _).drewN _⟩
end Go.Proofs.YtfplalgoopkmaaaGreat

namespace Go.Proofs.YtfplalgoopkmaaaGreat
open Go.RowKit

theorem HeapAt.quiet {w w' : World} {bh bm ba : Nat} {H : HeapM} (h : HeapAt w bh bm ba H) (ho : Only Nobody w w') : HeapAt w' bh bm ba H := h.only ho (fun h => h) (fun _ _ h => h) (fun _ _ h => h)
theorem SegAt.quiet {w w' : World} {bs bm : Nat} {S : SegM} (h : SegAt w bs bm S) (ho : Only Nobody w w') : SegAt w' bs bm S := h.only ho (fun h => h) (fun h => h) (fun h => h)

theorem row_head {w : World} {B k : Nat} {rest : List Nat} {v : Value} (hr : w.ownsRow B 3 1 v (k :: rest).length ((k :: rest).map natV)) : ∃ g cap, v = .slice (some ⟨g, 0, none⟩) (rest.length + 1) cap ∧ w.cell? ⟨g, 0, none⟩ = some (.int .i64 k) := by
  rcases hr.2 with ⟨_, hn⟩ | ⟨g, cap, cur, rfl, _⟩
  · cases hn
  · exact ⟨g, cap, rfl, RowAt.cells hr 0 _ rfl⟩

set_option maxHeartbeats 2000000 in
theorem heap_Local_first (bh bm ba c k bs bo bp at_ sl addr : Nat) (co : Int) (rest : List Nat) (H : HeapM) (S : Nat → SegM) (w : World) (Q : World → Prop) (h : HeapAt w bh bm ba H) (hs : ∀ i, i < H.segs.length → SegAt w (H.segs.getD i 0) bm (S i)) (hc : c < 12)
    (hl : H.L c = k :: rest) (hk : k < 1024) (hf : heapFind H.segs S (k * 1024) = (some bs, some bo)) (ho : OwnedAt w bo bp co at_ sl)
    (hA : ∀ w1, Only Nobody w w1 → Calls Tryz.prog 169 #[.pointer (some ⟨bp, 0, none⟩)] w1 fun e w' => e = .returned (.tuple #[.int .u64 addr, .int .i64 0]) ∧ Q w') :
    Calls Tryz.prog 142 #[.pointer (some ⟨bh, 0, none⟩), .int .i64 c] w fun e w' => e = .returned (.tuple #[.int .u64 addr, .int .i64 0]) ∧ Q w' := by
  have hrow := fun w => heap_row bh c w (by omega) (by omega)
  have hr : rowIx (c : Int) = c := by unfold rowIx; rw [if_neg (by omega)]; omega
  rw [hr] at hrow
  have HROW := Lib.hid hrow
  have hq := queue_Ready bh (2 * c) _ _ _ _ _ _ w (h.q c (by omega))
  rw [hl] at hq
  have HQ := Lib.hid hq
  have HFD := Lib.hid (fun w1 (ho : Only Nobody w w1) => heap_find_some bh bm ba (k * 1024) bs bo H S w1 (h.quiet ho) (fun i hi => (hs i hi).quiet ho) (by omega) hf)
  have HOW := Lib.hid ho
  have HA := Lib.hid hA
  have hb : ((c : Int) == -1) = false := by rw [beq_eq_false_iff_ne]; omega
  clear h hl hrow hr hq hs ho hA hf
  go_enter Tryz.func142, Tryz.ntmps142
  go_wp2_with (first | (go_at_call 93; refine (HROW.out _).mono ?_; rintro e w1 ⟨rfl, rfl⟩) | (go_at_call 110; refine HQ.out.mono ?_; rintro e w1 ⟨v', rfl, hr, ho⟩; obtain ⟨g, cap, rfl, hcell⟩ := row_head hr; have HO := Lib.hid ho; clear hr ho))
  refine wp_loop_rounds 1 ?_
  rw [rounds_succ]
  go_wp2_with (first | (go_at_call 95; refine (heap_start k hk _).mono ?_; rintro e w1 ⟨rfl, rfl⟩) | (go_at_call 168; refine (HFD.out _ HO.out).mono ?_; rintro e w2 ⟨rfl, ho⟩; have HO2 := Lib.hid (HO.out.trans ho); have d0 : w2.cell? ⟨bo, 0, none⟩ = some (.pointer (some ⟨bp, 0, none⟩)) := (HOW.out.only HO2.out (fun h => h)).cell 0; clear ho) | (go_at_call 169; refine (HA.out _ HO2.out).mono ?_; rintro e w3 ⟨rfl, hq⟩; have HQ3 := Lib.hid hq; clear hq))
  go_ret2
  exact ⟨rfl, HQ3.out⟩

set_option maxHeartbeats 1000000 in
/-- A page of a plan, by what Page or Big answers. -/
theorem heap_cut_page (bs c : Nat) (p : Plan) (w : World) (Q : Value → Value → World → Prop) (hp : p.cls = c) (hc : c < 12)
    (hA : ∀ w1, Only Nobody w w1 → Calls Tryz.prog 203 #[.pointer (some ⟨bs, 0, none⟩), .int .i64 c] w1 fun e w' => ∃ r1 r2, e = .returned (.tuple #[r1, r2]) ∧ Q r1 r2 w') :
    Calls Tryz.prog 172 #[.pointer (some ⟨bs, 0, none⟩), planV p] w fun e w' => ∃ r1 r2, e = .returned (.tuple #[r1, r2]) ∧ Q r1 r2 w' := by
  have HA := Lib.hid (hA _ ((Only.refl _ w).alloc (.cells #[.int .i64 p.cls, .int .i64 p.slices, .int .i64 p.segs, .int .u64 p.usable] 172)))
  have hb : ((c : Int) == -1) = false := by rw [beq_eq_false_iff_ne]; omega
  obtain ⟨cls, slices, segs, usable⟩ := p
  dsimp only at hp HA
  subst hp
  clear hA
  go_enter Tryz.func172, Tryz.ntmps172
  go_wp2_with (first | (go_at_call 203; refine HA.out.mono ?_; rintro e w1 ⟨r1, r2, rfl, hq⟩; have HQ := Lib.hid hq; clear hq))
  go_ret2
  exact ⟨r1, r2, rfl, HQ.out⟩
set_option maxHeartbeats 1000000 in
theorem heap_cut_big (bs sl : Nat) (p : Plan) (w : World) (Q : Value → Value → World → Prop) (hp : p.cls = -1) (hsl : p.slices = sl)
    (hA : ∀ w1, Only Nobody w w1 → Calls Tryz.prog 202 #[.pointer (some ⟨bs, 0, none⟩), .int .i64 sl] w1 fun e w' => ∃ r1 r2, e = .returned (.tuple #[r1, r2]) ∧ Q r1 r2 w') :
    Calls Tryz.prog 172 #[.pointer (some ⟨bs, 0, none⟩), planV p] w fun e w' => ∃ r1 r2, e = .returned (.tuple #[r1, r2]) ∧ Q r1 r2 w' := by
  have HA := Lib.hid (hA _ ((Only.refl _ w).alloc (.cells #[.int .i64 p.cls, .int .i64 p.slices, .int .i64 p.segs, .int .u64 p.usable] 172)))
  obtain ⟨cls, slices, segs, usable⟩ := p
  dsimp only at hp HA hsl
  subst hp hsl
  clear hA
  go_enter Tryz.func172, Tryz.ntmps172
  go_wp2_with (first | (go_at_call 202; refine HA.out.mono ?_; rintro e w1 ⟨r1, r2, rfl, hq⟩; have HQ := Lib.hid hq; clear hq))
  go_ret2
  exact ⟨r1, r2, rfl, HQ.out⟩

theorem IntsAt.lt {w : World} {v : Value} {l : List Nat} (h : IntsAt w v l) {g : Nat} (hg : v.ownBlock = some g) : g < w.heap.size := by
  rcases h.2 with ⟨rfl, _⟩ | ⟨g', cap, cur, rfl, _, hh, _⟩
  · cases hg
  · injection hg with hg; subst hg; exact Blk.lt (show Blk w g' _ _ from hh)
theorem RowAt.ne_ints {w : World} {v v2 : Value} {l : List Nat} {t : TypeId} {sz n : Nat} {xs : List Value} (h : RowAt w t sz v n xs) (h2 : IntsAt w v2 l) (ht : t ≠ 3) {g : Nat} (hg : v.ownBlock = some g) : v2.ownBlock ≠ some g := by
  rcases h.2 with ⟨rfl, _⟩ | ⟨g', cap, cur, rfl, _, hh, _⟩
  · cases hg
  · injection hg with hg; subst hg; exact h2.ne (show Blk w g' t cur from hh) ht
theorem RowAt.ne_blk {w : World} {v : Value} {t : TypeId} {sz n : Nat} {xs : List Value} (h : RowAt w t sz v n xs) {b : Nat} {t2 : TypeId} {cs : Array Value} (hb : Blk w b t2 cs) (ht : t ≠ t2) : v.ownBlock ≠ some b := by
  rcases h.2 with ⟨rfl, _⟩ | ⟨g', cap, cur, rfl, _, hh, _⟩
  · intro e; cases e
  · intro e; injection e with e; exact (Blk.ne_ (show Blk w g' t cur from hh) hb ht) e

/-- One more in a row of a heap. -/
theorem HeapAt.pushed {w w' : World} {bh bm ba c x : Nat} {H : HeapM} {v' : Value} (h : HeapAt w bh bm ba H) (hc : c < 13) (hb : Blk w' bh 141 ((heapV H.R H.F bm ba H.id H.sv).setIfInBounds (2 * c) v'))
    (hi : IntsAt w' v' (H.L c ++ [x])) (hn : NewOwn w.heap.size (H.R c) v') (ho : Only (fun g => g = bh ∨ (H.R c).ownBlock = some g) w w') (hlen : (H.L c).length < 990) :
    HeapAt w' bh bm ba { H with R := updV H.R c v', L := updL H.L c (H.L c ++ [x]) } := by
  have hnew : ∀ g, v'.ownBlock = some g → (H.R c).ownBlock = some g ∨ w.heap.size ≤ g := by
    intro g hg
    rcases hn with h | ⟨g', h, hg'⟩
    · rw [h] at hg; exact .inl hg
    · rw [h] at hg; cases hg; exact .inr hg'
  refine ⟨?_, ?_, ?_, ?_, h.few, ?_, ?_, h.apFF⟩
  · rw [heapV_setR _ _ _ _ _ _ c hc] at hb
    exact hb
  · intro d hd
    by_cases e : d = c
    · subst e
      dsimp only
      unfold updV updL
      rw [if_pos rfl, if_pos rfl]
      exact ⟨hi, by simp; omega⟩
    · dsimp only
      unfold updV updL
      rw [if_neg e, if_neg e]
      exact ⟨RowAt.only (h.rr d hd).1 ho (fun g hg hS => by
        rcases hS with rfl | hS
        · exact (h.rr d hd).1.ne h.st (by decide) hg
        · exact h.apR d c hd hc e g hg hS), (h.rr d hd).2⟩
  · intro d hd
    exact ⟨RowAt.only (h.rf d hd).1 ho (fun g hg hS => by
        rcases hS with rfl | hS
        · exact (h.rf d hd).1.ne h.st (by decide) hg
        · exact h.apF c d hc hd g hS hg), (h.rf d hd).2⟩
  · exact RowAt.only h.sg ho (fun g hg hS => by
      rcases hS with rfl | hS
      · exact h.sg.ne_blk h.st (by decide) hg
      · exact h.sg.ne_ints (h.rr c hc).1 (by decide) hg hS)
  · intro d1 d2 h1 h2 hne g hg1 hg2
    dsimp only at hg1 hg2
    unfold updV at hg1 hg2
    by_cases e1 : d1 = c
    · subst e1
      rw [if_pos rfl] at hg1
      rw [if_neg (fun e => hne e.symm)] at hg2
      rcases hnew g hg1 with h3 | h3
      · exact h.apR d1 d2 h1 h2 hne g h3 hg2
      · have := (h.rr d2 h2).1.lt hg2; omega
    · rw [if_neg e1] at hg1
      by_cases e2 : d2 = c
      · subst e2
        rw [if_pos rfl] at hg2
        rcases hnew g hg2 with h3 | h3
        · exact h.apR d1 d2 h1 h2 hne g hg1 h3
        · have := (h.rr d1 h1).1.lt hg1; omega
      · rw [if_neg e2] at hg2
        exact h.apR d1 d2 h1 h2 hne g hg1 hg2
  · intro d1 d2 h1 h2 g hg1 hg2
    dsimp only at hg1 hg2
    unfold updV at hg1
    by_cases e1 : d1 = c
    · subst e1
      rw [if_pos rfl] at hg1
      rcases hnew g hg1 with h3 | h3
      · exact h.apF d1 d2 h1 h2 g h3 hg2
      · have := (h.rf d2 h2).1.lt hg2; omega
    · rw [if_neg e1] at hg1
      exact h.apF d1 d2 h1 h2 g hg1 hg2
end Go.Proofs.YtfplalgoopkmaaaGreat

namespace Go.Proofs.YtfplalgoopkmaaaGreat
open Go.RowKit

/-- A page behind its first block. -/
abbrev pgFirst (fr s n : Nat) (f : Nat → Nat) : PgM := ⟨fr, s, n, min 4 n, 1, ld8 (freshMem fr s n f) fr, min 4 n - 1, 0, 0, 0, 0, 0, 0⟩

theorem page_Alloc_new (bp bm bb sz fr s n : Nat) (f : Nat → Nat) (w : World) (hm : MemAt w bm bb sz f) (hp : PageAt w bp bm (pgNew fr s n)) (hok : RunOK fr s n) (h1 : 1 ≤ fr) (hs : 16 ≤ s) (hn : 1 ≤ n) (hend : fr + n * s ≤ sz) :
    Calls Tryz.prog 169 #[.pointer (some ⟨bp, 0, none⟩)] w fun e w' =>
      e = .returned (.tuple #[.int .u64 fr, .int .i64 0]) ∧ MemAt w' bm bb sz (freshMem fr s n f) ∧ PageAt w' bp bm (pgFirst fr s n f) ∧ Only (fun x => x = bp ∨ x = bb) w w' := by
  obtain ⟨k, hk⟩ : ∃ k, min 4 n = k + 1 := ⟨min 4 n - 1, by omega⟩
  have hs1 : 1 * s ≤ n * s := Nat.mul_le_mul_right s hn
  have hx : pushN fr s 0 (k + 1) (f, 0) = (freshMem fr s n f, fr) := by
    unfold freshMem
    rw [hk]
    have h := pushN_head fr s 0 k (f, 0)
    rw [Nat.zero_mul, Nat.add_zero] at h
    exact Prod.ext rfl h
  have h := page_Alloc_more bp bm bb sz f (pgNew fr s n) w hm hp ⟨hok, by simp, by simp, by simp, by simp, by simp, by simp, h1, by dsimp only; omega⟩ hend rfl rfl (by dsimp only; omega) k (by simpa using hk) _ _ hx (by omega)
  refine h.mono fun e w' ⟨he, h1, h2, h3⟩ => ⟨he, h1, ?_, h3⟩
  have e1 : min 4 n = 0 + (k + 1) := by omega
  have e2 : min 4 n - 1 = k := by omega
  unfold pgFirst
  rw [e2]
  rw [e1]
  exact h2

theorem HeapAt.alloc {w : World} {bh bm ba : Nat} {H : HeapM} (h : HeapAt w bh bm ba H) (o : Obj) : HeapAt (w.alloc o) bh bm ba H := h.quiet ((Only.refl _ w).alloc o)

set_option maxHeartbeats 2000000 in
/-- No segment, no page. -/
theorem heap_Fresh_nil (bh bm ba : Nat) (p : Plan) (H : HeapM) (w : World) (h : HeapAt w bh bm ba H) (hp : (0 ≤ p.cls ∧ p.cls < 12) ∨ (p.cls = -1 ∧ 1 ≤ p.slices ∧ p.slices < 16)) (hl : H.segs = []) :
    Calls Tryz.prog 144 #[.pointer (some ⟨bh, 0, none⟩), planV p] w fun e w' => e = .returned (.tuple #[.int .u64 0, .int .i64 4]) ∧ Only Nobody w w' := by
  obtain ⟨cls, slices, segs, usable⟩ := p
  dsimp only at hp
  have HROW := Lib.hid (fun w => heap_row bh cls w (by omega) (by omega))
  have c0 : w.cell? ⟨bh, 29, none⟩ = some H.sv := h.st.cell 29
  obtain ⟨sa, sc, hv⟩ := rowShapeN h.sg
  rw [hv, hl] at c0
  have HPB := Lib.hid (Blk.new w 172 #[.int .i64 cls, .int .i64 slices, .int .i64 segs, .int .u64 usable])
  have HHB := Lib.hid (h.st.alloc (.cells #[.int .i64 cls, .int .i64 slices, .int .i64 segs, .int .u64 usable] 172))
  have HO := Lib.hid ((Only.refl Nobody w).alloc (.cells #[.int .i64 cls, .int .i64 slices, .int .i64 segs, .int .u64 usable] 172))
  have d29 : (w.alloc (.cells #[.int .i64 cls, .int .i64 slices, .int .i64 segs, .int .u64 usable] 172)).cell? ⟨bh, 29, none⟩ = some (.slice sa 0 sc) := ((h.st.alloc _).cell 29).trans ((h.st.cell 29).symm.trans c0)
  clear h hv hl c0
  rcases hp with hp | ⟨rfl, hp1, hp2⟩
  · have hb : (cls == -1) = false := by rw [beq_eq_false_iff_ne]; omega
    go_enter Tryz.func144, Tryz.ntmps144
    go_wp2
    generalize w.alloc (.cells #[.int .i64 cls, .int .i64 slices, .int .i64 segs, .int .u64 usable] 172) = wa at *
    generalize w.heap.size = g at *
    have p0 : wa.cell? ⟨g, 0, none⟩ = some (.int .i64 cls) := HPB.out.cell 0
    go_quiet (first | (go_at_call 93; exact quiet_left (HROW.out _)))
    go_wp2
    refine wp_loop_rounds 1 ?_
    rw [rounds_succ]
    go_wp2
    go_ret2
    exact ⟨rfl, HO.out.drewN _⟩
  · have hd1 : decide ((16 : Int) ≤ slices) = false := by rw [decide_eq_false_iff_not]; omega
    have hd2 : decide (16 ≤ slices) = false := by rw [decide_eq_false_iff_not]; omega
    have hd3 : decide ((slices : Int) < 1) = false := by rw [decide_eq_false_iff_not]; omega
    go_enter Tryz.func144, Tryz.ntmps144
    go_wp2
    generalize w.alloc (.cells #[.int .i64 (-1), .int .i64 slices, .int .i64 segs, .int .u64 usable] 172) = wa at *
    generalize w.heap.size = g at *
    have p0 : wa.cell? ⟨g, 0, none⟩ = some (.int .i64 (-1)) := HPB.out.cell 0
    have p1 : wa.cell? ⟨g, 1, none⟩ = some (.int .i64 slices) := HPB.out.cell 1
    go_quiet (first | (go_at_call 93; exact quiet_left (HROW.out _)))
    go_wp2
    refine wp_loop_rounds 1 ?_
    rw [rounds_succ]
    go_wp2
    go_ret2
    exact ⟨rfl, HO.out.drewN _⟩
end Go.Proofs.YtfplalgoopkmaaaGreat
