/- Rows that grow by one, and copies of rows. Layer 11: numbers in two rows. What a queue has; one more in it. Push, Wake, Ready. Conditions: none. -/
import Derived.Test.YtfplalgoopkmaaaGreatPart04
import Derived.WalkSpells
import Derived.Maps.AppendAt
import Derived.Test.YtfplalgoopkmaaaGreatPart01

set_option linter.unusedVariables false
set_option linter.unusedSimpArgs false

namespace Go.Proofs.YtfplalgoopkmaaaGreat
open Go.RowKit

theorem Tryz.infoInt : (Tryz.prog.info? 3).map (fun i => (i.zero, i.size, i.bytes)) = some (some (.int .i64 0), 1, 8) := by kernel_rfl
theorem Tryz.infoSegP : (Tryz.prog.info? 98).map (fun i => (i.zero, i.size, i.bytes)) = some (some (.pointer none), 1, 8) := by kernel_rfl

theorem RowAt.cells {w : World} {B : Nat} {t : TypeId} {n cap g : Nat} {xs : List Value} (h : w.ownsRow B t 1 (.slice (some ⟨g, 0, none⟩) n cap) n xs) : ∀ j u, xs[j]? = some u → w.cell? ((⟨g, 0, none⟩ : Addr).add j) = some u := by
  obtain ⟨hl, h2⟩ := h
  rcases h2 with ⟨h, _⟩ | ⟨g', cap', cur, hv, _, hh, _, _, _, hx⟩
  · cases h
  · injection hv with h1 h2 h3
    injection h1 with h1
    injection h1 with h1
    subst h1
    intro j u hj
    have hb : Blk w g t cur := hh
    have hc := hb.cell j
    subst hx
    rw [List.getElem?_take] at hj
    split at hj
    · rw [show ((⟨g, 0, none⟩ : Addr).add j) = ⟨g, j, none⟩ from by simp [Addr.add]; omega, hc, ← Array.getElem?_toList]; exact hj
    · cases hj

set_option maxRecDepth 100000 in
set_option maxHeartbeats 1000000 in
theorem clone_ints (v : Value) (n : Nat) (xs : List Value) (w : World) (h : RowAt w 3 1 v n xs) (hn : n ≤ 1000) (h1 : ∀ u ∈ xs, u.oneCell' = true) :
    Calls Tryz.prog 139 #[v] w fun e w' => ∃ v', e = .returned v' ∧ w'.ownsRow w.heap.size 3 1 v' n xs ∧ Only Nobody w w' := by
  obtain ⟨i0, hi, hz0, hz1, hz2⟩ := info_parts Tryz.infoInt
  have heq := fun (w : World) (a : Option Addr) (n c : Nat) => Lib.run_eql_slice_nil (P := Tryz.prog) w 106 3 a n c 0 0 Tryz.underlying106
  have HH := Lib.hid h
  rcases h.2 with ⟨rfl, rfl⟩ | ⟨g, cap, cur, rfl, _, hh, hcap, hmax, hcs, hcur⟩
  · clear h
    go_enter Tryz.func139, Tryz.ntmps139
    go_wp2
    go_ret
    have hx : xs = [] := List.eq_nil_of_length_eq_zero (by have := HH.out.1; omega)
    subst hx
    exact ⟨_, rfl, ⟨rfl, .inl ⟨rfl, rfl⟩⟩, Only.refl _ _⟩
  · have hnews := RowAt.cells (RowAt.only h ((Only.refl Nobody w).alloc (.cells #[] 3)) (fun _ _ h => h))
    have HN := Lib.hid hnews
    have hlx := h.1
    clear h hh hcap hmax hcs hcur hnews
    go_enter Tryz.func139, Tryz.ntmps139
    go_wp2_with (at_builtin; refine wpList_append_own _ rfl _ _ 106 rfl w.heap.size 3 i0 (.int .i64 0) 1 8 Tryz.underlying106 hi hz0 hz1 hz2 rfl (by decide) _ 0 [] rfl ⟨rfl, .inr ⟨w.heap.size, 0, #[], rfl, Nat.le_refl _, Blk.new w _ _, Nat.le_refl _, Nat.zero_le _, rfl, rfl⟩⟩ ⟨g, 0, none⟩ n cap xs rfl (by rw [hlx]) HN.out h1 (by unfold maxLen; omega) (by omega) (by simp) ?_; intro v' w1 hown hgr _)
    go_ret
    rw [Nat.zero_add, List.nil_append] at hown
    refine ⟨_, rfl, hown, ((Only.refl _ _).alloc _).grown hgr (fun k hk hlt => ?_)⟩
    cases hk
    exact absurd hlt (Nat.lt_irrefl _)
set_option maxRecDepth 100000 in
set_option maxHeartbeats 1000000 in
theorem clone_segs (v : Value) (n : Nat) (xs : List Value) (w : World) (h : RowAt w 98 1 v n xs) (hn : n ≤ 1000) (h1 : ∀ u ∈ xs, u.oneCell' = true) :
    Calls Tryz.prog 112 #[v] w fun e w' => ∃ v', e = .returned v' ∧ w'.ownsRow w.heap.size 98 1 v' n xs ∧ Only Nobody w w' := by
  obtain ⟨i0, hi, hz0, hz1, hz2⟩ := info_parts Tryz.infoSegP
  have heq := fun (w : World) (a : Option Addr) (n c : Nat) => Lib.run_eql_slice_nil (P := Tryz.prog) w 139 98 a n c 0 0 Tryz.underlying139
  have HH := Lib.hid h
  rcases h.2 with ⟨rfl, rfl⟩ | ⟨g, cap, cur, rfl, _, hh, hcap, hmax, hcs, hcur⟩
  · clear h
    go_enter Tryz.func112, Tryz.ntmps112
    go_wp2
    go_ret
    have hx : xs = [] := List.eq_nil_of_length_eq_zero (by have := HH.out.1; omega)
    subst hx
    exact ⟨_, rfl, ⟨rfl, .inl ⟨rfl, rfl⟩⟩, Only.refl _ _⟩
  · have hnews := RowAt.cells (RowAt.only h ((Only.refl Nobody w).alloc (.cells #[] 98)) (fun _ _ h => h))
    have HN := Lib.hid hnews
    have hlx := h.1
    clear h hh hcap hmax hcs hcur hnews
    go_enter Tryz.func112, Tryz.ntmps112
    go_wp2_with (at_builtin; refine wpList_append_own _ rfl _ _ 139 rfl w.heap.size 98 i0 (.pointer none) 1 8 Tryz.underlying139 hi hz0 hz1 hz2 rfl (by decide) _ 0 [] rfl ⟨rfl, .inr ⟨w.heap.size, 0, #[], rfl, Nat.le_refl _, Blk.new w _ _, Nat.le_refl _, Nat.zero_le _, rfl, rfl⟩⟩ ⟨g, 0, none⟩ n cap xs rfl (by rw [hlx]) HN.out h1 (by unfold maxLen; omega) (by omega) (by simp) ?_; intro v' w1 hown hgr _)
    go_ret
    rw [Nat.zero_add, List.nil_append] at hown
    refine ⟨_, rfl, hown, ((Only.refl _ _).alloc _).grown hgr (fun k hk hlt => ?_)⟩
    cases hk
    exact absurd hlt (Nat.lt_irrefl _)

theorem rowShape {w : World} {B : Nat} {t : TypeId} {sz : Nat} {v : Value} {n : Nat} {xs : List Value} (h : w.ownsRow B t sz v n xs) : ∃ a n c, v = .slice a n c := by
  rcases h.2 with ⟨rfl, _⟩ | ⟨g, cap, cur, rfl, _⟩
  · exact ⟨_, _, _, rfl⟩
  · exact ⟨_, _, _, rfl⟩


set_option maxRecDepth 100000 in
set_option maxHeartbeats 1000000 in
theorem row_add (b o : Nat) (t : TypeId) (cs : Array Value) (v : Value) (n : Nat) (xs : List Value) (x : Int) (w : World) (hb : Blk w b t cs) (hc : cs[o]? = some v) (ht : t ≠ 3) (h : RowAt w 3 1 v n xs) (hn : n ≤ 1000) :
    Calls Tryz.prog 200 #[.pointer (some ⟨b, o, none⟩), .int .i64 x] w fun e w' => ∃ v', e = .returned (.tuple #[]) ∧ Blk w' b t (cs.setIfInBounds o v') ∧ RowAt w' 3 1 v' (n + 1) (xs ++ [.int .i64 x]) ∧ NewOwn w.heap.size v v' ∧ Only (fun g => g = b ∨ v.ownBlock = some g) w w' := by
  obtain ⟨i0, hi, hz0, hz1, hz2⟩ := info_parts Tryz.infoInt
  have HH := Lib.hid h
  have HB := Lib.hid hb
  have hne : v.ownBlock ≠ some b := by
    rcases h.2 with ⟨rfl, rfl⟩ | ⟨g, cap, cur, rfl, _, hh, _⟩
    · intro e; cases e
    · intro e
      injection e with e
      exact (Blk.ne_ (t := 3) (show Blk w g _ _ from hh) hb (fun e => ht e.symm)) e
  have HNE := Lib.hid hne
  have c0 : w.cell? ⟨b, o, none⟩ = some v := (hb.cell o).trans hc
  have f0 := hb.frozen o
  have hl1 := h.1
  have HA := Lib.hid (RowAt.only h ((Only.refl Nobody w).alloc (.cells #[.int .i64 x] 3)) (fun _ _ h => h))
  have HNW := Lib.hid ((fun j u hj => by
    match j, hj with
    | 0, hj => cases hj; exact (Blk.new w 3 #[.int .i64 x]).cell 0) : ∀ j u, [Value.int .i64 x][j]? = some u → (w.alloc (.cells #[.int .i64 x] 3)).cell? ((⟨w.heap.size, 0, none⟩ : Addr).add j) = some u)
  clear hb hc h hne
  go_enter Tryz.func200, Tryz.ntmps200
  go_wp2_with (at_builtin; refine wpList_append_own_at _ rfl _ _ 106 rfl 0 3 i0 (.int .i64 0) 1 8 Tryz.underlying106 hi hz0 hz1 hz2 rfl (by decide) _ _ _ rfl HA.out ⟨w.heap.size, 0, none⟩ 1 1 [.int .i64 x] rfl rfl HNW.out (by intro u hu; simp at hu; subst hu; rfl) (by unfold maxLen; omega) (by omega) (by simp) ?_; intro v' w1 hown hgr _ hwho; obtain ⟨sa, sn, sc, rfl⟩ := rowShape hown; have HO := Lib.hid hown; have HG := Lib.hid hgr; have HW := Lib.hid hwho; have HB1 := Lib.hid ((HB.out.alloc (.cells #[.int .i64 x] 3)).grown hgr (fun e => HNE.out e.symm)); have f1 := HB1.out.frozen o; have c1 : w1.cell? ⟨b, o, none⟩ = some v := (HB1.out.cell o).trans ((HB.out.cell o).symm.trans c0); clear hown hgr hwho)
  go_end0
  have hb1 := HB1.out.set_ o (.slice sa sn sc)
  refine ⟨.slice sa sn sc, rfl, hb1, ?_, ?_, ?_⟩
  · refine RowAt.only HO.out (Only.setAt (S := fun x => x = b) (Only.refl _ _) (show b = b from rfl) _ _) (fun g hg e => ?_)
    rcases HO.out.2 with ⟨hv, _⟩ | ⟨g', cap, cur, hv, _, hh, _⟩
    · rw [hv] at hg; cases hg
    · rw [hv] at hg
      cases hg
      exact (Blk.ne_ (t := 3) (show Blk w1 _ _ _ from hh) HB1.out (fun e => ht e.symm)) e
  · rcases HW.out with h | h
    · exact .inl h
    · exact .inr ⟨_, h, by simp⟩
  · refine Only.setAt (S := fun g => g = b ∨ v.ownBlock = some g) ?_ (.inl rfl) _ _
    exact ((Only.refl _ _).alloc _).grown HG.out (fun k hk _ => .inr hk)
end Go.Proofs.YtfplalgoopkmaaaGreat

namespace Go.Proofs.YtfplalgoopkmaaaGreat
open Go.RowKit

abbrev natV (x : Nat) : Value := .int .i64 x
abbrev IntsAt (w : World) (v : Value) (l : List Nat) : Prop := RowAt w 3 1 v l.length (l.map natV)
theorem IntsAt.one {w : World} {v : Value} {l : List Nat} (h : IntsAt w v l) : ∀ u ∈ l.map natV, u.oneCell' = true := by
  intro u hu
  obtain ⟨x, _, rfl⟩ := List.mem_map.1 hu
  rfl
theorem IntsAt.nil_ (w : World) : IntsAt w (.slice none 0 0) [] := ⟨rfl, .inl ⟨rfl, rfl⟩⟩
theorem IntsAt.shape {w : World} {v : Value} {l : List Nat} (h : IntsAt w v l) : (v = .slice none 0 0 ∧ l = []) ∨ ∃ g cap, v = .slice (some ⟨g, 0, none⟩) l.length cap ∧ (∀ i, i < l.length → w.cell? ⟨g, i, none⟩ = some (.int .i64 (l.getD i 0 : Nat))) := by
  rcases h.2 with ⟨rfl, hn⟩ | ⟨g, cap, cur, rfl, _, hh, _⟩
  · exact .inl ⟨rfl, List.eq_nil_of_length_eq_zero hn⟩
  · refine .inr ⟨g, cap, rfl, fun i hi => ?_⟩
    have hc := RowAt.cells h i (natV (l.getD i 0)) (by simp [hi])
    rw [show ((⟨g, 0, none⟩ : Addr).add i) = ⟨g, i, none⟩ from by simp [Addr.add]; omega] at hc
    exact hc

set_option maxHeartbeats 1000000 in
theorem index_ints (v : Value) (l : List Nat) (x : Nat) (w : World) (h : IntsAt w v l) (hn : l.length ≤ 1000) :
    Calls Tryz.prog 223 #[v, .int .i64 x] w fun e w' => e = .returned (.int .i64 (idx (fun i => l.getD i 0 == x) l.length)) ∧ w = w' := by
  rcases h.shape with ⟨rfl, rfl⟩ | ⟨g, cap, rfl, hc⟩
  · clear h
    go_enter Tryz.func223, Tryz.ntmps223
    go_wp2
    refine wp_loop_rounds 1 ?_
    rw [rounds_succ]
    go_wp2
    go_ret
    exact ⟨rfl, rfl⟩
  · have HC := Lib.hid hc
    clear hc h
    generalize hT : (fun i => l.getD i 0) = T at *
    have hT2 : ∀ i, l.getD i 0 = T i := fun i => congrFun hT i
    have HC2 : Hid (∀ i, i < l.length → w.cell? ⟨g, i, none⟩ = some (.int .i64 (T i : Nat))) := Lib.hid (fun i hi => by rw [← hT2]; exact HC.out i hi)
    have hp0 : (fun i => l.getD i 0 == x) = (fun i => T i == x) := by funext i; rw [hT2]
    rw [hp0]
    clear HC hT hT2 hp0
    generalize l.length = k at *
    go_enter Tryz.func223, Tryz.ntmps223
    go_wp2
    go_loop [5, 8] (fun _ i => ∃ j : Nat, j ≤ k ∧ i = .int .i64 j ∧ ∀ m, m < j → (T m == x) = false) (fun _ i => k - (intOf i).toNat)
    case atStart => exact ⟨0, by omega, rfl, fun l h => absurd h (by omega)⟩
    case round =>
      obtain ⟨j, hj, rfl, hno⟩ := hrel
      have HN := Lib.hid hno
      clear hno
      by_cases hlt : j < k
      · have hcj := HC2.out j hlt
        cases ht : (T j == x) with
        | true =>
          have hp := idx_of (fun i => T i == x) k j hlt HN.out ht
          have HP := Lib.hid hp
          have ht2 : ((x : Int) == (T j : Int)) = true := by rw [beq_iff_eq] at ht ⊢; omega
          have ht3 : (x == T j) = true := by rw [beq_iff_eq] at ht ⊢; exact ht.symm
          clear hp ht
          go_wp2
          go_ret
          exact ⟨by rw [HP.out]; rfl, rfl⟩
        | false =>
          have HT := Lib.hid ht
          have ht2 : ((x : Int) == (T j : Int)) = false := by
            rw [beq_eq_false_iff_ne] at ht ⊢; omega
          have ht3 : (x == T j) = false := by
            rw [beq_eq_false_iff_ne] at ht ⊢; omega
          clear ht
          go_wp2
          go_round
          case rel =>
            refine ⟨j + 1, by omega, by go_num, fun l hl => ?_⟩
            by_cases e : l = j
            · subst e; exact HT.out
            · exact HN.out l (by omega)
          case measure => simp [intOf]; omega
      · obtain rfl : j = k := by omega
        have hp := idx_no (fun i => T i == x) j HN.out
        have HP := Lib.hid hp
        clear hp
        go_wp2
        go_ret
        exact ⟨by rw [HP.out]; rfl, rfl⟩

theorem contains_ints (v : Value) (l : List Nat) (x : Nat) (w : World) (h : IntsAt w v l) (hn : l.length ≤ 1000) :
    Calls Tryz.prog 232 #[v, .int .i64 x] w fun e w' => e = .returned (.bool (inRow l x)) ∧ w = w' := by
  have hi := index_ints v l x w h hn
  unfold inRow anyOf
  generalize idx (fun i => l.getD i 0 == x) l.length = y at *
  have HI := Lib.hid hi
  clear hi h
  go_enter Tryz.func232, Tryz.ntmps232
  go_wp2_with (go_at_call 223; refine HI.out.mono ?_; rintro e w' ⟨rfl, rfl⟩)
  go_ret
  exact ⟨rfl, rfl⟩
end Go.Proofs.YtfplalgoopkmaaaGreat

namespace Go.Proofs.YtfplalgoopkmaaaGreat
open Go.RowKit

/-- A queue at place o of a block: its ready row, its full row. -/
structure QAt (w : World) (b : Nat) (t : TypeId) (cs : Array Value) (o : Nat) (vr vf : Value) (l f : List Nat) : Prop where
  blk : Blk w b t cs
  hr : cs[o]? = some vr
  hf : cs[o + 1]? = some vf
  rr : IntsAt w vr l
  rf : IntsAt w vf f
  nl : l.length ≤ 990
  nf : f.length ≤ 990

theorem IntsAt.ne {w : World} {v : Value} {l : List Nat} {b : Nat} {t : TypeId} {cs : Array Value} (h : IntsAt w v l) (hb : Blk w b t cs) (ht : t ≠ 3) : v.ownBlock ≠ some b := by
  rcases h.2 with ⟨rfl, _⟩ | ⟨g, cap, cur, rfl, _, hh, _⟩
  · intro e; cases e
  · intro e
    injection e with e
    exact (Blk.ne_ (t := 3) (show Blk w g _ _ from hh) hb (fun e => ht e.symm)) e

theorem queue_Has1 (b o c x : Nat) (t : TypeId) (cs : Array Value) (vr vf : Value) (l f : List Nat) (w : World) (h : QAt w b t cs o vr vf l f) (hc : Blk w c 196 #[.pointer (some ⟨b, o, none⟩)]) :
    Calls Tryz.prog 231 #[.int .i64 x, .pointer (some ⟨c, 0, none⟩)] w fun e w' => e = .returned (.bool (!inRow l x && !inRow f x)) ∧ w = w' := by
  have H1 := Lib.hid (contains_ints vr l x w h.rr (by have := h.nl; omega))
  have H2 := Lib.hid (contains_ints vf f x w h.rf (by have := h.nf; omega))
  have c0 : w.cell? ⟨b, o, none⟩ = some vr := (h.blk.cell o).trans h.hr
  have c1 : w.cell? ⟨b, o + 1, none⟩ = some vf := (h.blk.cell (o + 1)).trans h.hf
  have cc : w.cell? ⟨c, 0, none⟩ = some (.pointer (some ⟨b, o, none⟩)) := hc.cell 0
  obtain ⟨a1, n1, k1, rfl⟩ := rowShape h.rr
  obtain ⟨a2, n2, k2, rfl⟩ := rowShape h.rf
  have hne : (Value.slice a1 n1 k1 = Value.slice a2 n2 k2) ∨ True := .inr trivial
  clear h hc hne
  generalize hb1 : inRow l x = b1 at *
  generalize hb2 : inRow f x = b2 at *
  clear hb1 hb2
  cases b1
  · go_enter Tryz.func231, Tryz.ntmps231
    go_wp2_with (first | (go_at_call 232; have hx := hfirst; refine H2.out.mono ?_; rintro e w' ⟨rfl, rfl⟩) | (go_at_call 232; refine H1.out.mono ?_; rintro e w' ⟨rfl, rfl⟩; have hfirst := trivial))
    go_ret
    exact ⟨rfl, rfl⟩
  · go_enter Tryz.func231, Tryz.ntmps231
    go_wp2_with (first | (go_at_call 232; have hx := hfirst; refine H2.out.mono ?_; rintro e w' ⟨rfl, rfl⟩) | (go_at_call 232; refine H1.out.mono ?_; rintro e w' ⟨rfl, rfl⟩; have hfirst := trivial))
    go_ret
    exact ⟨rfl, rfl⟩

theorem indexFunc_one (b o c g x : Nat) (t : TypeId) (cs : Array Value) (vr vf : Value) (l f : List Nat) (w : World) (h : QAt w b t cs o vr vf l f) (hc : Blk w c 196 #[.pointer (some ⟨b, o, none⟩)]) (hg : Blk w g 3 #[.int .i64 x]) :
    Calls Tryz.prog 239 #[.slice (some ⟨g, 0, none⟩) 1 1, .func (.func 231) #[] #[.pointer (some ⟨c, 0, none⟩)]] w fun e w' => e = .returned (.int .i64 (if (!inRow l x && !inRow f x) then 0 else -1)) ∧ w = w' := by
  have H1 := Lib.hid (queue_Has1 b o c x t cs vr vf l f w h hc)
  have cg : w.cell? ⟨g, 0, none⟩ = some (.int .i64 x) := hg.cell 0
  clear h hc hg
  generalize (!inRow l x && !inRow f x) = r at *
  cases r
  · go_enter Tryz.func239, Tryz.ntmps239
    go_wp2
    refine wp_loop_rounds 2 ?_
    rw [rounds_succ]
    go_wp2_with (first | (go_at_call 231; refine H1.out.mono ?_; rintro e w' ⟨rfl, rfl⟩))
    rw [rounds_succ]
    go_wp2
    go_ret
    exact ⟨rfl, rfl⟩
  · go_enter Tryz.func239, Tryz.ntmps239
    go_wp2
    refine wp_loop_rounds 1 ?_
    rw [rounds_succ]
    go_wp2_with (first | (go_at_call 231; refine H1.out.mono ?_; rintro e w' ⟨rfl, rfl⟩))
    go_ret
    exact ⟨rfl, rfl⟩
theorem containsFunc_one (b o c g x : Nat) (t : TypeId) (cs : Array Value) (vr vf : Value) (l f : List Nat) (w : World) (h : QAt w b t cs o vr vf l f) (hc : Blk w c 196 #[.pointer (some ⟨b, o, none⟩)]) (hg : Blk w g 3 #[.int .i64 x]) :
    Calls Tryz.prog 230 #[.slice (some ⟨g, 0, none⟩) 1 1, .func (.func 231) #[] #[.pointer (some ⟨c, 0, none⟩)]] w fun e w' => e = .returned (.bool (!inRow l x && !inRow f x)) ∧ w = w' := by
  have H1 := Lib.hid (indexFunc_one b o c g x t cs vr vf l f w h hc hg)
  clear h hc hg
  generalize (!inRow l x && !inRow f x) = r at *
  cases r
  · go_enter Tryz.func230, Tryz.ntmps230
    go_wp2_with (first | (go_at_call 239; refine H1.out.mono ?_; rintro e w' ⟨rfl, rfl⟩))
    go_ret
    exact ⟨rfl, rfl⟩
  · go_enter Tryz.func230, Tryz.ntmps230
    go_wp2_with (first | (go_at_call 239; refine H1.out.mono ?_; rintro e w' ⟨rfl, rfl⟩))
    go_ret
    exact ⟨rfl, rfl⟩

theorem QAt.alloc {w : World} {b : Nat} {t : TypeId} {cs : Array Value} {o : Nat} {vr vf : Value} {l f : List Nat} (h : QAt w b t cs o vr vf l f) (ob : Obj) : QAt (w.alloc ob) b t cs o vr vf l f :=
  ⟨h.blk.alloc ob, h.hr, h.hf, RowAt.only h.rr ((Only.refl Nobody w).alloc ob) (fun _ _ h => h), RowAt.only h.rf ((Only.refl Nobody w).alloc ob) (fun _ _ h => h), h.nl, h.nf⟩

theorem queue_Has (b o g x : Nat) (t : TypeId) (cs : Array Value) (vr vf : Value) (l f : List Nat) (w : World) (h : QAt w b t cs o vr vf l f) (hg : Blk w g 3 #[.int .i64 x]) :
    Calls Tryz.prog 205 #[.pointer (some ⟨b, o, none⟩), .slice (some ⟨g, 0, none⟩) 1 1] w fun e w' => e = .returned (.bool (inRow l x || inRow f x)) ∧ Only Nobody w w' := by
  have H1 := Lib.hid (containsFunc_one b o w.heap.size g x t cs vr vf l f _ (h.alloc (.cells #[.pointer (some ⟨b, o, none⟩)] 196)) (Blk.new w _ _) (hg.alloc _))
  clear h hg
  cases h1 : inRow l x <;> cases h2 : inRow f x
  all_goals
    rw [h1, h2] at H1
    clear h1 h2
    go_enter Tryz.func205, Tryz.ntmps205
    go_wp2_with (first | (go_at_call 230; refine H1.out.mono ?_; rintro e w' ⟨rfl, rfl⟩))
    go_ret
    exact ⟨rfl, (Only.refl _ _).alloc _⟩

/-- One more, that wasn't there. -/
theorem queue_Push1 (b o c x : Nat) (t : TypeId) (cs : Array Value) (vr vf : Value) (l f : List Nat) (w : World) (h : QAt w b t cs o vr vf l f) (ht : t ≠ 3) (hc : Blk w c 196 #[.pointer (some ⟨b, o, none⟩)]) (hl : inRow l x = false) (hf : inRow f x = false) :
    Calls Tryz.prog 204 #[.int .i64 x, .pointer (some ⟨c, 0, none⟩)] w fun e w' => ∃ v', e = .returned (.int .i64 0) ∧ Blk w' b t (cs.setIfInBounds o v') ∧ IntsAt w' v' (l ++ [x]) ∧ NewOwn w.heap.size vr v' ∧ Only (fun g => g = b ∨ vr.ownBlock = some g) w w' := by
  have H1 := Lib.hid (queue_Has b o w.heap.size x t cs vr vf l f _ (h.alloc (.cells #[.int .i64 x] 3)) (Blk.new w _ _))
  rw [hl, hf] at H1
  have HQ := Lib.hid (h.alloc (.cells #[.int .i64 x] 3))
  have HC := Lib.hid (hc.alloc (.cells #[.int .i64 x] 3))
  have cc : w.cell? ⟨c, 0, none⟩ = some (.pointer (some ⟨b, o, none⟩)) := hc.cell 0
  have hnl := h.nl
  clear h hc hl hf
  go_enter Tryz.func204, Tryz.ntmps204
  go_wp2_with (first | (go_at_call 205; refine H1.out.mono ?_; rintro e w1 ⟨rfl, ho⟩; have HO := Lib.hid ho; have c1 : w1.cell? ⟨c, 0, none⟩ = some (.pointer (some ⟨b, o, none⟩)) := (HC.out.only ho (fun h => h)).cell 0; clear ho) | (go_at_call 200; refine (row_add b o t cs vr l.length (l.map natV) x _ (HQ.out.blk.only HO.out (fun h => h)) HQ.out.hr ht (RowAt.only HQ.out.rr HO.out (fun _ _ h => h)) (by omega)).mono ?_; rintro e w2 ⟨v', rfl, hb, hr, hn, ho⟩; have HB := Lib.hid hb; have HR := Lib.hid hr; have HN := Lib.hid hn; have HO2 := Lib.hid ho; clear hb hr hn ho))
  go_ret
  refine ⟨v', rfl, HB.out, ?_, ?_, (((Only.refl _ _).alloc _).trans (HO.out.mono fun x h => h.elim)).trans HO2.out⟩
  · have h := HR.out
    show RowAt w2 _ 1 v' (l ++ [x]).length ((l ++ [x]).map natV)
    rw [List.length_append, List.map_append]
    exact h
  · have hs := HO.out.size
    rw [World.size_alloc] at hs
    rcases HN.out with h | ⟨g, h, hg⟩
    · exact .inl h
    · exact .inr ⟨g, h, by omega⟩
end Go.Proofs.YtfplalgoopkmaaaGreat

namespace Go.Proofs.YtfplalgoopkmaaaGreat
open Go.RowKit


theorem each_push (b o g c x : Nat) (k : Int) (w : World) (R : World → Prop) (hg : Blk w g 3 #[.int .i64 x])
    (h : Calls Tryz.prog 204 #[.int .i64 x, .pointer (some ⟨c, 0, none⟩)] w fun e w' => e = .returned (.int .i64 k) ∧ R w') (hk : k = 0 ∨ k = 5) :
    Calls Tryz.prog 197 #[.pointer (some ⟨b, o, none⟩), .func (.func 204) #[] #[.pointer (some ⟨c, 0, none⟩)], .slice (some ⟨g, 0, none⟩) 1 1] w fun e w' => e = .returned (.int .i64 k) ∧ R w' := by
  have H1 := Lib.hid h
  have cg : w.cell? ⟨g, 0, none⟩ = some (.int .i64 x) := hg.cell 0
  clear h hg
  rcases hk with rfl | rfl
  · go_enter Tryz.func197, Tryz.ntmps197
    go_wp2
    refine wp_loop_rounds 2 ?_
    rw [rounds_succ]
    go_wp2_with (first | (go_at_call 204; refine H1.out.mono ?_; rintro e w' ⟨rfl, hr⟩; have HR := Lib.hid hr; clear hr))
    rw [rounds_succ]
    go_wp2
    go_ret
    exact ⟨rfl, HR.out⟩
  · go_enter Tryz.func197, Tryz.ntmps197
    go_wp2
    refine wp_loop_rounds 1 ?_
    rw [rounds_succ]
    go_wp2_with (first | (go_at_call 204; refine H1.out.mono ?_; rintro e w' ⟨rfl, hr⟩; have HR := Lib.hid hr; clear hr))
    go_ret
    exact ⟨rfl, HR.out⟩

theorem each_wake (b o g c x : Nat) (k : Int) (w : World) (R : World → Prop) (hg : Blk w g 3 #[.int .i64 x])
    (h : Calls Tryz.prog 216 #[.int .i64 x, .pointer (some ⟨c, 0, none⟩)] w fun e w' => e = .returned (.int .i64 k) ∧ R w') (hk : k = 0 ∨ k = 5) :
    Calls Tryz.prog 197 #[.pointer (some ⟨b, o, none⟩), .func (.func 216) #[] #[.pointer (some ⟨c, 0, none⟩)], .slice (some ⟨g, 0, none⟩) 1 1] w fun e w' => e = .returned (.int .i64 k) ∧ R w' := by
  have H1 := Lib.hid h
  have cg : w.cell? ⟨g, 0, none⟩ = some (.int .i64 x) := hg.cell 0
  clear h hg
  rcases hk with rfl | rfl
  · go_enter Tryz.func197, Tryz.ntmps197
    go_wp2
    refine wp_loop_rounds 2 ?_
    rw [rounds_succ]
    go_wp2_with (first | (go_at_call 216; refine H1.out.mono ?_; rintro e w' ⟨rfl, hr⟩; have HR := Lib.hid hr; clear hr))
    rw [rounds_succ]
    go_wp2
    go_ret
    exact ⟨rfl, HR.out⟩
  · go_enter Tryz.func197, Tryz.ntmps197
    go_wp2
    refine wp_loop_rounds 1 ?_
    rw [rounds_succ]
    go_wp2_with (first | (go_at_call 216; refine H1.out.mono ?_; rintro e w' ⟨rfl, hr⟩; have HR := Lib.hid hr; clear hr))
    go_ret
    exact ⟨rfl, HR.out⟩

theorem queue_Push (b o g x : Nat) (t : TypeId) (cs : Array Value) (vr vf : Value) (l f : List Nat) (w : World) (h : QAt w b t cs o vr vf l f) (ht : t ≠ 3) (hg : Blk w g 3 #[.int .i64 x]) (hl : inRow l x = false) (hf : inRow f x = false) :
    Calls Tryz.prog 173 #[.pointer (some ⟨b, o, none⟩), .slice (some ⟨g, 0, none⟩) 1 1] w fun e w' => e = .returned (.int .i64 0) ∧ ∃ v', Blk w' b t (cs.setIfInBounds o v') ∧ IntsAt w' v' (l ++ [x]) ∧ NewOwn w.heap.size vr v' ∧ Only (fun g => g = b ∨ vr.ownBlock = some g) w w' := by
  have hp := queue_Push1 b o w.heap.size x t cs vr vf l f _ (h.alloc (.cells #[.pointer (some ⟨b, o, none⟩)] 196)) ht (Blk.new w _ _) hl hf
  have H1 := Lib.hid (each_push b o g w.heap.size x 0 _ _ (hg.alloc (.cells #[.pointer (some ⟨b, o, none⟩)] 196)) (hp.mono (fun e w' ⟨v', he, h1, h2, h3, h4⟩ => ⟨he, (⟨v', h1, h2, h3, h4⟩ : ∃ v', Blk w' b t (cs.setIfInBounds o v') ∧ IntsAt w' v' (l ++ [x]) ∧ NewOwn (w.alloc (.cells #[.pointer (some ⟨b, o, none⟩)] 196)).heap.size vr v' ∧ Only (fun g => g = b ∨ vr.ownBlock = some g) _ w')⟩)) (.inl rfl))
  clear h hg hl hf hp
  go_enter Tryz.func173, Tryz.ntmps173
  go_wp2_with (first | (go_at_call 197; refine H1.out.mono ?_; rintro e w' ⟨rfl, hr⟩; have HR := Lib.hid hr; clear hr))
  go_ret
  obtain ⟨v', h1, h2, h3, h4⟩ := HR.out
  refine ⟨rfl, v', h1, h2, ?_, ((Only.refl _ _).alloc _).trans h4⟩
  rcases h3 with h | ⟨g, h, hg⟩
  · exact .inl h
  · rw [World.size_alloc] at hg
    exact .inr ⟨g, h, by omega⟩

theorem row_drop_none (b o x : Nat) (t : TypeId) (cs : Array Value) (v : Value) (l : List Nat) (w : World) (hb : Blk w b t cs) (hc : cs[o]? = some v) (h : IntsAt w v l) (hn : l.length ≤ 1000) (hx : inRow l x = false) :
    Calls Tryz.prog 199 #[.pointer (some ⟨b, o, none⟩), .int .i64 x] w fun e w' => e = .returned (.bool false) ∧ w = w' := by
  have hi := index_ints v l x w h hn
  unfold inRow anyOf at hx
  rw [decide_eq_false_iff_not] at hx
  generalize idx (fun i => l.getD i 0 == x) l.length = y at hi hx
  have hy : decide (y < 0) = true := by rw [decide_eq_true_eq]; omega
  have HI := Lib.hid hi
  have c0 : w.cell? ⟨b, o, none⟩ = some v := (hb.cell o).trans hc
  obtain ⟨a1, n1, k1, rfl⟩ := rowShape h
  clear hb hc h hi hx
  go_enter Tryz.func199, Tryz.ntmps199
  go_wp2_with (first | (go_at_call 223; refine HI.out.mono ?_; rintro e w' ⟨rfl, rfl⟩))
  go_ret
  exact ⟨rfl, rfl⟩

/-- One that isn't full is not woken. -/
theorem queue_Wake_none (b o x : Nat) (t : TypeId) (cs : Array Value) (vr vf : Value) (l f : List Nat) (w : World) (h : QAt w b t cs o vr vf l f) (hf : inRow f x = false) :
    Calls Tryz.prog 190 #[.pointer (some ⟨b, o, none⟩), .int .i64 x] w fun e w' => e = .returned (.int .i64 5) ∧ Only Nobody w w' := by
  have h2 := (h.alloc (.cells #[.pointer (some ⟨b, o, none⟩)] 196)).alloc (.cells #[.int .i64 x] 3)
  have hbox := (Blk.new w 196 #[.pointer (some ⟨b, o, none⟩)]).alloc (.cells #[.int .i64 x] 3)
  have hsl := Blk.new (w.alloc (.cells #[.pointer (some ⟨b, o, none⟩)] 196)) 3 #[.int .i64 x]
  have ho := ((Only.refl Nobody w).alloc (.cells #[.pointer (some ⟨b, o, none⟩)] 196)).alloc (.cells #[.int .i64 x] 3)
  rw [World.size_alloc] at hsl
  have HO := Lib.hid ho
  have HD := Lib.hid (row_drop_none b (o + 1) x t cs vf f _ h2.blk h2.hf h2.rf (by have := h2.nf; omega) hf)
  have HB := Lib.hid hbox
  have HS := Lib.hid hsl
  clear h hf h2 hbox hsl ho
  have hw : Calls Tryz.prog 216 #[.int .i64 x, .pointer (some ⟨w.heap.size, 0, none⟩)] ((w.alloc (.cells #[.pointer (some ⟨b, o, none⟩)] 196)).alloc (.cells #[.int .i64 x] 3)) fun e w' => e = .returned (.int .i64 5) ∧ ((w.alloc (.cells #[.pointer (some ⟨b, o, none⟩)] 196)).alloc (.cells #[.int .i64 x] 3)) = w' := by
    generalize ((w.alloc (.cells #[.pointer (some ⟨b, o, none⟩)] 196)).alloc (.cells #[.int .i64 x] 3)) = w2 at *
    have cc : w2.cell? ⟨w.heap.size, 0, none⟩ = some (.pointer (some ⟨b, o, none⟩)) := HB.out.cell 0
    generalize w.heap.size = c at *
    go_enter Tryz.func216, Tryz.ntmps216
    go_wp2_with (first | (go_at_call 199; refine HD.out.mono ?_; rintro e w' ⟨rfl, rfl⟩))
    go_ret
    exact ⟨rfl, rfl⟩
  have H1 := Lib.hid (each_wake b o (w.heap.size + 1) w.heap.size x 5 _ _ HS.out hw (.inr rfl))
  clear hw
  go_enter Tryz.func190, Tryz.ntmps190
  go_wp2_with (first | (go_at_call 197; refine H1.out.mono ?_; rintro e w' ⟨rfl, rfl⟩))
  go_ret
  exact ⟨rfl, HO.out⟩

/-- The ready ones, copied. -/
theorem queue_Ready (b o : Nat) (t : TypeId) (cs : Array Value) (vr vf : Value) (l f : List Nat) (w : World) (h : QAt w b t cs o vr vf l f) :
    Calls Tryz.prog 110 #[.pointer (some ⟨b, o, none⟩)] w fun e w' => ∃ v', e = .returned v' ∧ w'.ownsRow w.heap.size 3 1 v' l.length (l.map natV) ∧ Only Nobody w w' := by
  have HC := Lib.hid (clone_ints vr l.length (l.map natV) w h.rr (by have := h.nl; omega) h.rr.one)
  have c0 : w.cell? ⟨b, o, none⟩ = some vr := (h.blk.cell o).trans h.hr
  obtain ⟨a1, n1, k1, rfl⟩ := rowShape h.rr
  clear h
  go_enter Tryz.func110, Tryz.ntmps110
  go_wp2_with (first | (go_at_call 139; refine HC.out.mono ?_; rintro e w1 ⟨v', rfl, hr, ho⟩; have HR := Lib.hid hr; have HO := Lib.hid ho; clear hr ho))
  go_ret
  exact ⟨v', rfl, HR.out, HO.out⟩
end Go.Proofs.YtfplalgoopkmaaaGreat
