/- Layer 15: the ledger gets one more at its end. Layer 15: the ledger does something with one of its blocks. Layer 15: Drop and Hold of one. Conditions: none. -/
import Derived.Test.YtfplalgoopkmaaaGreatPart29

set_option linter.unusedVariables false
set_option linter.unusedSimpArgs false

namespace Go.Proofs.YtfplalgoopkmaaaGreat
open Go.RowKit

theorem entCells_one (r : Ent) : ∀ u ∈ entCells r, u.oneCell' = true := by intro u hu; simp [entCells] at hu; rcases hu with rfl | rfl | rfl | rfl <;> rfl
set_option maxRecDepth 100000 in
set_option maxHeartbeats 1000000 in
theorem insert_ents_end (v : Value) (n g : Nat) (l : List Value) (r : Ent) (w : World) (h : RowAt w 79 4 v n l) (hn : n ≤ 1000) (hg : Blk w g 79 #[.int .u64 r.addr, .int .u64 r.n, .int .u64 r.align, .bool r.held]) :
    Calls Tryz.prog 135 #[v, .int .i64 n, .slice (some ⟨g, 0, none⟩) 1 1] w fun e w' =>
      ∃ v', e = .returned v' ∧ RowAt w' 79 4 v' (n + 1) (l ++ entCells r) ∧ w.grownBy w' v.ownBlock ∧ NewOwn w.heap.size v v' := by
  obtain ⟨i0, hi, hz0, hz1, hz2⟩ := info_parts Tryz.infoEntry
  have hnews : ∀ j u, (entCells r)[j]? = some u → w.cell? ((⟨g, 0, none⟩ : Addr).add j) = some u := by
    intro j u hu
    have hc := hg.cell
    match j, hu with
    | 0, hu => cases hu; exact hc 0
    | 1, hu => cases hu; exact hc 1
    | 2, hu => cases hu; exact hc 2
    | 3, hu => cases hu; exact hc 3
  have HG := Lib.hid hnews
  have HH := Lib.hid h
  have hsh : (v = .slice none 0 0 ∧ n = 0) ∨ ∃ b cap, v = .slice (some ⟨b, 0, none⟩) n cap ∧ n ≤ cap ∧ cap ≤ maxLen := by
    rcases h.2 with h2 | ⟨b, cap, cur, e, _, _, h3, h4, _⟩
    · exact .inl h2
    · exact .inr ⟨b, cap, e, h3, h4⟩
  clear h hg hnews
  rcases hsh with ⟨rfl, rfl⟩ | ⟨b, cap, rfl, hcap, hmax⟩
  · go_enter Tryz.func135, Tryz.ntmps135
    go_wp2_with (at_builtin; refine wpList_append_own_at _ rfl _ _ 51 rfl 0 79 i0 (.agg #[.int .u64 0, .int .u64 0, .int .u64 0, .bool false]) 4 32 Tryz.underlying51 hi hz0 hz1 hz2 rfl (by decide) _ _ _ rfl HH.out ⟨g, 0, none⟩ 1 1 (entCells r) rfl rfl HG.out (entCells_one r) (by unfold maxLen; omega) (by omega) (Nat.zero_le _) ?_; intro v' w1 hown hgr _ hwho)
    all_goals
      go_ret
      exact ⟨_, rfl, hown, hgr, hwho.elim .inl fun h => .inr ⟨_, h, Nat.le_refl _⟩⟩
  · clear hmax
    go_enter Tryz.func135, Tryz.ntmps135
    go_wp2_with (at_builtin; refine wpList_append_own_at _ rfl _ _ 51 rfl 0 79 i0 (.agg #[.int .u64 0, .int .u64 0, .int .u64 0, .bool false]) 4 32 Tryz.underlying51 hi hz0 hz1 hz2 rfl (by decide) _ _ _ rfl HH.out ⟨g, 0, none⟩ 1 1 (entCells r) rfl rfl HG.out (entCells_one r) (by unfold maxLen; omega) (by omega) (Nat.zero_le _) ?_; intro v' w1 hown hgr _ hwho)
    all_goals
      go_ret
      exact ⟨_, rfl, hown, hgr, hwho.elim .inl fun h => .inr ⟨_, h, Nat.le_refl _⟩⟩

theorem ents_last (l : List Ent) (a : Nat) (hall : ∀ e ∈ l, entEnd e ≤ a) : regIx (l.map entKey) a = l.length ∧ regHas (l.map entKey) a = false := by
  have h1 : regIx (l.map entKey) a = l.length := by
    rw [regIx_last _ _ (fun r hr => by
      obtain ⟨e, he, rfl⟩ := List.mem_map.1 hr
      have := hall e he
      show e.addr < a
      have h : e.addr + max e.n 1 ≤ a := this
      omega), List.length_map]
  refine ⟨h1, ?_⟩
  unfold regHas
  rw [h1, List.getElem?_eq_none (by simp)]

set_option maxHeartbeats 1000000 in
theorem ledger_Free_end (bw a n : Nat) (vl : Value) (l : List Ent) (w : World) (h : LedAt w bw vl l) (hn : 1 ≤ n) (ha : a + n < 18446744073709551616) (hall : ∀ e ∈ l, entEnd e ≤ a) :
    Calls Tryz.prog 134 #[.pointer (some ⟨bw, 0, none⟩), .int .u64 a, .int .u64 n] w fun e w' => e = .returned (.bool true) ∧ Only Nobody w w' := by
  obtain ⟨h1, h2⟩ := ents_last l a hall
  have HPL := Lib.hid (ledger_place bw a vl l w (by omega) h)
  rw [h1, h2] at HPL
  have hc1 : IntKind.u64.wrap ((n : Int) - 1) = (n : Int) - 1 := by simp [IntKind.wrap, IntKind.bits, IntKind.signed]; omega
  have b1 : decide ((n : Int) > 0) = true := by rw [decide_eq_true_iff]; omega
  have b3 : decide (0 < n) = true := by rw [decide_eq_true_iff]; omega
  have b2 : decide ((a : Int) + ((n : Int) - 1) < a) = false := by rw [decide_eq_false_iff_not]; omega
  have b4 : ((n : Int) == 0) = false := by rw [beq_eq_false_iff_ne]; omega
  have HL := Lib.hid h
  obtain ⟨sa, sc, rfl⟩ := rowShapeN h.row
  rcases Nat.eq_zero_or_pos l.length with h0 | h0
  · obtain rfl := List.eq_nil_of_length_eq_zero h0
    clear h h1 h2 h0
    simp only [List.length_nil] at *
    go_enter Tryz.func134, Tryz.ntmps134
    go_wp2_with (go_at_call 58; refine HPL.out.mono ?_; rintro e w1 ⟨rfl, ho⟩; have HO := Lib.hid ho; have d0 := (HL.out.quiet ho).cell; clear ho)
    go_ret
    exact ⟨rfl, HO.out⟩
  · obtain ⟨k, hk⟩ : ∃ k, l.length = k + 1 := ⟨l.length - 1, by omega⟩
    have hke : l[k]? = some l[k] := List.getElem?_eq_getElem (by omega)
    have hee := hall l[k] (List.getElem_mem _)
    generalize l[k] = e at hke hee
    obtain ⟨ea, en, eg, eh⟩ := e
    obtain ⟨g, rfl⟩ : ∃ g, sa = some ⟨g, 0, none⟩ := by
      rcases h.row.2 with ⟨hv, h0⟩ | ⟨g, cap, cur, hv, _⟩
      · omega
      · injection hv with hv; exact ⟨g, hv⟩
    have HEE := Lib.hid (fun w => entry_end ea en eg eh (by have h : ea + max en 1 ≤ a := hee; omega) w)
    have hle : ea + max en 1 ≤ a := hee
    generalize ea + max en 1 = ee at HEE hle
    rw [hk] at HPL HL
    have hfew := h.few
    have hk990 : k ≤ 989 := by omega
    clear h h1 h2 h0 hee hall hk hfew
    have b5 : decide (a < ee) = false := by rw [decide_eq_false_iff_not]; omega
    have HKE := Lib.hid hke
    clear hke hle
    go_enter Tryz.func134, Tryz.ntmps134
    go_wp2_with (first | (go_at_call 58; refine HPL.out.mono ?_; rintro e w1 ⟨rfl, ho⟩; have HO := Lib.hid ho; have HL1 := Lib.hid (HL.out.quiet ho); have d0 := HL1.out.cell; obtain ⟨q1, q2, q3, q4⟩ := HL1.out.ent k _ HKE.out; clear ho) | (go_at_call 59; refine (HEE.out _).mono ?_; rintro e w2 ⟨rfl, ho⟩; have HO2 := Lib.hid ho; have d1 := (HL1.out.quiet ho).cell; clear ho))
    go_ret
    exact ⟨congrArg Ending.returned (boolv (by simp)), HO.out.trans HO2.out⟩

set_option maxRecDepth 100000 in
set_option maxHeartbeats 1000000 in
theorem ledger_Add_end (bw a n al : Nat) (vl : Value) (l : List Ent) (w : World) (h : LedAt w bw vl l) (cs : Array Value) (hcs : Blk w bw 57 cs) (h0 : cs[0]? = some vl)
    (hn : n ≤ 1048576) (ha : a ≤ 1048576) (he : a + max n 1 ≤ 1048576) (hp : pw2 al = true) (hal : al ≤ 1024) (hd : a &&& (al - 1) = 0) (hall : ∀ e ∈ l, entEnd e ≤ a) (hfew : l.length ≤ 980) :
    Calls Tryz.prog 101 #[.pointer (some ⟨bw, 0, none⟩), .agg #[.int .u64 a, .int .u64 n, .int .u64 al]] w fun e w' =>
      ∃ vl', e = .returned (.int .i64 0) ∧ Blk w' bw 57 (cs.setIfInBounds 0 vl') ∧ RowAt w' 79 4 vl' (l.length + 1) ((l ++ [(⟨a, n, al, false⟩ : Ent)]).flatMap entCells) ∧ NewOwn w.heap.size vl vl' ∧ Only (fun g => g = bw ∨ vl.ownBlock = some g) w w' := by
  have hm : (if (n : Int) < 1 then (1 : Int) else n) = ((max n 1 : Nat) : Int) := by split <;> omega
  have HMAY := Lib.hid (fun w => ledger_may a n al hn ha he hp hal hd w)
  have HFREE : Hid (∀ w1, Only Nobody w w1 → Calls Tryz.prog 134 #[.pointer (some ⟨bw, 0, none⟩), .int .u64 a, .int .u64 (max n 1 : Nat)] w1 fun e w' => e = .returned (.bool true) ∧ Only Nobody w1 w') := Lib.hid fun w1 ho => ledger_Free_end bw a (max n 1) vl l w1 (h.quiet ho) (by omega) (by omega) hall
  have HPL : Hid (∀ w1, Only Nobody w w1 → Calls Tryz.prog 58 #[.pointer (some ⟨bw, 0, none⟩), .int .u64 a] w1 fun e w' => e = .returned (.tuple #[.int .i64 l.length, .bool false]) ∧ Only Nobody w1 w') := Lib.hid fun w1 ho => by
    have := ledger_place bw a vl l w1 (by omega) (h.quiet ho)
    rw [(ents_last l a hall).1, (ents_last l a hall).2] at this
    exact this
  generalize hmx : max n 1 = mx at *
  have HW : Hid (∀ w1, Only Nobody w w1 → w1.cell? ⟨bw, 0, none⟩ = some vl) := Lib.hid fun w1 ho => (h.quiet ho).cell
  have HR : Hid (∀ w1, Only Nobody w w1 → RowAt w1 79 4 vl l.length (l.flatMap entCells)) := Lib.hid fun w1 ho => (h.quiet ho).row
  have HB := Lib.hid (Blk.new w 61 #[.int .u64 a, .int .u64 n, .int .u64 al])
  have HO0 := Lib.hid ((Only.refl Nobody w).alloc (.cells #[.int .u64 a, .int .u64 n, .int .u64 al] 61))
  have HCS : Hid (∀ w1, Only Nobody w w1 → Blk w1 bw 57 cs) := Lib.hid fun w1 ho => hcs.only ho (fun h => h)
  obtain ⟨sa, sc, rfl⟩ := rowShapeN h.row
  have HH := Lib.hid h
  clear h hcs hn ha he hp hal hd hall hmx
  go_enter Tryz.func101, Tryz.ntmps101
  go_wp2_with (first | (go_at_call 133; refine (HMAY.out _).mono ?_; rintro e w1 ⟨rfl, ho⟩; have HB1 := Lib.hid (HB.out.only ho (fun h => h)); have d0 := HB1.out.cell 0; have d1 := HB1.out.cell 1; have d2 := HB1.out.cell 2; have HO1 := Lib.hid (HO0.out.trans ho); clear ho) | (go_at_call 134; (try rw [hm]); refine (HFREE.out _ HO1.out).mono ?_; rintro e w2 ⟨rfl, ho⟩; have HB2 := Lib.hid (HB1.out.only ho (fun h => h)); have e0 := HB2.out.cell 0; have HO2 := Lib.hid (HO1.out.trans ho); clear ho d0 d1 d2) | (go_at_call 58; refine (HPL.out _ HO2.out).mono ?_; rintro e w3 ⟨rfl, ho⟩; have HB3 := Lib.hid (HB2.out.only ho (fun h => h)); have g0 := HB3.out.cell 0; have g1 := HB3.out.cell 1; have g2 := HB3.out.cell 2; have HO3 := Lib.hid (HO2.out.trans ho); have g3 := HW.out _ HO3.out; clear ho e0) | fail)
  have hkr : ∀ g, (Value.slice sa l.length sc).ownBlock = some g → g ≠ bw := fun g hg e => row_blk_ne (HR.out w (Only.refl _ _)) (HCS.out w (Only.refl _ _)) (by decide) (by rw [hg, e])
  have HKR := Lib.hid hkr
  have HINS : Hid (∀ wy, Only Nobody w wy → Calls Tryz.prog 135 #[.slice sa l.length sc, .int .i64 l.length, .slice (some ⟨wy.heap.size, 0, none⟩) 1 1] (wy.alloc (.cells #[.int .u64 a, .int .u64 n, .int .u64 al, .bool false] 79)) fun e w' => ∃ ga ca, e = .returned (.slice ga (l.length + 1) ca) ∧ RowAt w' 79 4 (.slice ga (l.length + 1) ca) (l.length + 1) ((l ++ [(⟨a, n, al, false⟩ : Ent)]).flatMap entCells) ∧ Blk w' bw 57 cs ∧ NewOwn w.heap.size (.slice sa l.length sc) (.slice ga (l.length + 1) ca) ∧ Only (fun g => (Value.slice sa l.length sc).ownBlock = some g) w w') := Lib.hid fun wy ho => by
    have := insert_ents_end (.slice sa l.length sc) l.length wy.heap.size (l.flatMap entCells) ⟨a, n, al, false⟩ (wy.alloc (.cells #[.int .u64 a, .int .u64 n, .int .u64 al, .bool false] 79)) (HR.out _ (ho.alloc _)) (by omega) (Blk.new wy 79 #[.int .u64 a, .int .u64 n, .int .u64 al, .bool false])
    refine this.mono ?_
    rintro e w' ⟨v', rfl, hrow, hgr, hnw⟩
    obtain ⟨ga, ca, rfl⟩ := rowShapeN hrow
    have hle : w.heap.size ≤ wy.heap.size := ho.size
    refine ⟨ga, ca, rfl, by rw [List.flatMap_append]; exact hrow, (HCS.out _ (ho.alloc (.cells #[.int .u64 a, .int .u64 n, .int .u64 al, .bool false] 79))).grown hgr (fun e => HKR.out _ e.symm rfl), ?_, (((ho.mono (S' := fun g => (Value.slice sa l.length sc).ownBlock = some g) (fun _ h => h.elim)).alloc _).grown hgr (fun k hk _ => hk))⟩
    rcases hnw with h | ⟨g, h, h2⟩
    · exact .inl h
    · rw [World.size_alloc] at h2
      exact .inr ⟨g, h, by omega⟩
  clear hkr
  have g4 := HW.out _ (HO3.out.alloc (.cells #[.int .u64 a, .int .u64 n, .int .u64 al, .bool false] 79))
  go_region_law (go_simp; go_at_call 135; refine (HINS.out _ HO3.out.drew).mono ?_; rintro e w4 ⟨ga, ca, rfl, hrow, hb4, hnw, ho4⟩; have HNW := Lib.hid hnw; have HB4 := Lib.hid hb4; have f4 := hb4.frozen 0; have d4 := (hb4.cell 0).trans h0; have HROW := Lib.hid hrow; have HO4 := Lib.hid ho4; clear hrow hb4 hnw ho4)
  all_goals
    go_wp2
    go_ret
    refine ⟨_, rfl, HB4.out.set_ 0 _, ?_, HNW.out, ?_⟩
    · exact HROW.out.only (Only.setAt (S := fun g => g = bw) (Only.refl _ _) (show bw = bw from rfl) 0 (.slice ga (l.length + 1) ca)) (fun g hg e => row_blk_ne HROW.out HB4.out (by decide) (by rw [hg, e]))
    · exact Only.setAt (HO4.out.mono fun _ h => .inr h) (.inl rfl) _ _
end Go.Proofs.YtfplalgoopkmaaaGreat

namespace Go.Proofs.YtfplalgoopkmaaaGreat
open Go.RowKit

/-- Each, with one address that one begins at. -/
theorem each_drop (bw x i g : Nat) (c0 : Nat) (k : Int) (vl : Value) (l : List Ent) (w : World) (R : World → Prop) (h : LedAt w bw vl l) (hx : x < 18446744073709551616) (hi : regIx (l.map entKey) x = i) (hh : regHas (l.map entKey) x = true) (hg : Blk w g 22 #[.int .u64 x])
    (hd : ∀ w1, Only Nobody w w1 → Calls Tryz.prog 136 #[.int .i64 i, .pointer (some ⟨c0, 0, none⟩)] w1 fun e w' => e = .returned (.int .i64 k) ∧ R w') (hk : k = 0 ∨ k = 7 ∨ k = 8) :
    Calls Tryz.prog 97 #[.pointer (some ⟨bw, 0, none⟩), .func (.func 136) #[] #[.pointer (some ⟨c0, 0, none⟩)], .slice (some ⟨g, 0, none⟩) 1 1] w fun e w' => e = .returned (.int .i64 k) ∧ R w' := by
  have HP := Lib.hid (ledger_place bw x vl l w hx h)
  rw [hi, hh] at HP
  have HD := Lib.hid hd
  have cg : w.cell? ⟨g, 0, none⟩ = some (.int .u64 x) := hg.cell 0
  have HG := Lib.hid hg
  clear h hd hg hi hh
  rcases hk with rfl | rfl | rfl
  · go_enter Tryz.func97, Tryz.ntmps97
    go_wp2
    refine wp_loop_rounds 2 ?_
    rw [rounds_succ]
    go_wp2_with (first | (go_at_call 58; refine HP.out.mono ?_; rintro e w1 ⟨rfl, ho⟩; have HO := Lib.hid ho; clear ho) | (go_at_call 136; refine (HD.out _ HO.out).mono ?_; rintro e w' ⟨rfl, hr⟩; have HR := Lib.hid hr; clear hr))
    rw [rounds_succ]
    go_wp2
    go_ret
    exact ⟨rfl, HR.out⟩
  · go_enter Tryz.func97, Tryz.ntmps97
    go_wp2
    refine wp_loop_rounds 1 ?_
    rw [rounds_succ]
    go_wp2_with (first | (go_at_call 58; refine HP.out.mono ?_; rintro e w1 ⟨rfl, ho⟩; have HO := Lib.hid ho; clear ho) | (go_at_call 136; refine (HD.out _ HO.out).mono ?_; rintro e w' ⟨rfl, hr⟩; have HR := Lib.hid hr; clear hr))
    go_ret
    exact ⟨rfl, HR.out⟩
  · go_enter Tryz.func97, Tryz.ntmps97
    go_wp2
    refine wp_loop_rounds 1 ?_
    rw [rounds_succ]
    go_wp2_with (first | (go_at_call 58; refine HP.out.mono ?_; rintro e w1 ⟨rfl, ho⟩; have HO := Lib.hid ho; clear ho) | (go_at_call 136; refine (HD.out _ HO.out).mono ?_; rintro e w' ⟨rfl, hr⟩; have HR := Lib.hid hr; clear hr))
    go_ret
    exact ⟨rfl, HR.out⟩

/-- Each, with one address that one begins at. -/
theorem each_turn (bw x i g : Nat) (c0 : Nat) (c1 : Nat) (c2 : Nat) (k : Int) (vl : Value) (l : List Ent) (w : World) (R : World → Prop) (h : LedAt w bw vl l) (hx : x < 18446744073709551616) (hi : regIx (l.map entKey) x = i) (hh : regHas (l.map entKey) x = true) (hg : Blk w g 22 #[.int .u64 x])
    (hd : ∀ w1, Only Nobody w w1 → Calls Tryz.prog 98 #[.int .i64 i, .pointer (some ⟨c0, 0, none⟩), .pointer (some ⟨c1, 0, none⟩), .pointer (some ⟨c2, 0, none⟩)] w1 fun e w' => e = .returned (.int .i64 k) ∧ R w') (hk : k = 0 ∨ k = 7 ∨ k = 8) :
    Calls Tryz.prog 97 #[.pointer (some ⟨bw, 0, none⟩), .func (.func 98) #[] #[.pointer (some ⟨c0, 0, none⟩), .pointer (some ⟨c1, 0, none⟩), .pointer (some ⟨c2, 0, none⟩)], .slice (some ⟨g, 0, none⟩) 1 1] w fun e w' => e = .returned (.int .i64 k) ∧ R w' := by
  have HP := Lib.hid (ledger_place bw x vl l w hx h)
  rw [hi, hh] at HP
  have HD := Lib.hid hd
  have cg : w.cell? ⟨g, 0, none⟩ = some (.int .u64 x) := hg.cell 0
  have HG := Lib.hid hg
  clear h hd hg hi hh
  rcases hk with rfl | rfl | rfl
  · go_enter Tryz.func97, Tryz.ntmps97
    go_wp2
    refine wp_loop_rounds 2 ?_
    rw [rounds_succ]
    go_wp2_with (first | (go_at_call 58; refine HP.out.mono ?_; rintro e w1 ⟨rfl, ho⟩; have HO := Lib.hid ho; clear ho) | (go_at_call 98; refine (HD.out _ HO.out).mono ?_; rintro e w' ⟨rfl, hr⟩; have HR := Lib.hid hr; clear hr))
    rw [rounds_succ]
    go_wp2
    go_ret
    exact ⟨rfl, HR.out⟩
  · go_enter Tryz.func97, Tryz.ntmps97
    go_wp2
    refine wp_loop_rounds 1 ?_
    rw [rounds_succ]
    go_wp2_with (first | (go_at_call 58; refine HP.out.mono ?_; rintro e w1 ⟨rfl, ho⟩; have HO := Lib.hid ho; clear ho) | (go_at_call 98; refine (HD.out _ HO.out).mono ?_; rintro e w' ⟨rfl, hr⟩; have HR := Lib.hid hr; clear hr))
    go_ret
    exact ⟨rfl, HR.out⟩
  · go_enter Tryz.func97, Tryz.ntmps97
    go_wp2
    refine wp_loop_rounds 1 ?_
    rw [rounds_succ]
    go_wp2_with (first | (go_at_call 58; refine HP.out.mono ?_; rintro e w1 ⟨rfl, ho⟩; have HO := Lib.hid ho; clear ho) | (go_at_call 98; refine (HD.out _ HO.out).mono ?_; rintro e w' ⟨rfl, hr⟩; have HR := Lib.hid hr; clear hr))
    go_ret
    exact ⟨rfl, HR.out⟩

/-- Without the i-th one. -/
theorem ents_cut (l : List Ent) (i : Nat) : (l.flatMap entCells).take (i * 4) ++ (l.flatMap entCells).drop ((i + 1) * 4) = (l.eraseIdx i).flatMap entCells := by
  induction l generalizing i with
  | nil => simp
  | cons e l ih =>
    cases i with
    | zero => simp [entCells]
    | succ i =>
      have := ih i
      rw [List.eraseIdx_cons_succ, List.flatMap_cons, List.flatMap_cons, ← this]
      have e1 : (i + 1) * 4 = i * 4 + 1 + 1 + 1 + 1 := by omega
      have e2 : (i + 1 + 1) * 4 = (i + 1) * 4 + 1 + 1 + 1 + 1 := by omega
      rw [e1, e2]
      simp [entCells]
      omega

set_option maxRecDepth 100000 in
set_option maxHeartbeats 1000000 in
theorem ledger_Drop1 (bw c i : Nat) (vl : Value) (l : List Ent) (w : World) (h : LedAt w bw vl l) (cs : Array Value) (hcs : Blk w bw 57 cs) (h0 : cs[0]? = some vl) (hc : Blk w c 77 #[.pointer (some ⟨bw, 0, none⟩)]) (hi : i < l.length) :
    Calls Tryz.prog 136 #[.int .i64 i, .pointer (some ⟨c, 0, none⟩)] w fun e w' => e = .returned (.int .i64 0) ∧ ∃ vl', Blk w' bw 57 (cs.setIfInBounds 0 vl') ∧ RowAt w' 79 4 vl' (l.length - 1) ((l.eraseIdx i).flatMap entCells) ∧ vl'.ownBlock = vl.ownBlock ∧ Only (fun g => g = bw ∨ vl.ownBlock = some g) w w' := by
  have HDEL : Hid (∀ w1, Only Nobody w w1 → Calls Tryz.prog 137 #[vl, .int .i64 i, .int .i64 ((i : Int) + 1)] w1 fun e w' => ∃ ga ca, e = .returned (.slice ga (l.length - 1) ca) ∧ RowAt w' 79 4 (.slice ga (l.length - 1) ca) (l.length - 1) ((l.eraseIdx i).flatMap entCells) ∧ (Value.slice ga (l.length - 1) ca).ownBlock = vl.ownBlock ∧ Blk w' bw 57 cs ∧ w'.cell? ⟨c, 0, none⟩ = some (.pointer (some ⟨bw, 0, none⟩)) ∧ Only (fun g => vl.ownBlock = some g) w w') := Lib.hid fun w1 ho => by
    refine (delete_ents vl l.length i _ w1 (h.quiet ho).row (entCells_all l) hi (by have := h.few; omega)).mono ?_
    rintro e w' ⟨v', rfl, hrow, hob, ho2⟩
    obtain ⟨ga, ca, rfl⟩ := rowShapeN hrow
    rw [ents_cut] at hrow
    exact ⟨ga, ca, rfl, hrow, hob, (hcs.only ho (fun h => h)).only ho2 (fun e => row_blk_ne h.row hcs (by decide) e), ((hc.only ho (fun h => h)).only ho2 (fun e => row_blk_ne h.row hc (by decide) e)).cell 0, (ho.mono fun _ h => h.elim).trans ho2⟩
  have hsum : IntKind.i64.wrap ((i : Int) + 1) = (i : Int) + 1 := by have := h.few; simp [IntKind.wrap, IntKind.bits, IntKind.signed]; omega
  have c0 : w.cell? ⟨c, 0, none⟩ = some (.pointer (some ⟨bw, 0, none⟩)) := hc.cell 0
  have c1 : w.cell? ⟨bw, 0, none⟩ = some vl := h.cell
  have hfw := h.few
  have hi2 : (i : Int) ≤ 990 := by omega
  obtain ⟨sa, sc, rfl⟩ := rowShapeN h.row
  clear h hcs hc hi hfw
  go_enter Tryz.func136, Tryz.ntmps136
  go_wp2
  go_region_law (go_simp; go_at_call 137; refine (HDEL.out _ (Only.refl _ w).drew).mono ?_; rintro e w4 ⟨ga, ca, rfl, hrow, hob, hb4, k4, ho4⟩; have HB4 := Lib.hid hb4; have f4 := hb4.frozen 0; have d4 := (hb4.cell 0).trans h0; have HROW := Lib.hid hrow; have HO4 := Lib.hid ho4; have HOB := Lib.hid hob; clear hrow hb4 hob ho4)
  all_goals
    go_wp2
    go_ret
    refine ⟨rfl, _, HB4.out.set_ 0 _, ?_, HOB.out, ?_⟩
    · exact HROW.out.only (Only.setAt (S := fun g => g = bw) (Only.refl _ _) (show bw = bw from rfl) 0 (.slice ga (l.length - 1) ca)) (fun g hg e => row_blk_ne HROW.out HB4.out (by decide) (by rw [hg, e]))
    · exact Only.setAt (HO4.out.mono fun _ h => .inr h) (.inl rfl) _ _
end Go.Proofs.YtfplalgoopkmaaaGreat

namespace Go.Proofs.YtfplalgoopkmaaaGreat
open Go.RowKit

theorem regHas_ix {l : List Ent} {x i : Nat} {e : Ent} (hr : Rising (l.map entKey)) (hi : l[i]? = some e) (he : e.addr = x) : regIx (l.map entKey) x = i ∧ regHas (l.map entKey) x = true := by
  have hil : i < l.length := (List.getElem?_eq_some_iff.1 hi).1
  have hk : (l.map entKey)[i]? = some (entKey e) := by rw [List.getElem?_map, hi]; rfl
  have h1 : regIx (l.map entKey) x = i := by
    refine regIx_of _ _ _ (by simp; omega) (fun k hk2 r hr2 => ?_) (fun r hr2 => ?_)
    · have hlt := List.pairwise_iff_getElem.1 hr k i (by simp; omega) (by simpa using hil) hk2
      obtain ⟨hk3, e3⟩ := List.getElem?_eq_some_iff.1 hr2
      obtain ⟨hk4, e4⟩ := List.getElem?_eq_some_iff.1 hk
      rw [e3, e4] at hlt
      exact he ▸ hlt
    · rw [hk] at hr2
      injection hr2 with hr2
      subst hr2
      exact Nat.le_of_eq he.symm
  refine ⟨h1, ?_⟩
  unfold regHas
  rw [h1, hk]
  exact decide_eq_true he

theorem ledger_Drop (bw x i g : Nat) (e : Ent) (vl : Value) (l : List Ent) (w : World) (h : LedAt w bw vl l) (cs : Array Value) (hcs : Blk w bw 57 cs) (h0 : cs[0]? = some vl) (hi : l[i]? = some e) (he : e.addr = x) (hx : x < 18446744073709551616) (hg : Blk w g 22 #[.int .u64 x]) :
    Calls Tryz.prog 102 #[.pointer (some ⟨bw, 0, none⟩), .slice (some ⟨g, 0, none⟩) 1 1] w fun e w' => e = .returned (.int .i64 0) ∧ ∃ vl', Blk w' bw 57 (cs.setIfInBounds 0 vl') ∧ RowAt w' 79 4 vl' (l.length - 1) ((l.eraseIdx i).flatMap entCells) ∧ vl'.ownBlock = vl.ownBlock ∧ Only (fun g => g = bw ∨ vl.ownBlock = some g) w w' := by
  obtain ⟨h1, h2⟩ := regHas_ix h.rise hi he
  have hil : i < l.length := (List.getElem?_eq_some_iff.1 hi).1
  have ho := (Only.refl Nobody w).alloc (.cells #[.pointer (some ⟨bw, 0, none⟩)] 77)
  have hcb := Blk.new w 77 #[.pointer (some ⟨bw, 0, none⟩)]
  have HE := Lib.hid (each_drop bw x i g w.heap.size 0 vl l _ (fun w' => ∃ vl', Blk w' bw 57 (cs.setIfInBounds 0 vl') ∧ RowAt w' 79 4 vl' (l.length - 1) ((l.eraseIdx i).flatMap entCells) ∧ vl'.ownBlock = vl.ownBlock ∧ Only (fun g => g = bw ∨ vl.ownBlock = some g) w w') (h.quiet ho) hx h1 h2 (hg.only ho (fun h => h))
    (fun w1 ho1 => (ledger_Drop1 bw w.heap.size i vl l w1 (h.quiet (ho.trans ho1)) cs (hcs.only (ho.trans ho1) (fun h => h)) h0 (hcb.only ho1 (fun h => h)) hil).mono (fun e w' ⟨he, vl', a1, a2, a3, a4⟩ => ⟨he, vl', a1, a2, a3, ((ho.trans ho1).mono fun _ h => h.elim).trans a4⟩)) (.inl rfl))
  clear h hcs hg ho hcb hi h1 h2
  go_enter Tryz.func102, Tryz.ntmps102
  go_wp2_with (first | (go_at_call 97; refine HE.out.mono ?_; rintro e w' ⟨rfl, hr⟩; have HR := Lib.hid hr; clear hr))
  go_ret
  exact ⟨rfl, HR.out⟩

/-- Held, or not. -/
abbrev entHeld (e : Ent) (b : Bool) : Ent := ⟨e.addr, e.n, e.align, b⟩
theorem ents_set (l : List Ent) (i : Nat) (e : Ent) (b : Bool) (hi : l[i]? = some e) : (l.set i (entHeld e b)).flatMap entCells = (l.flatMap entCells).set (i * 4 + 3) (.bool b) := by
  induction l generalizing i with
  | nil => simp at hi
  | cons x l ih =>
    cases i with
    | zero => simp at hi; subst hi; simp [entCells]
    | succ i =>
      have := ih i (by simpa using hi)
      rw [List.set_cons_succ, List.flatMap_cons, List.flatMap_cons, this]
      have e1 : (i + 1) * 4 + 3 = i * 4 + 3 + 1 + 1 + 1 + 1 := by omega
      rw [e1]
      simp [entCells]

set_option maxRecDepth 100000 in
set_option maxHeartbeats 1000000 in
/-- One that is not held is held. -/
theorem ledger_turn1 (bw c0 c1 c2 i : Nat) (b : Bool) (no : Nat) (e : Ent) (vl : Value) (l : List Ent) (w : World) (h : LedAt w bw vl l) (hi : l[i]? = some e) (hb : e.held = !b)
    (h0 : w.cell? ⟨c0, 0, none⟩ = some (.pointer (some ⟨bw, 0, none⟩))) (h1 : w.cell? ⟨c1, 0, none⟩ = some (.bool b)) :
    Calls Tryz.prog 98 #[.int .i64 i, .pointer (some ⟨c0, 0, none⟩), .pointer (some ⟨c1, 0, none⟩), .pointer (some ⟨c2, 0, none⟩)] w fun e' w' => e' = .returned (.int .i64 0) ∧ RowAt w' 79 4 vl l.length ((l.set i (entHeld e b)).flatMap entCells) ∧ Only (fun g => vl.ownBlock = some g) w w' := by
  have hil : i < l.length := (List.getElem?_eq_some_iff.1 hi).1
  have hfew := h.few
  have d0 := h.cell
  have hset := ents_set l i e b hi
  obtain ⟨sa, sc, rfl⟩ := rowShapeN h.row
  obtain ⟨g, rfl⟩ : ∃ g, sa = some ⟨g, 0, none⟩ := by
    rcases h.row.2 with ⟨hv, h0⟩ | ⟨g, cap, cur, hv, _⟩
    · omega
    · injection hv with hv; exact ⟨g, hv⟩
  obtain ⟨_, _, _, q4⟩ := h.ent i e hi
  have f4 : w.frozen? ⟨g, i * 4 + 3, none⟩ = false := by
    rcases h.row.2 with ⟨hv, h0⟩ | ⟨g', cap, cur, hv, _, hg, _⟩
    · omega
    · injection hv with hv; injection hv with hv; injection hv with hv; subst hv
      exact Blk.frozen (t := 79) hg _
  have hi990 : i ≤ 990 := by omega
  have HSET := Lib.hid hset
  rw [hb] at q4
  have HROW : Hid (∀ w1, Only Nobody w w1 → RowAt (w1.setCell ⟨g, i * 4 + 3, none⟩ (.bool b)) 79 4 (.slice (some ⟨g, 0, none⟩) l.length sc) l.length ((l.set i (entHeld e b)).flatMap entCells)) := Lib.hid fun w1 ho => by
    rw [hset]
    exact (World.ownsRow.stored (RowAt.only h.row ho (fun _ _ h => h)) (i * 4 + 3) (.bool b)).1
  clear h hset hfew hi HSET
  cases b
  · go_enter Tryz.func98, Tryz.ntmps98
    go_wp2
    go_quiet (fail)
    go_wp2_with fail
    go_region
    all_goals
      go_wp2
      go_ret
      refine ⟨rfl, HROW.out _ ?_, Only.setAt (S := fun x => (Value.slice (some ⟨g, 0, none⟩) l.length sc).ownBlock = some x) ?_ (show (Value.slice (some ⟨g, 0, none⟩) l.length sc).ownBlock = some g from rfl) _ _⟩
      · exact Only.drewN (Only.refl _ _) _
      · exact Only.drewN (Only.refl _ _) _
  · go_enter Tryz.func98, Tryz.ntmps98
    go_wp2
    go_quiet (fail)
    go_wp2_with fail
    go_region
    all_goals
      go_wp2
      go_ret
      refine ⟨rfl, HROW.out _ ?_, Only.setAt (S := fun x => (Value.slice (some ⟨g, 0, none⟩) l.length sc).ownBlock = some x) ?_ (show (Value.slice (some ⟨g, 0, none⟩) l.length sc).ownBlock = some g from rfl) _ _⟩
      · exact Only.drewN (Only.refl _ _) _
      · exact Only.drewN (Only.refl _ _) _

theorem ledger_turn (bw x i g : Nat) (b : Bool) (no : Nat) (e : Ent) (vl : Value) (l : List Ent) (w : World) (h : LedAt w bw vl l) (hi : l[i]? = some e) (he : e.addr = x) (hb : e.held = !b) (hx : x < 18446744073709551616) (hg : Blk w g 22 #[.int .u64 x]) :
    Calls Tryz.prog 75 #[.pointer (some ⟨bw, 0, none⟩), .bool b, .int .i64 no, .slice (some ⟨g, 0, none⟩) 1 1] w fun e' w' => e' = .returned (.int .i64 0) ∧ RowAt w' 79 4 vl l.length ((l.set i (entHeld e b)).flatMap entCells) ∧ Only (fun g => vl.ownBlock = some g) w w' := by
  obtain ⟨h1, h2⟩ := regHas_ix h.rise hi he
  have b0 := Blk.new w 77 #[.pointer (some ⟨bw, 0, none⟩)]
  have b1 := Blk.new (w.alloc (.cells #[.pointer (some ⟨bw, 0, none⟩)] 77)) 4 #[.bool b]
  have ho := (((Only.refl Nobody w).alloc (.cells #[.pointer (some ⟨bw, 0, none⟩)] 77)).alloc (.cells #[.bool b] 4)).alloc (.cells #[.int .i64 no] 28)
  rw [World.size_alloc] at b1
  have HE := Lib.hid (each_turn bw x i g w.heap.size (w.heap.size + 1) (w.heap.size + 2) 0 vl l _ (fun w' => RowAt w' 79 4 vl l.length ((l.set i (entHeld e b)).flatMap entCells) ∧ Only (fun g => vl.ownBlock = some g) w w') (h.quiet ho) hx h1 h2 (hg.only ho (fun h => h))
    (fun w1 ho1 => (ledger_turn1 bw w.heap.size (w.heap.size + 1) (w.heap.size + 2) i b no e vl l w1 (h.quiet (ho.trans ho1)) hi hb (((((b0.alloc _).alloc _).only ho1 (fun h => h))).cell 0) (((b1.alloc _).only ho1 (fun h => h)).cell 0)).mono (fun e w' ⟨he, a1, a2⟩ => ⟨he, a1, ((ho.trans ho1).mono fun _ h => h.elim).trans a2⟩)) (.inl rfl))
  clear h hg ho b0 b1 hi h1 h2
  go_enter Tryz.func75, Tryz.ntmps75
  go_wp2_with (first | (go_at_call 97; refine HE.out.mono ?_; rintro e w' ⟨rfl, hr⟩; have HR := Lib.hid hr; clear hr))
  go_ret
  exact ⟨rfl, HR.out⟩

theorem ledger_Hold (bw x i g : Nat) (e : Ent) (vl : Value) (l : List Ent) (w : World) (h : LedAt w bw vl l) (hi : l[i]? = some e) (he : e.addr = x) (hb : e.held = false) (hx : x < 18446744073709551616) (hg : Blk w g 22 #[.int .u64 x]) :
    Calls Tryz.prog 52 #[.pointer (some ⟨bw, 0, none⟩), .slice (some ⟨g, 0, none⟩) 1 1] w fun e' w' => e' = .returned (.int .i64 0) ∧ RowAt w' 79 4 vl l.length ((l.set i (entHeld e true)).flatMap entCells) ∧ Only (fun g => vl.ownBlock = some g) w w' := by
  have HT := Lib.hid (ledger_turn bw x i g true 7 e vl l w h hi he hb hx hg)
  clear h hg hi
  go_enter Tryz.func52, Tryz.ntmps52
  go_wp2_with (first | (go_at_call 75; refine HT.out.mono ?_; rintro e w' ⟨rfl, hr⟩; have HR := Lib.hid hr; clear hr))
  go_ret
  exact ⟨rfl, HR.out⟩
end Go.Proofs.YtfplalgoopkmaaaGreat
