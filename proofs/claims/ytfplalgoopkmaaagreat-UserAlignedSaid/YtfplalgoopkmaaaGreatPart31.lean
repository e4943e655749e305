/- Layer 15: all that is handed out. Layer 15: the block that begins at an address. Layer 16: the ledger's calls over the whole state. Layer 16: threads. Layer 16: threads start. Conditions: none. -/
import Derived.Test.YtfplalgoopkmaaaGreatPart30

set_option linter.unusedVariables false
set_option linter.unusedSimpArgs false

namespace Go.Proofs.YtfplalgoopkmaaaGreat
open Go.RowKit

theorem Tryz.infoBlock : (Tryz.prog.info? 61).map (fun i => (i.zero, i.size, i.bytes)) = some (some (.agg #[.int .u64 0, .int .u64 0, .int .u64 0]), 3, 24) := by kernel_rfl
abbrev blkCells (e : Ent) : List Value := [.int .u64 e.addr, .int .u64 e.n, .int .u64 e.align]
theorem blkCells_one (e : Ent) : ∀ u ∈ blkCells e, Value.oneCell' u = true := by intro u hu; simp [blkCells] at hu; rcases hu with rfl | rfl | rfl <;> rfl

set_option maxRecDepth 100000 in
set_option maxHeartbeats 1000000 in
theorem ledger_All (bw : Nat) (vl : Value) (l : List Ent) (w : World) (h : LedAt w bw vl l) :
    Calls Tryz.prog 17 #[.pointer (some ⟨bw, 0, none⟩)] w fun e w' => ∃ v', e = .returned v' ∧ w'.ownsRow w.heap.size 61 3 v' l.length (l.flatMap blkCells) ∧ Only Nobody w w' := by
  obtain ⟨i0, hi, hz0, hz1, hz2⟩ := info_parts Tryz.infoBlock
  have d0 := h.cell
  have hfew := h.few
  have HL := Lib.hid h
  obtain ⟨sa, sc, rfl⟩ := rowShapeN h.row
  clear h
  go_enter Tryz.func17, Tryz.ntmps17
  go_wp2
  go_loopw [2, 4, 12] (fun o _ i wr => ∃ j : Nat, j ≤ l.length ∧ i = .int .i64 j ∧ wr.ownsRow w.heap.size 61 3 o j ((l.take j).flatMap blkCells) ∧ Only Nobody w wr) (fun _ _ i _ => l.length - (intOf i).toNat)
  case atStart => exact ⟨0, by omega, rfl, ⟨by simp, .inl ⟨rfl, rfl⟩⟩, Only.refl _ _⟩
  case round =>
    obtain ⟨j, hj, rfl, hrow, ho⟩ := hrel
    have HROW := Lib.hid hrow
    have HO := Lib.hid ho
    obtain ⟨oa, oc, rfl⟩ := rowShapeN hrow
    by_cases hlt : j < l.length
    · have hje : l[j]? = some l[j] := List.getElem?_eq_getElem hlt
      have htk : l.take (j + 1) = l.take j ++ [l[j]] := by rw [List.take_add_one, hje]; rfl
      have HTK := Lib.hid htk
      generalize l[j] = e at hje HTK
      obtain ⟨ea, en, eg, eh⟩ := e
      obtain ⟨g, rfl⟩ : ∃ g, sa = some ⟨g, 0, none⟩ := by
        rcases HL.out.row.2 with ⟨hv, h0⟩ | ⟨g, cap, cur, hv, _⟩
        · omega
        · injection hv with hv; exact ⟨g, hv⟩
      obtain ⟨q1, q2, q3, q4⟩ := (HL.out.quiet ho).ent j _ hje
      have hwn := Blk.new (wr.alloc (.cells #[.int .u64 ea, .int .u64 en, .int .u64 eg, .bool eh] 79)) 61 #[.int .u64 ea, .int .u64 en, .int .u64 eg]
      rw [World.size_alloc] at hwn
      have HA := Lib.hid ((hrow.alloc (.cells #[.int .u64 ea, .int .u64 en, .int .u64 eg, .bool eh] 79)).alloc (.cells #[.int .u64 ea, .int .u64 en, .int .u64 eg] 61))
      have HNW := Lib.hid ((fun k u hk => by
        match k, hk with
        | 0, hk => cases hk; exact hwn.cell 0
        | 1, hk => cases hk; exact hwn.cell 1
        | 2, hk => cases hk; exact hwn.cell 2) : ∀ k u, (blkCells ⟨ea, en, eg, eh⟩)[k]? = some u → ((wr.alloc (.cells #[.int .u64 ea, .int .u64 en, .int .u64 eg, .bool eh] 79)).alloc (.cells #[.int .u64 ea, .int .u64 en, .int .u64 eg] 61)).cell? ((⟨wr.heap.size + 1, 0, none⟩ : Addr).add k) = some u)
      clear hrow ho hje htk hwn
      go_wp2_with (at_builtin; refine wpList_append_own_at _ rfl _ _ 31 rfl w.heap.size 61 i0 (.agg #[.int .u64 0, .int .u64 0, .int .u64 0]) 3 24 Tryz.underlying31 hi hz0 hz1 hz2 rfl (by decide) _ _ _ rfl HA.out ⟨wr.heap.size + 1, 0, none⟩ 1 1 (blkCells ⟨ea, en, eg, eh⟩) rfl rfl HNW.out (blkCells_one _) (by unfold maxLen; omega) (by omega) (by simp; have := HO.out.size; omega) ?_; intro v' w1 hown hgr _ hwho; have HW := Lib.hid hown; have HG := Lib.hid hgr; clear hown hgr hwho)
      refine ⟨⟨j + 1, by omega, by go_num, ?_, ?_⟩, by show l.length - (intOf (Value.int IntKind.i64 ((j : Int) + 1))).toNat < l.length - (intOf (Value.int IntKind.i64 (j : Int))).toNat; simp [intOf]; omega⟩
      · rw [HTK.out, List.flatMap_append]
        exact HW.out
      · exact ((HO.out.alloc _).alloc _).grown HG.out (fun k hk hl => by
          have := HA.out.lt k hk; omega)
    · obtain rfl : j = l.length := by omega
      clear hrow ho
      go_wp2
      go_ret
      refine ⟨_, rfl, ?_, HO.out⟩
      have := HROW.out
      rw [List.take_length] at this
      exact this
end Go.Proofs.YtfplalgoopkmaaaGreat

namespace Go.Proofs.YtfplalgoopkmaaaGreat
open Go.RowKit

theorem one_result (w : World) (b : Nat) (tmps : Array Value) (x y z : Nat) (hb : Blk w b 61 #[.int .u64 x, .int .u64 y, .int .u64 z]) (h4 : tmps[4]? = some (.pointer (some ⟨b, 0, none⟩))) (h5 : tmps[5]? = some (.int .i64 0)) :
    (results Tryz.f60 tmps).run Tryz.prog w = .ok (.tuple #[.agg #[.int .u64 x, .int .u64 y, .int .u64 z], .int .i64 0]) w := by
  have hc := hb.cell
  simp [results, Tryz.f60, go_sem, h4, h5, hc]
theorem in_result (w : World) (b : Nat) (tmps : Array Value) (x y z : Nat) (hb : Blk w b 61 #[.int .u64 x, .int .u64 y, .int .u64 z]) (h4 : tmps[4]? = some (.pointer (some ⟨b, 0, none⟩))) (h5 : tmps[5]? = some (.int .i64 0)) :
    (results Tryz.f42 tmps).run Tryz.prog w = .ok (.tuple #[.agg #[.int .u64 x, .int .u64 y, .int .u64 z], .int .i64 0]) w := by
  have hc := hb.cell
  simp [results, Tryz.f42, go_sem, h4, h5, hc]

abbrev blkV (e : Ent) : Value := .agg #[.int .u64 e.addr, .int .u64 e.n, .int .u64 e.align]
abbrev zblk : Obj := .cells #[.int .u64 0, .int .u64 0, .int .u64 0] 61

set_option maxRecDepth 100000 in
set_option maxHeartbeats 1000000 in
theorem ledger_one (bw i : Nat) (e : Ent) (vl : Value) (l : List Ent) (w : World) (h : LedAt w bw vl l) (hi : l[i]? = some e) (hb : e.held = false) :
    Calls Tryz.prog 60 #[.pointer (some ⟨bw, 0, none⟩), .int .i64 i] w fun e' w' => e' = .returned (.tuple #[blkV e, .int .i64 0]) ∧ Only Nobody w w' := by
  have h1 := h.quiet ((Only.refl Nobody w).alloc zblk)
  have hil : i < l.length := (List.getElem?_eq_some_iff.1 hi).1
  have hfew := h.few
  have d0 := h1.cell
  obtain ⟨sa, sc, rfl⟩ := rowShapeN h.row
  obtain ⟨g, rfl⟩ : ∃ g, sa = some ⟨g, 0, none⟩ := by
    rcases h.row.2 with ⟨hv, h0⟩ | ⟨g, cap, cur, hv, _⟩
    · omega
    · injection hv with hv; exact ⟨g, hv⟩
  obtain ⟨q1, q2, q3, q4⟩ := h1.ent i e hi
  obtain ⟨ea, en, eg, eh⟩ := e
  dsimp only at hb q1 q2 q3 q4 ⊢
  subst hb
  have HB := Lib.hid (Blk.new w 61 #[.int .u64 ea, .int .u64 en, .int .u64 eg])
  clear h h1 hi
  go_enter Tryz.func60, Tryz.ntmps60
  go_wp2
  exact bodyPost_ret (one_result _ _ _ _ _ _ HB.out rfl rfl) rfl ⟨rfl, (Only.refl _ _).alloc _⟩

set_option maxRecDepth 100000 in
set_option maxHeartbeats 1000000 in
theorem ledger_In (bw x i : Nat) (e : Ent) (vl : Value) (l : List Ent) (w : World) (h : LedAt w bw vl l) (hi : l[i]? = some e) (he : e.addr = x) (hb : e.held = false) (hx : x + max e.n 1 < 18446744073709551616) :
    Calls Tryz.prog 42 #[.pointer (some ⟨bw, 0, none⟩), .int .u64 x] w fun e' w' => e' = .returned (.tuple #[blkV e, .int .i64 0]) ∧ Only Nobody w w' := by
  have ho0 := (Only.refl Nobody w).alloc zblk
  obtain ⟨k1, k2⟩ := regHas_ix h.rise hi he
  have HP := Lib.hid (ledger_place bw x vl l _ (by omega) (h.quiet ho0))
  rw [k1, k2] at HP
  have hil : i < l.length := (List.getElem?_eq_some_iff.1 hi).1
  have hfew := h.few
  have HH := Lib.hid (h.quiet ho0)
  have HONE : Hid (∀ w1, Only Nobody (w.alloc zblk) w1 → Calls Tryz.prog 60 #[.pointer (some ⟨bw, 0, none⟩), .int .i64 i] w1 fun e' w' => e' = .returned (.tuple #[blkV e, .int .i64 0]) ∧ Only Nobody w1 w') := Lib.hid fun w1 ho => ledger_one bw i e vl l w1 (h.quiet (ho0.trans ho)) hi hb
  obtain ⟨sa, sc, rfl⟩ := rowShapeN h.row
  obtain ⟨g, rfl⟩ : ∃ g, sa = some ⟨g, 0, none⟩ := by
    rcases h.row.2 with ⟨hv, h0⟩ | ⟨g, cap, cur, hv, _⟩
    · omega
    · injection hv with hv; exact ⟨g, hv⟩
  have HKE := Lib.hid hi
  obtain ⟨ea, en, eg, eh⟩ := e
  dsimp only at he hb hx HONE HKE ⊢
  subst he
  subst hb
  have HEE := Lib.hid (fun w => entry_end ea en eg false (by omega) w)
  have hlt : ea < ea + max en 1 := by omega
  generalize ea + max en 1 = ee at HEE hlt
  have b5 : decide (ee ≤ ea) = false := by rw [decide_eq_false_iff_not]; omega
  have HB := Lib.hid (Blk.new w 61 #[.int .u64 0, .int .u64 0, .int .u64 0])
  have hi990 : i ≤ 990 := by omega
  have b6 : decide ((i : Int) < 0) = false := by rw [decide_eq_false_iff_not]; omega
  clear h hi k1 k2 ho0 hlt hfew
  go_enter Tryz.func42, Tryz.ntmps42
  go_wp2_with (first | (go_at_call 58; refine HP.out.mono ?_; rintro e w1 ⟨rfl, ho⟩; have HO := Lib.hid ho; have HH1 := Lib.hid (HH.out.quiet ho); have d0 := HH1.out.cell; obtain ⟨q1, q2, q3, q4⟩ := HH1.out.ent i _ HKE.out; clear ho) | (go_at_call 59; refine (HEE.out _).mono ?_; rintro e w2 ⟨rfl, ho⟩; have HO2 := Lib.hid (HO.out.trans ho); clear ho) | (go_at_call 60; refine (HONE.out _ HO2.out).mono ?_; rintro e w3 ⟨rfl, ho⟩; have HO3 := Lib.hid (HO2.out.trans ho); have HB3 := Lib.hid (HB.out.only (HO2.out.trans ho) (fun h => h)); have f0 := HB3.out.frozen 0; have f1 := HB3.out.frozen 1; have f2 := HB3.out.frozen 2; have e0 := HB3.out.cell 0; have e1 := HB3.out.cell 1; have e2 := HB3.out.cell 2; clear ho))
  exact bodyPost_ret (in_result _ _ _ _ _ _ (((HB3.out.set_ 0 _).set_ 1 _).set_ 2 _) rfl rfl) rfl ⟨rfl, ((((Only.refl _ _).alloc _).trans HO3.out).setNew (p := ⟨w.heap.size, 0, none⟩) (Nat.le_refl _) _).setNew (p := ⟨w.heap.size, 1, none⟩) (Nat.le_refl _) _ |>.setNew (p := ⟨w.heap.size, 2, none⟩) (Nat.le_refl _) _⟩
end Go.Proofs.YtfplalgoopkmaaaGreat

namespace Go.Proofs.YtfplalgoopkmaaaGreat
open Go.RowKit

abbrev Lay.led (L : Lay) (vl : Value) : Lay := { L with vl := vl }
abbrev St.setWl (A : St) (W : Wl) : St := { A with wl := W }
theorem Ste.wld {w w' : World} {L : Lay} {A : St} {W' : Wl} {vl' : Value} (h : Rep w L A) (ho : Only (Foot L A .wld) w w')
    (hn : WldOK w' (L.led vl') W' fun t => (A.fr false t).isSome) (hf : ∀ g, vl'.ownBlock = some g → L.vl.ownBlock = some g ∨ w.heap.size ≤ g) :
    Ste w L A w' (L.led vl') (A.setWl W') ∧ Kept L (L.led vl') := by
  refine ⟨Ste.chg (fun i => i = .wld) h ho (fun x hx _ => ⟨.wld, rfl, hx⟩) ?_ ?_ ?_ ?_ ?_ ⟨rfl, rfl, rfl, rfl, rfl, rfl, rfl, rfl⟩, rfl, rfl, rfl⟩
  · intro i hi hh
    cases i with
    | wld => exact absurd rfl hi
    | sys =>
      obtain ⟨cs, hb, hc⟩ := hh
      exact ⟨cs, hb, hc.lay rfl rfl rfl (fun _ _ => rfl)⟩
    | fr i u => exact fun F hF => (hh F hF).lay rfl rfl rfl rfl (fun _ _ => rfl) (fun _ _ => rfl)
    | arena => exact ⟨hh.at_, hh.ap, hh.tb⟩
    | _ => exact hh
  · intro i x hi hx
    cases i with
    | wld => exact absurd rfl hi
    | _ => exact hx
  · rintro i rfl; exact hn
  · rintro i x rfl hx
    rcases hx with hx | hx | hx
    · exact .inl ⟨.wld, rfl, .inl hx⟩
    · exact .inl ⟨.wld, rfl, .inr (.inl hx)⟩
    · rcases hf x hx with h1 | h1
      · exact .inl ⟨.wld, rfl, .inr (.inr h1)⟩
      · exact .inr h1
  · rintro i j x rfl rfl _ _; rfl

/-- The ledger, of a whole state. -/
theorem Rep.ledAt {w : World} {L : Lay} {A : St} (h : Rep w L A) (hr : Rising (A.wl.led.map entKey)) (hf : A.wl.led.length ≤ 990) : LedAt w L.bw L.vl A.wl.led := by
  have hw : WldOK w L A.wl _ := h.all .wld
  exact ⟨⟨_, hw.st, rfl⟩, hw.led, hr, hf⟩
abbrev Wl.setLed (W : Wl) (l : List Ent) : Wl := { W with led := l }

/-- The ledger changed in place, or anew: the whole state. -/
theorem Rep.led {w w' : World} {L : Lay} {A : St} {vl' : Value} {l' : List Ent} (h : Rep w L A)
    (hb : Blk w' L.bw 57 (#[L.vl, ptrV L.bs, .slice (some ⟨L.bth, 0, none⟩) A.wl.nth A.wl.nth].setIfInBounds 0 vl'))
    (hrow : RowAt w' 79 4 vl' l'.length (l'.flatMap entCells)) (hf : NewOwn w.heap.size L.vl vl') (ho : Only (fun g => g = L.bw ∨ L.vl.ownBlock = some g) w w') :
    Ste w L A w' (L.led vl') (A.setWl (A.wl.setLed l')) ∧ Kept L (L.led vl') := by
  have hw : WldOK w L A.wl _ := h.all .wld
  refine Ste.wld h (ho.mono fun x hx => ?_) ⟨hb, hrow, ?_, hw.n8⟩ (fun g hg => ?_)
  · rcases hx with hx | hx
    · exact .inl hx
    · exact .inr (.inr hx)
  · refine hw.ths.only ho ?_
    rintro (e | e)
    · exact hw.st.ne_ hw.ths (by decide) e.symm
    · exact row_blk_ne hw.led hw.ths (by decide) e
  · rcases hf with e | ⟨g', e, hle⟩
    · exact .inl (e ▸ hg)
    · rw [e] at hg
      injection hg with hg
      exact .inr (hg ▸ hle)

theorem sys_Add (A : St) (e : Ent) (w : World) (L : Lay) (h : Rep w L A) (hr : Rising (A.wl.led.map entKey)) (hf : A.wl.led.length ≤ 980) (hh : e.held = false)
    (hn : e.n ≤ 1048576) (ha : e.addr ≤ 1048576) (he : e.addr + max e.n 1 ≤ 1048576) (hp : pw2 e.align = true) (hal : e.align ≤ 1024) (hd : e.addr &&& (e.align - 1) = 0) (hall : ∀ x ∈ A.wl.led, entEnd x ≤ e.addr) :
    Calls Tryz.prog 101 #[.pointer (some ⟨L.bw, 0, none⟩), blkV e] w fun x w' => ∃ L', x = .returned (.int .i64 0) ∧ Ste w L A w' L' (A.setWl (A.wl.setLed (A.wl.led ++ [e]))) ∧ Kept L L' := by
  have hw : WldOK w L A.wl _ := h.all .wld
  obtain ⟨ea, en, eg, eh⟩ := e
  dsimp only at hh hn ha he hp hal hd hall
  subst hh
  refine (ledger_Add_end L.bw ea en eg L.vl A.wl.led w (h.ledAt hr (by omega)) _ hw.st rfl hn ha he hp hal hd hall hf).mono ?_
  rintro x w' ⟨vl', rfl, hb, hrow, hnw, ho⟩
  have hs := Rep.led (l' := A.wl.led ++ [(⟨ea, en, eg, false⟩ : Ent)]) h hb (by simpa using hrow) hnw ho
  exact ⟨L.led vl', rfl, hs⟩

theorem sys_Drop (A : St) (x i g : Nat) (e : Ent) (w : World) (L : Lay) (h : Rep w L A) (hr : Rising (A.wl.led.map entKey)) (hf : A.wl.led.length ≤ 990) (hi : A.wl.led[i]? = some e) (he : e.addr = x) (hx : x < 18446744073709551616) (hg : Blk w g 22 #[.int .u64 x]) :
    Calls Tryz.prog 102 #[.pointer (some ⟨L.bw, 0, none⟩), .slice (some ⟨g, 0, none⟩) 1 1] w fun x w' => ∃ L', x = .returned (.int .i64 0) ∧ Ste w L A w' L' (A.setWl (A.wl.setLed (A.wl.led.eraseIdx i))) ∧ Kept L L' := by
  have hw : WldOK w L A.wl _ := h.all .wld
  have hil : i < A.wl.led.length := (List.getElem?_eq_some_iff.1 hi).1
  refine (ledger_Drop L.bw x i g e L.vl A.wl.led w (h.ledAt hr hf) _ hw.st rfl hi he hx hg).mono ?_
  rintro x w' ⟨rfl, vl', hb, hrow, hnw, ho⟩
  have hs := Rep.led (l' := A.wl.led.eraseIdx i) h hb (by rw [List.length_eraseIdx_of_lt hil]; exact hrow) (.inl hnw) ho
  exact ⟨L.led vl', rfl, hs⟩

theorem sys_Hold (A : St) (x i g : Nat) (e : Ent) (w : World) (L : Lay) (h : Rep w L A) (hr : Rising (A.wl.led.map entKey)) (hf : A.wl.led.length ≤ 990) (hi : A.wl.led[i]? = some e) (he : e.addr = x) (hb : e.held = false) (hx : x < 18446744073709551616) (hg : Blk w g 22 #[.int .u64 x]) :
    Calls Tryz.prog 52 #[.pointer (some ⟨L.bw, 0, none⟩), .slice (some ⟨g, 0, none⟩) 1 1] w fun x w' => ∃ L', x = .returned (.int .i64 0) ∧ Ste w L A w' L' (A.setWl (A.wl.setLed (A.wl.led.set i (entHeld e true)))) ∧ Kept L L' ∧ ∀ j x, Foot L' (A.setWl (A.wl.setLed (A.wl.led.set i (entHeld e true)))) j x → Foot L A j x := by
  have hw : WldOK w L A.wl _ := h.all .wld
  refine (ledger_Hold L.bw x i g e L.vl A.wl.led w (h.ledAt hr hf) hi he hb hx hg).mono ?_
  rintro x w' ⟨rfl, hrow, ho⟩
  have hb2 : Blk w' L.bw 57 _ := hw.st.only ho (fun e => row_blk_ne hw.led hw.st (by decide) e)
  have hs := Rep.led (vl' := L.vl) (l' := A.wl.led.set i (entHeld e true)) h hb2 (by simpa using hrow) (.inl rfl) (ho.mono fun _ h => .inr h)
  exact ⟨L.led L.vl, rfl, hs.1, hs.2, fun j x hx => by cases j <;> exact hx⟩
end Go.Proofs.YtfplalgoopkmaaaGreat

namespace Go.Proofs.YtfplalgoopkmaaaGreat
open Go.RowKit

theorem flatMap12 {α : Type} (f : Nat → List α) (hf : ∀ t, (f t).length = 12) : ∀ n t k, t < n → k < 12 → ((List.range n).flatMap f)[t * 12 + k]? = (f t)[k]? := by
  intro n
  induction n with
  | zero => intro t k h; omega
  | succ n ih =>
    intro t k ht hk
    have hlen : ((List.range n).flatMap f).length = n * 12 := by
      clear ih ht
      induction n with
      | zero => rfl
      | succ n ih2 => rw [List.range_succ, List.flatMap_append, List.length_append, ih2]; simp [hf]; omega
    rw [List.range_succ, List.flatMap_append]
    by_cases h : t < n
    · rw [List.getElem?_append_left (by omega), ih t k h hk]
    · obtain rfl : t = n := by omega
      rw [List.getElem?_append_right (by omega), hlen]
      simp

theorem thsV_at (L : Lay) (W : Wl) (fs : Nat → Bool) (t k : Nat) (ht : t < W.nth) (hk : k < 12) : (thsV L W fs)[t * 12 + k]? = (thCells (W.th t) (frV_ L (fs t) t))[k]? := by
  unfold thsV
  rw [List.getElem?_toArray]
  exact flatMap12 _ (fun _ => rfl) _ _ _ ht hk

theorem world_of (A : St) (t : Nat) (w : World) (L : Lay) (h : Rep w L A) (ht : t < A.wl.nth) :
    Calls Tryz.prog 36 #[.pointer (some ⟨L.bw, 0, none⟩), .int .i64 t] w fun e w' => e = .returned (.tuple #[.pointer (some ⟨L.bth, t * 12, none⟩), .int .i64 0]) ∧ w = w' := by
  have hw : WldOK w L A.wl _ := h.all .wld
  have c2 : w.cell? ⟨L.bw, 2, none⟩ = some (.slice (some ⟨L.bth, 0, none⟩) A.wl.nth A.wl.nth) := hw.st.cell 2
  have hn8 := hw.n8
  generalize A.wl.nth = n at *
  generalize L.bw = bw at *
  generalize L.bth = bth at *
  clear h hw
  go_enter Tryz.func36, Tryz.ntmps36
  go_wp2
  go_ret2
  exact ⟨rfl, rfl⟩

theorem world_ready (A : St) (t : Nat) (w : World) (L : Lay) (h : Rep w L A) (ht : t < A.wl.nth) (h1 : (A.wl.th t).is = 1) (h2 : A.fr false t = none) :
    Calls Tryz.prog 41 #[.pointer (some ⟨L.bw, 0, none⟩), .int .i64 t] w fun e w' => e = .returned (.tuple #[.pointer (some ⟨L.bth, t * 12, none⟩), .int .i64 0]) ∧ w = w' := by
  have HOF := Lib.hid (world_of A t w L h ht)
  have hw : WldOK w L A.wl _ := h.all .wld
  have c0 : w.cell? ⟨L.bth, t * 12, none⟩ = some (.int .i64 1) := by
    have := (hw.ths.cell (t * 12)).trans (thsV_at L A.wl _ t 0 ht (by omega))
    rw [this]; show some (Value.int .i64 _) = _; rw [h1]; rfl
  have c7 : w.cell? ⟨L.bth, t * 12 + 7, none⟩ = some (.pointer none) := by
    have := (hw.ths.cell (t * 12 + 7)).trans (thsV_at L A.wl _ t 7 ht (by omega))
    rw [this]; show some (frV_ L (A.fr false t).isSome t) = _; rw [h2]; rfl
  generalize L.bw = bw at *
  generalize L.bth = bth at *
  clear h hw
  go_enter Tryz.func41, Tryz.ntmps41
  go_wp2_with (first | (go_at_call 36; refine HOF.out.mono ?_; rintro e w1 ⟨rfl, rfl⟩))
  go_ret2
  exact ⟨rfl, rfl⟩
end Go.Proofs.YtfplalgoopkmaaaGreat

namespace Go.Proofs.YtfplalgoopkmaaaGreat
open Go.RowKit

theorem flatMap12_len {α : Type} (f : Nat → List α) (hf : ∀ t, (f t).length = 12) (n : Nat) : ((List.range n).flatMap f).length = n * 12 := by
  induction n with
  | zero => rfl
  | succ n ih2 => rw [List.range_succ, List.flatMap_append, List.length_append, ih2]; simp [hf]; omega
theorem flatMap12_set {α : Type} (f f' : Nat → List α) (hf : ∀ t, (f t).length = 12) (t k : Nat) (u : α) (h1 : ∀ i, i ≠ t → f' i = f i) (h2 : f' t = (f t).set k u) (hk : k < 12) : ∀ n, t < n → (List.range n).flatMap f' = ((List.range n).flatMap f).set (t * 12 + k) u := by
  intro n
  induction n with
  | zero => intro h; omega
  | succ n ih =>
    intro ht
    have hlen := flatMap12_len f hf n
    rw [List.range_succ, List.flatMap_append, List.flatMap_append]
    by_cases h : t < n
    · rw [List.set_append_left _ _ (by omega), ih h]
      congr 1
      simp [h1 n (by omega)]
    · obtain rfl : t = n := by omega
      rw [List.set_append_right _ _ (by omega), hlen]
      congr 1
      · have : ∀ m, m ≤ t → (List.range m).flatMap f' = (List.range m).flatMap f := by
          intro m hm
          induction m with
          | zero => rfl
          | succ m ih2 => rw [List.range_succ, List.flatMap_append, List.flatMap_append, ih2 (by omega)]; simp [h1 m (by omega)]
        exact this t (Nat.le_refl _)
      · simp [h2]

/-- One cell of one thread is another. -/
theorem thsV_set (L L' : Lay) (W W' : Wl) (fs fs' : Nat → Bool) (t k : Nat) (u : Value) (hn : W'.nth = W.nth) (ht : t < W.nth) (hk : k < 12)
    (h1 : ∀ i, i ≠ t → thCells (W'.th i) (frV_ L' (fs' i) i) = thCells (W.th i) (frV_ L (fs i) i)) (h2 : thCells (W'.th t) (frV_ L' (fs' t) t) = (thCells (W.th t) (frV_ L (fs t) t)).set k u) :
    thsV L' W' fs' = (thsV L W fs).setIfInBounds (t * 12 + k) u := by
  unfold thsV
  rw [hn, flatMap12_set _ _ (fun _ => rfl) t k u h1 h2 hk _ ht]
  simp

abbrev Wl.setTh (W : Wl) (t : Nat) (x : Th) : Wl := { W with th := upd W.th t x }

/-- A thread's cell, changed: the whole state. -/
theorem Rep.thCell {w : World} {L : Lay} {A : St} (h : Rep w L A) (t k : Nat) (ht : t < A.wl.nth) (hk : k < 12) (u : Value) (x : Th)
    (h2 : thCells x (frV_ L (A.fr false t).isSome t) = (thCells (A.wl.th t) (frV_ L (A.fr false t).isSome t)).set k u) :
    Ste w L A (w.setCell ⟨L.bth, t * 12 + k, none⟩ u) L (A.setWl (A.wl.setTh t x)) := by
  have hw : WldOK w L A.wl _ := h.all .wld
  have ho : Only (fun g => g = L.bth) w (w.setCell ⟨L.bth, t * 12 + k, none⟩ u) := Only.setAt (S := fun g => g = L.bth) (Only.refl _ _) rfl _ _
  have he := thsV_set L L A.wl (A.wl.setTh t x) (fun t => (A.fr false t).isSome) (fun t => (A.fr false t).isSome) t k u rfl ht hk
    (fun i hi => by show thCells (upd A.wl.th t x i) _ = _; rw [_root_.Go.Proofs.YtfplalgoopkmaaaGreat.upd_ne _ _ hi]) (by show thCells (upd A.wl.th t x t) _ = _; rw [_root_.Go.Proofs.YtfplalgoopkmaaaGreat.upd_same]; exact h2)
  have := Ste.wld (W' := A.wl.setTh t x) (vl' := L.vl) h (ho.mono fun g hg => .inr (.inl hg))
    ⟨hw.st.only ho (fun e => hw.st.ne_ hw.ths (by decide) e), hw.led.only ho (fun g hg e => row_blk_ne hw.led hw.ths (by decide) (by rw [hg, e])), by
      have hb := hw.ths.set_ (t * 12 + k) u
      rw [← he] at hb
      exact hb, hw.n8⟩ (fun g hg => .inl hg)
  exact this.1

abbrev Th.up (x : Th) (k : Nat) : Th := { x with is := k }
theorem world_Start (A : St) (t g : Nat) (w : World) (L : Lay) (h : Rep w L A) (ht : t < A.wl.nth) (h0 : (A.wl.th t).is = 0) (hg : Blk w g 3 #[.int .i64 t]) :
    Calls Tryz.prog 20 #[.pointer (some ⟨L.bw, 0, none⟩), .slice (some ⟨g, 0, none⟩) 1 1] w fun e w' => e = .returned (.int .i64 0) ∧ Ste w L A w' L (A.setWl (A.wl.setTh t ((A.wl.th t).up 1))) := by
  have HOF := Lib.hid (world_of A t w L h ht)
  have hw : WldOK w L A.wl _ := h.all .wld
  have c0 : w.cell? ⟨L.bth, t * 12, none⟩ = some (.int .i64 0) := by
    have := (hw.ths.cell (t * 12)).trans (thsV_at L A.wl _ t 0 ht (by omega))
    rw [this]; show some (Value.int .i64 _) = _; rw [h0]; rfl
  have f0 : w.frozen? ⟨L.bth, t * 12, none⟩ = false := hw.ths.frozen _
  have cg : w.cell? ⟨g, 0, none⟩ = some (.int .i64 t) := hg.cell 0
  have HS := Lib.hid (Rep.thCell h t 0 ht (by omega) (.int .i64 1) ((A.wl.th t).up 1) rfl)
  rw [Nat.add_zero] at HS
  generalize L.bw = bw at *
  generalize hbt : L.bth = bth at *
  clear h hw hbt
  go_enter Tryz.func20, Tryz.ntmps20
  go_wp2
  refine wp_loop_rounds 2 ?_
  rw [rounds_succ]
  go_wp2_with (first | (go_at_call 36; refine HOF.out.mono ?_; rintro e w1 ⟨rfl, rfl⟩))
  rw [rounds_succ]
  go_wp2
  go_ret
  exact ⟨rfl, HS.out⟩
end Go.Proofs.YtfplalgoopkmaaaGreat
