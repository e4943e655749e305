/- slices.Delete of one element. Conditions: none. -/
import Derived.Test.YtfplalgoopkmaaaGreatPart05
import Derived.Deep.RegionLaw

set_option linter.unusedVariables false
set_option linter.unusedSimpArgs false

namespace Go.Proofs.YtfplalgoopkmaaaGreat
open Go.RowKit

theorem Only.setRow {S : Nat → Prop} {a w : World} (h : Only S a w) {g : Nat} (hs : S g) (cs : Array Value) : Only S a (w.setRow g cs) :=
  ⟨h.os, h.tape, h.output, by simp; exact h.size, fun b hb hn => (setRow_other w g b cs (fun e => hn (e ▸ hs))).trans (h.same b hb hn)⟩
theorem Blk.setRow {w : World} {g : Nat} {t : TypeId} {cs : Array Value} (h : Blk w g t cs) (cs' : Array Value) : Blk (w.setRow g cs') g t cs' := setRow_heap w g cs cs' t (0, 0) h
/-- What lies in a row behind one element was taken out, and its last place was cleared. -/
theorem del_row (cur : Array Value) (X news : List Value) (n i sz cap : Nat) (zs : List Value) (hz : zs.length = sz) (hi : i < n) (hcap : n ≤ cap) (hs : cur.size = cap * sz) (hx : cur.toList.take (n * sz) = X) (hn : news = X.drop ((i + 1) * sz))
    (row : List Value) (hrow : row = cur.toList.take (i * sz) ++ news ++ cur.toList.drop (i * sz + news.length)) (row2 : List Value) (hrow2 : row2 = row.take ((n - 1) * sz) ++ zs ++ row.drop ((n - 1) * sz + zs.length)) :
    row2.length = cap * sz ∧ row.length = cap * sz ∧ row2.take ((n - 1) * sz) = X.take (i * sz) ++ X.drop ((i + 1) * sz) ∧ (n - 1) * sz + sz ≤ cap * sz ∧ news.length = (n - 1 - i) * sz ∧ i * sz + news.length ≤ cur.size := by
  have e1 : n * sz = i * sz + sz + (n - 1 - i) * sz := by rw [← Nat.succ_mul, ← Nat.add_mul]; congr 1; omega
  have e2 : (n - 1) * sz = i * sz + (n - 1 - i) * sz := by rw [← Nat.add_mul]; congr 1; omega
  have e3 : n * sz ≤ cap * sz := Nat.mul_le_mul_right _ hcap
  have e4 : (i + 1) * sz = i * sz + sz := Nat.succ_mul _ _
  have hcl : cur.toList.length = cap * sz := by simpa using hs
  have hXl : X.length = n * sz := by rw [← hx, List.length_take, hcl]; omega
  have hnl : news.length = (n - 1 - i) * sz := by rw [hn, List.length_drop, hXl]; omega
  have hrl : row.length = cap * sz := by rw [hrow]; simp only [List.length_append, List.length_take, List.length_drop, hcl, hnl]; omega
  have hr2 : row2.length = cap * sz := by rw [hrow2]; simp only [List.length_append, List.length_take, List.length_drop, hrl, hz]; omega
  refine ⟨hr2, hrl, ?_, by omega, hnl, by rw [hnl, hs]; omega⟩
  have hl1 : (row.take ((n - 1) * sz)).length = (n - 1) * sz := by rw [List.length_take, hrl]; omega
  have h1 : row2.take ((n - 1) * sz) = row.take ((n - 1) * sz) := by
    rw [hrow2, List.append_assoc, List.take_append_of_le_length (by omega), List.take_of_length_le (by omega)]
  have hl2 : (cur.toList.take (i * sz) ++ news).length = (n - 1) * sz := by rw [List.length_append, List.length_take, hcl, hnl]; omega
  rw [h1, hrow, List.take_append_of_le_length (by omega), List.take_of_length_le (by omega), hn]
  congr 1
  rw [← hx, List.take_take]
  congr 1
  omega
theorem run_clear_row (w : World) (t ty e : TypeId) (z : Value) (zs : List Value) (hu : Tryz.prog.underlying t = some (.slice e)) (hz : ∀ w, (zeroValue e).run Tryz.prog w = .ok z w) (hc : (Builtin.zeroCells z.cells 1).toList = zs) (g o c : Nat) (cur : Array Value) (hg : Blk w g e cur) (hfit : o + zs.length ≤ cur.size) (h1 : ∀ u ∈ zs, u.oneCell' = true) :
    (Builtin.clear_ #[t] ty #[.slice (some ⟨g, o, none⟩) 1 c]).run Tryz.prog w = .ok (.tuple #[]) (w.setRow g (cur.toList.take o ++ zs ++ cur.toList.drop (o + zs.length)).toArray) := by
  have hst := run_storeCells_at Tryz.prog g o e zs 0 cur w hg (by simpa using hfit) h1
  simp only [Nat.add_zero] at hst
  simp [Builtin.clear_, run_underlying hu, hz, hc, hst]
/-- append where there is room, as one step of a region that draws: the row as it lies then. -/
theorem step_append_row {P : Program} {ops : Array Oper} {o : Oper} {a : Act} {w : World} {K : Act → World → Prop} {Q : Exit → Act → World → Prop} {E : Prop}
    (hg : o.guard = none) (s x : Operand) (t : TypeId) (hop : o.op = Op.call { callee := Callee.builtin Builtin.append, args := #[s, x], argTypes := #[t, t] })
    (v vx v' : Value) (w' : World) (hs : a.eval s = v) (hx : a.eval x = vx) (hrun : ∀ ty, (Builtin.append_ #[t, t] ty #[v, vx]).run P w = .ok v' w')
    (hK : K (a.put o.dst v') w') :
    if Region.wanted o (yielded ops a.tmps) = true then Oper.wp P o a w K Q else E := by
  have hw : Region.wanted o (yielded ops a.tmps) = true := by simp [Region.wanted, hg]
  rw [if_pos hw]
  unfold Oper.wp
  simp [execOp, hop, resolve, invoke, builtin, hs, hx, hrun, Result.andThen]
  exact hK
theorem Tryz.infoEntry : (Tryz.prog.info? 79).map (fun i => (i.zero, i.size, i.bytes)) = some (some (.agg #[.int .u64 0, .int .u64 0, .int .u64 0, .bool false]), 4, 32) := by kernel_rfl

set_option maxRecDepth 100000 in
set_option maxHeartbeats 1000000 in
theorem delete_ints (v : Value) (n i : Nat) (X : List Value) (w : World) (h : RowAt w 3 1 v n X) (h1 : ∀ u ∈ X, Value.oneCell' u = true) (hi : i < n) (hn : n ≤ 1000) :
    Calls Tryz.prog 224 #[v, .int .i64 i, .int .i64 ((i : Int) + 1)] w fun e w' => ∃ v', e = .returned v' ∧ RowAt w' 3 1 v' (n - 1) (X.take (i * 1) ++ X.drop ((i + 1) * 1)) ∧ v'.ownBlock = v.ownBlock ∧ Only (fun g => v.ownBlock = some g) w w' := by
  obtain ⟨i0, hinf, hz0, hz1, hz2⟩ := info_parts Tryz.infoInt
  have hxl := h.1
  rcases h.2 with ⟨_, h0⟩ | ⟨g, cap, cur, rfl, _, hh, hcap, hmax, hs, hx⟩
  · omega
  have hblk : Blk w g 3 cur := hh
  obtain ⟨A, hA, hA2⟩ : ∃ A : Addr, (if cap = i + 1 then some (⟨g, 0, none⟩ : Addr) else some ⟨g, i + 1, none⟩) = some A ∧ (i + 1 < n → A = ⟨g, i + 1, none⟩) := by
    by_cases h : cap = i + 1
    · exact ⟨_, if_pos h, fun h2 => by omega⟩
    · exact ⟨_, if_neg h, fun _ => rfl⟩
  obtain ⟨news, hnews⟩ : ∃ news, news = X.drop ((i + 1) * 1) := ⟨_, rfl⟩
  obtain ⟨row, hrow⟩ : ∃ row, row = cur.toList.take (i * 1) ++ news ++ cur.toList.drop (i * 1 + news.length) := ⟨_, rfl⟩
  obtain ⟨zs, hzs⟩ : ∃ zs : List Value, zs = [.int .i64 0] := ⟨_, rfl⟩
  have hzl : zs.length = 1 := by rw [hzs]; rfl
  obtain ⟨row2, hrow2⟩ : ∃ row2, row2 = row.take ((n - 1) * 1) ++ zs ++ row.drop ((n - 1) * 1 + zs.length) := ⟨_, rfl⟩
  obtain ⟨k1, k2, k3, k4, k5, k6⟩ := del_row cur X news n i 1 cap zs hzl hi hcap hs hx hnews row hrow row2 hrow2
  have hcells : ∀ j u, news[j]? = some u → w.drew.cell? (A.add j) = some u := by
    intro j u hu
    have hin : i + 1 < n := by
      have := (List.getElem?_eq_some_iff.1 hu).1
      rcases Nat.lt_or_ge (i + 1) n with h | h
      · exact h
      · rw [k5, show n - 1 - i = 0 from by omega] at this; omega
    have e : A.add j = ⟨g, (i + 1) * 1 + j, none⟩ := by rw [hA2 hin, Addr.add_lit]; rw [Nat.mul_one]
    rw [e]
    have h2 := hblk.cell ((i + 1) * 1 + j)
    refine Eq.trans h2 ?_
    rw [hnews, List.getElem?_drop, ← hx, List.getElem?_take] at hu
    split at hu
    · simpa using hu
    · cases hu
  have h1n : ∀ u ∈ news, u.oneCell' = true := fun u hu => h1 u (List.mem_of_mem_drop (hnews ▸ hu))
  have hap : ∀ (ty : TypeId) (c2 : Nat), (Builtin.append_ #[106, 106] ty #[.slice (some ⟨g, 0, none⟩) i cap, .slice (some A) (n - (i + 1)) c2]).run Tryz.prog w.drew = .ok (.slice (some ⟨g, 0, none⟩) (n - 1) cap) (w.drew.setRow g row.toArray) := by
    intro ty c2
    have hr := run_append_room (P := Tryz.prog) w.drew 106 ty 3 i0 Tryz.underlying106 hinf g i cap cur hblk.drew A (n - (i + 1)) c2 news (by rw [hz1, show n - (i + 1) = n - 1 - i from by omega]; exact k5) (fun j u hu => hcells j u hu) h1n (by omega) (by rw [hz1]; exact k6)
    rw [hz1, ← hrow, show i + (n - (i + 1)) = n - 1 from by omega] at hr
    exact hr
  have hcl : ∀ (ty : TypeId) (c2 : Nat), (Builtin.clear_ #[106] ty #[.slice (some ⟨g, n - 1, none⟩) (n - (n - 1)) c2]).run Tryz.prog (w.drew.setRow g row.toArray) = .ok (.tuple #[]) ((w.drew.setRow g row.toArray).setRow g row2.toArray) := by
    intro ty c2
    have hr := run_clear_row (w.drew.setRow g row.toArray) 106 ty 3 (.int .i64 0) zs Tryz.underlying106 (fun w => by kernel_rfl) (by rw [hzs]; simp [Builtin.zeroCells, Value.cells]) g ((n - 1) * 1) c2 row.toArray (hblk.drew.setRow _) (by rw [List.size_toArray, k2, hzl]; exact k4) (by rw [hzs]; intro u hu; simp at hu; rcases hu with rfl <;> rfl)
    rw [hrow2, show n - (n - 1) = 1 from by omega]
    simp only [Nat.mul_one] at hr ⊢; exact hr
  have HAP := Lib.hid hap
  have HCL := Lib.hid hcl
  have HB := Lib.hid hblk
  have HMX := Lib.hid hmax
  have HK := Lib.hid (And.intro k1 k3)
  have hij : ((i : Int) == (i : Int) + 1) = false := by rw [beq_eq_false_iff_ne]; omega
  clear hA2 h h1 hxl hh hx hs hmax hblk hnews hrow hzs hzl hrow2 k1 k2 k3 k4 k5 k6 hcells h1n hap hcl
  go_enter Tryz.func224, Tryz.ntmps224
  go_wp2
  have hwr : IntKind.i64.wrap ((i : Int) + 1) = (i : Int) + 1 := by rw [IntKind.wrap_i64]; omega
  have hp0 : (0 : Int) ≤ (i : Int) + 1 := by omega
  have hp1 : (i : Int) + 1 ≤ (n : Int) := by omega
  have hp2 : ((i : Int) + 1).toNat = i + 1 := by omega
  have hic : i ≤ cap := by omega
  go_region_law (refine step_append_row rfl (.tmp 22) (.tmp 25) 106 rfl (.slice (some ⟨g, 0, none⟩) i cap) (.slice (some A) (n - (i + 1)) (cap - (i + 1))) (.slice (some ⟨g, 0, none⟩) (n - 1) cap) (w.drew.setRow g row.toArray) (by simp [Act.eval, Act.put]) (by simp [Act.eval, Act.put]) (fun ty => HAP.out ty _) ?_)
  have hcl := HCL.out
  clear hwr hp0 hp1 hp2 hic
  go_wp2
  go_ret
  refine ⟨_, rfl, ⟨?_, .inr ⟨g, cap, row2.toArray, rfl, Nat.zero_le _, ((HB.out.drew.setRow row.toArray).setRow row2.toArray), by omega, HMX.out, ?_, ?_⟩⟩, rfl, ?_⟩
  · rw [← HK.out.2, List.length_take, HK.out.1]
    have := Nat.mul_le_mul_right 1 (show n - 1 ≤ cap from by omega)
    omega
  · rw [List.size_toArray]; exact HK.out.1
  · exact HK.out.2
  · exact (((Only.refl _ w).drew).setRow (S := fun x => (Value.slice (some ⟨g, 0, none⟩) n cap).ownBlock = some x) (g := g) rfl row.toArray).setRow (S := fun x => (Value.slice (some ⟨g, 0, none⟩) n cap).ownBlock = some x) (g := g) rfl row2.toArray

set_option maxRecDepth 100000 in
set_option maxHeartbeats 1000000 in
theorem delete_regs (v : Value) (n i : Nat) (X : List Value) (w : World) (h : RowAt w 147 2 v n X) (h1 : ∀ u ∈ X, Value.oneCell' u = true) (hi : i < n) (hn : n ≤ 1000) :
    Calls Tryz.prog 188 #[v, .int .i64 i, .int .i64 ((i : Int) + 1)] w fun e w' => ∃ v', e = .returned v' ∧ RowAt w' 147 2 v' (n - 1) (X.take (i * 2) ++ X.drop ((i + 1) * 2)) ∧ v'.ownBlock = v.ownBlock ∧ Only (fun g => v.ownBlock = some g) w w' := by
  obtain ⟨i0, hinf, hz0, hz1, hz2⟩ := info_parts Tryz.infoRegion
  have hxl := h.1
  rcases h.2 with ⟨_, h0⟩ | ⟨g, cap, cur, rfl, _, hh, hcap, hmax, hs, hx⟩
  · omega
  have hblk : Blk w g 147 cur := hh
  obtain ⟨A, hA, hA2⟩ : ∃ A : Addr, (if cap = i + 1 then some (⟨g, 0, none⟩ : Addr) else some ⟨g, (i + 1) * 2, none⟩) = some A ∧ (i + 1 < n → A = ⟨g, (i + 1) * 2, none⟩) := by
    by_cases h : cap = i + 1
    · exact ⟨_, if_pos h, fun h2 => by omega⟩
    · exact ⟨_, if_neg h, fun _ => rfl⟩
  obtain ⟨news, hnews⟩ : ∃ news, news = X.drop ((i + 1) * 2) := ⟨_, rfl⟩
  obtain ⟨row, hrow⟩ : ∃ row, row = cur.toList.take (i * 2) ++ news ++ cur.toList.drop (i * 2 + news.length) := ⟨_, rfl⟩
  obtain ⟨zs, hzs⟩ : ∃ zs : List Value, zs = [.int .i64 0, .int .i64 0] := ⟨_, rfl⟩
  have hzl : zs.length = 2 := by rw [hzs]; rfl
  obtain ⟨row2, hrow2⟩ : ∃ row2, row2 = row.take ((n - 1) * 2) ++ zs ++ row.drop ((n - 1) * 2 + zs.length) := ⟨_, rfl⟩
  obtain ⟨k1, k2, k3, k4, k5, k6⟩ := del_row cur X news n i 2 cap zs hzl hi hcap hs hx hnews row hrow row2 hrow2
  have hcells : ∀ j u, news[j]? = some u → w.drew.cell? (A.add j) = some u := by
    intro j u hu
    have hin : i + 1 < n := by
      have := (List.getElem?_eq_some_iff.1 hu).1
      rcases Nat.lt_or_ge (i + 1) n with h | h
      · exact h
      · rw [k5, show n - 1 - i = 0 from by omega] at this; omega
    have e : A.add j = ⟨g, (i + 1) * 2 + j, none⟩ := by rw [hA2 hin, Addr.add_lit]
    rw [e]
    have h2 := hblk.cell ((i + 1) * 2 + j)
    refine Eq.trans h2 ?_
    rw [hnews, List.getElem?_drop, ← hx, List.getElem?_take] at hu
    split at hu
    · simpa using hu
    · cases hu
  have h1n : ∀ u ∈ news, u.oneCell' = true := fun u hu => h1 u (List.mem_of_mem_drop (hnews ▸ hu))
  have hap : ∀ (ty : TypeId) (c2 : Nat), (Builtin.append_ #[126, 126] ty #[.slice (some ⟨g, 0, none⟩) i cap, .slice (some A) (n - (i + 1)) c2]).run Tryz.prog w.drew = .ok (.slice (some ⟨g, 0, none⟩) (n - 1) cap) (w.drew.setRow g row.toArray) := by
    intro ty c2
    have hr := run_append_room (P := Tryz.prog) w.drew 126 ty 147 i0 Tryz.underlying126 hinf g i cap cur hblk.drew A (n - (i + 1)) c2 news (by rw [hz1, show n - (i + 1) = n - 1 - i from by omega]; exact k5) (fun j u hu => hcells j u hu) h1n (by omega) (by rw [hz1]; exact k6)
    rw [hz1, ← hrow, show i + (n - (i + 1)) = n - 1 from by omega] at hr
    exact hr
  have hcl : ∀ (ty : TypeId) (c2 : Nat), (Builtin.clear_ #[126] ty #[.slice (some ⟨g, (n - 1) * 2, none⟩) (n - (n - 1)) c2]).run Tryz.prog (w.drew.setRow g row.toArray) = .ok (.tuple #[]) ((w.drew.setRow g row.toArray).setRow g row2.toArray) := by
    intro ty c2
    have hr := run_clear_row (w.drew.setRow g row.toArray) 126 ty 147 (.agg #[.int .i64 0, .int .i64 0]) zs Tryz.underlying126 (fun w => by kernel_rfl) (by rw [hzs]; simp [Builtin.zeroCells, Value.cells]; rfl) g ((n - 1) * 2) c2 row.toArray (hblk.drew.setRow _) (by rw [List.size_toArray, k2, hzl]; exact k4) (by rw [hzs]; intro u hu; simp at hu; rcases hu with rfl | rfl <;> rfl)
    rw [hrow2, show n - (n - 1) = 1 from by omega]
    exact hr
  have HAP := Lib.hid hap
  have HCL := Lib.hid hcl
  have HB := Lib.hid hblk
  have HMX := Lib.hid hmax
  have HK := Lib.hid (And.intro k1 k3)
  have hij : ((i : Int) == (i : Int) + 1) = false := by rw [beq_eq_false_iff_ne]; omega
  clear hA2 h h1 hxl hh hx hs hmax hblk hnews hrow hzs hzl hrow2 k1 k2 k3 k4 k5 k6 hcells h1n hap hcl
  go_enter Tryz.func188, Tryz.ntmps188
  go_wp2
  have hwr : IntKind.i64.wrap ((i : Int) + 1) = (i : Int) + 1 := by rw [IntKind.wrap_i64]; omega
  have hp0 : (0 : Int) ≤ (i : Int) + 1 := by omega
  have hp1 : (i : Int) + 1 ≤ (n : Int) := by omega
  have hp2 : ((i : Int) + 1).toNat = i + 1 := by omega
  have hic : i ≤ cap := by omega
  go_region_law (refine step_append_row rfl (.tmp 22) (.tmp 25) 126 rfl (.slice (some ⟨g, 0, none⟩) i cap) (.slice (some A) (n - (i + 1)) (cap - (i + 1))) (.slice (some ⟨g, 0, none⟩) (n - 1) cap) (w.drew.setRow g row.toArray) (by simp [Act.eval, Act.put]) (by simp [Act.eval, Act.put]) (fun ty => HAP.out ty _) ?_)
  have hcl := HCL.out
  clear hwr hp0 hp1 hp2 hic
  go_wp2
  go_ret
  refine ⟨_, rfl, ⟨?_, .inr ⟨g, cap, row2.toArray, rfl, Nat.zero_le _, ((HB.out.drew.setRow row.toArray).setRow row2.toArray), by omega, HMX.out, ?_, ?_⟩⟩, rfl, ?_⟩
  · rw [← HK.out.2, List.length_take, HK.out.1]
    have := Nat.mul_le_mul_right 2 (show n - 1 ≤ cap from by omega)
    omega
  · rw [List.size_toArray]; exact HK.out.1
  · exact HK.out.2
  · exact (((Only.refl _ w).drew).setRow (S := fun x => (Value.slice (some ⟨g, 0, none⟩) n cap).ownBlock = some x) (g := g) rfl row.toArray).setRow (S := fun x => (Value.slice (some ⟨g, 0, none⟩) n cap).ownBlock = some x) (g := g) rfl row2.toArray

set_option maxRecDepth 100000 in
set_option maxHeartbeats 1000000 in
theorem delete_ents (v : Value) (n i : Nat) (X : List Value) (w : World) (h : RowAt w 79 4 v n X) (h1 : ∀ u ∈ X, Value.oneCell' u = true) (hi : i < n) (hn : n ≤ 1000) :
    Calls Tryz.prog 137 #[v, .int .i64 i, .int .i64 ((i : Int) + 1)] w fun e w' => ∃ v', e = .returned v' ∧ RowAt w' 79 4 v' (n - 1) (X.take (i * 4) ++ X.drop ((i + 1) * 4)) ∧ v'.ownBlock = v.ownBlock ∧ Only (fun g => v.ownBlock = some g) w w' := by
  obtain ⟨i0, hinf, hz0, hz1, hz2⟩ := info_parts Tryz.infoEntry
  have hxl := h.1
  rcases h.2 with ⟨_, h0⟩ | ⟨g, cap, cur, rfl, _, hh, hcap, hmax, hs, hx⟩
  · omega
  have hblk : Blk w g 79 cur := hh
  obtain ⟨A, hA, hA2⟩ : ∃ A : Addr, (if cap = i + 1 then some (⟨g, 0, none⟩ : Addr) else some ⟨g, (i + 1) * 4, none⟩) = some A ∧ (i + 1 < n → A = ⟨g, (i + 1) * 4, none⟩) := by
    by_cases h : cap = i + 1
    · exact ⟨_, if_pos h, fun h2 => by omega⟩
    · exact ⟨_, if_neg h, fun _ => rfl⟩
  obtain ⟨news, hnews⟩ : ∃ news, news = X.drop ((i + 1) * 4) := ⟨_, rfl⟩
  obtain ⟨row, hrow⟩ : ∃ row, row = cur.toList.take (i * 4) ++ news ++ cur.toList.drop (i * 4 + news.length) := ⟨_, rfl⟩
  obtain ⟨zs, hzs⟩ : ∃ zs : List Value, zs = [.int .u64 0, .int .u64 0, .int .u64 0, .bool false] := ⟨_, rfl⟩
  have hzl : zs.length = 4 := by rw [hzs]; rfl
  obtain ⟨row2, hrow2⟩ : ∃ row2, row2 = row.take ((n - 1) * 4) ++ zs ++ row.drop ((n - 1) * 4 + zs.length) := ⟨_, rfl⟩
  obtain ⟨k1, k2, k3, k4, k5, k6⟩ := del_row cur X news n i 4 cap zs hzl hi hcap hs hx hnews row hrow row2 hrow2
  have hcells : ∀ j u, news[j]? = some u → w.drew.cell? (A.add j) = some u := by
    intro j u hu
    have hin : i + 1 < n := by
      have := (List.getElem?_eq_some_iff.1 hu).1
      rcases Nat.lt_or_ge (i + 1) n with h | h
      · exact h
      · rw [k5, show n - 1 - i = 0 from by omega] at this; omega
    have e : A.add j = ⟨g, (i + 1) * 4 + j, none⟩ := by rw [hA2 hin, Addr.add_lit]
    rw [e]
    have h2 := hblk.cell ((i + 1) * 4 + j)
    refine Eq.trans h2 ?_
    rw [hnews, List.getElem?_drop, ← hx, List.getElem?_take] at hu
    split at hu
    · simpa using hu
    · cases hu
  have h1n : ∀ u ∈ news, u.oneCell' = true := fun u hu => h1 u (List.mem_of_mem_drop (hnews ▸ hu))
  have hap : ∀ (ty : TypeId) (c2 : Nat), (Builtin.append_ #[51, 51] ty #[.slice (some ⟨g, 0, none⟩) i cap, .slice (some A) (n - (i + 1)) c2]).run Tryz.prog w.drew = .ok (.slice (some ⟨g, 0, none⟩) (n - 1) cap) (w.drew.setRow g row.toArray) := by
    intro ty c2
    have hr := run_append_room (P := Tryz.prog) w.drew 51 ty 79 i0 Tryz.underlying51 hinf g i cap cur hblk.drew A (n - (i + 1)) c2 news (by rw [hz1, show n - (i + 1) = n - 1 - i from by omega]; exact k5) (fun j u hu => hcells j u hu) h1n (by omega) (by rw [hz1]; exact k6)
    rw [hz1, ← hrow, show i + (n - (i + 1)) = n - 1 from by omega] at hr
    exact hr
  have hcl : ∀ (ty : TypeId) (c2 : Nat), (Builtin.clear_ #[51] ty #[.slice (some ⟨g, (n - 1) * 4, none⟩) (n - (n - 1)) c2]).run Tryz.prog (w.drew.setRow g row.toArray) = .ok (.tuple #[]) ((w.drew.setRow g row.toArray).setRow g row2.toArray) := by
    intro ty c2
    have hr := run_clear_row (w.drew.setRow g row.toArray) 51 ty 79 (.agg #[.int .u64 0, .int .u64 0, .int .u64 0, .bool false]) zs Tryz.underlying51 (fun w => by kernel_rfl) (by rw [hzs]; simp [Builtin.zeroCells, Value.cells]; rfl) g ((n - 1) * 4) c2 row.toArray (hblk.drew.setRow _) (by rw [List.size_toArray, k2, hzl]; exact k4) (by rw [hzs]; intro u hu; simp at hu; rcases hu with rfl | rfl <;> rfl)
    rw [hrow2, show n - (n - 1) = 1 from by omega]
    exact hr
  have HAP := Lib.hid hap
  have HCL := Lib.hid hcl
  have HB := Lib.hid hblk
  have HMX := Lib.hid hmax
  have HK := Lib.hid (And.intro k1 k3)
  have hij : ((i : Int) == (i : Int) + 1) = false := by rw [beq_eq_false_iff_ne]; omega
  clear hA2 h h1 hxl hh hx hs hmax hblk hnews hrow hzs hzl hrow2 k1 k2 k3 k4 k5 k6 hcells h1n hap hcl
  go_enter Tryz.func137, Tryz.ntmps137
  go_wp2
  have hwr : IntKind.i64.wrap ((i : Int) + 1) = (i : Int) + 1 := by rw [IntKind.wrap_i64]; omega
  have hp0 : (0 : Int) ≤ (i : Int) + 1 := by omega
  have hp1 : (i : Int) + 1 ≤ (n : Int) := by omega
  have hp2 : ((i : Int) + 1).toNat = i + 1 := by omega
  have hic : i ≤ cap := by omega
  go_region_law (refine step_append_row rfl (.tmp 22) (.tmp 25) 51 rfl (.slice (some ⟨g, 0, none⟩) i cap) (.slice (some A) (n - (i + 1)) (cap - (i + 1))) (.slice (some ⟨g, 0, none⟩) (n - 1) cap) (w.drew.setRow g row.toArray) (by simp [Act.eval, Act.put]) (by simp [Act.eval, Act.put]) (fun ty => HAP.out ty _) ?_)
  have hcl := HCL.out
  clear hwr hp0 hp1 hp2 hic
  go_wp2
  go_ret
  refine ⟨_, rfl, ⟨?_, .inr ⟨g, cap, row2.toArray, rfl, Nat.zero_le _, ((HB.out.drew.setRow row.toArray).setRow row2.toArray), by omega, HMX.out, ?_, ?_⟩⟩, rfl, ?_⟩
  · rw [← HK.out.2, List.length_take, HK.out.1]
    have := Nat.mul_le_mul_right 4 (show n - 1 ≤ cap from by omega)
    omega
  · rw [List.size_toArray]; exact HK.out.1
  · exact HK.out.2
  · exact (((Only.refl _ w).drew).setRow (S := fun x => (Value.slice (some ⟨g, 0, none⟩) n cap).ownBlock = some x) (g := g) rfl row.toArray).setRow (S := fun x => (Value.slice (some ⟨g, 0, none⟩) n cap).ownBlock = some x) (g := g) rfl row2.toArray
end Go.Proofs.YtfplalgoopkmaaaGreat
