/- Plain words, without Go: sizes of classes, plans. Plain words, without Go: numbers in memory, rows of places, regions, runs. The system's state, without Go. Conditions: none. -/


set_option linter.unusedVariables false
set_option linter.unusedSimpArgs false

namespace Go.Proofs.YtfplalgoopkmaaaGreat
def sizesL : List Nat := [16, 32, 48, 64, 96, 128, 192, 256, 384, 512, 768, 1024]
def sizeOf (c : Nat) : Nat := sizesL.getD c 0
def slicesOf (c : Nat) : Nat := if sizeOf c ≤ 256 then 1 else if sizeOf c ≤ 512 then 2 else 4
def blocksOf (c : Nat) : Nat := slicesOf c * 1024 / sizeOf c
theorem c12 {c : Nat} (h : c < 12) : c = 0 ∨ c = 1 ∨ c = 2 ∨ c = 3 ∨ c = 4 ∨ c = 5 ∨ c = 6 ∨ c = 7 ∨ c = 8 ∨ c = 9 ∨ c = 10 ∨ c = 11 := by omega
structure Plan where
  cls : Int
  slices : Nat
  segs : Nat
  usable : Nat
/-- Does a block of n bytes at multiples of al fit into one of s? -/
def fits (n al s : Nat) : Bool := decide (n ≤ s) && decide (s &&& (al - 1) = 0)
/-- The first class from k on, of d that are left, that fits; else 12. -/
def classFrom (n al : Nat) : Nat → Nat → Nat
  | _, 0 => 12
  | k, d + 1 => if fits n al (sizeOf k) then k else classFrom n al (k + 1) d
def classFor (n al : Nat) : Nat := classFrom n al 0 12
def planOf (n0 al : Nat) : Plan :=
  let n := max n0 1
  if classFor n al < 12 then ⟨classFor n al, slicesOf (classFor n al), 0, sizeOf (classFor n al)⟩
  else if n ≤ 15360 then ⟨-1, (n + 1023) / 1024, 0, (n + 1023) / 1024 * 1024⟩
  else ⟨-1, 0, (n + 16383) / 16384, (n + 16383) / 16384 * 16384⟩
theorem classFrom_le (n al k d : Nat) (h : k + d = 12) : k ≤ classFrom n al k d ∧ classFrom n al k d ≤ 12 := by
  induction d generalizing k with
  | zero => unfold classFrom; omega
  | succ d ih =>
    unfold classFrom
    split
    · omega
    · have := ih (k + 1) (by omega); omega

/-- The first place from k on, of d, where p holds; -1: nowhere. -/
def idxFrom (p : Nat → Bool) : Nat → Nat → Int
  | _, 0 => -1
  | k, d + 1 => if p k then k else idxFrom p (k + 1) d
def idx (p : Nat → Bool) (n : Nat) : Int := idxFrom p 0 n
theorem idxFrom_of (p : Nat → Bool) (k d c : Nat) (h1 : k ≤ c) (h2 : c < k + d) (hno : ∀ j, k ≤ j → j < c → p j = false) (hyes : p c = true) : idxFrom p k d = c := by
  induction d generalizing k with
  | zero => omega
  | succ d ih =>
    unfold idxFrom
    by_cases e : k = c
    · subst e; rw [if_pos hyes]
    · rw [if_neg (by rw [hno k (Nat.le_refl _) (by omega)]; decide)]
      exact ih (k + 1) (by omega) (by omega) (fun j a b => hno j (by omega) b)
theorem idxFrom_no (p : Nat → Bool) (k d : Nat) (hno : ∀ j, k ≤ j → j < k + d → p j = false) : idxFrom p k d = -1 := by
  induction d generalizing k with
  | zero => rfl
  | succ d ih =>
    unfold idxFrom
    rw [if_neg (by rw [hno k (Nat.le_refl _) (by omega)]; decide)]
    exact ih (k + 1) (fun j a b => hno j (by omega) (by omega))
theorem idx_of (p : Nat → Bool) (n c : Nat) (h : c < n) (hno : ∀ j, j < c → p j = false) (hyes : p c = true) : idx p n = c :=
  idxFrom_of p 0 n c (by omega) (by omega) (fun j _ h => hno j h) hyes
theorem idx_no (p : Nat → Bool) (n : Nat) (hno : ∀ j, j < n → p j = false) : idx p n = -1 := idxFrom_no p 0 n (fun j _ h => hno j (by omega))
theorem idx_cases (p : Nat → Bool) (n : Nat) : (∃ c, c < n ∧ idx p n = c ∧ p c = true ∧ ∀ j, j < c → p j = false) ∨ (idx p n = -1 ∧ ∀ j, j < n → p j = false) := by
  have key : ∀ d k, (∃ c, k ≤ c ∧ c < k + d ∧ idxFrom p k d = c ∧ p c = true ∧ ∀ j, k ≤ j → j < c → p j = false) ∨ (idxFrom p k d = -1 ∧ ∀ j, k ≤ j → j < k + d → p j = false) := by
    intro d
    induction d with
    | zero => intro k; right; exact ⟨rfl, fun j a b => by omega⟩
    | succ d ih =>
      intro k
      unfold idxFrom
      cases hk : p k with
      | true => left; exact ⟨k, Nat.le_refl _, by omega, by simp, hk, fun j a b => by omega⟩
      | false =>
        rcases ih (k + 1) with ⟨c, h1, h2, h3, h4, h5⟩ | ⟨h1, h2⟩
        · left
          refine ⟨c, by omega, by omega, by simpa using h3, h4, fun j a b => ?_⟩
          by_cases e : j = k
          · subst e; exact hk
          · exact h5 j (by omega) b
        · right
          refine ⟨by simpa using h1, fun j a b => ?_⟩
          by_cases e : j = k
          · subst e; exact hk
          · exact h2 j (by omega) (by omega)
  rcases key n 0 with ⟨c, _, h2, h3, h4, h5⟩ | ⟨h1, h2⟩
  · left; exact ⟨c, by omega, h3, h4, fun j h => h5 j (by omega) h⟩
  · right; exact ⟨h1, fun j h => h2 j (by omega) (by omega)⟩
/-- Is any of some places so? -/
def anyOf (p : Nat → Bool) (n : Nat) : Bool := decide (0 ≤ idx p n)
/-- T, but b from a on, k places. -/
def setB (T : Nat → Bool) (a k : Nat) (b : Bool) : Nat → Bool := fun i => if a ≤ i ∧ i < a + k then b else T i
theorem setB_zero (T : Nat → Bool) (a : Nat) (b : Bool) : setB T a 0 b = T := by funext i; unfold setB; rw [if_neg (by omega)]
theorem setB_succ (T : Nat → Bool) (a k : Nat) (b : Bool) (j : Nat) : (if j = a + k then b else setB T a k b j) = setB T a (k + 1) b j := by
  unfold setB
  by_cases h : j = a + k
  · subst h; rw [if_pos rfl, if_pos (by omega)]
  · rw [if_neg h]
    by_cases h2 : a ≤ j ∧ j < a + k
    · rw [if_pos h2, if_pos (by omega)]
    · rw [if_neg h2, if_neg (by omega)]
end Go.Proofs.YtfplalgoopkmaaaGreat

namespace Go.Proofs.YtfplalgoopkmaaaGreat
/-- k bytes of x are stored at a. -/
def stN (f : Nat → Nat) (a x k : Nat) : Nat → Nat := fun i => if a ≤ i ∧ i < a + k then x / 256 ^ (i - a) % 256 else f i
theorem stN_zero (f : Nat → Nat) (a x : Nat) : stN f a x 0 = f := by
  funext i; unfold stN; rw [if_neg (by omega)]
theorem stN_succ (f : Nat → Nat) (a x k : Nat) (j : Nat) : (if j = a + k then x / 256 ^ k % 256 else stN f a x k j) = stN f a x (k + 1) j := by
  unfold stN
  by_cases h : j = a + k
  · subst h; rw [if_pos rfl, if_pos (by omega), show a + k - a = k from by omega]
  · rw [if_neg h]
    by_cases h2 : a ≤ j ∧ j < a + k
    · rw [if_pos h2, if_pos (by omega)]
    · rw [if_neg h2, if_neg (by omega)]
theorem stN_lt {f : Nat → Nat} (h : ∀ i, f i < 256) (a x k i : Nat) : stN f a x k i < 256 := by
  unfold stN; split
  · exact Nat.mod_lt _ (by decide)
  · exact h i
/-- A word of memory. -/
def ld8 (f : Nat → Nat) (a : Nat) : Nat := f a + 256 * (f (a + 1) + 256 * (f (a + 2) + 256 * (f (a + 3) + 256 * (f (a + 4) + 256 * (f (a + 5) + 256 * (f (a + 6) + 256 * f (a + 7)))))))
theorem ld8_lt {f : Nat → Nat} (hf : ∀ i, f i < 256) (a : Nat) : ld8 f a < 18446744073709551616 := by
  have h0 := hf a; have h1 := hf (a + 1); have h2 := hf (a + 2); have h3 := hf (a + 3); have h4 := hf (a + 4); have h5 := hf (a + 5); have h6 := hf (a + 6); have h7 := hf (a + 7)
  unfold ld8; omega
abbrev st8 (f : Nat → Nat) (a x : Nat) : Nat → Nat := stN f a x 8
theorem ld8_st8 (f : Nat → Nat) (a x : Nat) (hx : x < 18446744073709551616) : ld8 (st8 f a x) a = x := by
  have e : ∀ k, k < 8 → st8 f a x (a + k) = x / 256 ^ k % 256 := fun k hk => by
    unfold st8 stN; rw [if_pos (by omega), show a + k - a = k from by omega]
  unfold ld8
  have e0 := e 0 (by omega)
  rw [Nat.add_zero] at e0
  rw [e0, e 1 (by omega), e 2 (by omega), e 3 (by omega), e 4 (by omega), e 5 (by omega), e 6 (by omega), e 7 (by omega)]
  omega
theorem ld8_st8_other (f : Nat → Nat) (a b x : Nat) (h : a + 8 ≤ b ∨ b + 8 ≤ a) : ld8 (st8 f a x) b = ld8 f b := by
  have e : ∀ k, k < 8 → st8 f a x (b + k) = f (b + k) := fun k hk => by
    unfold st8 stN; rw [if_neg (by omega)]
  unfold ld8
  have e0 := e 0 (by omega)
  rw [Nat.add_zero] at e0
  rw [e0, e 1 (by omega), e 2 (by omega), e 3 (by omega), e 4 (by omega), e 5 (by omega), e 6 (by omega), e 7 (by omega)]
/-- i blocks more are pushed ahead, the last one first. -/
def pushN (fr sz made : Nat) : Nat → (Nat → Nat) × Nat → (Nat → Nat) × Nat
  | 0, x => x
  | i + 1, x => pushN fr sz made i (st8 x.1 (fr + (made + i) * sz) x.2, fr + (made + i) * sz)
/-- A run that may be. -/
structure RunOK (f s n : Nat) : Prop where
  s1 : 1 ≤ s
  s2 : s ≤ 1048576
  n1 : n ≤ 1024
  fe : f + n * s ≤ 1048576
/-- An address's block of a run, or why not. -/
def runIndex (f s n a : Nat) : Nat × Int :=
  if a < f ∨ f + n * s ≤ a then (0, 3) else if 0 < (a - f) % s then (0, 5) else ((a - f) / s, 0)
/-- A row of free places. -/
abbrev Row (T : Nat → Bool) (n : Nat) := { p : Nat × Nat // 1 ≤ p.2 ∧ p.1 + p.2 ≤ n ∧ ∀ j, j < p.2 → T (p.1 + j) = false }
/-- How many places are free from a on. -/
def rowLen (T : Nat → Bool) (n a : Nat) : Nat := if idx (fun i => T (a + i) == true) (n - a) < 0 then n - a else (idx (fun i => T (a + i) == true) (n - a)).toNat
theorem rowLen_ok (T : Nat → Bool) (n a : Nat) (h : a < n) : a + rowLen T n a ≤ n ∧ ∀ j, j < rowLen T n a → T (a + j) = false := by
  unfold rowLen
  rcases idx_cases (fun i => T (a + i) == true) (n - a) with ⟨c, h1, h2, _, h4⟩ | ⟨h1, h2⟩
  · rw [h2, if_neg (by omega)]
    simp only [Int.toNat_natCast]
    exact ⟨by omega, fun j hj => by simpa using h4 j hj⟩
  · rw [h1, if_pos (by omega)]
    exact ⟨by omega, fun j hj => by simpa using h2 j hj⟩
def rowsFrom (T : Nat → Bool) (n : Nat) : Nat → Nat → List (Row T n)
  | 0, _ => []
  | d + 1, a => if h : a < n then
      (if h2 : 1 ≤ rowLen T n a then [⟨(a, rowLen T n a), h2, rowLen_ok T n a h⟩] else []) ++ rowsFrom T n d (a + rowLen T n a + 1)
    else []
def rowsOf (T : Nat → Bool) (n : Nat) : List (Row T n) := rowsFrom T n n 0
theorem rowsFrom_end (T : Nat → Bool) (n d a : Nat) (h : n ≤ a) : rowsFrom T n d a = [] := by
  cases d with
  | zero => rfl
  | succ d => unfold rowsFrom; rw [dif_neg (by omega)]
theorem rowsFrom_zero (T : Nat → Bool) (n d a : Nat) (h : a < n) (h0 : rowLen T n a = 0) : rowsFrom T n (d + 1) a = rowsFrom T n d (a + 1) := by
  rw [rowsFrom, dif_pos h, dif_neg (by omega), h0]
  rfl
theorem rowsFrom_pos (T : Nat → Bool) (n d a : Nat) (h : a < n) (h1 : 1 ≤ rowLen T n a) : rowsFrom T n (d + 1) a = ⟨(a, rowLen T n a), h1, rowLen_ok T n a h⟩ :: rowsFrom T n d (a + rowLen T n a + 1) := by
  rw [rowsFrom, dif_pos h, dif_pos h1]
  rfl
def takeRow (T : Nat → Bool) (n run : Nat) : Option (Row T n) := (rowsOf T n).find? (fun r => decide (run ≤ r.1.2))
theorem find_of_prefix {α : Type} (p : α → Bool) (l pre : List α) (r : α) (h : pre ++ [r] <+: l) (hno : ∀ x ∈ pre, p x = false) (hr : p r = true) : l.find? p = some r := by
  obtain ⟨t, rfl⟩ := h
  rw [List.append_assoc, List.find?_append]
  have : pre.find? p = none := List.find?_eq_none.2 (fun x hx => by rw [hno x hx]; decide)
  rw [this]
  simp [hr]
theorem takeRow_fits {T : Nat → Bool} {n run : Nat} {r : Row T n} (h : takeRow T n run = some r) : run ≤ r.1.2 := by
  have := List.find?_some h
  simpa using this
/-- How many regions begin ahead of a place, in a row that rises. -/
def regIx : List (Nat × Nat) → Nat → Nat
  | [], _ => 0
  | r :: l, x => if r.1 < x then regIx l x + 1 else 0
def regHas (l : List (Nat × Nat)) (x : Nat) : Bool := match l[regIx l x]? with | some r => decide (r.1 = x) | none => false
def Rising (l : List (Nat × Nat)) : Prop := l.Pairwise (fun a b => a.1 < b.1)
theorem regIx_of (l : List (Nat × Nat)) (x k : Nat) (hk : k ≤ l.length) (h1 : ∀ i, i < k → ∀ r, l[i]? = some r → r.1 < x) (h2 : ∀ r, l[k]? = some r → x ≤ r.1) : regIx l x = k := by
  induction l generalizing k with
  | nil => simp at hk; subst hk; rfl
  | cons r l ih =>
    unfold regIx
    cases k with
    | zero => rw [if_neg (by have := h2 r rfl; omega)]
    | succ k =>
      rw [if_pos (h1 0 (by omega) r rfl), ih k (by simpa using hk) (fun i hi s hs => h1 (i + 1) (by omega) s (by simpa using hs)) (fun s hs => h2 s (by simpa using hs))]
theorem rising_le {l : List (Nat × Nat)} (h : Rising l) {m k x : Nat} {ra rn : Nat} {r : Nat × Nat} (hm : l[m]? = some (ra, rn)) (hk : l[k]? = some r) (hkm : k ≤ m) (hx : ra < x) : r.1 < x := by
  rcases Nat.lt_or_ge k m with hlt | hge
  · obtain ⟨h1, e1⟩ := List.getElem?_eq_some_iff.1 hk
    obtain ⟨h2, e2⟩ := List.getElem?_eq_some_iff.1 hm
    have := List.pairwise_iff_getElem.1 h k m h1 h2 hlt
    rw [e1, e2] at this
    exact Nat.lt_trans this hx
  · obtain rfl : k = m := by omega
    rw [hm] at hk; cases hk; exact hx
theorem rising_ge {l : List (Nat × Nat)} (h : Rising l) {m k x : Nat} {ra rn : Nat} {r : Nat × Nat} (hm : l[m]? = some (ra, rn)) (hk : l[k]? = some r) (hkm : m ≤ k) (hx : x ≤ ra) : x ≤ r.1 := by
  rcases Nat.lt_or_ge m k with hlt | hge
  · obtain ⟨h1, e1⟩ := List.getElem?_eq_some_iff.1 hk
    obtain ⟨h2, e2⟩ := List.getElem?_eq_some_iff.1 hm
    have := List.pairwise_iff_getElem.1 h m k h2 h1 hlt
    rw [e1, e2] at this
    exact Nat.le_of_lt (Nat.lt_of_le_of_lt hx this)
  · obtain rfl : k = m := by omega
    rw [hm] at hk; cases hk; exact hx
structure ArenaM where
  segs : Nat
  limit : Nat
  T : Nat → Bool
  left : Int
  regs : List (Nat × Nat)
  told : List Bool
  refused : Nat
theorem regIx_last (l : List (Nat × Nat)) (x : Nat) (h : ∀ r ∈ l, r.1 < x) : regIx l x = l.length :=
  regIx_of l x l.length (Nat.le_refl _) (fun i hi r hr => h r (List.mem_of_getElem? hr)) (fun r hr => by simp at hr)
theorem rising_snoc {l : List (Nat × Nat)} {r : Nat × Nat} (h : Rising l) (hl : ∀ x ∈ l, x.1 < r.1) : Rising (l ++ [r]) :=
  List.pairwise_append.2 ⟨h, by simp, fun a ha b hb => by obtain rfl : b = r := by simpa using hb
                                                          exact hl a ha⟩
theorem rowsFrom_prefix (T : Nat → Bool) (n b : Nat) (hb : b < n) (hT : ∀ i, i < n → T i = decide (i < b)) : ∀ d a, a ≤ b → n ≤ a + d → ∃ r : Row T n, rowsFrom T n d a = [r] ∧ r.1 = (b, n - b) := by
  intro d
  induction d with
  | zero => intro a h1 h2; omega
  | succ d ih =>
    intro a h1 h2
    by_cases e : a = b
    · subst e
      have hl : rowLen T n a = n - a := by
        unfold rowLen
        rw [idx_no (fun i => T (a + i) == true) (n - a) (fun j hj => by rw [hT _ (by omega)]; simp), if_pos (by omega)]
      have h := rowsFrom_pos T n d a hb (by omega)
      refine ⟨_, by rw [h, rowsFrom_end _ _ _ _ (by omega)], ?_⟩
      simp [hl]
    · have hl : rowLen T n a = 0 := by
        unfold rowLen
        rw [idx_of (fun i => T (a + i) == true) (n - a) 0 (by omega) (fun j hj => by omega) (by rw [Nat.add_zero, hT _ (by omega)]; simp; omega)]
        simp
      rw [rowsFrom_zero T n d a (by omega) hl]
      exact ih (a + 1) (by omega) (by omega)
theorem take_prefix (T : Nat → Bool) (n b run : Nat) (hb : b < n) (hT : ∀ i, i < n → T i = decide (i < b)) (hr : run ≤ n - b) : ∃ r : Row T n, takeRow T n run = some r ∧ r.1.1 = b := by
  obtain ⟨r, h1, h2⟩ := rowsFrom_prefix T n b hb hT n 0 (by omega) (by omega)
  refine ⟨r, ?_, by rw [h2]⟩
  unfold takeRow rowsOf
  rw [h1, List.find?_cons, h2]
  simp [hr]
theorem take_prefix_none (T : Nat → Bool) (n b run : Nat) (hb : b < n) (hT : ∀ i, i < n → T i = decide (i < b)) (hr : n - b < run) : takeRow T n run = none := by
  obtain ⟨r, h1, h2⟩ := rowsFrom_prefix T n b hb hT n 0 (by omega) (by omega)
  unfold takeRow rowsOf
  have h3 : r.1.2 = n - b := by rw [h2]
  have h4 : decide (run ≤ r.1.2) = false := by rw [h3, decide_eq_false_iff_not]; omega
  rw [h1, List.find?_cons, h4]
  rfl
theorem pushN_head (fr sz made i : Nat) (x : (Nat → Nat) × Nat) : (pushN fr sz made (i + 1) x).2 = fr + made * sz := by
  induction i generalizing x with
  | zero => simp [pushN]
  | succ i ih =>
    show (pushN fr sz made (i + 1) _).2 = _
    exact ih _
/-- Memory behind the first block of a page. -/
def freshMem (fr s n : Nat) (f : Nat → Nat) : Nat → Nat := (pushN fr s 0 (min 4 n) (f, 0)).1
def setOf (of : Nat → Option Nat) (a k : Nat) (x : Option Nat) : Nat → Option Nat := fun i => if a ≤ i ∧ i < a + k then x else of i
theorem setOf_zero (of : Nat → Option Nat) (a : Nat) (x : Option Nat) : setOf of a 0 x = of := by
  funext i; unfold setOf; rw [if_neg (by omega)]
theorem setOf_succ (of : Nat → Option Nat) (a k : Nat) (x : Option Nat) : setOf (setOf of a k x) (a + k) 1 x = setOf of a (k + 1) x := by
  funext i
  unfold setOf
  by_cases h1 : a ≤ i ∧ i < a + k
  · rw [if_pos (show a ≤ i ∧ i < a + (k + 1) from by omega)]
    split <;> simp_all
  · by_cases h2 : i = a + k
    · rw [if_pos (by omega), if_pos (by omega)]
    · rw [if_neg (by omega), if_neg (by omega), if_neg (by omega)]
theorem class_facts {c : Nat} (h : c < 12) : 16 ≤ sizeOf c ∧ sizeOf c ≤ 1024 ∧ 1 ≤ slicesOf c ∧ slicesOf c ≤ 4 ∧ 1 ≤ blocksOf c ∧ blocksOf c ≤ 64 ∧ blocksOf c * sizeOf c ≤ slicesOf c * 1024 := by
  rcases c12 h with rfl | rfl | rfl | rfl | rfl | rfl | rfl | rfl | rfl | rfl | rfl | rfl <;> decide
/-- k noughts from a on. -/
def fillN (f : Nat → Nat) (a k : Nat) : Nat → Nat := fun i => if a ≤ i ∧ i < a + k then 0 else f i
theorem fillN_zero (f : Nat → Nat) (a : Nat) : fillN f a 0 = f := by funext i; unfold fillN; rw [if_neg (by omega)]
theorem fillN_succ (f : Nat → Nat) (a k : Nat) (j : Nat) : (if j = a + k then 0 else fillN f a k j) = fillN f a (k + 1) j := by
  unfold fillN
  by_cases h : j = a + k
  · rw [if_pos h, if_pos (by omega)]
  · rw [if_neg h]
    by_cases h2 : a ≤ j ∧ j < a + k
    · rw [if_pos h2, if_pos (by omega)]
    · rw [if_neg h2, if_neg (by omega)]
theorem fillN_lt {f : Nat → Nat} (h : ∀ i, f i < 256) (a k i : Nat) : fillN f a k i < 256 := by
  unfold fillN; split
  · decide
  · exact h i
def updL (L : Nat → List Nat) (c : Nat) (v : List Nat) : Nat → List Nat := fun i => if i = c then v else L i
/-- The class's place: its own; of those of one block alone the thirteenth. -/
def rowIx (c : Int) : Nat := if c = -1 then 12 else c.toNat
/-- Is a number in a row? -/
def inRow (l : List Nat) (x : Nat) : Bool := anyOf (fun i => l.getD i 0 == x) l.length
end Go.Proofs.YtfplalgoopkmaaaGreat

namespace Go.Proofs.YtfplalgoopkmaaaGreat

/-- A page: its class, its slices, its blocks' bytes and how many there are; how many are made, and used; its three rows of blocks; its cell's tag, and how often that was asked. -/
structure Pg where
  cls : Int
  sl : Nat
  size : Nat
  n : Nat
  made : Nat
  used : Nat
  free : List Nat
  loc : List Nat
  post : List Nat
  pt : Nat
  pa : Nat
/-- A segment: of each slice where its page begins; how many are free; its owner's word, tag, and how often that was asked. -/
structure Sg where
  of : Nat → Option Nat
  left : Nat
  ow : Nat
  ot : Nat
  oa : Nat
/-- A heap: its ready and its full pages by class, its segments' places. -/
structure Hp where
  L : Nat → List Nat
  FL : Nat → List Nat
  segs : List Nat
structure CallM where
  kind : Int
  addr : Nat
  n : Nat
  align : Nat
  zero : Bool
  force : Bool
structure ResM where
  addr : Nat
  err : Int
  steps : Nat
/-- A call on its way. -/
structure Fr where
  top : Int
  word : Nat
  tag : Nat
  c : CallM
  plan : Plan
  st : ByteArray
  list : List Nat
  sp : Option Nat
  moved : Nat
  r : ResM
/-- A block that is handed out. -/
structure Ent where
  addr : Nat
  n : Nat
  align : Nat
  held : Bool
structure Th where
  is : Nat
  asked : CallM
  res : ResM
  has : Bool
/-- What the system has of its own: the stack of segments (word, tag, how often asked, who stands on whom, who is in it, the top), which segments it knows, huge blocks. -/
structure Sy where
  sw : Nat
  stg : Nat
  sa : Nat
  below : Nat → Int
  inn : Nat → Bool
  top : Nat
  kn : Nat → Bool
  huge : Nat → Nat
/-- What is handed out, and threads. -/
structure Wl where
  led : List Ent
  nth : Nat
  th : Nat → Th
/-- All: memory, the arena, the stack of segments, heaps, segments, pages, which segments the system knows, huge blocks, what is handed out, threads, their calls, calls within. -/
structure St where
  n : Nat
  f : Nat → Nat
  ar : ArenaM
  sy : Sy
  heap : Nat → Hp
  seg : Nat → Option Sg
  page : Nat → Option Pg
  wl : Wl
  fr : Bool → Nat → Option Fr

/-- g, but v at k. -/
def upd {α : Type} (g : Nat → α) (k : Nat) (v : α) : Nat → α := fun i => if i = k then v else g i
theorem upd_same {α : Type} (g : Nat → α) (k : Nat) (v : α) : upd g k v k = v := if_pos rfl
theorem upd_ne {α : Type} (g : Nat → α) {k j : Nat} (v : α) (h : j ≠ k) : upd g k v j = g j := if_neg h
/-- The first one's address, 0 of none. -/
def hd (l : List Nat) : Nat := l.headD 0
/-- In memory each one's word is the next one's address, the last one's 0. -/
def Linked (f : Nat → Nat) : List Nat → Prop
  | [] => True
  | a :: l => ld8 f a = hd l ∧ Linked f l
/-- The blocks from the i-th on, k of them. -/
def blocksFrom (fr sz : Nat) : Nat → Nat → List Nat
  | _, 0 => []
  | i, k + 1 => (fr + i * sz) :: blocksFrom fr sz (i + 1) k
theorem blocksFrom_length (fr sz i k : Nat) : (blocksFrom fr sz i k).length = k := by
  induction k generalizing i with
  | zero => rfl
  | succ k ih => simp [blocksFrom, ih]
theorem mem_blocksFrom (fr sz i k a : Nat) : a ∈ blocksFrom fr sz i k ↔ ∃ j, i ≤ j ∧ j < i + k ∧ a = fr + j * sz := by
  induction k generalizing i with
  | zero => simp [blocksFrom]; omega
  | succ k ih =>
    simp only [blocksFrom, List.mem_cons, ih]
    constructor
    · rintro (rfl | ⟨j, h1, h2, rfl⟩)
      · exact ⟨i, by omega, by omega, rfl⟩
      · exact ⟨j, by omega, by omega, rfl⟩
    · rintro ⟨j, h1, h2, rfl⟩
      by_cases e : j = i
      · left; rw [e]
      · right; exact ⟨j, by omega, by omega, rfl⟩

/-- What a page gives: a block, or none; the page; memory. -/
def pgAlloc (f : Nat → Nat) (k : Nat) (p : Pg) : Option Nat × Pg × (Nat → Nat) :=
  match p.free with
  | a :: r => (some a, { p with free := r, used := p.used + 1 }, f)
  | [] => match p.loc with
    | a :: r => (some a, { p with free := r, loc := [], used := p.used + 1 }, f)
    | [] => match blocksFrom (k * 1024) p.size p.made (min 4 (p.n - p.made)) with
      | a :: r => (some a, { p with free := r, made := p.made + min 4 (p.n - p.made), used := p.used + 1 }, (pushN (k * 1024) p.size p.made (min 4 (p.n - p.made)) (f, 0)).1)
      | [] => (none, p, f)
def St.setPage (A : St) (k : Nat) (p : Pg) (f : Nat → Nat) : St := { A with page := upd A.page k (some p), f := f }
/-- A ready page is full. -/
def Hp.fill (h : Hp) (c k : Nat) : Hp := { h with L := updL h.L c ((h.L c).erase k), FL := updL h.FL c (h.FL c ++ [k]) }
def Hp.wake (h : Hp) (c k : Nat) : Hp := { h with FL := updL h.FL c ((h.FL c).erase k), L := updL h.L c (h.L c ++ [k]) }
def Hp.push (h : Hp) (c k : Nat) : Hp := { h with L := updL h.L c (h.L c ++ [k]) }
/-- Goes from its row, whichever. -/
def Hp.remove (h : Hp) (c k : Nat) : Hp := if k ∈ h.L c then { h with L := updL h.L c ((h.L c).erase k) } else { h with FL := updL h.FL c ((h.FL c).erase k) }
def St.setHeap (A : St) (t : Nat) (h : Hp) : St := { A with heap := upd A.heap t h }
/-- The page that an address is in, of some segments: its number. -/
def St.findIn (A : St) (segs : List Nat) (a : Nat) : Option Nat :=
  if a / 16384 ∈ segs then (A.seg (a / 16384)).bind fun s => (s.of (a / 1024 % 16)).map fun at_ => a / 16384 * 16 + at_ else none
/-- The first ready page that has a block; those ahead are full. -/
def St.localGo (t c : Nat) : List Nat → St → Nat × Int × St
  | [], A => (0, 4, A)
  | k :: r, A => match A.page k with
    | none => (0, 4, A)
    | some p => match pgAlloc A.f k p with
      | (some a, p', f') => (a, 0, A.setPage k p' f')
      | (none, _, _) => St.localGo t c r (A.setHeap t ((A.heap t).fill c k))
def St.local_ (A : St) (t c : Nat) : Nat × Int × St := St.localGo t c ((A.heap t).L c) A
/-- Which places of a segment are taken. -/
def Sg.T (s : Sg) : Nat → Bool := fun i => decide (i = 0) || (s.of i).isSome
def Sg.nil : Sg := ⟨fun _ => none, 0, 0, 0, 0⟩
def St.segD (A : St) (p : Nat) : Sg := (A.seg p).getD Sg.nil
theorem St.setPage_self {A : St} {k : Nat} {p : Pg} (h : A.page k = some p) : A.setPage k p A.f = A := by
  unfold St.setPage
  have : upd A.page k (some p) = A.page := by funext j; unfold upd; by_cases e : j = k <;> simp [e, h]
  rw [this]
end Go.Proofs.YtfplalgoopkmaaaGreat
