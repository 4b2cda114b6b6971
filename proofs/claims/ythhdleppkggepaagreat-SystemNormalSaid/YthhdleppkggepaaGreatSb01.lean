/-
  Plain arithmetic of the program's data, no program in sight: an absolute value as words of 32 bits ('val', 'digits').
-/
import Derived.Below

set_option linter.unusedSimpArgs false
set_option linter.unusedVariables false
set_option linter.unusedSectionVars false

namespace Go.Proofs.YthhdleppkggepaaGreat

/-- The value of words, the least significant one first. -/
def val : List Nat → Nat
  | [] => 0
  | d :: r => d + 4294967296 * val r

def digF : Nat → Nat → List Nat
  | 0, _ => []
  | f + 1, n => if n = 0 then [] else n % 4294967296 :: digF f (n / 4294967296)
/-- The words of a number, without one at the end that is 0. -/
def digits (n : Nat) : List Nat := digF n n

/-- All are words. -/
def Wd (ws : List Nat) : Prop := ∀ x ∈ ws, x < 4294967296
/-- Words whose last one is not 0. -/
def Canon (ws : List Nat) : Prop := Wd ws ∧ ws.getLast? ≠ some 0

theorem digF_eq : ∀ (f g n : Nat), n ≤ f → n ≤ g → digF f n = digF g n := by
  intro f
  induction f with
  | zero =>
    intro g n hf _
    have h0 : n = 0 := by omega
    subst h0
    cases g <;> simp [digF]
  | succ f ih =>
    intro g n hf hg
    cases g with
    | zero =>
      have h0 : n = 0 := by omega
      subst h0; simp [digF]
    | succ g =>
      by_cases h0 : n = 0
      · simp [digF, h0]
      · simp only [digF, if_neg h0]
        rw [ih g (n / 4294967296) (by omega) (by omega)]
theorem digits_zero : digits 0 = [] := rfl
theorem digits_pos {n : Nat} (h : n ≠ 0) : digits n = n % 4294967296 :: digits (n / 4294967296) := by
  unfold digits
  cases n with
  | zero => exact absurd rfl h
  | succ m =>
    rw [digF, if_neg h]
    rw [digF_eq m ((m + 1) / 4294967296) _ (by omega) (by omega)]
theorem digits_small {n : Nat} (h : n ≠ 0) (hb : n < 4294967296) : digits n = [n] := by
  rw [digits_pos h, show n / 4294967296 = 0 from by omega, digits_zero, show n % 4294967296 = n from by omega]
theorem val_digits (n : Nat) : val (digits n) = n := by
  induction n using Nat.strongRecOn with
  | _ n ih =>
    by_cases h : n = 0
    · subst h; rfl
    · rw [digits_pos h, val, ih _ (by omega)]; omega
theorem wd_digits (n : Nat) : Wd (digits n) := by
  induction n using Nat.strongRecOn with
  | _ n ih =>
    by_cases h : n = 0
    · subst h; intro x hx; simp [digits_zero] at hx
    · rw [digits_pos h]
      intro x hx
      rcases List.mem_cons.1 hx with rfl | hx
      · omega
      · exact ih _ (by omega) x hx
theorem digits_eq_nil {n : Nat} : digits n = [] ↔ n = 0 := by
  constructor
  · intro h; have := val_digits n; rw [h] at this; exact this.symm
  · rintro rfl; rfl
theorem canon_digits (n : Nat) : Canon (digits n) := by
  refine ⟨wd_digits n, ?_⟩
  induction n using Nat.strongRecOn with
  | _ n ih =>
    by_cases h : n = 0
    · subst h; simp [digits_zero]
    · rw [digits_pos h]
      by_cases h2 : n / 4294967296 = 0
      · rw [h2, digits_zero]; simp; omega
      · have hne : digits (n / 4294967296) ≠ [] := fun e => h2 (digits_eq_nil.1 e)
        rw [List.getLast?_cons]
        have := ih _ (show n / 4294967296 < n by omega)
        cases hl : (digits (n / 4294967296)).getLast? with
        | none => exact absurd (List.getLast?_eq_none_iff.1 hl) hne
        | some x => rw [hl] at this; simpa using this
theorem val_eq_zero {ws : List Nat} (h : Canon ws) (hv : val ws = 0) : ws = [] := by
  induction ws with
  | nil => rfl
  | cons d r ih =>
    exfalso
    simp only [val] at hv
    have hd : d = 0 := by omega
    have hr : val r = 0 := by omega
    have hc : Canon r := ⟨fun x hx => h.1 x (List.mem_cons_of_mem _ hx), by
      cases r with
      | nil => simp
      | cons e r' => have := h.2; rw [List.getLast?_cons_cons] at this; exact this⟩
    have := ih hc hr
    subst this
    exact h.2 (by simp [hd])
theorem Canon.tail {d : Nat} {r : List Nat} (h : Canon (d :: r)) : Canon r :=
  ⟨fun x hx => h.1 x (List.mem_cons_of_mem _ hx), by
    cases r with
    | nil => simp
    | cons e r' => have := h.2; rw [List.getLast?_cons_cons] at this; exact this⟩
/-- Words without a last 0 are the digits of their value. -/
theorem digits_val {ws : List Nat} (h : Canon ws) : digits (val ws) = ws := by
  induction ws with
  | nil => rfl
  | cons d r ih =>
    have hd : d < 4294967296 := h.1 d List.mem_cons_self
    have hne : val (d :: r) ≠ 0 := fun e => by have := val_eq_zero h e; cases this
    rw [digits_pos hne]
    simp only [val]
    rw [show (d + 4294967296 * val r) % 4294967296 = d from by omega, show (d + 4294967296 * val r) / 4294967296 = val r from by omega, ih h.tail]
theorem val_append (a b : List Nat) : val (a ++ b) = val a + 4294967296 ^ a.length * val b := by
  induction a with
  | nil => simp [val]
  | cons d r ih => simp only [List.cons_append, val, ih, List.length_cons, Nat.pow_succ, Nat.mul_add]; simp only [Nat.add_assoc, Nat.mul_assoc, Nat.mul_comm, Nat.mul_left_comm]
theorem val_lt {ws : List Nat} (h : Wd ws) : val ws < 4294967296 ^ ws.length := by
  induction ws with
  | nil => simp [val]
  | cons d r ih =>
    have hd : d < 4294967296 := h d List.mem_cons_self
    have := ih (fun x hx => h x (List.mem_cons_of_mem _ hx))
    simp only [val, List.length_cons, Nat.pow_succ]
    omega
theorem val_replicate_zero (k : Nat) : val (List.replicate k 0) = 0 := by
  induction k with
  | zero => rfl
  | succ k ih => simp [List.replicate_succ, val, ih]
/-- Cutting off words that are 0 at the end. -/
theorem digits_take {ws : List Nat} (h : Wd ws) {m : Nat} (hm : m ≤ ws.length) (hz : ∀ i, m ≤ i → (hi : i < ws.length) → ws[i] = 0) (hl : m = 0 ∨ ∃ hi : m - 1 < ws.length, ws[m - 1] ≠ 0) :
    digits (val ws) = ws.take m := by
  have hsplit : ws = ws.take m ++ List.replicate (ws.length - m) 0 := by
    apply List.ext_getElem
    · simp; omega
    · intro i h1 h2
      by_cases him : i < m
      · rw [List.getElem_append_left (by simp; omega)]; simp
      · rw [List.getElem_append_right (by simp; omega)]; simp; exact hz i (by omega) h1
  have hv : val ws = val (ws.take m) := by
    conv => lhs; rw [hsplit]
    rw [val_append, val_replicate_zero]; simp
  rw [hv]
  apply digits_val
  refine ⟨fun x hx => h x (List.mem_of_mem_take hx), ?_⟩
  rcases hl with rfl | ⟨hi, hne⟩
  · simp
  · rw [List.getLast?_eq_getElem?]
    rcases Nat.eq_zero_or_pos m with rfl | hpos
    · simp
    · have hlen : (ws.take m).length = m := by simp; omega
      rw [hlen, List.getElem?_take, if_pos (by omega), List.getElem?_eq_getElem hi]
      intro e; injection e with e; exact hne e

/-- The number of words of an integer. -/
def wl (z : Int) : Nat := (digits z.natAbs).length
theorem length_digits_le {n k : Nat} (h : n < 4294967296 ^ k) : (digits n).length ≤ k := by
  induction k generalizing n with
  | zero => have : n = 0 := by simp at h; exact h
            subst this; simp [digits_zero]
  | succ k ih =>
    by_cases h0 : n = 0
    · subst h0; simp [digits_zero]
    · rw [digits_pos h0, List.length_cons]
      have : n / 4294967296 < 4294967296 ^ k := by
        rw [Nat.div_lt_iff_lt_mul (by decide)]; rw [Nat.pow_succ] at h; exact h
      have := ih this; omega
theorem lt_pow_length (n : Nat) : n < 4294967296 ^ (digits n).length := by
  have := val_lt (wd_digits n); rwa [val_digits] at this
theorem length_digits_mono {a b : Nat} (h : a ≤ b) : (digits a).length ≤ (digits b).length :=
  length_digits_le (Nat.lt_of_le_of_lt h (lt_pow_length b))
theorem length_digits_add (a b : Nat) : (digits (a + b)).length ≤ max (digits a).length (digits b).length + 1 := by
  apply length_digits_le
  have ha := lt_pow_length a
  have hb := lt_pow_length b
  have h1 : 4294967296 ^ (digits a).length ≤ 4294967296 ^ (max (digits a).length (digits b).length) := Nat.pow_le_pow_right (by decide) (by omega)
  have h2 : 4294967296 ^ (digits b).length ≤ 4294967296 ^ (max (digits a).length (digits b).length) := Nat.pow_le_pow_right (by decide) (by omega)
  rw [Nat.pow_succ]; omega
theorem length_digits_mul (a b : Nat) : (digits (a * b)).length ≤ (digits a).length + (digits b).length := by
  apply length_digits_le
  rw [Nat.pow_add]
  exact Nat.mul_lt_mul'' (lt_pow_length a) (lt_pow_length b)
theorem wl_neg (z : Int) : wl (-z) = wl z := by simp [wl]
theorem wl_mul (a b : Int) : wl (a * b) ≤ wl a + wl b := by unfold wl; rw [Int.natAbs_mul]; exact length_digits_mul _ _
theorem wl_add (a b : Int) : wl (a + b) ≤ max (wl a) (wl b) + 1 := by
  unfold wl
  exact Nat.le_trans (length_digits_mono (Int.natAbs_add_le a b)) (length_digits_add _ _)
theorem wl_le_of_natAbs {a b : Int} (h : a.natAbs ≤ b.natAbs) : wl a ≤ wl b := length_digits_mono h
theorem wl_zero : wl 0 = 0 := rfl
theorem wl_eq_zero {z : Int} : wl z = 0 ↔ z = 0 := by
  unfold wl; rw [List.length_eq_zero_iff, digits_eq_nil]; omega
theorem wl_small {z : Int} (h : z.natAbs < 4294967296) : wl z ≤ 1 := by
  have := length_digits_le (n := z.natAbs) (k := 1) (by simpa using h); exact this

/-! ### Comparing -/
def cmpN (a b : Nat) : Int := if a < b then -1 else if b < a then 1 else 0
def cmpZ (a b : Int) : Int := if a < b then -1 else if b < a then 1 else 0

theorem val_split (ws : List Nat) (k : Nat) : val ws = val (ws.take k) + 4294967296 ^ (ws.take k).length * val (ws.drop k) := by
  conv => lhs; rw [← List.take_append_drop k ws]
  exact val_append _ _
/-- Of equal length, equal above k, and less at k: less. -/
theorem val_lt_of {xs ys : List Nat} (hx : Wd xs) (hl : xs.length = ys.length) {k : Nat} (hk : k < xs.length) (hk' : k < ys.length)
    (ht : xs.drop (k + 1) = ys.drop (k + 1)) (h : xs[k] < ys[k]) : val xs < val ys := by
  rw [val_split xs k, val_split ys k, List.drop_eq_getElem_cons hk, List.drop_eq_getElem_cons hk', ht]
  simp only [val, List.length_take]
  rw [show min k xs.length = k from by omega, show min k ys.length = k from by omega]
  have h1 : val (xs.take k) < 4294967296 ^ k := by
    have := val_lt (ws := xs.take k) (fun x h => hx x (List.mem_of_mem_take h))
    rwa [List.length_take, show min k xs.length = k from by omega] at this
  generalize val (List.drop (k + 1) ys) = T
  have h2 : 4294967296 ^ k * (xs[k] + 4294967296 * T) + 4294967296 ^ k ≤ 4294967296 ^ k * (ys[k] + 4294967296 * T) := by
    rw [← Nat.mul_succ]; exact Nat.mul_le_mul_left _ (by omega)
  omega
theorem digits_lt_of_length {a b : Nat} (h : (digits a).length < (digits b).length) : a < b := by
  rcases Nat.lt_or_ge a b with h1 | h1
  · exact h1
  · have := length_digits_mono h1; omega

/-! ### The borrow of math/bits.Sub32 -/
theorem div31 {v : Nat} (h : v < 4294967296) : v / 2147483648 = (v.testBit 31).toNat := by
  rw [Nat.testBit_eq_decide_div_mod_eq]
  by_cases h1 : v / 2 ^ 31 % 2 = 1
  · rw [decide_eq_true h1]; simp; omega
  · rw [decide_eq_false h1]; simp; omega
theorem bit31 {v : Nat} (h : v < 4294967296) : v.testBit 31 = decide (2147483648 ≤ v) := by
  rw [Nat.testBit_eq_decide_div_mod_eq]
  rw [Bool.eq_iff_iff]; simp; omega
theorem borrow32 {x y d : Nat} (c : Nat) (hx : x < 4294967296) (hy : y < 4294967296) (hd : d < 4294967296) (hc : c ≤ 1) (he : (x + 8589934592 - y - c) % 4294967296 = d) :
    (((4294967295 ^^^ x) &&& y) ||| ((4294967295 ^^^ (x ^^^ y)) &&& d)) / 2147483648 = if x < y + c then 1 else 0 := by
  have h1 : (4294967295 : Nat) < 2 ^ 32 := by decide
  have hxx : 4294967295 ^^^ x < 2 ^ 32 := Nat.xor_lt_two_pow h1 (by omega)
  have hxy : x ^^^ y < 2 ^ 32 := Nat.xor_lt_two_pow (by omega) (by omega)
  have hn : 4294967295 ^^^ (x ^^^ y) < 2 ^ 32 := Nat.xor_lt_two_pow h1 hxy
  have hl : ((4294967295 ^^^ x) &&& y) ||| ((4294967295 ^^^ (x ^^^ y)) &&& d) < 2 ^ 32 :=
    Nat.or_lt_two_pow (Nat.and_lt_two_pow _ (by omega)) (Nat.and_lt_two_pow _ (by omega))
  rw [div31 (by omega)]
  simp only [Nat.testBit_or, Nat.testBit_and, Nat.testBit_xor]
  rw [bit31 hx, bit31 hy, bit31 hd, show Nat.testBit 4294967295 31 = true from by decide]
  by_cases a1 : 2147483648 ≤ x <;> by_cases a2 : 2147483648 ≤ y <;> by_cases a3 : 2147483648 ≤ d <;> simp [a1, a2, a3] <;> omega

theorem val_take_succ (ws : List Nat) (j : Nat) : val (ws.take (j + 1)) = val (ws.take j) + 4294967296 ^ j * ws.getD j 0 := by
  rcases Nat.lt_or_ge j ws.length with h | h
  · rw [List.take_succ_eq_append_getElem h, val_append, List.getD_eq_getElem?_getD, List.getElem?_eq_getElem h]
    simp only [List.length_take, val, Option.getD_some]
    rw [show min j ws.length = j from by omega]; simp
  · rw [List.take_of_length_le (by omega), List.take_of_length_le h, List.getD_eq_getElem?_getD, List.getElem?_eq_none h]; simp
theorem take_set_self {α : Type} (l : List α) (j : Nat) (x : α) (h : j < l.length) : (l.set j x).take (j + 1) = l.take j ++ [x] := by
  rw [List.take_succ_eq_append_getElem (by simpa using h), List.take_set_of_le (Nat.le_refl _)]; simp
theorem getD_lt {ws : List Nat} (h : Wd ws) (j : Nat) : ws.getD j 0 < 4294967296 := by
  rw [List.getD_eq_getElem?_getD]
  rcases Nat.lt_or_ge j ws.length with hj | hj
  · rw [List.getElem?_eq_getElem hj]; exact h _ (List.getElem_mem hj)
  · rw [List.getElem?_eq_none hj]; decide
theorem Wd.set {ws : List Nat} (h : Wd ws) (j : Nat) {x : Nat} (hx : x < 4294967296) : Wd (ws.set j x) := by
  intro y hy
  rcases List.mem_or_eq_of_mem_set hy with hy | rfl
  · exact h y hy
  · exact hx
theorem wd_replicate (n : Nat) : Wd (List.replicate n 0) := fun x hx => by rw [(List.mem_replicate.1 hx).2]; decide
/-- One word of a sum. -/
theorem add_step {os xs ys : List Nat} {j cy x y s q : Nat} (hj : j < os.length) (hx : xs.getD j 0 = x) (hy : ys.getD j 0 = y)
    (h : val (os.take j) + 4294967296 ^ j * cy = val (xs.take j) + val (ys.take j)) (he : x + y + cy = s + 4294967296 * q) :
    val ((os.set j s).take (j + 1)) + 4294967296 ^ (j + 1) * q = val (xs.take (j + 1)) + val (ys.take (j + 1)) := by
  rw [take_set_self _ _ _ hj, val_append, val_take_succ xs, val_take_succ ys, hx, hy]
  simp only [val, List.length_take, Nat.mul_zero, Nat.add_zero]
  rw [show min j os.length = j from by omega, Nat.pow_succ]
  generalize 4294967296 ^ j = P at *
  have h2 : P * x + P * y + P * cy = P * s + P * 4294967296 * q := by
    rw [Nat.mul_assoc, ← Nat.mul_add, ← Nat.mul_add, ← Nat.mul_add, he]
  omega

/-- One word of a difference. -/
theorem sub_step {os xs ys : List Nat} {j cy x y s q : Nat} (hj : j < os.length) (hx : xs.getD j 0 = x) (hy : ys.getD j 0 = y)
    (h : val (os.take j) + val (ys.take j) = val (xs.take j) + 4294967296 ^ j * cy) (he : s + y + cy = x + 4294967296 * q) :
    val ((os.set j s).take (j + 1)) + val (ys.take (j + 1)) = val (xs.take (j + 1)) + 4294967296 ^ (j + 1) * q := by
  rw [take_set_self _ _ _ hj, val_append, val_take_succ xs, val_take_succ ys, hx, hy]
  simp only [val, List.length_take, Nat.mul_zero, Nat.add_zero]
  rw [show min j os.length = j from by omega, Nat.pow_succ]
  generalize 4294967296 ^ j = P at *
  have h2 : P * s + P * y + P * cy = P * x + P * 4294967296 * q := by
    rw [Nat.mul_assoc, ← Nat.mul_add, ← Nat.mul_add, ← Nat.mul_add, he]
  omega
theorem sub_end {os xs ys : List Nat} {n cy : Nat} (hw : Wd os) (hn : os.length = n) (hx : xs.length = n) (hy : ys.length ≤ n)
    (h : val (os.take n) + val (ys.take n) = val (xs.take n) + 4294967296 ^ n * cy) (hle : val ys ≤ val xs) : val os = val xs - val ys := by
  rw [List.take_of_length_le (by omega), List.take_of_length_le (by omega), List.take_of_length_le (by omega)] at h
  have h1 := val_lt hw
  rw [hn] at h1
  have : cy = 0 := by
    rcases Nat.eq_zero_or_pos cy with h0 | h0
    · exact h0
    · have : 4294967296 ^ n ≤ 4294967296 ^ n * cy := Nat.le_mul_of_pos_right _ h0
      omega
  subst this
  omega

/-- One step of a product's inner loop. -/
theorem mul_step {os0 os ys : List Nat} {j k a y o cy s q : Nat} (hj : j + k < os.length) (hl : os.length = os0.length) (hy : ys.getD k 0 = y) (ho : os[j + k] = o)
    (hsame : ∀ i, j + k ≤ i → os[i]? = os0[i]?)
    (h : val (os.take (j + k)) + 4294967296 ^ (j + k) * cy = val (os0.take (j + k)) + 4294967296 ^ j * (a * val (ys.take k))) (he : cy + (a * y + o) = s + 4294967296 * q) :
    val ((os.set (j + k) s).take (j + (k + 1))) + 4294967296 ^ (j + (k + 1)) * q = val (os0.take (j + (k + 1))) + 4294967296 ^ j * (a * val (ys.take (k + 1))) := by
  have h0 : os0[j + k]? = some o := by rw [← hsame (j + k) (Nat.le_refl _), List.getElem?_eq_getElem hj, ho]
  have hd : os0.getD (j + k) 0 = o := by rw [List.getD_eq_getElem?_getD, h0]; rfl
  rw [show j + (k + 1) = j + k + 1 from rfl, take_set_self _ _ _ hj, val_append, val_take_succ os0, hd, val_take_succ ys, hy]
  simp only [val, List.length_take, Nat.mul_zero, Nat.add_zero]
  rw [show min (j + k) os.length = j + k from by omega, Nat.pow_succ]
  have h2 : 4294967296 ^ (j + k) * cy + (4294967296 ^ (j + k) * (a * y) + 4294967296 ^ (j + k) * o) = 4294967296 ^ (j + k) * s + 4294967296 ^ (j + k) * 4294967296 * q := by
    rw [Nat.mul_assoc, ← Nat.mul_add, ← Nat.mul_add, ← Nat.mul_add, he]
  have h3 : 4294967296 ^ j * (a * (val (ys.take k) + 4294967296 ^ k * y)) = 4294967296 ^ j * (a * val (ys.take k)) + 4294967296 ^ (j + k) * (a * y) := by
    rw [Nat.mul_add, Nat.mul_add, Nat.pow_add]; congr 1
    rw [Nat.mul_left_comm a, ← Nat.mul_assoc]
  rw [h3]
  omega
/-- One step of a product's outer loop. -/
theorem mul_row {os0 os xs ys : List Nat} {j m a cy : Nat} (hj : j + m < os.length) (hx : xs.getD j 0 = a)
    (h0 : val (os0.take (j + m)) = val (xs.take j) * val ys)
    (h : val (os.take (j + m)) + 4294967296 ^ (j + m) * cy = val (os0.take (j + m)) + 4294967296 ^ j * (a * val ys)) :
    val ((os.set (j + m) cy).take (j + 1 + m)) = val (xs.take (j + 1)) * val ys := by
  rw [show j + 1 + m = j + m + 1 from by omega, take_set_self _ _ _ hj, val_append, val_take_succ xs, hx]
  simp only [val, List.length_take, Nat.mul_zero, Nat.add_zero]
  rw [show min (j + m) os.length = j + m from by omega, h, h0, Nat.add_mul, Nat.mul_assoc]

end Go.Proofs.YthhdleppkggepaaGreat

/-
  Plain laws of polynomials as lists of terms, no program in sight: order, sum, multiple, validity. No condition but those in the statements.
-/
namespace Go.Proofs.YthhdleppkggepaaGreat

theorem cmpZ_neg' {x y : Int} : cmpZ y x = -cmpZ x y := by unfold cmpZ; split <;> split <;> omega
/-- The lexicographic order, as -1, 0 or 1. -/
def cmpL : List Int → List Int → Int
  | a :: r, b :: s => if a < b then -1 else if b < a then 1 else cmpL r s
  | _, _ => 0
theorem cmpL_drop {a b : List Int} {k : Nat} (ha : k < a.length) (hb : k < b.length) :
    cmpL (a.drop k) (b.drop k) = if a.getD k 0 < b.getD k 0 then -1 else if b.getD k 0 < a.getD k 0 then 1 else cmpL (a.drop (k + 1)) (b.drop (k + 1)) := by
  rw [List.drop_eq_getElem_cons ha, List.drop_eq_getElem_cons hb, List.getD_eq_getElem?_getD, List.getD_eq_getElem?_getD, List.getElem?_eq_getElem ha, List.getElem?_eq_getElem hb]
  rfl
theorem cmpL_self (a : List Int) : cmpL a a = 0 := by
  induction a with
  | nil => rfl
  | cons x r ih => rw [cmpL, if_neg (by omega), if_neg (by omega), ih]
theorem cmpL_swap : ∀ a b : List Int, cmpL b a = -cmpL a b
  | [], [] => rfl
  | [], _ :: _ => rfl
  | _ :: _, [] => rfl
  | x :: r, y :: s => by
    unfold cmpL
    have := cmpL_swap r s
    split <;> split <;> omega
theorem cmpL_cases : ∀ a b : List Int, cmpL a b = -1 ∨ cmpL a b = 0 ∨ cmpL a b = 1
  | [], [] => by simp [cmpL]
  | [], _ :: _ => by simp [cmpL]
  | _ :: _, [] => by simp [cmpL]
  | x :: r, y :: s => by
    unfold cmpL
    have := cmpL_cases r s
    split
    · simp
    · split
      · simp
      · exact this
theorem cmpL_zero : ∀ {a b : List Int}, a.length = b.length → cmpL a b = 0 → a = b
  | [], [], _, _ => rfl
  | [], _ :: _, h, _ => by simp at h
  | _ :: _, [], h, _ => by simp at h
  | x :: r, y :: s, h, hc => by
    unfold cmpL at hc
    split at hc
    · simp at hc
    · split at hc
      · simp at hc
      · have := cmpL_zero (by simpa using h) hc
        rw [this, show x = y by omega]
theorem cmpL_trans : ∀ {a b c : List Int}, a.length = b.length → b.length = c.length → cmpL a b < 0 → cmpL b c < 0 → cmpL a c < 0
  | [], _, _, _, _, h, _ => by simp [cmpL] at h
  | _ :: _, [], _, h, _, _, _ => by simp at h
  | _ :: _, _ :: _, [], _, h, _, _ => by simp at h
  | x :: r, y :: s, z :: t, h1, h2, ha, hb => by
    unfold cmpL at ha hb ⊢
    have ih := cmpL_trans (a := r) (b := s) (c := t) (by simpa using h1) (by simpa using h2)
    split at ha
    · split at hb
      · rw [if_pos (by omega)]; decide
      · split at hb
        · simp at hb
        · rw [if_pos (by omega)]; decide
    · split at ha
      · simp at ha
      · split at hb
        · rw [if_pos (by omega)]; decide
        · split at hb
          · simp at hb
          · rw [if_neg (by omega), if_neg (by omega)]; exact ih ha hb

/-- Rational numbers, compared. -/
def cmpQ (a b : Rat) : Int := if a < b then -1 else if b < a then 1 else 0
theorem cmpQ_law (a b : Rat) : cmpZ (a.num * b.den) (b.num * a.den) = cmpQ a b := by
  unfold cmpZ cmpQ
  simp only [Rat.lt_iff]
theorem cmpQ_swap (a b : Rat) : cmpQ b a = -cmpQ a b := by rw [← cmpQ_law, ← cmpQ_law, cmpZ_neg']
theorem cmpQ_zero {a b : Rat} (h : cmpQ a b = 0) : a = b := by
  unfold cmpQ at h
  split at h
  · simp at h
  · split at h
    · simp at h
    · rename_i h1 h2
      exact Rat.le_antisymm (Rat.not_lt.1 h2) (Rat.not_lt.1 h1)
theorem cmpQ_self (a : Rat) : cmpQ a a = 0 := by unfold cmpQ; rw [if_neg (Rat.lt_irrefl), if_neg (Rat.lt_irrefl)]
theorem cmpQ_cases (a b : Rat) : cmpQ a b = -1 ∨ cmpQ a b = 0 ∨ cmpQ a b = 1 := by
  unfold cmpQ; split
  · simp
  · split <;> simp
theorem cmpQ_trans {a b c : Rat} (h1 : cmpQ a b < 0) (h2 : cmpQ b c < 0) : cmpQ a c < 0 := by
  have e1 : a < b := by
    unfold cmpQ at h1; split at h1
    · assumption
    · split at h1 <;> simp at h1
  have e2 : b < c := by
    unfold cmpQ at h2; split at h2
    · assumption
    · split at h2 <;> simp at h2
  unfold cmpQ
  rw [if_pos (by grind)]; decide

/-- All monomials have eight exponents. -/
def Len8 (p : List (Rat × List Int)) : Prop := ∀ t ∈ p, t.2.length = 8
theorem Len8.tail {t : Rat × List Int} {p : List (Rat × List Int)} (h : Len8 (t :: p)) : Len8 p := fun u hu => h u (List.mem_cons_of_mem _ hu)
theorem Len8.head {t : Rat × List Int} {p : List (Rat × List Int)} (h : Len8 (t :: p)) : t.2.length = 8 := h t List.mem_cons_self
theorem Len8.nil : Len8 [] := fun _ h => by cases h
theorem Len8.cons {t : Rat × List Int} {p : List (Rat × List Int)} (h1 : t.2.length = 8) (h : Len8 p) : Len8 (t :: p) := by
  intro u hu
  rcases List.mem_cons.1 hu with rfl | hu
  · exact h1
  · exact h u hu
theorem Len8.append {p q : List (Rat × List Int)} (h1 : Len8 p) (h : Len8 q) : Len8 (p ++ q) := by
  intro u hu
  rcases List.mem_append.1 hu with hu | hu
  · exact h1 u hu
  · exact h u hu

/-! ### the order of polynomials -/
def cmpP : List (Rat × List Int) → List (Rat × List Int) → Int
  | a :: p, b :: q => if cmpL a.2 b.2 = 0 then (if cmpQ a.1 b.1 = 0 then cmpP p q else cmpQ a.1 b.1) else cmpL a.2 b.2
  | [], [] => 0
  | [], _ :: _ => -1
  | _ :: _, [] => 1
theorem cmpP_self : ∀ p, cmpP p p = 0
  | [] => rfl
  | a :: p => by rw [cmpP, if_pos (cmpL_self _), if_pos (cmpQ_self _), cmpP_self p]
theorem cmpP_swap : ∀ p q, cmpP q p = -cmpP p q
  | [], [] => rfl
  | [], _ :: _ => rfl
  | _ :: _, [] => rfl
  | a :: p, b :: q => by
    have h1 := cmpL_swap a.2 b.2
    have h2 := cmpQ_swap a.1 b.1
    have h3 := cmpP_swap p q
    unfold cmpP
    by_cases e1 : cmpL a.2 b.2 = 0
    · rw [if_pos e1, if_pos (by omega)]
      by_cases e2 : cmpQ a.1 b.1 = 0
      · rw [if_pos e2, if_pos (by omega)]; exact h3
      · rw [if_neg e2, if_neg (by omega)]; exact h2
    · rw [if_neg e1, if_neg (by omega)]; exact h1
theorem cmpP_zero : ∀ {p q}, Len8 p → Len8 q → cmpP p q = 0 → p = q
  | [], [], _, _, _ => rfl
  | [], _ :: _, _, _, h => by simp [cmpP] at h
  | _ :: _, [], _, _, h => by simp [cmpP] at h
  | a :: p, b :: q, hp, hq, h => by
    unfold cmpP at h
    by_cases e1 : cmpL a.2 b.2 = 0
    · rw [if_pos e1] at h
      by_cases e2 : cmpQ a.1 b.1 = 0
      · rw [if_pos e2] at h
        rw [cmpP_zero hp.tail hq.tail h]
        have h1 := cmpL_zero (by rw [hp.head, hq.head]) e1
        have h2 := cmpQ_zero e2
        have : a = b := by cases a; cases b; simp_all
        rw [this]
      · rw [if_neg e2] at h; exact absurd h e2
    · rw [if_neg e1] at h; exact absurd h e1
theorem cmpP_trans : ∀ {p q r}, Len8 p → Len8 q → Len8 r → cmpP p q < 0 → cmpP q r < 0 → cmpP p r < 0
  | [], [], _, _, _, _, h, _ => by simp [cmpP] at h
  | [], _ :: _, [], _, _, _, _, h => by simp [cmpP] at h
  | [], _ :: _, _ :: _, _, _, _, _, _ => by simp [cmpP]
  | _ :: _, [], _, _, _, _, h, _ => by simp [cmpP] at h
  | _ :: _, _ :: _, [], _, _, _, _, h => by simp [cmpP] at h
  | a :: p, b :: q, c :: r, hp, hq, hr, h1, h2 => by
    have ih := cmpP_trans hp.tail hq.tail hr.tail
    have l1 : a.2.length = b.2.length := by rw [hp.head, hq.head]
    have l2 : b.2.length = c.2.length := by rw [hq.head, hr.head]
    unfold cmpP at h1 h2 ⊢
    by_cases e1 : cmpL a.2 b.2 = 0
    · have f1 := cmpL_zero l1 e1
      rw [if_pos e1] at h1
      rw [f1]
      by_cases e2 : cmpL b.2 c.2 = 0
      · rw [if_pos e2] at h2 ⊢
        by_cases g1 : cmpQ a.1 b.1 = 0
        · have k1 := cmpQ_zero g1
          rw [if_pos g1] at h1
          rw [k1]
          by_cases g2 : cmpQ b.1 c.1 = 0
          · rw [if_pos g2] at h2 ⊢
            exact ih h1 h2
          · rw [if_neg g2] at h2 ⊢; exact h2
        · rw [if_neg g1] at h1
          by_cases g2 : cmpQ b.1 c.1 = 0
          · have k2 := cmpQ_zero g2
            rw [← k2, if_neg g1]; exact h1
          · rw [if_neg g2] at h2
            have := cmpQ_trans h1 h2
            rw [if_neg (by omega)]; exact this
      · rw [if_neg e2] at h2 ⊢; exact h2
    · rw [if_neg e1] at h1
      by_cases e2 : cmpL b.2 c.2 = 0
      · have f2 := cmpL_zero l2 e2
        rw [← f2, if_neg e1]; exact h1
      · rw [if_neg e2] at h2
        have := cmpL_trans l1 l2 h1 h2
        rw [if_neg (by omega)]; exact this
theorem cmpP_cases : ∀ p q, cmpP p q = -1 ∨ cmpP p q = 0 ∨ cmpP p q = 1
  | [], [] => by simp [cmpP]
  | [], _ :: _ => by simp [cmpP]
  | _ :: _, [] => by simp [cmpP]
  | a :: p, b :: q => by
    have h1 := cmpL_cases a.2 b.2
    have h2 := cmpQ_cases a.1 b.1
    have h3 := cmpP_cases p q
    unfold cmpP
    split
    · split
      · exact h3
      · omega
    · omega
theorem cmpP_drop {p q : List (Rat × List Int)} {k : Nat} (hp : k < p.length) (hq : k < q.length) :
    cmpP (p.drop k) (q.drop k) = if cmpL p[k].2 q[k].2 = 0 then (if cmpQ p[k].1 q[k].1 = 0 then cmpP (p.drop (k + 1)) (q.drop (k + 1)) else cmpQ p[k].1 q[k].1) else cmpL p[k].2 q[k].2 := by
  rw [List.drop_eq_getElem_cons hp, List.drop_eq_getElem_cons hq, cmpP]

/-! ### valid polynomials -/
def validB : List (Rat × List Int) → Bool
  | [] => true
  | t :: r => !(t.1 == 0) && (match r with | [] => true | u :: _ => decide (0 < cmpL t.2 u.2)) && validB r
theorem validB_iff : ∀ p, validB p = true ↔ (∀ i (h : i < p.length), p[i].1 ≠ 0) ∧ ∀ i (h : i + 1 < p.length), 0 < cmpL p[i].2 p[i + 1].2
  | [] => by simp [validB]
  | [t] => by
    simp only [validB, List.length_singleton]
    constructor
    · intro h
      refine ⟨fun i hi => ?_, fun i hi => by omega⟩
      obtain rfl : i = 0 := by omega
      simpa using h
    · rintro ⟨h, _⟩
      have := h 0 (by omega)
      simpa using this
  | t :: u :: r => by
    have ih := validB_iff (u :: r)
    rw [validB]
    simp only [Bool.and_eq_true, ih, decide_eq_true_eq]
    constructor
    · rintro ⟨⟨h1, h2⟩, h3, h4⟩
      refine ⟨fun i hi => ?_, fun i hi => ?_⟩
      · cases i with
        | zero => simpa using h1
        | succ i => exact h3 i (by simpa using hi)
      · cases i with
        | zero => exact h2
        | succ i => exact h4 i (by simpa using hi)
    · rintro ⟨h1, h2⟩
      refine ⟨⟨?_, h2 0 (by simp)⟩, fun i hi => h1 (i + 1) (by simpa using hi), fun i hi => h2 (i + 1) (by simpa using hi)⟩
      have := h1 0 (by simp)
      simpa using this

/-! ### sums -/
def addGo (a : Rat × List Int) (p : List (Rat × List Int)) (f : List (Rat × List Int) → List (Rat × List Int)) : List (Rat × List Int) → List (Rat × List Int)
  | [] => a :: p
  | b :: q => if 0 < cmpL a.2 b.2 then a :: f (b :: q) else if cmpL a.2 b.2 < 0 then b :: addGo a p f q else if a.1 + b.1 = 0 then f q else (a.1 + b.1, a.2) :: f q
/-- The sum of two polynomials. -/
def addP : List (Rat × List Int) → List (Rat × List Int) → List (Rat × List Int)
  | [] => fun q => q
  | a :: p => addGo a p (addP p)
theorem addP_nil (q : List (Rat × List Int)) : addP [] q = q := rfl
theorem addP_nil' : ∀ p : List (Rat × List Int), addP p [] = p
  | [] => rfl
  | _ :: _ => rfl
theorem addP_cons (a : Rat × List Int) (p : List (Rat × List Int)) (b : Rat × List Int) (q : List (Rat × List Int)) : addP (a :: p) (b :: q) =
    if 0 < cmpL a.2 b.2 then a :: addP p (b :: q) else if cmpL a.2 b.2 < 0 then b :: addP (a :: p) q else if a.1 + b.1 = 0 then addP p q else (a.1 + b.1, a.2) :: addP p q := rfl

/-! ### multiples -/
def addE (a b : List Int) : List Int := List.zipWith (· + ·) a b
def timesP (c : Rat) (m : List Int) (p : List (Rat × List Int)) : List (Rat × List Int) := if c = 0 then [] else p.map fun t => (c * t.1, addE m t.2)
def mono0 : List Int := [0, 0, 0, 0, 0, 0, 0, 0]
theorem addE_zero {m : List Int} (h : m.length = 8) : addE mono0 m = m := by
  match m, h with
  | [a, b, c, d, e, f, g, i], _ => simp [addE, mono0]
theorem addE_zero' {m : List Int} (h : m.length = 8) : addE m mono0 = m := by
  match m, h with
  | [a, b, c, d, e, f, g, i], _ => simp [addE, mono0]
theorem Len8.times {p : List (Rat × List Int)} (h : Len8 p) (c : Rat) {m : List Int} (hm : m.length = 8) : Len8 (timesP c m p) := by
  unfold timesP
  split
  · exact Len8.nil
  · intro t ht
    obtain ⟨u, hu, rfl⟩ := List.mem_map.1 ht
    simp [addE, hm, h u hu]
theorem Len8.add : ∀ {p q : List (Rat × List Int)}, Len8 p → Len8 q → Len8 (addP p q)
  | [], q, _, hq => hq
  | a :: p, [], hp, _ => hp
  | a :: p, b :: q, hp, hq => by
    rw [addP_cons]
    split
    · exact Len8.cons hp.head (Len8.add hp.tail hq)
    · split
      · exact Len8.cons hq.head (Len8.add hp hq.tail)
      · split
        · exact Len8.add hp.tail hq.tail
        · exact Len8.cons (t := (a.1 + b.1, a.2)) hp.head (Len8.add hp.tail hq.tail)
termination_by p q => p.length + q.length

end Go.Proofs.YthhdleppkggepaaGreat
