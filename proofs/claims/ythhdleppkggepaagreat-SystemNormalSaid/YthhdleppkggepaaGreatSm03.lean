/-
  Plain laws of polynomials with whole coefficients: their normal multiples, the reference's sorted lists, how long the bytes are, what raw numbers describe.
-/
import Derived.Test.YthhdleppkggepaaGreatSb24
import Derived.Test.YthhdleppkggepaaGreatSb23
import Derived.Test.YthhdleppkggepaaGreatSb19
import Derived.Test.YthhdleppkggepaaGreatSb14
import Derived.Test.YthhdleppkggepaaGreatSm02

set_option linter.unusedSimpArgs false
set_option linter.unusedVariables false
set_option linter.unusedSectionVars false

namespace Go.Proofs.YthhdleppkggepaaGreat
open Go.RowKit
set_option maxRecDepth 100000

/-- The coefficients are whole numbers. -/
def IP (p : List (Rat × List Int)) : Prop := ∀ t ∈ p, t.1.den = 1
theorem denL_ip {p : List (Rat × List Int)} (h : IP p) : denL p = 1 := by
  unfold denL
  have : ∀ (l : List (Rat × List Int)), IP l → l.foldl (fun d t => d * (t.1.den : Int) / (Int.gcd d (t.1.den : Int) : Int)) (1 : Int) = 1 := by
    intro l
    induction l with
    | nil => intro _; rfl
    | cons t r ih =>
      intro hl
      rw [List.foldl_cons, hl t (by simp)]
      exact ih (fun u hu => hl u (by simp [hu]))
  exact this p h
/-! ### polynomials with whole coefficients -/
/-- A polynomial with few terms and small whole coefficients other than 0. -/
structure ZP (p : Pol) : Prop where
  ip : IP p
  nz : ∀ t ∈ p, t.1 ≠ 0
  exps : PExps p
  ty : PTy p
  l8 : Len8 p
  few : p.length ≤ 100
theorem rat_int {q : Rat} (h : q.den = 1) : q = ((q.num : Int) : Rat) := Rat.ext (by rw [Rat.num_intCast]) (by rw [Rat.den_intCast, h])
theorem one_div_mul {s z : Int} (hs : s ≠ 0) : Rat.divInt 1 s * ((s * z : Int) : Rat) = (z : Rat) := by
  rw [← Rat.num_divInt_den ((s * z : Int) : Rat), Rat.num_intCast, Rat.den_intCast, Rat.divInt_mul_divInt, ← Rat.num_divInt_den ((z : Int) : Rat), Rat.num_intCast, Rat.den_intCast, Rat.divInt_eq_divInt_iff (by simpa using hs) (by decide)]
  grind
theorem numG_aux (p : Pol) : ∀ g : Int, (p.foldl (fun g t => (Int.gcd g t.1.num : Int)) g) ∣ g ∧ ∀ t ∈ p, (p.foldl (fun g t => (Int.gcd g t.1.num : Int)) g) ∣ t.1.num := by
  induction p with
  | nil => intro g; exact ⟨Int.dvd_refl _, by simp⟩
  | cons a r ih =>
    intro g
    rw [List.foldl_cons]
    obtain ⟨h1, h2⟩ := ih (Int.gcd g a.1.num : Int)
    refine ⟨Int.dvd_trans h1 (Int.gcd_dvd_left ..), fun t ht => ?_⟩
    rcases List.mem_cons.1 ht with e | e
    · subst e; exact Int.dvd_trans h1 (Int.gcd_dvd_right ..)
    · exact h2 t e
theorem numG_dvd {p : Pol} {t : Rat × List Int} (ht : t ∈ p) : numG p ∣ t.1.num := (numG_aux p 0).2 t ht
theorem numG_scale (s : Int) (f : Rat × List Int → Int) : ∀ (p : Pol) (g : Int), (∀ t ∈ p, t.1.num = s * f t) →
    p.foldl (fun g t => (Int.gcd g t.1.num : Int)) (s.natAbs * g) = (s.natAbs : Int) * p.foldl (fun g t => (Int.gcd g (f t) : Int)) g
  | [], _, _ => rfl
  | a :: r, g, h => by
    rw [List.foldl_cons, List.foldl_cons, h a List.mem_cons_self]
    have e : (Int.gcd ((s.natAbs : Int) * g) (s * f a) : Int) = (s.natAbs : Int) * (Int.gcd g (f a) : Int) := by
      have h1 : Int.gcd ((s.natAbs : Int) * g) (s * f a) = Int.gcd (s * g) (s * f a) := by
        rcases Int.natAbs_eq s with h | h
        · rw [← h]
        · rw [show (s.natAbs : Int) = -s by omega, Int.neg_mul, Int.neg_gcd]
      rw [h1, Int.gcd_mul_left]; simp
    rw [e]
    exact numG_scale s f r _ (fun t ht => h t (List.mem_cons_of_mem _ ht))
theorem numG_nn (p : Pol) : 0 ≤ numG p := by
  unfold numG
  have : ∀ (p : Pol) (g : Int), 0 ≤ g → 0 ≤ p.foldl (fun g t => (Int.gcd g t.1.num : Int)) g := by
    intro p
    induction p with
    | nil => intro g hg; exact hg
    | cons a r ih => intro g hg; rw [List.foldl_cons]; exact ih _ (Int.natCast_nonneg _)
  exact this p 0 (Int.le_refl _)
/-- The divisor of the normal multiple. -/
def divN (p : Pol) : Int := if (p.headD (0, [])).1 < 0 then -(numG p) else numG p
theorem divN_abs (p : Pol) : ((divN p).natAbs : Int) = numG p := by
  have := numG_nn p
  unfold divN; split <;> omega
theorem divN_ne {p : Pol} (hne : p ≠ []) (hnz : ∀ t ∈ p, t.1 ≠ 0) : divN p ≠ 0 := by
  intro h
  have h1 := divN_abs p
  rw [h] at h1
  cases p with
  | nil => exact hne rfl
  | cons a r =>
    have hd := numG_dvd (p := a :: r) (t := a) List.mem_cons_self
    rw [← h1] at hd
    have : a.1.num = 0 := by simpa using hd
    exact hnz a List.mem_cons_self (Rat.num_eq_zero.1 this)
theorem divN_dvd {p : Pol} {t : Rat × List Int} (ht : t ∈ p) : divN p ∣ t.1.num := by
  have h := numG_dvd ht
  rw [← divN_abs] at h
  exact (Int.natAbs_dvd).1 h
/-- A term of the normal multiple. -/
def quoT (s : Int) (t : Rat × List Int) : Rat × List Int := (((t.1.num / s : Int) : Rat), t.2)
theorem quo_mul {p : Pol} {t : Rat × List Int} (ht : t ∈ p) : t.1.num = divN p * (t.1.num / divN p) := (Int.mul_ediv_cancel' (divN_dvd ht)).symm
theorem normP_zp {p : Pol} (h : ZP p) : normP p = p.map (quoT (divN p)) := by
  by_cases hne : p = []
  · subst hne; rfl
  have hs := divN_ne hne h.nz
  unfold normP normC
  rw [if_neg hne, denL_ip h.ip]
  show timesP (Rat.divInt 1 (divN p)) mono0 p = _
  have hc : Rat.divInt 1 (divN p) ≠ 0 := by
    intro e
    have h1 := one_div_mul (z := 1) hs
    rw [e, Rat.zero_mul] at h1
    exact absurd h1 (by decide)
  unfold timesP
  rw [if_neg hc]
  refine List.map_congr_left fun t ht => ?_
  unfold quoT
  rw [addE_zero (h.l8 t ht), Prod.mk.injEq]
  refine ⟨?_, rfl⟩
  conv => lhs; rw [rat_int (h.ip t ht), quo_mul ht]
  exact one_div_mul hs
theorem quo_ne {p : Pol} (h : ZP p) {t : Rat × List Int} (ht : t ∈ p) : t.1.num / divN p ≠ 0 := by
  intro e
  have h1 := quo_mul ht
  rw [e, Int.mul_zero] at h1
  exact h.nz t ht (Rat.num_eq_zero.1 h1)
theorem quo_le {p : Pol} {t : Rat × List Int} (ht : t ∈ p) : (t.1.num / divN p).natAbs ≤ t.1.num.natAbs := by
  have h1 := quo_mul ht
  by_cases h0 : divN p = 0
  · rw [h0, Int.ediv_zero]; simp
  · have h2 := congrArg Int.natAbs h1
    rw [Int.natAbs_mul] at h2
    rw [h2]
    exact Nat.le_mul_of_pos_left _ (by omega)
theorem ZP.norm {p : Pol} (h : ZP p) : ZP (normP p) := by
  rw [normP_zp h]
  refine ⟨fun t ht => ?_, fun t ht => ?_, fun t ht => ?_, fun t ht => ?_, fun t ht => ?_, by rw [List.length_map]; exact h.few⟩
  all_goals obtain ⟨u, hu, rfl⟩ := List.mem_map.1 ht
  · exact Rat.den_intCast _
  · intro e
    have := congrArg Rat.num e
    rw [quoT, Rat.num_intCast] at this
    exact quo_ne h hu this
  · exact h.exps u hu
  · refine ⟨?_, ?_⟩
    · show (((u.1.num / divN p : Int) : Rat)).num.natAbs < 65536
      rw [Rat.num_intCast]
      exact Nat.lt_of_le_of_lt (quo_le hu) (h.ty u hu).1
    · show (((u.1.num / divN p : Int) : Rat)).den < 65536
      rw [Rat.den_intCast]; decide
  · exact h.l8 u hu
theorem ZP.gp {p : Pol} (h : ZP p) : GP p := ⟨h.exps, h.ty, by have := h.few; omega⟩
theorem ZP.np {p : Pol} (h : ZP p) : NP 1 p := ⟨h.gp, h.nz, fun t ht => by rw [h.ip t ht]; exact Int.dvd_refl _, h.norm.gp⟩
theorem normP_nil_iff {p : Pol} (h : ZP p) : normP p = [] ↔ p = [] := by rw [normP_zp h, List.map_eq_nil_iff]
/-- The normal multiple's divisor is 1. -/
theorem divN_norm {p : Pol} (h : ZP p) (hne : p ≠ []) : divN (normP p) = 1 := by
  have hs := divN_ne hne h.nz
  have h1 : numG (normP p) = 1 := by
    have h2 := numG_scale (divN p) (fun t => t.1.num / divN p) p 0 (fun t ht => quo_mul ht)
    rw [Int.mul_zero] at h2
    have h3 : numG (normP p) = p.foldl (fun g t => (Int.gcd g (t.1.num / divN p) : Int)) 0 := by
      rw [normP_zp h]; unfold numG; rw [List.foldl_map]; rfl
    rw [← h3] at h2
    have h4 : numG p = (divN p).natAbs * numG (normP p) := h2
    rw [divN_abs] at h4
    have h5 : numG p ≠ 0 := by have := divN_abs p; omega
    have h6 : numG p * numG (normP p) = numG p * 1 := by rw [← h4, Int.mul_one]
    exact Int.eq_of_mul_eq_mul_left h5 h6
  have h2 : ¬ ((normP p).headD (0, [])).1 < 0 := by
    cases p with
    | nil => exact absurd rfl hne
    | cons a r =>
      rw [normP_zp h]
      show ¬ (((a.1.num / divN (a :: r) : Int) : Rat)) < 0
      rw [rat_neg_iff, Rat.num_intCast]
      have h3 := quo_mul (p := a :: r) (t := a) List.mem_cons_self
      have h4 := numG_nn (a :: r)
      have h5 := divN_abs (a :: r)
      generalize hz : a.1.num / divN (a :: r) = z at *
      intro hneg
      by_cases hc : a.1.num < 0
      · have h6 : divN (a :: r) = -(numG (a :: r)) := by unfold divN; exact if_pos (rat_neg_iff.2 hc)
        have h7 : 0 ≤ divN (a :: r) * z := Int.mul_nonneg_of_nonpos_of_nonpos (by omega) (by omega)
        omega
      · have h6 : divN (a :: r) = numG (a :: r) := by unfold divN; exact if_neg (fun hh => hc (rat_neg_iff.1 hh))
        have h7 : divN (a :: r) * z < 0 := Int.mul_neg_of_pos_of_neg (by omega) hneg
        omega
  unfold divN
  rw [if_neg h2, h1]
theorem normP_idem {p : Pol} (h : ZP p) : normP (normP p) = normP p := by
  by_cases hne : p = []
  · subst hne; rfl
  rw [normP_zp h.norm, divN_norm h hne]
  conv => rhs; rw [← List.map_id (normP p)]
  refine List.map_congr_left fun t ht => ?_
  have := rat_int (h.norm.ip t ht)
  unfold quoT
  rw [Int.ediv_one, ← this]; rfl
/-! #### what depends on the monomials only -/
theorem mons_norm {p : Pol} (h : ZP p) : (normP p).map (·.2) = p.map (·.2) := by
  rw [normP_zp h, List.map_map]; rfl
theorem pdeg_mons (p : Pol) : pdeg p = (p.map (·.2)).foldl (fun d m => max d m.sum) (-1) := by unfold pdeg; rw [List.foldl_map]
theorem usesN_mons (p : Pol) : usesN p = (p.map (·.2)).foldl (fun u m => u ||| suppN m) 0 := by unfold usesN; rw [List.foldl_map]
theorem pdeg_norm {p : Pol} (h : ZP p) : pdeg (normP p) = pdeg p := by rw [pdeg_mons, mons_norm h, ← pdeg_mons]
theorem usesN_norm {p : Pol} (h : ZP p) : usesN (normP p) = usesN p := by rw [usesN_mons, mons_norm h, ← usesN_mons]
theorem valid_norm {p : Pol} (h : ZP p) : validB (normP p) = validB p := by
  rw [Bool.eq_iff_iff, validB_iff, validB_iff]
  have hl : (normP p).length = p.length := by rw [normP_zp h, List.length_map]
  have hm : ∀ i (h1 : i < (normP p).length) (h2 : i < p.length), (normP p)[i].2 = p[i].2 := by
    intro i h1 h2
    have := congrArg (fun l : List (List Int) => l[i]?) (mons_norm h)
    simpa [List.getElem?_eq_getElem h1, List.getElem?_eq_getElem h2] using this
  constructor
  · rintro ⟨_, h2⟩
    refine ⟨fun i hi => h.nz _ (List.getElem_mem hi), fun i hi => ?_⟩
    have := h2 i (by omega)
    rwa [hm i (by omega) (by omega), hm (i + 1) (by omega) hi] at this
  · rintro ⟨_, h2⟩
    refine ⟨fun i hi => h.norm.nz _ (List.getElem_mem hi), fun i hi => ?_⟩
    rw [hm i (by omega) (by omega), hm (i + 1) hi (by omega)]
    exact h2 i (by omega)
theorem within_norm {p : Pol} (h : ZP p) (n : Nat) : withinB (normP p) n = withinB p n := by
  unfold withinB; rw [valid_norm h, pdeg_norm h, usesN_norm h]
/-! ### the reference's lists are the program's -/
theorem pdeg_ge {p : Pol} (h : ∀ t ∈ p, 0 ≤ t.2.sum) (hne : p ≠ []) : 0 ≤ pdeg p := by
  unfold pdeg
  have : ∀ (p : Pol) (d : Int), 0 ≤ d → 0 ≤ p.foldl (fun d t => max d t.2.sum) d := by
    intro p
    induction p with
    | nil => intro d hd; exact hd
    | cons a r ih => intro d hd; rw [List.foldl_cons]; exact ih _ (by omega)
  cases p with
  | nil => exact absurd rfl hne
  | cons a r =>
    rw [List.foldl_cons]
    exact this r _ (by have := h a List.mem_cons_self; omega)
theorem pdeg_neg_iff {p : Pol} (h : ZP p) : pdeg p = -1 ↔ p = [] := by
  constructor
  · intro hd
    apply Classical.byContradiction
    intro hne
    have := pdeg_ge (fun t ht => (sum_le8 (h.exps t ht) (h.l8 t ht)).1) hne
    omega
  · rintro rfl; rfl
theorem zp_one : ZP oneP := by
  unfold oneP
  refine ⟨fun t ht => ?_, fun t ht => ?_, fun t ht => ?_, fun t ht => ?_, fun t ht => ?_, by decide⟩
  all_goals rw [List.mem_singleton] at ht; subst ht
  · rfl
  · decide
  · intro k
    match k with
    | 0 | 1 | 2 | 3 | 4 | 5 | 6 | 7 => exact ⟨by show (0 : Int) ≤ 0; omega, by show (0 : Int) ≤ 65535; omega⟩
    | k + 8 => simp
  · exact ⟨by decide, by decide⟩
  · rfl
theorem filter_norm (f g : Pol → Bool) : ∀ {l : List Pol}, (∀ p ∈ l, f (normP p) = g p) → (l.map normP).filter f = (l.filter g).map normP
  | [], _ => rfl
  | a :: r, h => by
    have ih := filter_norm f g (l := r) (fun p hp => h p (List.mem_cons_of_mem _ hp))
    rw [List.map_cons, List.filter_cons, List.filter_cons, h a List.mem_cons_self, ih]
    split <;> rfl
theorem isEmpty_norm {p : Pol} (h : ZP p) : (normP p).isEmpty = p.isEmpty := by
  rw [Bool.eq_iff_iff, List.isEmpty_iff, List.isEmpty_iff]; exact normP_nil_iff h
/-- What the reference appends: the constant 1 for each polynomial 0. -/
def onesL (neqs : List Pol) : List Pol := (neqs.filter (fun p => p.isEmpty)).map (fun _ => oneP)
theorem sortedK_yes {eqs neqs : List Pol} (h1 : ∀ p ∈ eqs, ZP p) (h2 : ∀ p ∈ neqs, ZP p) : sortedK false (eqs ++ onesL neqs) = tidyP (yesL eqs neqs) := by
  unfold sortedK tidyP
  have hz : ∀ p ∈ eqs ++ onesL neqs, ZP p := by
    intro p hp
    rcases List.mem_append.1 hp with hp | hp
    · exact h1 p hp
    · obtain ⟨q, _, rfl⟩ := List.mem_map.1 hp; exact zp_one
  rw [filter_norm (keepB false) (fun p => !p.isEmpty) (fun p hp => by unfold keepB; rw [isEmpty_norm (hz p hp)]; simp)]
  congr 2
  unfold yesL onesL
  rw [List.filter_append]
  congr 1
  have e1 : (neqs.filter (fun p => p.isEmpty)) = neqs.filter (fun p => decide (pdeg p = -1)) := List.filter_congr fun p hp => by
    rw [Bool.eq_iff_iff, List.isEmpty_iff, decide_eq_true_eq]; exact (pdeg_neg_iff (h2 p hp)).symm
  rw [e1]
  refine List.filter_eq_self.2 fun p hp => ?_
  obtain ⟨q, _, rfl⟩ := List.mem_map.1 hp; rfl
theorem sortedK_no {neqs : List Pol} (h2 : ∀ p ∈ neqs, ZP p) : sortedK true neqs = tidyP (noL neqs) := by
  unfold sortedK tidyP noL
  rw [filter_norm (keepB true) (fun p => decide (pdeg p ≠ -1 ∧ pdeg p ≠ 0)) (fun p hp => ?_)]
  unfold keepB
  rw [isEmpty_norm (h2 p hp), pdeg_norm (h2 p hp)]
  have := pdeg_neg_iff (h2 p hp)
  by_cases he : p = []
  · subst he; rfl
  · have h3 : ¬ pdeg p = -1 := fun h => he (this.1 h)
    have h4 : p.isEmpty = false := by rw [Bool.eq_false_iff]; exact fun h => he (List.isEmpty_iff.1 h)
    rw [h4]; simp [h3]
theorem yesL_zp {eqs neqs : List Pol} (h1 : ∀ p ∈ eqs, ZP p) : ∀ p ∈ yesL eqs neqs, ZP p ∧ p ≠ [] := by
  intro p hp
  unfold yesL at hp
  rcases List.mem_append.1 hp with hp | hp
  · obtain ⟨a, b⟩ := List.mem_filter.1 hp
    exact ⟨h1 p a, by rintro rfl; simp at b⟩
  · obtain ⟨q, _, rfl⟩ := List.mem_map.1 hp; exact ⟨zp_one, by unfold oneP; simp⟩
theorem noL_zp {neqs : List Pol} (h1 : ∀ p ∈ neqs, ZP p) : ∀ p ∈ noL neqs, ZP p ∧ p ≠ [] ∧ pdeg p ≠ 0 := by
  intro p hp
  unfold noL at hp
  obtain ⟨a, b⟩ := List.mem_filter.1 hp
  simp only [decide_eq_true_eq] at b
  exact ⟨h1 p a, fun e => b.1 ((pdeg_neg_iff (h1 p a)).2 e), b.2⟩
theorem mem_tidyP {l : List Pol} (h : ∀ p ∈ l, ZP p) {q : Pol} (hq : q ∈ tidyP l) : ∃ p ∈ l, q = normP p := by
  unfold tidyP at hq
  rw [mem_sortD] at hq
  · obtain ⟨p, hp, rfl⟩ := List.mem_map.1 hq; exact ⟨p, hp, rfl⟩
  · intro p hp
    obtain ⟨q, hq, rfl⟩ := List.mem_map.1 hp
    exact (h q hq).norm.l8
theorem tidyP_ok {l : List Pol} {n : Nat} (h : ∀ p ∈ l, ZP p ∧ p ≠ []) (hw : ∀ p ∈ l, withinB p n = true) (hl : (tidyP l).length ≤ 12) : ListOk n 1 (tidyP l) where
  few := hl
  mod := ⟨by decide, by decide⟩
  each q hq := by
    obtain ⟨p, hp, rfl⟩ := mem_tidyP (fun p hp => (h p hp).1) hq
    obtain ⟨hz, hne⟩ := h p hp
    exact ⟨by rw [within_norm hz]; exact hw p hp, fun e => hne ((normP_nil_iff hz).1 e), normP_idem hz, hz.norm.np⟩
  sorted k hk := by
    have h8 : ∀ p ∈ l.map normP, Len8 p := by
      intro p hp
      obtain ⟨q, hq, rfl⟩ := List.mem_map.1 hp
      exact (h q hq).1.norm.l8
    have hk2 : k + 1 < (sortD (l.map normP)).length := hk
    exact List.pairwise_iff_getElem.1 (strict_sortD h8) k (k + 1) (by omega) hk2 (by omega)
theorem tidyP_deg {l : List Pol} (h : ∀ p ∈ l, ZP p ∧ p ≠ [] ∧ pdeg p ≠ 0) : ∀ p ∈ tidyP l, pdeg p ≠ 0 := by
  intro q hq
  obtain ⟨p, hp, rfl⟩ := mem_tidyP (fun p hp => (h p hp).1) hq
  rw [pdeg_norm (h p hp).1]; exact (h p hp).2.2
theorem tidyP_zp {l : List Pol} (h : ∀ p ∈ l, ZP p) : ∀ p ∈ tidyP l, ZP p := by
  intro q hq
  obtain ⟨p, hp, rfl⟩ := mem_tidyP h hq
  exact (h p hp).norm
/-! ### how long the bytes are -/
theorem natB_len (n : Nat) : (natB n).length ≤ n + 1 := by
  induction n using Nat.strongRecOn with
  | ind n ih =>
    by_cases h : n < 128
    · rw [natB_small h]; simp
    · rw [natB_big h, List.length_cons]
      have := ih (n / 128) (by omega)
      omega
theorem flat_len {α : Type} (f : α → List Nat) (B : Nat) : ∀ {l : List α}, (∀ x ∈ l, (f x).length ≤ B) → (l.flatMap f).length ≤ l.length * B
  | [], _ => by simp
  | a :: r, h => by
    have := flat_len f B (l := r) (fun x hx => h x (List.mem_cons_of_mem _ hx))
    have h1 := h a List.mem_cons_self
    rw [List.flatMap_cons, List.length_append, List.length_cons, Nat.succ_mul]
    omega
theorem wholeB_few {z : Int} (h : z.natAbs < 65536) : (wholeB z).length ≤ 8 := by
  have h1 : (digits z.natAbs).length ≤ 1 := wl_small (z := z) (by omega)
  unfold wholeB
  rw [List.length_append]
  have h2 := flat_len b4 4 (l := digits z.natAbs) (fun x _ => Nat.le_refl _)
  have h3 := natB_len (2 * (digits z.natAbs).length + if z < 0 then 1 else 0)
  have h4 : (if z < 0 then 1 else 0) ≤ 1 := by split <;> omega
  omega
theorem termB_len {t : Rat × List Int} (h1 : Ty t.1) (h2 : Exps t.2) (h8 : t.2.length = 8) : (termB t).length ≤ 600000 := by
  unfold termB ratB
  rw [List.length_append, List.length_append]
  have a := wholeB_few h1.1
  have b := wholeB_few (z := (t.1.den : Int)) (by have := h1.2; omega)
  have c : (monB t.2).length ≤ t.2.length * 65536 := flat_len _ _ (fun x hx => by
    have := natB_len x.toNat
    obtain ⟨i, hi, rfl⟩ := List.getElem_of_mem hx
    have h3 := h2 i
    rw [List.getD_eq_getElem?_getD, List.getElem?_eq_getElem hi] at h3
    have : (t.2[i] : Int) ≤ 65535 := h3.2
    omega)
  rw [h8] at c
  omega
theorem polB_len {p : Pol} (h : ZP p) : (polB p).length ≤ 61000000 := by
  unfold polB
  rw [List.length_append]
  have a := natB_len p.length
  have b := flat_len termB 600000 (l := p) (fun t ht => termB_len (h.ty t ht) (h.exps t ht) (h.l8 t ht))
  have c := h.few
  omega
theorem polsB_len {l : List Pol} (h : ∀ p ∈ l, ZP p) (hl : l.length ≤ 50) : (polsB l).length ≤ 3100000000 := by
  unfold polsB
  rw [List.length_append]
  have a := natB_len l.length
  have b := flat_len polB 61000000 (fun p hp => polB_len (h p hp))
  omega
theorem coreB_len {n : Nat} {l1 l2 : List Pol} (hn : n ≤ 1000) (h1 : ∀ p ∈ l1, ZP p) (h2 : ∀ p ∈ l2, ZP p) (hl1 : l1.length ≤ 50) (hl2 : l2.length ≤ 50) : (coreB n l1 l2).length ≤ 10000000000 := by
  unfold coreB numB
  rw [List.length_append, List.length_append]
  have a := natB_len (2 * n)
  have b := polsB_len h1 hl1
  have c := polsB_len h2 hl2
  omega
/-! ### what raw numbers describe -/
theorem addP_mem : ∀ {p q : Pol} {t : Rat × List Int}, t ∈ addP p q → t ∈ p ∨ t ∈ q ∨ ∃ a ∈ p, ∃ b ∈ q, t = (a.1 + b.1, a.2) ∧ a.1 + b.1 ≠ 0
  | [], q, t, h => .inr (.inl h)
  | a :: p, [], t, h => .inl h
  | a :: p, b :: q, t, h => by
    rw [addP_cons] at h
    have lift1 : (t ∈ p ∨ t ∈ b :: q ∨ ∃ x ∈ p, ∃ y ∈ b :: q, t = (x.1 + y.1, x.2) ∧ x.1 + y.1 ≠ 0) → (t ∈ a :: p ∨ t ∈ b :: q ∨ ∃ x ∈ a :: p, ∃ y ∈ b :: q, t = (x.1 + y.1, x.2) ∧ x.1 + y.1 ≠ 0) := by
      rintro (h | h | ⟨x, hx, y, hy, h⟩)
      · exact .inl (List.mem_cons_of_mem _ h)
      · exact .inr (.inl h)
      · exact .inr (.inr ⟨x, List.mem_cons_of_mem _ hx, y, hy, h⟩)
    have lift2 : ∀ {p' : Pol}, (t ∈ p' ∨ t ∈ q ∨ ∃ x ∈ p', ∃ y ∈ q, t = (x.1 + y.1, x.2) ∧ x.1 + y.1 ≠ 0) → (t ∈ p' ∨ t ∈ b :: q ∨ ∃ x ∈ p', ∃ y ∈ b :: q, t = (x.1 + y.1, x.2) ∧ x.1 + y.1 ≠ 0) := by
      rintro p' (h | h | ⟨x, hx, y, hy, h⟩)
      · exact .inl h
      · exact .inr (.inl (List.mem_cons_of_mem _ h))
      · exact .inr (.inr ⟨x, hx, y, List.mem_cons_of_mem _ hy, h⟩)
    split at h
    · rcases List.mem_cons.1 h with e | e
      · exact .inl (by rw [e]; exact List.mem_cons_self)
      · exact lift1 (addP_mem e)
    · split at h
      · rcases List.mem_cons.1 h with e | e
        · exact .inr (.inl (by rw [e]; exact List.mem_cons_self))
        · exact lift2 (addP_mem e)
      · split at h
        · exact lift1 (lift2 (addP_mem h))
        · rename_i hne
          rcases List.mem_cons.1 h with e | e
          · exact .inr (.inr ⟨a, List.mem_cons_self, b, List.mem_cons_self, e, hne⟩)
          · exact lift1 (lift2 (addP_mem e))
termination_by p q => p.length + q.length
theorem addP_length : ∀ (p q : Pol), (addP p q).length ≤ p.length + q.length
  | [], q => by rw [addP_nil]; simp
  | a :: p, [] => by rw [addP_nil']; simp
  | a :: p, b :: q => by
    rw [addP_cons]
    have h1 := addP_length p (b :: q)
    have h2 := addP_length (a :: p) q
    have h3 := addP_length p q
    simp only [List.length_cons] at h1 h2 ⊢
    split
    · simp only [List.length_cons]; omega
    · split
      · simp only [List.length_cons]; omega
      · split
        · omega
        · simp only [List.length_cons]; omega
termination_by p q => p.length + q.length
/-- Whole coefficients other than 0, of an absolute value of at most B. -/
structure SB (B : Nat) (p : Pol) : Prop where
  ip : IP p
  nz : ∀ t ∈ p, t.1 ≠ 0
  exps : PExps p
  ty : ∀ t ∈ p, t.1.num.natAbs ≤ B
  l8 : Len8 p
theorem SB.nil : SB 0 [] := ⟨fun t h => (by cases h), fun t h => (by cases h), fun t h => (by cases h), fun t h => (by cases h), fun t h => (by cases h)⟩
theorem SB.add {B C : Nat} {p q : Pol} (h : SB B p) (k : SB C q) : SB (B + C) (addP p q) := by
  have key : ∀ t ∈ addP p q, t.1.den = 1 ∧ t.1 ≠ 0 ∧ Exps t.2 ∧ t.1.num.natAbs ≤ B + C ∧ t.2.length = 8 := by
    intro t ht
    rcases addP_mem ht with e | e | ⟨a, ha, b, hb, e, hne⟩
    · exact ⟨h.ip t e, h.nz t e, h.exps t e, by have := h.ty t e; omega, h.l8 t e⟩
    · exact ⟨k.ip t e, k.nz t e, k.exps t e, by have := k.ty t e; omega, k.l8 t e⟩
    · subst e
      have e1 := rat_int (h.ip a ha)
      have e2 := rat_int (k.ip b hb)
      have e3 : a.1 + b.1 = ((a.1.num + b.1.num : Int) : Rat) := by rw [Rat.intCast_add, ← e1, ← e2]
      refine ⟨?_, hne, h.exps a ha, ?_, h.l8 a ha⟩
      · show (a.1 + b.1).den = 1
        rw [e3, Rat.den_intCast]
      · show (a.1 + b.1).num.natAbs ≤ B + C
        rw [e3, Rat.num_intCast]
        have := h.ty a ha
        have := k.ty b hb
        omega
  exact ⟨fun t ht => (key t ht).1, fun t ht => (key t ht).2.1, fun t ht => (key t ht).2.2.1, fun t ht => (key t ht).2.2.2.1, fun t ht => (key t ht).2.2.2.2⟩
theorem SB.zp {B : Nat} {p : Pol} (h : SB B p) (hB : B < 65536) (hl : p.length ≤ 100) : ZP p :=
  ⟨h.ip, h.nz, h.exps, fun t ht => ⟨by have := h.ty t ht; omega, by rw [h.ip t ht]; decide⟩, h.l8, hl⟩
/-- The exponents and what is left of the degree, behind i rounds. -/
def mkE (deg : Int) (row : List Int) : Nat → List Int × Int
  | 0 => (mono0, deg)
  | i + 1 => ((mkE deg row i).1.set i (((row.getD (1 + i) 0).natAbs : Int) % ((mkE deg row i).2 + 1)), (mkE deg row i).2 - ((row.getD (1 + i) 0).natAbs : Int) % ((mkE deg row i).2 + 1))
theorem mkE_ok (deg : Int) (row : List Int) (h0 : 0 ≤ deg) (h1 : deg ≤ 65535) : ∀ i, (mkE deg row i).1.length = 8 ∧ Exps (mkE deg row i).1 ∧ 0 ≤ (mkE deg row i).2 ∧ (mkE deg row i).2 ≤ deg
  | 0 => by
    refine ⟨rfl, fun k => ?_, h0, Int.le_refl _⟩
    show 0 ≤ mono0.getD k 0 ∧ mono0.getD k 0 ≤ 65535
    match k with
    | 0 | 1 | 2 | 3 | 4 | 5 | 6 | 7 => exact ⟨by show (0 : Int) ≤ 0; omega, by show (0 : Int) ≤ 65535; omega⟩
    | k + 8 => simp [mono0]
  | i + 1 => by
    obtain ⟨a, b, c, d⟩ := mkE_ok deg row h0 h1 i
    unfold mkE
    generalize mkE deg row i = s at *
    obtain ⟨m, l⟩ := s
    simp only at a b c d ⊢
    have e1 := Int.emod_nonneg ((row.getD (1 + i) 0).natAbs : Int) (show l + 1 ≠ 0 by omega)
    have e2 := Int.emod_lt_of_pos ((row.getD (1 + i) 0).natAbs : Int) (show 0 < l + 1 by omega)
    generalize ((row.getD (1 + i) 0).natAbs : Int) % (l + 1) = e at *
    refine ⟨by rw [List.length_set]; exact a, fun k => ?_, by omega, by omega⟩
    rw [List.getD_eq_getElem?_getD, List.getElem?_set]
    split
    · split
      · exact ⟨by show 0 ≤ e; omega, by show e ≤ 65535; omega⟩
      · exact ⟨by show (0 : Int) ≤ 0; omega, by show (0 : Int) ≤ 65535; omega⟩
    · have := b k; rwa [List.getD_eq_getElem?_getD] at this
def madeM (n : Nat) (deg : Int) (row : List Int) : List Int := (mkE deg row (min n 4)).1
def madeC (row : List Int) : Rat := (((row.getD 0 0).tmod 4 : Int) : Rat)
def madeT (n : Nat) (deg : Int) (row : List Int) : Pol := timesP (madeC row) mono0 [(1, madeM n deg row)]
def madeP (n : Nat) (deg : Int) (rows : List (List Int)) : Pol := rows.foldl (fun out r => addP out (madeT n deg r)) []
theorem madeC_num (row : List Int) : (madeC row).num.natAbs ≤ 3 ∧ (madeC row).den = 1 := by
  unfold madeC
  rw [Rat.num_intCast, Rat.den_intCast]
  refine ⟨?_, rfl⟩
  have h1 := Int.tmod_lt_of_pos (row.getD 0 0) (show (0 : Int) < 4 by decide)
  have h2 : -4 < (row.getD 0 0).tmod 4 := by
    have := Int.tmod_lt_of_pos (-(row.getD 0 0)) (show (0 : Int) < 4 by decide)
    rw [Int.neg_tmod] at this; omega
  omega
theorem madeT_sb (n : Nat) {deg : Int} (row : List Int) (h0 : 0 ≤ deg) (h1 : deg ≤ 65535) : SB 3 (madeT n deg row) ∧ (madeT n deg row).length ≤ 1 := by
  unfold madeT timesP
  obtain ⟨a, b, _, _⟩ := mkE_ok deg row h0 h1 (min n 4)
  obtain ⟨c, d⟩ := madeC_num row
  split
  · exact ⟨⟨fun t h => (by cases h), fun t h => (by cases h), fun t h => (by cases h), fun t h => (by cases h), fun t h => (by cases h)⟩, by simp⟩
  · rename_i hne
    refine ⟨⟨?_, ?_, ?_, ?_, ?_⟩, by simp⟩
    all_goals intro t ht; rw [List.map_cons, List.map_nil, List.mem_singleton] at ht; subst ht
    · show (madeC row * 1).den = 1; rw [Rat.mul_one]; exact d
    · show madeC row * 1 ≠ 0; rw [Rat.mul_one]; exact hne
    · show Exps (addE mono0 (mkE deg row (min n 4)).1); rw [addE_zero a]; exact b
    · show (madeC row * 1).num.natAbs ≤ 3; rw [Rat.mul_one]; exact c
    · show (addE mono0 (mkE deg row (min n 4)).1).length = 8; rw [addE_zero a]; exact a
theorem madeP_snoc (n : Nat) (deg : Int) (rows : List (List Int)) (r : List Int) : madeP n deg (rows ++ [r]) = addP (madeP n deg rows) (madeT n deg r) := by unfold madeP; rw [List.foldl_append]; rfl
theorem madeP_sb (n : Nat) {deg : Int} (h0 : 0 ≤ deg) (h1 : deg ≤ 65535) (rows : List (List Int)) : ∀ k, SB (3 * min k rows.length) (madeP n deg (rows.take k)) ∧ (madeP n deg (rows.take k)).length ≤ min k rows.length
  | 0 => by rw [List.take_zero, Nat.zero_min]; exact ⟨SB.nil, Nat.le_refl _⟩
  | k + 1 => by
    obtain ⟨a, b⟩ := madeP_sb n h0 h1 rows k
    by_cases hk : k < rows.length
    · rw [List.take_succ_eq_append_getElem hk, madeP_snoc]
      obtain ⟨c, d⟩ := madeT_sb n rows[k] h0 h1
      have e := addP_length (madeP n deg (rows.take k)) (madeT n deg rows[k])
      refine ⟨?_, by omega⟩
      rw [show 3 * min (k + 1) rows.length = 3 * min k rows.length + 3 by omega]
      exact a.add c
    · rw [show rows.take (k + 1) = rows.take k from by rw [List.take_of_length_le (by omega), List.take_of_length_le (by omega)], show min (k + 1) rows.length = min k rows.length by omega]
      exact ⟨a, b⟩

end Go.Proofs.YthhdleppkggepaaGreat
