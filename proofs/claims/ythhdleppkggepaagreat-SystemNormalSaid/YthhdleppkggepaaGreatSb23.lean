/-
  Plain laws: what exchanging variables keeps of a polynomial: its range, its degree, its variables, its normal multiple's range.
-/
import Derived.Test.YthhdleppkggepaaGreatSb19
import Derived.Test.YthhdleppkggepaaGreatSb22

set_option linter.unusedSimpArgs false
set_option linter.unusedVariables false
set_option linter.unusedSectionVars false

namespace Go.Proofs.YthhdleppkggepaaGreat

theorem pdeg_le {p : List Tm} {d : Int} : pdeg p ≤ d ↔ -1 ≤ d ∧ ∀ t ∈ p, t.2.sum ≤ d := by
  unfold pdeg
  have : ∀ (l : List Tm) (x : Int), l.foldl (fun d t => max d t.2.sum) x ≤ d ↔ x ≤ d ∧ ∀ t ∈ l, t.2.sum ≤ d := by
    intro l
    induction l with
    | nil => intro x; simp
    | cons a l ih =>
      intro x
      rw [List.foldl_cons, ih]
      simp only [List.mem_cons, forall_eq_or_imp]
      constructor
      · rintro ⟨h1, h2⟩; exact ⟨by omega, by omega, h2⟩
      · rintro ⟨h1, h2, h3⟩; exact ⟨by omega, h3⟩
  exact this p (-1)
theorem usesN_lt_iff {p : List Tm} {n : Nat} : usesN p < 2 ^ n ↔ ∀ t ∈ p, suppN t.2 < 2 ^ n := by
  unfold usesN
  have : ∀ (l : List Tm) (u : Nat), l.foldl (fun u t => u ||| suppN t.2) u < 2 ^ n ↔ u < 2 ^ n ∧ ∀ t ∈ l, suppN t.2 < 2 ^ n := by
    intro l
    induction l with
    | nil => intro u; simp
    | cons a l ih =>
      intro u
      rw [List.foldl_cons, ih]
      simp only [List.mem_cons, forall_eq_or_imp]
      constructor
      · rintro ⟨h1, h2⟩
        exact ⟨Nat.lt_of_le_of_lt Nat.left_le_or h1, Nat.lt_of_le_of_lt Nat.right_le_or h1, h2⟩
      · rintro ⟨h1, h2, h3⟩; exact ⟨Nat.or_lt_two_pow h1 h2, h3⟩
  have := this p 0
  rw [this]
  constructor
  · exact fun h => h.2
  · exact fun h => ⟨Nat.pow_pos (by decide), h⟩
theorem suppN_lt_iff : ∀ {m : List Int} {n : Nat}, suppN m < 2 ^ n ↔ ∀ i, n ≤ i → m.getD i 0 ≤ 0
  | [], n => by simp [suppN, Nat.pow_pos]
  | a :: m, 0 => by
    have ih := @suppN_lt_iff m 0
    simp only [suppN, Nat.pow_zero] at ih ⊢
    constructor
    · intro h i _
      have ha : ¬ 0 < a := by intro h1; rw [if_pos h1] at h; omega
      rw [if_neg ha] at h
      cases i with
      | zero => simpa using (show a ≤ 0 by omega)
      | succ i => simpa using ih.1 (by omega) i (Nat.zero_le _)
    · intro h
      have h0 := h 0 (Nat.le_refl _)
      have h1 : suppN m < 1 := ih.2 (fun i _ => by simpa using h (i + 1) (Nat.zero_le _))
      rw [if_neg (by simpa using h0)]; omega
  | a :: m, n + 1 => by
    have ih := @suppN_lt_iff m n
    simp only [suppN, Nat.pow_succ]
    constructor
    · intro h i hi
      cases i with
      | zero => omega
      | succ i => simpa using ih.1 (by split at h <;> omega) i (by omega)
    · intro h
      have h1 := ih.2 (fun i hi => by simpa using h (i + 1) (by omega))
      split <;> omega
section
variable {perm : List Nat} (hp : Perm8 perm)
include hp
theorem pmE_getD {m : List Int} (hm : m.length = 8) (k : Nat) : (∃ i, i < 8 ∧ perm[i]? = some k ∧ (pmE perm m).getD k 0 = m.getD i 0) ∨ (8 ≤ k ∧ (pmE perm m).getD k 0 = 0) := by
  by_cases hk : k < 8
  · obtain ⟨i, hi, e1, e2⟩ := pmE_at hp hm hk
    refine .inl ⟨i, hi, ?_, ?_⟩
    · rw [List.getElem?_eq_getElem (by rw [hp.len]; exact hi), e1]
    · rw [List.getD_eq_getElem?_getD, e2, List.getD_eq_getElem?_getD, List.getElem?_eq_getElem (by rw [hm]; exact hi)]
  · refine .inr ⟨by omega, ?_⟩
    rw [List.getD_eq_getElem?_getD, List.getElem?_eq_none (by rw [pmE_len]; omega)]; rfl
theorem pmE_exps {m : List Int} (hm : m.length = 8) (h : Exps m) : Exps (pmE perm m) := by
  intro k
  rcases pmE_getD hp hm k with ⟨i, _, _, e⟩ | ⟨_, e⟩
  · rw [e]; exact h i
  · rw [e]; omega
theorem sum_perm {a b : List Int} (h : a.Perm b) : a.sum = b.sum := by
  induction h with
  | nil => rfl
  | cons x _ ih => simp [ih]
  | swap x y l => simp only [List.sum_cons]; omega
  | trans _ _ h1 h2 => rw [h1, h2]
theorem pmE_sum {m : List Int} (hm : m.length = 8) : (pmE perm m).sum = m.sum := sum_perm hp (pmE_perm hp hm)
theorem pmE_supp {n : Nat} (hf : ∀ i, n ≤ i → i < 8 → perm[i]? = some i) {m : List Int} (hm : m.length = 8) (h : suppN m < 2 ^ n) : suppN (pmE perm m) < 2 ^ n := by
  rw [suppN_lt_iff] at h ⊢
  intro k hk
  rcases pmE_getD hp hm k with ⟨i, hi, e1, e2⟩ | ⟨_, e⟩
  · rw [e2]
    by_cases hin : n ≤ i
    · exact h i hin
    · have hk8 : k < 8 := hp.lt k (List.mem_of_getElem? e1)
      have e3 := hf k hk hk8
      have hik : i = k := (List.getElem?_inj (by rw [hp.len]; exact hi) hp.nodup).1 (e1.trans e3.symm)
      omega
  · rw [e]; omega
variable {p : List Tm} (h8 : Len8 p) (hv : validB p = true)
include h8 hv
theorem permP_forall {Q : Tm → Prop} (h : ∀ t ∈ p, Q (pmT perm t)) : ∀ x ∈ permP perm p, Q x := by
  intro x hx
  obtain ⟨t, ht, rfl⟩ := List.mem_map.1 ((permP_mem hp h8 (SP.of_valid hv h8).nodup x).1 hx)
  exact h t ht
theorem permP_nz : ∀ x ∈ permP perm p, x.1 ≠ 0 := permP_forall hp h8 hv (fun t ht => valid_nz hv t ht)
theorem permP_valid : validB (permP perm p) = true := (permP_sp hp h8 (SP.of_valid hv h8).nodup).valid (permP_nz hp h8 hv)
theorem permP_gp (h : GP p) : GP (permP perm p) where
  exps := permP_forall hp h8 hv (fun t ht => pmE_exps hp (h8 t ht) (h.exps t ht))
  ty := permP_forall hp h8 hv (fun t ht => h.ty t ht)
  len := by rw [permP_length hp h8 (SP.of_valid hv h8).nodup]; exact h.len
theorem permP_pdeg_le {d : Int} : pdeg (permP perm p) ≤ d ↔ pdeg p ≤ d := by
  rw [pdeg_le, pdeg_le]
  constructor
  · rintro ⟨h1, h2⟩
    refine ⟨h1, fun t ht => ?_⟩
    have := h2 (pmT perm t) ((permP_mem hp h8 (SP.of_valid hv h8).nodup _).2 (List.mem_map_of_mem ht))
    rwa [show (pmT perm t).2.sum = t.2.sum from pmE_sum hp (h8 t ht)] at this
  · rintro ⟨h1, h2⟩
    exact ⟨h1, permP_forall hp h8 hv (fun t ht => by rw [show (pmT perm t).2.sum = t.2.sum from pmE_sum hp (h8 t ht)]; exact h2 t ht)⟩
theorem permP_pdeg : pdeg (permP perm p) = pdeg p := by
  have h1 := (permP_pdeg_le hp h8 hv (d := pdeg p)).2 (Int.le_refl _)
  have h2 := (permP_pdeg_le hp h8 hv (d := pdeg (permP perm p))).1 (Int.le_refl _)
  omega
theorem permP_within {n : Nat} (hf : ∀ i, n ≤ i → i < 8 → perm[i]? = some i) (h : withinB p n = true) : withinB (permP perm p) n = true := by
  unfold withinB at h ⊢
  simp only [Bool.and_eq_true, decide_eq_true_eq] at h ⊢
  refine ⟨⟨permP_valid hp h8 hv, by rw [permP_pdeg hp h8 hv]; exact h.1.2⟩, ?_⟩
  rw [usesN_lt_iff] at h ⊢
  exact permP_forall hp h8 hv (fun t ht => pmE_supp hp hf (h8 t ht) (h.2 t ht))
end

/-! ### the normal multiple -/
theorem foldl_perm {α β : Type} (f : β → α → β) (hf : ∀ b x y, f (f b x) y = f (f b y) x) {l m : List α} (h : l.Perm m) : ∀ b, l.foldl f b = m.foldl f b := by
  induction h with
  | nil => intro b; rfl
  | cons x _ ih => intro b; exact ih _
  | swap x y l => intro b; simp only [List.foldl_cons]; rw [hf]
  | trans _ _ h1 h2 => intro b; rw [h1, h2]
theorem numG_perm {l m : List Tm} (h : l.Perm m) : numG l = numG m := by
  refine foldl_perm _ (fun b x y => ?_) h 0
  simp only [Int.gcd, Int.natAbs_natCast]
  rw [Nat.gcd_assoc, Nat.gcd_comm x.1.num.natAbs, ← Nat.gcd_assoc]
def denN (p : List Tm) : Nat := p.foldl (fun d t => Nat.lcm d t.1.den) 1
theorem denL_nat (p : List Tm) : denL p = (denN p : Int) := by
  unfold denL denN
  have : ∀ (l : List Tm) (d : Nat), l.foldl (fun d t => d * (t.1.den : Int) / (Int.gcd d (t.1.den : Int) : Int)) (d : Int) = ((l.foldl (fun d t => Nat.lcm d t.1.den) d : Nat) : Int) := by
    intro l
    induction l with
    | nil => intro d; rfl
    | cons a l ih =>
      intro d
      rw [List.foldl_cons, List.foldl_cons, ← ih]
      congr 1
  exact this p 1
theorem denN_perm {l m : List Tm} (h : l.Perm m) : denN l = denN m := by
  refine foldl_perm _ (fun b x y => ?_) h 1
  rw [Nat.lcm_assoc, Nat.lcm_comm x.1.den, ← Nat.lcm_assoc]
theorem numG_pmT (perm : List Nat) (p : List Tm) : numG (p.map (pmT perm)) = numG p := by unfold numG; rw [List.foldl_map]; rfl
theorem denL_pmT (perm : List Nat) (p : List Tm) : denL (p.map (pmT perm)) = denL p := by unfold denL; rw [List.foldl_map]; rfl
theorem divInt_neg' (a b : Int) : Rat.divInt a (-b) = -Rat.divInt a b := by rw [Rat.divInt_neg', Rat.neg_divInt]
/-- The number by which the permuted polynomial is multiplied: the same one, but for its sign. -/
theorem normC_perm {p q : List Tm} (h1 : numG p = numG q) (h2 : denL p = denL q) : normC p = normC q ∨ normC p = -normC q := by
  unfold normC
  rw [h1, h2]
  split <;> split
  · exact .inl rfl
  · exact .inr (divInt_neg' _ _)
  · right; rw [divInt_neg', Rat.neg_neg]
  · exact .inl rfl
theorem Ty.neg' {q : Rat} (h : Ty q) : Ty (-q) := ⟨by have := h.1; simpa using this, by have := h.2; simpa using this⟩
theorem gp_nil : GP [] where
  exps := fun _ h => by cases h
  ty := fun _ h => by cases h
  len := by simp
theorem normP_gp_of {p q : List Tm} (hl : q.length ≤ 1000000) (hq : ∀ x ∈ q, Exps x.2 ∧ ∃ t ∈ p, x.1 = t.1) (h8 : Len8 q) (h8p : Len8 p) (h1 : numG q = numG p) (h2 : denL q = denL p) (hne : p ≠ []) (h : GP (normP p)) : GP (normP q) := by
  by_cases hq0 : q = []
  · subst hq0
    exact gp_nil
  have hcp : normC q = normC p ∨ normC q = -normC p := normC_perm h1 h2
  unfold normP at h ⊢
  rw [if_neg hne] at h
  rw [if_neg hq0]
  unfold timesP at h ⊢
  by_cases h0 : normC p = 0
  · rw [if_pos (by rcases hcp with e | e <;> rw [e, h0]; rfl)]
    exact gp_nil
  · rw [if_neg h0] at h
    rw [if_neg (by rcases hcp with e | e <;> rw [e]; exact h0; intro e2; apply h0; have := congrArg (fun x => -x) e2; simpa using this)]
    refine ⟨fun x hx => ?_, fun x hx => ?_, by rw [List.length_map]; exact hl⟩
    · obtain ⟨t, ht, rfl⟩ := List.mem_map.1 hx
      show Exps (addE mono0 t.2)
      rw [addE_zero (h8 t ht)]; exact (hq t ht).1
    · obtain ⟨t, ht, rfl⟩ := List.mem_map.1 hx
      obtain ⟨_, u, hu, e⟩ := hq t ht
      have hty : Ty (normC p * u.1) := h.ty (normC p * u.1, addE mono0 u.2) (List.mem_map.2 ⟨u, hu, rfl⟩)
      show Ty (normC q * t.1)
      rw [e]
      rcases hcp with e2 | e2 <;> rw [e2]
      · exact hty
      · rw [Rat.neg_mul]; exact hty.neg'
theorem permP_np {perm : List Nat} (hp : Perm8 perm) {p : List Tm} (h8 : Len8 p) (hv : validB p = true) {M : Int} (h : NP M p) : NP M (permP perm p) := by
  have hn := (SP.of_valid hv h8).nodup
  have hpm := permP_perm hp h8 hn
  have h1 : numG (permP perm p) = numG p := (numG_perm hpm).trans (numG_pmT perm p)
  have h2 : denL (permP perm p) = denL p := by rw [denL_nat, denN_perm hpm, ← denL_nat, denL_pmT]
  have hg := permP_gp hp h8 hv h.gp
  refine ⟨hg, permP_nz hp h8 hv, permP_forall hp h8 hv (fun t ht => h.dv t ht), ?_⟩
  by_cases hne : p = []
  · subst hne; exact h.res
  · exact normP_gp_of hg.len (fun x hx => ⟨hg.exps x hx, by
      obtain ⟨t, ht, rfl⟩ := List.mem_map.1 ((permP_mem hp h8 hn x).1 hx)
      exact ⟨t, ht, rfl⟩⟩) (permP_len8 hp h8 hn) h8 h1 h2 hne h.res

end Go.Proofs.YthhdleppkggepaaGreat

/-
  The walk of polynomial.Permute, at a permutation.
-/
namespace Go.Proofs.YthhdleppkggepaaGreat
open Go.RowKit Go.Deep
set_option maxRecDepth 100000

theorem idxP (e0 e1 e2 e3 e4 e5 e6 e7 : Int) (k : Nat) (hk : k < 8) (w : World) :
    (Instr.index 44 (.agg #[.int .i64 e0, .int .i64 e1, .int .i64 e2, .int .i64 e3, .int .i64 e4, .int .i64 e5, .int .i64 e6, .int .i64 e7]) (.int .i64 k)).run Tryz.prog w = .ok (.int .i64 ([e0, e1, e2, e3, e4, e5, e6, e7].getD k 0)) w := by
  have hs : (Tryz.prog.info? 3).map (fun i => i.size) = some 1 := by kernel_rfl
  obtain ⟨i, hi, hsz⟩ := Option.map_eq_some_iff.1 hs
  have h0 : (0 : Int) ≤ k ∧ (k : Int) < 8 := by omega
  obtain rfl | rfl | rfl | rfl | rfl | rfl | rfl | rfl : k = 0 ∨ k = 1 ∨ k = 2 ∨ k = 3 ∨ k = 4 ∨ k = 5 ∨ k = 6 ∨ k = 7 := by omega
  all_goals
    simp [Instr.index, run_underlying Tryz.underlying44, asIntOf, go_sem, sizeOf, typeInfo, hi, hsz]
/-- Eight numbers in a block. -/
def Cells8 (w : World) (b : Nat) (l : List Int) : Prop := ∀ j, j < 8 → w.cell? ⟨b, j, none⟩ = some (.int .i64 (l.getD j 0)) ∧ w.frozen? ⟨b, j, none⟩ = false
theorem Cells8.new (w : World) (t : TypeId) (e0 e1 e2 e3 e4 e5 e6 e7 : Int) : Cells8 (w.alloc (.cells #[.int .i64 e0, .int .i64 e1, .int .i64 e2, .int .i64 e3, .int .i64 e4, .int .i64 e5, .int .i64 e6, .int .i64 e7] t)) w.heap.size [e0, e1, e2, e3, e4, e5, e6, e7] := by
  intro j hj
  refine ⟨cell8 w t e0 e1 e2 e3 e4 e5 e6 e7 j hj, ?_⟩
  simp [go_sem]
theorem Cells8.below {w w' : World} {b B : Nat} {l : List Int} (h : Cells8 w b l) (hb : Below B w w') (hlt : b < B) : Cells8 w' b l := by
  intro j hj
  exact ⟨(hb.cell hlt).trans (h j hj).1, (hb.frozen hlt).trans (h j hj).2⟩
theorem getD_set {l : List Int} {i j : Nat} {x : Int} (hi : i < l.length) : (l.set i x).getD j 0 = if i = j then x else l.getD j 0 := by
  simp only [List.getD_eq_getElem?_getD, List.getElem?_set]
  by_cases h : i = j
  · subst h; simp [hi]
  · simp [h]
theorem Cells8.set {w : World} {b : Nat} {l : List Int} (h : Cells8 w b l) (hl : l.length = 8) {i : Nat} (hi : i < 8) (x : Int) : Cells8 (w.setCell ⟨b, i, none⟩ (.int .i64 x)) b (l.set i x) := by
  intro j hj
  refine ⟨?_, by rw [World.frozen?_setCell]; exact (h j hj).2⟩
  rw [World.cell?_setCell_if, getD_set (by omega), (h j hj).1]
  by_cases hij : i = j
  · subst hij; simp
  · simp [hij]
/-- The flags of the places seen. -/
def Flags8 (w : World) (b : Nat) (s : List Nat) : Prop := ∀ j, j < 8 → w.cell? ⟨b, j, none⟩ = some (.bool (decide (j ∈ s))) ∧ w.frozen? ⟨b, j, none⟩ = false
theorem Flags8.set {w : World} {b : Nat} {s : List Nat} (h : Flags8 w b s) {i : Nat} : Flags8 (w.setCell ⟨b, i, none⟩ (.bool true)) b (s ++ [i]) := by
  intro j hj
  refine ⟨?_, by rw [World.frozen?_setCell]; exact (h j hj).2⟩
  rw [World.cell?_setCell_if, (h j hj).1]
  by_cases hij : i = j
  · subst hij; simp
  · have : ¬ j = i := fun e => hij e.symm
    simp [hij, this]

theorem setE_len (a : List Int) (x : Nat × Int) : (setE a x).length = a.length := by simp [setE]
theorem pmE_take {perm : List Nat} {m : List Int} {k : Nat} (h1 : k < perm.length) (h2 : k < m.length) : ((perm.zip m).take (k + 1)).foldl setE mono0 = (((perm.zip m).take k).foldl setE mono0).set perm[k] m[k] := by
  rw [List.take_succ_eq_append_getElem (by rw [List.length_zip]; omega), List.foldl_append]
  simp [setE, List.getElem_zip]
theorem pmE_take_len (perm : List Nat) (m : List Int) (k : Nat) : (((perm.zip m).take k).foldl setE mono0).length = 8 := by rw [foldl_setE_len]; rfl
theorem getD_perm {perm : List Nat} (hp : Perm8 perm) {k : Nat} (hk : k < 8) : (perm.map fun x : Nat => (x : Int)).getD k 0 = ((perm[k]'(by rw [hp.len]; exact hk) : Nat) : Int) := by
  rw [List.getD_eq_getElem?_getD, List.getElem?_map, List.getElem?_eq_getElem (by rw [hp.len]; exact hk)]; rfl
theorem getD_mono {m : List Int} (hm : m.length = 8) {k : Nat} (hk : k < 8) : m.getD k 0 = m[k]'(by rw [hm]; exact hk) := by
  rw [List.getD_eq_getElem?_getD, List.getElem?_eq_getElem (by rw [hm]; exact hk)]; rfl
theorem nodup_notin {α : Type} {perm : List α} (h : perm.Nodup) {k : Nat} (hk : k < perm.length) : perm[k] ∉ perm.take k := by
  intro hh
  obtain ⟨i, hi, e⟩ := List.mem_iff_getElem.1 hh
  rw [List.length_take] at hi
  rw [List.getElem_take] at e
  have := (List.getElem_inj h).1 e
  omega

set_option maxHeartbeats 800000 in
theorem permute_ok (w : World) (ex : List Nat) (A : Option Addr) (n c : Nat) (p : List (Rat × List Int)) (d0 d1 d2 d3 d4 d5 d6 d7 : Int) (perm : List Nat) (hd : [d0, d1, d2, d3, d4, d5, d6, d7] = perm.map fun x : Nat => (x : Int)) (hp : Perm8 perm) (hx : RP w ex A n c p) (hv : validB p = true) (hlen : p.length ≤ 1000000) (hex : ∀ b ∈ ex, b < w.heap.size) :
    Calls Tryz.prog 105 #[.slice A n c, .agg #[.int .i64 d0, .int .i64 d1, .int .i64 d2, .int .i64 d3, .int .i64 d4, .int .i64 d5, .int .i64 d6, .int .i64 d7]] w (RetPE w ex (permP perm p) 0) := by
  have HLn := Lib.hid hx.len
  have hcap := hx.cap
  have H8 := Lib.hid hx.len8
  have HX := Lib.hid hx
  have HP := Lib.hid hp
  have HV := Lib.hid hv
  have HD := Lib.hid hd
  have hnl : n ≤ 1000000 := by rw [hx.len]; exact hlen
  clear hx hp hv hd hlen
  go_enter Tryz.func105, Tryz.ntmps105
  go_wp2_with fail
  have hf0 : Flags8 ((w.alloc (.cells #[.int .i64 d0, .int .i64 d1, .int .i64 d2, .int .i64 d3, .int .i64 d4, .int .i64 d5, .int .i64 d6, .int .i64 d7] 44)).alloc (.cells #[.bool false, .bool false, .bool false, .bool false, .bool false, .bool false, .bool false, .bool false] 110)) (w.heap.size + 1) [] := by
    intro j hj
    obtain rfl | rfl | rfl | rfl | rfl | rfl | rfl | rfl : j = 0 ∨ j = 1 ∨ j = 2 ∨ j = 3 ∨ j = 4 ∨ j = 5 ∨ j = 6 ∨ j = 7 := by omega
    all_goals exact ⟨by simp [go_sem, ↓IntWalk.iteOmega], by simp [go_sem, ↓IntWalk.iteOmega]⟩
  have hc0 : Cells8 ((w.alloc (.cells #[.int .i64 d0, .int .i64 d1, .int .i64 d2, .int .i64 d3, .int .i64 d4, .int .i64 d5, .int .i64 d6, .int .i64 d7] 44)).alloc (.cells #[.bool false, .bool false, .bool false, .bool false, .bool false, .bool false, .bool false, .bool false] 110)) w.heap.size [d0, d1, d2, d3, d4, d5, d6, d7] :=
    (Cells8.new w 44 d0 d1 d2 d3 d4 d5 d6 d7).below (B := w.heap.size + 1) ((Below.refl _ _).alloc (by simp) _) (by omega)
  obtain ⟨W0, hW0⟩ : ∃ W0, W0 = ((w.alloc (.cells #[.int .i64 d0, .int .i64 d1, .int .i64 d2, .int .i64 d3, .int .i64 d4, .int .i64 d5, .int .i64 d6, .int .i64 d7] 44)).alloc (.cells #[.bool false, .bool false, .bool false, .bool false, .bool false, .bool false, .bool false, .bool false] 110)) := ⟨_, rfl⟩
  have hs0 : W0.heap.size = w.heap.size + 2 := by rw [hW0]; simp
  have hb0 : Below w.heap.size w W0 := by rw [hW0]; exact (by repeat first | with_reducible exact .refl .. | with_reducible assumption | refine .s ?_ ?_ | refine .m ?_ ?_ | refine .l ?_ ?_ | refine .d ?_ | refine .e ?_ | (simp <;> omega) | omega)
  rw [← hW0] at hf0 hc0 ⊢
  clear hW0
  go_loopw [16] (fun i wr => ∃ k : Nat, k ≤ 8 ∧ i = .int .i64 k ∧ Flags8 wr (w.heap.size + 1) (perm.take k) ∧ Below (w.heap.size + 1) W0 wr ∧ wr.heap.size = w.heap.size + 2) (fun i _ => 8 - (intOf i).toNat)
  case atStart => exact ⟨0, Nat.zero_le _, rfl, hf0, Below.refl _ _, hs0⟩
  case round =>
    obtain ⟨k, hk, rfl, hf, hb, hs⟩ := hrel
    by_cases hlt : k < 8
    · have hidx := idxP d0 d1 d2 d3 d4 d5 d6 d7 k hlt
      have hkp : k < perm.length := by rw [HP.out.len]; exact hlt
      rw [HD.out, getD_perm HP.out hlt] at hidx
      have h8 := HP.out.lt _ (List.getElem_mem hkp)
      have hno := nodup_notin HP.out.nodup hkp
      have hcell := (hf _ h8).1
      rw [decide_eq_false hno] at hcell
      have hfr := (hf _ h8).2
      have hte : perm.take (k + 1) = perm.take k ++ [perm[k]] := List.take_succ_eq_append_getElem hkp
      generalize perm[k] = x at *
      have HT := Lib.hid hte
      have hx1 : ¬ ((x : Int) < 0) := by omega
      have hx2 : ¬ (8 ≤ (x : Int)) := by omega
      clear hno hte
      go_wp2_with fail
      go_roundw
      case rel => exact ⟨k + 1, by omega, by go_num, by rw [HT.out]; exact hf.set, (by repeat first | with_reducible exact .refl .. | with_reducible assumption | refine .s ?_ ?_ | refine .m ?_ ?_ | refine .l ?_ ?_ | refine .d ?_ | refine .e ?_ | (simp <;> omega) | omega), by simp [hs]⟩
      case measure => simp [intOf]; omega
    · obtain rfl : k = 8 := by omega
      obtain ⟨w1, hw1⟩ : ∃ x, x = wr := ⟨_, rfl⟩
      subst hw1
      have hcp := hc0.below hb (by omega)
      have hbw := hb0.trans (hb.mono (by omega))
      have HSZ := Lib.hid hs
      have hmm := fun t w => run_makeMap (P := Tryz.prog) t w
      clear hf hb hs hf0 hc0 hk hlt
      go_wp2_with fail
      go_loopw [36] (fun i wr => ∃ k : Nat, k ≤ n ∧ i = .int .i64 k ∧ MapR wr ex w1.heap.size ((p.take k).map (pmT perm)) ∧ Below w1.heap.size w1 wr ∧ w1.heap.size < wr.heap.size) (fun i _ => n - (intOf i).toNat)
      case atStart => exact ⟨0, Nat.zero_le _, rfl, by simpa using MapR.made w1 ex, (by repeat first | with_reducible exact .refl .. | with_reducible assumption | refine .s ?_ ?_ | refine .m ?_ ?_ | refine .l ?_ ?_ | refine .d ?_ | refine .e ?_ | (simp <;> omega) | omega), by simp⟩
      case round =>
        obtain ⟨k, hk, rfl, hmr, hb, hs⟩ := hrel
        have hbww := hbw.trans (hb.mono hbw.size)
        have hwle : w.heap.size + 2 ≤ w1.heap.size := Nat.le_of_eq HSZ.out.symm
        by_cases hlt : k < n
        · have hxw := HX.out.mono (Kr.fresh (l := [w1.heap.size]) hbww (by simp; omega))
          obtain ⟨b, o, rfl, hbx, hbl, ht⟩ := hxw.at_ (by omega)
          have hkp : k < p.length := by have := HLn.out; omega
          obtain ⟨s1, A1, n1, c1, s2, A2, n2, c2, e0, e1, e2, e3, e4, e5, e6, e7, h0, h1, h2, h3, h4, h5, h6, h7, h8, h9, h10, h11, hq, hm⟩ := ht k hkp
          have HT : Hid ((p.take (k + 1)).map (pmT perm) = (p.take k).map (pmT perm) ++ [(p[k].1, pmE perm [e0, e1, e2, e3, e4, e5, e6, e7])]) := Lib.hid (by rw [List.take_succ_eq_append_getElem hkp, List.map_append]; simp [pmT, hm])
          have HK : Hid (∀ t ∈ (p.take k).map (pmT perm), t.2 ≠ pmE perm [e0, e1, e2, e3, e4, e5, e6, e7]) := Lib.hid (by
            intro t ht e
            obtain ⟨u, hu, rfl⟩ := List.mem_map.1 ht
            have h1 := pmE_inj HP.out (H8.out u (List.mem_of_mem_take hu)) (by rfl) e
            have h2 := nodup_notin (SP.of_valid HV.out H8.out).nodup (k := k) (by simpa using hkp)
            rw [List.getElem_map, ← List.map_take, hm, ← h1] at h2
            exact h2 (List.mem_map_of_mem hu))
          generalize p[k].1 = q at *
          clear ht hxw hm
          obtain ⟨w2, hw2⟩ : ∃ x, x = wr := ⟨_, rfl⟩
          subst hw2
          go_wp2_with fail
          have hz0 : Cells8 ((w2.alloc (.cells #[.bool s1, .slice A1 n1 c1, .bool s2, .slice A2 n2 c2, .int .i64 e0, .int .i64 e1, .int .i64 e2, .int .i64 e3, .int .i64 e4, .int .i64 e5, .int .i64 e6, .int .i64 e7] 118)).alloc (.cells #[.int .i64 0, .int .i64 0, .int .i64 0, .int .i64 0, .int .i64 0, .int .i64 0, .int .i64 0, .int .i64 0] 68)) (w2.heap.size + 1) mono0 := by
            have := Cells8.new (w2.alloc (.cells #[.bool s1, .slice A1 n1 c1, .bool s2, .slice A2 n2 c2, .int .i64 e0, .int .i64 e1, .int .i64 e2, .int .i64 e3, .int .i64 e4, .int .i64 e5, .int .i64 e6, .int .i64 e7] 118)) 68 0 0 0 0 0 0 0 0
            rw [World.size_alloc] at this; exact this
          have t0 : ∀ j v, [Value.bool s1, .slice A1 n1 c1, .bool s2, .slice A2 n2 c2][j]? = some v → ((w2.alloc (.cells #[.bool s1, .slice A1 n1 c1, .bool s2, .slice A2 n2 c2, .int .i64 e0, .int .i64 e1, .int .i64 e2, .int .i64 e3, .int .i64 e4, .int .i64 e5, .int .i64 e6, .int .i64 e7] 118)).alloc (.cells #[.int .i64 0, .int .i64 0, .int .i64 0, .int .i64 0, .int .i64 0, .int .i64 0, .int .i64 0, .int .i64 0] 68)).cell? ⟨w2.heap.size, j, none⟩ = some v := by
            intro j v hv
            match j, hv with
            | 0, hv => cases hv; simp [go_sem]
            | 1, hv => cases hv; simp [go_sem]
            | 2, hv => cases hv; simp [go_sem]
            | 3, hv => cases hv; simp [go_sem]
            | j + 4, hv => simp at hv
          obtain ⟨W2, hW2⟩ : ∃ W2, W2 = ((w2.alloc (.cells #[.bool s1, .slice A1 n1 c1, .bool s2, .slice A2 n2 c2, .int .i64 e0, .int .i64 e1, .int .i64 e2, .int .i64 e3, .int .i64 e4, .int .i64 e5, .int .i64 e6, .int .i64 e7] 118)).alloc (.cells #[.int .i64 0, .int .i64 0, .int .i64 0, .int .i64 0, .int .i64 0, .int .i64 0, .int .i64 0, .int .i64 0] 68)) := ⟨_, rfl⟩
          have hsW : W2.heap.size = w2.heap.size + 2 := by rw [hW2]; simp
          have hbW : Below w2.heap.size w2 W2 := by rw [hW2]; exact (by repeat first | with_reducible exact .refl .. | with_reducible assumption | refine .s ?_ ?_ | refine .m ?_ ?_ | refine .l ?_ ?_ | refine .d ?_ | refine .e ?_ | (simp <;> omega) | omega)
          rw [← hW2] at hz0 t0 ⊢
          clear hW2
          have hcpW := (hcp.below hb (by omega)).below hbW (by omega)
          go_loopw [42] (fun i w3 => ∃ j : Nat, j ≤ 8 ∧ i = .int .i64 j ∧ Cells8 w3 (w2.heap.size + 1) (((perm.zip [e0, e1, e2, e3, e4, e5, e6, e7]).take j).foldl setE mono0) ∧ Below (w2.heap.size + 1) W2 w3 ∧ w3.heap.size = w2.heap.size + 2) (fun i _ => 8 - (intOf i).toNat)
          case atStart => exact ⟨0, Nat.zero_le _, rfl, hz0, Below.refl _ _, hsW⟩
          case round =>
            obtain ⟨j, hj, rfl, hc3, hb3, hs3⟩ := hrel
            by_cases hlj : j < 8
            · have hjp : j < perm.length := by rw [HP.out.len]; exact hlj
              have hidx := idx8 e0 e1 e2 e3 e4 e5 e6 e7 j hlj
              have hpc := ((hcpW.below hb3 (by omega)) j hlj).1
              rw [HD.out, getD_perm HP.out hlj] at hpc
              have h8 := HP.out.lt _ (List.getElem_mem hjp)
              have hq8 := hc3 _ h8
              have hgd := getD_mono (m := [e0, e1, e2, e3, e4, e5, e6, e7]) rfl hlj
              have hte := pmE_take (perm := perm) (m := [e0, e1, e2, e3, e4, e5, e6, e7]) hjp hlj
              rw [hgd] at hidx
              obtain ⟨hq1, hq2⟩ := hq8
              have hset := fun x => hc3.set (pmE_take_len perm [e0, e1, e2, e3, e4, e5, e6, e7] j) h8 x
              generalize perm[j] = x at *
              generalize ([e0, e1, e2, e3, e4, e5, e6, e7] : List Int)[j] = y at *
              have HT2 := Lib.hid hte
              have HSE := Lib.hid (hset y)
              clear hte hset hgd hc3
              generalize (List.foldl setE mono0 ((perm.zip [e0, e1, e2, e3, e4, e5, e6, e7]).take j)) = acc at *
              generalize hav : acc.getD x 0 = av at *
              clear hav
              have hx1 : (0 : Int) ≤ (x : Int) ∧ (x : Int) < 8 := by omega
              go_wp2_with fail
              go_roundw
              case rel => exact ⟨j + 1, by omega, by go_num, by rw [HT2.out]; exact HSE.out, (by repeat first | with_reducible exact .refl .. | with_reducible assumption | refine .s ?_ ?_ | refine .m ?_ ?_ | refine .l ?_ ?_ | refine .d ?_ | refine .e ?_ | (simp <;> omega) | omega), by simp [hs3]⟩
              case measure => simp [intOf]; omega
            · obtain rfl : j = 8 := by omega
              rw [List.take_of_length_le (by rw [List.length_zip, HP.out.len]; simp)] at hc3
              have hcg : Cells8 wr (w2.heap.size + 1) (pmE perm [e0, e1, e2, e3, e4, e5, e6, e7]) := hc3
              obtain ⟨g0, g1, g2, g3, g4, g5, g6, g7, hge⟩ := list8 (pmE_len perm [e0, e1, e2, e3, e4, e5, e6, e7])
              rw [hge] at hcg HT HK
              have y0 : wr.cell? ⟨w2.heap.size + 1, 0, none⟩ = some (.int .i64 g0) := (hcg 0 (by omega)).1
              have y1 : wr.cell? ⟨w2.heap.size + 1, 1, none⟩ = some (.int .i64 g1) := (hcg 1 (by omega)).1
              have y2 : wr.cell? ⟨w2.heap.size + 1, 2, none⟩ = some (.int .i64 g2) := (hcg 2 (by omega)).1
              have y3 : wr.cell? ⟨w2.heap.size + 1, 3, none⟩ = some (.int .i64 g3) := (hcg 3 (by omega)).1
              have y4 : wr.cell? ⟨w2.heap.size + 1, 4, none⟩ = some (.int .i64 g4) := (hcg 4 (by omega)).1
              have y5 : wr.cell? ⟨w2.heap.size + 1, 5, none⟩ = some (.int .i64 g5) := (hcg 5 (by omega)).1
              have y6 : wr.cell? ⟨w2.heap.size + 1, 6, none⟩ = some (.int .i64 g6) := (hcg 6 (by omega)).1
              have y7 : wr.cell? ⟨w2.heap.size + 1, 7, none⟩ = some (.int .i64 g7) := (hcg 7 (by omega)).1
              have r0 : wr.cell? ⟨w2.heap.size, 0, none⟩ = some (.bool s1) := (hb3.at0 (by omega) _).trans (t0 0 _ rfl)
              have r1 : wr.cell? ⟨w2.heap.size, 1, none⟩ = some (.slice A1 n1 c1) := (hb3.at0 (by omega) _).trans (t0 1 _ rfl)
              have r2 : wr.cell? ⟨w2.heap.size, 2, none⟩ = some (.bool s2) := (hb3.at0 (by omega) _).trans (t0 2 _ rfl)
              have r3 : wr.cell? ⟨w2.heap.size, 3, none⟩ = some (.slice A2 n2 c2) := (hb3.at0 (by omega) _).trans (t0 3 _ rfl)
              have hb23 : Below w2.heap.size w2 wr := hbW.trans (hb3.mono (by omega))
              have HM3 := Lib.hid (hmr.keep hb23)
              have HQ3 := Lib.hid (hq.mono (Kr.of_below hb23 _))
              have hb13 : Below w1.heap.size w1 wr := hb.trans (hb23.mono (by omega))
              clear hmr hq hc3 hcg t0 hcpW hz0 hb3 hbW hge hcp hb hbw hbww hb23
              go_wp2_with fail
              refine (sumadd_ok _ w1.heap.size w1.heap.size ex ((p.take k).map (pmT perm)) s1 A1 n1 c1 s2 A2 n2 c2 q g0 g1 g2 g3 g4 g5 g6 g7 (HM3.out.keep (by repeat first | with_reducible exact .refl .. | with_reducible assumption | refine .s ?_ ?_ | refine .m ?_ ?_ | refine .l ?_ ?_ | refine .d ?_ | refine .e ?_ | (simp <;> omega) | omega)) (HQ3.out.mono (Kr.of_below (by repeat first | with_reducible exact .refl .. | with_reducible assumption | refine .s ?_ ?_ | refine .m ?_ ?_ | refine .l ?_ ?_ | refine .d ?_ | refine .e ?_ | (simp <;> omega) | omega) _)) HK.out (Nat.le_refl _)).mono ?_; rintro e w4 ⟨rfl, hm4, hk4, hb4⟩
              have hs4 := hb4.size
              go_wp2_with fail
              go_roundw
              case rel =>
                repeat (apply Exists.intro)
                refine And.intro ?_ rfl
                exact ⟨k + 1, by omega, by go_num, by rw [HT.out]; exact hm4, hb13.trans hb4, by omega⟩
              case measure => simp [intOf]; omega
        · obtain rfl : k = n := by omega
          rw [List.take_of_length_le (by rw [← HLn.out]; exact Nat.le_refl _)] at hmr
          have hnd : ((p.map (pmT perm)).map (·.2)).Nodup := by
            have h1 := (SP.of_valid HV.out H8.out).nodup
            unfold List.Nodup at h1 ⊢
            rw [List.map_map, List.pairwise_map]
            rw [List.pairwise_map] at h1
            refine List.Pairwise.imp_of_mem ?_ h1
            intro a b ha hb hab e
            exact hab (pmE_inj HP.out (H8.out a ha) (H8.out b hb) e)
          have HC := Lib.hid (sumpoly_ok wr ex w1.heap.size (p.map (pmT perm)) hmr (by rw [List.length_map, ← HLn.out]; exact hnl) (fun b hb => by have := hex b hb; omega) (fun t ht => by obtain ⟨u, hu, rfl⟩ := List.mem_map.1 ht; exact pmE_len _ _) hnd)
          have HEq : Hid (∀ L', L'.Perm ((p.map (pmT perm)).filter nzT) → SP L' → L' = permP perm p) := Lib.hid (by
            intro L' h1 h2
            have hall : (p.map (pmT perm)).filter nzT = p.map (pmT perm) := List.filter_eq_self.2 (by
              intro t ht
              obtain ⟨u, hu, rfl⟩ := List.mem_map.1 ht
              have := valid_nz HV.out u hu
              show decide (u.1 ≠ 0) = true
              exact decide_eq_true this)
            rw [hall] at h1
            exact permP_ext HP.out H8.out (SP.of_valid HV.out H8.out).nodup h2 (fun x => h1.mem_iff))
          clear hmr hnd hb hbw hcp hlt
          go_wp2_with fail
          refine HC.out.mono ?_; rintro e w5 ⟨L', hp1, hsp, A', n', c', X, D, rfl, rfl, hr⟩
          go_wp2_with fail
          refine bodyPost_ret (v := .tuple #[.slice A' n' c', .int .i64 0]) (by simp [results, Tryz.results105, go_sem, ↓IntWalk.iteOmega]) rfl ?_
          rw [← HEq.out L' hp1 hsp]
          exact RetPE.mk rfl (by repeat first | with_reducible exact .refl .. | with_reducible assumption | refine .s ?_ ?_ | refine .m ?_ ?_ | refine .l ?_ ?_ | refine .d ?_ | refine .e ?_ | (simp <;> omega) | omega) hr

end Go.Proofs.YthhdleppkggepaaGreat
