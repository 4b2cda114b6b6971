/-
  The walks of the reference of package polynomial: multiples by numbers, differences.
-/
import Derived.Test.YthhdleppkggepaaGreatSb28
import Derived.Test.YthhdleppkggepaaGreatSb29

set_option linter.unusedSimpArgs false
set_option linter.unusedVariables false
set_option linter.unusedSectionVars false

namespace Go.Proofs.YthhdleppkggepaaGreat
open Go.RowKit Go.Deep
set_option maxRecDepth 100000

theorem exps0 : Exps [0, 0, 0, 0, 0, 0, 0, 0] := by
  intro k
  match k with
  | 0 | 1 | 2 | 3 | 4 | 5 | 6 | 7 => exact ⟨by decide, by decide⟩
  | k + 8 => simp
theorem mulOk0 {p : List (Rat × List Int)} (hp : PExps p) (h8 : Len8 p) : MulOk mono0 p := by
  intro t ht
  rw [addE_zero (h8 t ht)]; exact hp t ht

set_option maxHeartbeats 1000000 in
theorem r6scale_ok (w : World) (ex : List Nat) (s3 : Bool) (A3 : Option Addr) (n3 c3 : Nat) (s4 : Bool) (A4 : Option Addr) (n4 c4 : Nat) (q : Rat) (A : Option Addr) (n c : Nat) (p : List (Rat × List Int)) (hcq : RQ w ex s3 A3 n3 c3 s4 A4 n4 c4 q) (hx : RP w ex A n c p) (hp : PExps p)
    (hq0 : Ty q) (hty : PTy p) (hn : n ≤ 1000000000) (hex : ∀ b ∈ ex, b < w.heap.size) :
    Calls Tryz.prog 84 #[.agg #[.bool s3, .slice A3 n3 c3, .bool s4, .slice A4 n4 c4], .slice A n c] w (RetP w ex (timesP q mono0 p)) := by
  have hmul := mulOk0 hp hx.len8
  go_enter Tryz.func84, Tryz.ntmps84
  go_wp2_with fail
  refine (r6times_ok _ ex s3 A3 n3 c3 s4 A4 n4 c4 q 0 0 0 0 0 0 0 0 A n c p (hcq.mono (Kr.of_below (by repeat first | with_reducible exact .refl .. | with_reducible assumption | refine .s ?_ ?_ | refine .m ?_ ?_ | refine .l ?_ ?_ | refine .d ?_ | refine .e ?_ | (simp <;> omega) | omega) ex)) (hx.mono (Kr.of_below (by repeat first | with_reducible exact .refl .. | with_reducible assumption | refine .s ?_ ?_ | refine .m ?_ ?_ | refine .l ?_ ?_ | refine .d ?_ | refine .e ?_ | (simp <;> omega) | omega) ex)) exps0 hp hmul hq0 hty hn (fun b hb => by have := hex b hb; simp; omega)).mono ?_; rintro e w1 ⟨A', n', c', X, D, rfl, rfl, hres⟩
  go_wp2_with fail
  go_ret
  exact RetP.mk rfl (by repeat first | with_reducible exact .refl .. | with_reducible assumption | refine .s ?_ ?_ | refine .m ?_ ?_ | refine .l ?_ ?_ | refine .d ?_ | refine .e ?_ | (simp <;> omega) | omega) hres

def subP (p q : List (Rat × List Int)) : List (Rat × List Int) := addP p (timesP (-1) mono0 q)
theorem ty_neg1 : Ty (-1 : Rat) := ⟨by decide, by decide⟩
theorem ty_one : Ty (1 : Rat) := ⟨by decide, by decide⟩
theorem Ty.neg {q : Rat} (h : Ty q) : Ty (-1 * q) := by
  have e : (-1 : Rat) * q = -q := by grind
  rw [e]
  exact ⟨by rw [Rat.neg_num, Int.natAbs_neg]; exact h.1, by rw [Rat.neg_den]; exact h.2⟩
theorem PTy.neg {p : List (Rat × List Int)} (h : PTy p) : PTy (timesP (-1) mono0 p) := by
  intro t ht
  unfold timesP at ht
  rw [if_neg (by decide)] at ht
  obtain ⟨u, hu, rfl⟩ := List.mem_map.1 ht
  exact (h u hu).neg

set_option maxHeartbeats 1000000 in
theorem r6sub_ok (w : World) (ex : List Nat) (B1 : Option Addr) (np cp : Nat) (p : List (Rat × List Int)) (B2 : Option Addr) (nq cq : Nat) (q : List (Rat × List Int)) (hx : RP w ex B1 np cp p) (hy : RP w ex B2 nq cq q)
    (htp : PTy p) (htq : PTy q) (hpq : PExps q) (hnp : np ≤ 1000000000) (hnq : nq ≤ 1000000000) (hex : ∀ b ∈ ex, b < w.heap.size) :
    Calls Tryz.prog 39 #[.slice B1 np cp, .slice B2 nq cq] w (RetP w ex (subP p q)) := by
  have HL := Lib.hid hy.len
  go_enter Tryz.func39, Tryz.ntmps39
  go_wp2_with fail
  refine (r2whole_ok _ ex (-1) (by decide) (by decide) hex).mono ?_; rintro e w1 ⟨s3, A3, n3, c3, s4, A4, n4, c4, X, D, rfl, rfl, h1⟩
  go_wp2_with fail
  refine (r6scale_ok _ ex s3 A3 n3 c3 s4 A4 n4 c4 _ B2 nq cq q h1 (hy.mono (Kr.of_below (by repeat first | with_reducible exact .refl .. | with_reducible assumption | refine .s ?_ ?_ | refine .m ?_ ?_ | refine .l ?_ ?_ | refine .d ?_ | refine .e ?_ | (simp <;> omega) | omega) ex)) hpq ty_neg1 htq hnq (fun b hb => by have := hex b hb; simp; omega)).mono ?_; rintro e w1 ⟨A', n', c', X2, D2, rfl, rfl, h2⟩
  go_wp2_with fail
  refine (r6add_ok _ ex B1 np cp p A' n' c' _ (hx.mono (Kr.of_below (by repeat first | with_reducible exact .refl .. | with_reducible assumption | refine .s ?_ ?_ | refine .m ?_ ?_ | refine .l ?_ ?_ | refine .d ?_ | refine .e ?_ | (simp <;> omega) | omega) ex)) h2 htp htq.neg hnp (by rw [h2.len, timesP_len (by decide), ← HL.out]; exact hnq) (fun b hb => by have := hex b hb; simp; omega)).mono ?_; rintro e w1 ⟨A3, n3, c3, X3, D3, rfl, rfl, h3⟩
  go_wp2_with fail
  go_ret
  exact RetP.mk rfl (by repeat first | with_reducible exact .refl .. | with_reducible assumption | refine .s ?_ ?_ | refine .m ?_ ?_ | refine .l ?_ ?_ | refine .d ?_ | refine .e ?_ | (simp <;> omega) | omega) h3

end Go.Proofs.YthhdleppkggepaaGreat

/-
  Tests that decide what the walks ask of lists that are written out.
-/
namespace Go.Proofs.YthhdleppkggepaaGreat
open Go.RowKit Go.Deep
set_option maxRecDepth 100000

def expsB (m : List Int) : Bool := m.all fun x => decide (0 ≤ x) && decide (x ≤ 65535)
theorem exps_of_b {m : List Int} (h : expsB m = true) : Exps m := by
  intro k
  by_cases hk : k < m.length
  · have := List.all_eq_true.1 h _ (List.getElem_mem hk)
    simp only [Bool.and_eq_true, decide_eq_true_eq] at this
    rw [List.getD_eq_getElem?_getD, List.getElem?_eq_getElem hk]
    exact this
  · rw [List.getD_eq_getElem?_getD, List.getElem?_eq_none (by omega)]
    show (0 : Int) ≤ 0 ∧ (0 : Int) ≤ 65535
    omega
def gpB (p : Pol) : Bool := (p.all fun t => expsB t.2 && (decide (t.1.num.natAbs < 65536) && decide (t.1.den < 65536))) && decide (p.length ≤ 1000000)
theorem gp_of_b {p : Pol} (h : gpB p = true) : GP p := by
  unfold gpB at h
  rw [Bool.and_eq_true, List.all_eq_true, decide_eq_true_eq] at h
  refine ⟨fun t ht => ?_, fun t ht => ?_, h.2⟩
  · have := h.1 t ht
    rw [Bool.and_eq_true] at this
    exact exps_of_b this.1
  · have := h.1 t ht
    simp only [Bool.and_eq_true, decide_eq_true_eq] at this
    exact ⟨this.2.1, this.2.2⟩
def npB (M : Int) (p : Pol) : Bool := gpB p && (p.all fun t => !(decide (t.1 = 0)) && decide ((t.1.den : Int) ∣ M)) && gpB (normP p)
theorem np_of_b {M : Int} {p : Pol} (h : npB M p = true) : NP M p := by
  unfold npB at h
  simp only [Bool.and_eq_true, List.all_eq_true, Bool.not_eq_true', decide_eq_false_iff_not, decide_eq_true_eq] at h
  exact ⟨gp_of_b h.1.1, fun t ht => (h.1.2 t ht).1, fun t ht => (h.1.2 t ht).2, gp_of_b h.2⟩
theorem all_of {α : Type} {l : List α} {f : α → Bool} {Q : α → Prop} (hf : ∀ x, f x = true → Q x) (h : l.all f = true) : ∀ x ∈ l, Q x := fun x hx => hf x (List.all_eq_true.1 h x hx)
def sortedB (l : List Pol) : Bool := (List.range (l.length - 1)).all fun k => decide (cmpP (l.getD k []) (l.getD (k + 1) []) < 0)
def listOkB (n : Nat) (M : Int) (l : List Pol) : Bool := decide (l.length ≤ 12) && (l.all fun p => withinB p n && !p.isEmpty && decide (normP p = p) && npB M p) && sortedB l
theorem listOk_of_b {n : Nat} {M : Int} {l : List Pol} (hM : 0 < M ∧ M < 65536) (h : listOkB n M l = true) : ListOk n M l := by
  unfold listOkB at h
  rw [Bool.and_eq_true, Bool.and_eq_true, decide_eq_true_eq] at h
  refine ⟨h.1.1, hM, fun p hp => ?_, fun k hk => ?_⟩
  · have := List.all_eq_true.1 h.1.2 p hp
    simp only [Bool.and_eq_true, decide_eq_true_eq, Bool.not_eq_true'] at this
    exact ⟨this.1.1.1, by intro e; rw [e] at this; simp at this, this.1.2, np_of_b this.2⟩
  · have := List.all_eq_true.1 h.2 k (by simp; omega)
    rw [decide_eq_true_eq, List.getD_eq_getElem?_getD, List.getD_eq_getElem?_getD, List.getElem?_eq_getElem (by omega), List.getElem?_eq_getElem hk] at this
    exact this
def permOkB (n : Nat) (M : Int) (perm : List Nat) (l1 l2 : List Pol) : Bool :=
  (l1.all fun p => validB p && gpB p) && (l2.all fun p => validB p && gpB p) && ((permL perm l1).all fun p => withinB p n && gpB p) && ((permL perm l2).all fun p => withinB p n && gpB p) &&
  (yesL (permL perm l1) (permL perm l2)).all (npB M) && (noL (permL perm l2)).all (npB M) && decide (l1.length ≤ 100000) && decide (l2.length ≤ 100000) && decide ((tidyP (yesL (permL perm l1) (permL perm l2))).length ≤ 12) && decide ((tidyP (noL (permL perm l2))).length ≤ 12)
theorem permOk_of_b {n : Nat} {M : Int} {perm : List Nat} {l1 l2 : List Pol} (h : permOkB n M perm l1 l2 = true) : PermOk n M perm l1 l2 := by
  unfold permOkB at h
  simp only [Bool.and_eq_true, decide_eq_true_eq] at h
  obtain ⟨⟨⟨⟨⟨⟨⟨⟨⟨a1, a2⟩, a3⟩, a4⟩, a5⟩, a6⟩, a7⟩, a8⟩, a9⟩, a10⟩ := h
  have f1 : ∀ p : Pol, (validB p && gpB p) = true → validB p = true ∧ GP p := fun p h => by rw [Bool.and_eq_true] at h; exact ⟨h.1, gp_of_b h.2⟩
  have f2 : ∀ p : Pol, (withinB p n && gpB p) = true → withinB p n = true ∧ GP p := fun p h => by rw [Bool.and_eq_true] at h; exact ⟨h.1, gp_of_b h.2⟩
  exact ⟨all_of f1 a1, all_of f1 a2, all_of f2 a3, all_of f2 a4, all_of (fun _ => np_of_b) a5, all_of (fun _ => np_of_b) a6, a7, a8, by omega⟩
def canOkB (N : Nat) (M : Int) (l1 l2 : List Pol) (π : List Nat) : Bool :=
  permOkB N M π l1 l2 && listOkB N M (canT1 l1 l2 π) && listOkB N M (canT2 l2 π) && ((canT2 l2 π).all fun p => !(decide (pdeg p = 0))) && decide ((coreB N (canT1 l1 l2 π) (canT2 l2 π)).length ≤ 10000000000)
theorem canOk_of_b {N : Nat} {M : Int} {l1 l2 : List Pol} {π : List Nat} (hM : 0 < M ∧ M < 65536) (h : canOkB N M l1 l2 π = true) : CanOk N M l1 l2 π := by
  unfold canOkB at h
  simp only [Bool.and_eq_true, decide_eq_true_eq] at h
  obtain ⟨⟨⟨⟨a1, a2⟩, a3⟩, a4⟩, a5⟩ := h
  exact ⟨permOk_of_b a1, listOk_of_b hM a2, listOk_of_b hM a3, all_of (fun p h => by simpa using h) a4, a5⟩
/-- The permutations of two variables. -/
theorem two_perms {π : List Nat} (hp : Perm8 π) (hf : ∀ k, 2 ≤ k → k < 8 → π[k]? = some k) : π = id8 ∨ π = [1, 0, 2, 3, 4, 5, 6, 7] := by
  have hl := hp.len
  match π, hl with
  | [a, b, c, d, e, f, g, h], _ =>
    have h2 := hf 2 (by omega) (by omega)
    have h3 := hf 3 (by omega) (by omega)
    have h4 := hf 4 (by omega) (by omega)
    have h5 := hf 5 (by omega) (by omega)
    have h6 := hf 6 (by omega) (by omega)
    have h7 := hf 7 (by omega) (by omega)
    simp only [List.getElem?_cons_succ, List.getElem?_cons_zero, Option.some.injEq] at h2 h3 h4 h5 h6 h7
    subst h2 h3 h4 h5 h6 h7
    have hn := hp.nodup
    have ha := hp.lt a (by simp)
    have hb := hp.lt b (by simp)
    simp only [List.nodup_cons, List.mem_cons, not_or] at hn
    have : (a = 0 ∧ b = 1) ∨ (a = 1 ∧ b = 0) := by omega
    rcases this with ⟨rfl, rfl⟩ | ⟨rfl, rfl⟩
    · exact .inl rfl
    · exact .inr rfl

/-! ### lists of polynomials in a block -/
theorem rl1 {w : World} {ex : List Nat} {g : Nat} {A : Option Addr} {n c : Nat} {p : Pol} (hg : g ∉ ex) (hl : g < w.heap.size) (h0 : w.cell? ⟨g, 0, none⟩ = some (.slice A n c)) (r0 : RP w ex A n c p) : RL poE w ex (some ⟨g, 0, none⟩) 1 1 [p] :=
  ⟨rfl, Nat.le_refl _, fun _ => ⟨g, 0, rfl, hg, hl, fun i hi => by
    obtain rfl : i = 0 := by simpa using hi
    exact ⟨[.slice A n c], ⟨A, n, c, rfl, r0⟩, fun j u hu => by match j, hu with | 0, hu => cases hu; exact h0⟩⟩⟩
theorem rl2 {w : World} {ex : List Nat} {g : Nat} {A : Option Addr} {n c : Nat} {p : Pol} {A' : Option Addr} {n' c' : Nat} {p' : Pol} (hg : g ∉ ex) (hl : g < w.heap.size) (h0 : w.cell? ⟨g, 0, none⟩ = some (.slice A n c)) (r0 : RP w ex A n c p) (h1 : w.cell? ⟨g, 1, none⟩ = some (.slice A' n' c')) (r1 : RP w ex A' n' c' p') : RL poE w ex (some ⟨g, 0, none⟩) 2 2 [p, p'] :=
  ⟨rfl, Nat.le_refl _, fun _ => ⟨g, 0, rfl, hg, hl, fun i hi => by
    match i, hi with
    | 0, _ => exact ⟨[.slice A n c], ⟨A, n, c, rfl, r0⟩, fun j u hu => by match j, hu with | 0, hu => cases hu; exact h0⟩
    | 1, _ => exact ⟨[.slice A' n' c'], ⟨A', n', c', rfl, r1⟩, fun j u hu => by match j, hu with | 0, hu => cases hu; exact h1⟩⟩⟩
theorem rl3 {w : World} {ex : List Nat} {g : Nat} {A : Option Addr} {n c : Nat} {p : Pol} {A' : Option Addr} {n' c' : Nat} {p' : Pol} {A2 : Option Addr} {n2 c2 : Nat} {p2 : Pol} (hg : g ∉ ex) (hl : g < w.heap.size) (h0 : w.cell? ⟨g, 0, none⟩ = some (.slice A n c)) (r0 : RP w ex A n c p) (h1 : w.cell? ⟨g, 1, none⟩ = some (.slice A' n' c')) (r1 : RP w ex A' n' c' p') (h2 : w.cell? ⟨g, 2, none⟩ = some (.slice A2 n2 c2)) (r2 : RP w ex A2 n2 c2 p2) : RL poE w ex (some ⟨g, 0, none⟩) 3 3 [p, p', p2] :=
  ⟨rfl, Nat.le_refl _, fun _ => ⟨g, 0, rfl, hg, hl, fun i hi => by
    match i, hi with
    | 0, _ => exact ⟨[.slice A n c], ⟨A, n, c, rfl, r0⟩, fun j u hu => by match j, hu with | 0, hu => cases hu; exact h0⟩
    | 1, _ => exact ⟨[.slice A' n' c'], ⟨A', n', c', rfl, r1⟩, fun j u hu => by match j, hu with | 0, hu => cases hu; exact h1⟩
    | 2, _ => exact ⟨[.slice A2 n2 c2], ⟨A2, n2, c2, rfl, r2⟩, fun j u hu => by match j, hu with | 0, hu => cases hu; exact h2⟩⟩⟩

end Go.Proofs.YthhdleppkggepaaGreat

/-
  The walk of the law's examples: the calls' contracts with tests that decide.
-/
namespace Go.Proofs.YthhdleppkggepaaGreat
open Go.RowKit Go.Deep
set_option maxRecDepth 100000

theorem xterm_ok (w : World) (c a b : Int) (a' b' : Nat) (ha : a = a') (hb : b = b') (h : (decide (-65536 < c) && decide (c < 65536) && decide (a' ≤ 65535) && decide (b' ≤ 65535)) = true) :
    Calls Tryz.prog 40 #[.int .i64 c, .int .i64 a, .int .i64 b] w (RetP w [] (termP c a' b')) := by
  simp only [Bool.and_eq_true, decide_eq_true_eq] at h
  subst ha hb
  exact term_ok w [] c a' b' h.1.1.1 h.1.1.2 h.1.2 h.2 (by simp)
theorem len_of {w : World} {ex : List Nat} {A : Option Addr} {n c : Nat} {p : Pol} (h : RP w ex A n c p) (hp : gpB p = true) : n ≤ 1000000000 := by
  rw [h.len]; have := (gp_of_b hp).len; omega
theorem xsub_ok (w : World) (B1 : Option Addr) (np cp : Nat) (p : Pol) (B2 : Option Addr) (nq cq : Nat) (q : Pol) (hx : RP w [] B1 np cp p) (hy : RP w [] B2 nq cq q) (hp : gpB p = true) (hq : gpB q = true) :
    Calls Tryz.prog 39 #[.slice B1 np cp, .slice B2 nq cq] w (RetP w [] (subP p q)) :=
  r6sub_ok w [] B1 np cp p B2 nq cq q hx hy (gp_of_b hp).ty (gp_of_b hq).ty (gp_of_b hq).exps (len_of hx hp) (len_of hy hq) (by simp)
theorem xadd_ok (w : World) (B1 : Option Addr) (np cp : Nat) (p : Pol) (B2 : Option Addr) (nq cq : Nat) (q : Pol) (hx : RP w [] B1 np cp p) (hy : RP w [] B2 nq cq q) (hp : gpB p = true) (hq : gpB q = true) :
    Calls Tryz.prog 41 #[.slice B1 np cp, .slice B2 nq cq] w (RetP w [] (addP p q)) :=
  r6add_ok w [] B1 np cp p B2 nq cq q hx hy (gp_of_b hp).ty (gp_of_b hq).ty (len_of hx hp) (len_of hy hq) (by simp)
def normB (n : Nat) (eqs neqs : List Pol) : Bool :=
  decide (1 ≤ n) && decide (n ≤ 4) && eqs.all gpB && neqs.all gpB && (eqs.all fun p => withinB p n) && (neqs.all fun p => withinB p n) && (yesL eqs neqs).all (npB 1) && (noL neqs).all (npB 1) && decide (eqs.length ≤ 100000) && decide (neqs.length ≤ 100000) &&
  decide ((tidyP (yesL eqs neqs)).length ≤ 12) && decide ((tidyP (noL neqs)).length ≤ 12)
theorem xnormal_ok (w : World) (n : Nat) (A1 : Option Addr) (n1 c1 : Nat) (eqs : List Pol) (A2 : Option Addr) (n2 c2 : Nat) (neqs : List Pol) (hx : RL poE w [] A1 n1 c1 eqs) (hy : RL poE w [] A2 n2 c2 neqs) (h : normB n eqs neqs = true) (z : Int) (hz : z = n) :
    Calls Tryz.prog 12 #[.int .i64 z, .slice A1 n1 c1, .slice A2 n2 c2] w (RetC w [] n (tidyP (yesL eqs neqs)) (tidyP (noL neqs)) 0) := by
  unfold normB at h
  simp only [Bool.and_eq_true, decide_eq_true_eq] at h
  obtain ⟨⟨⟨⟨⟨⟨⟨⟨⟨⟨⟨a1, a2⟩, a3⟩, a4⟩, a5⟩, a6⟩, a7⟩, a8⟩, a9⟩, a10⟩, a11⟩, a12⟩ := h
  subst hz
  refine (normal_ok w [] n A1 n1 c1 eqs A2 n2 c2 neqs hx hy a1 a2 (all_of (fun _ => gp_of_b) a3) (all_of (fun _ => gp_of_b) a4) (fun p hp => List.all_eq_true.1 a5 p hp) (fun p hp => List.all_eq_true.1 a6 p hp) 1 (by omega) (by omega) (all_of (fun _ => np_of_b) a7) (all_of (fun _ => np_of_b) a8) (by rw [hx.len]; exact a9) (by rw [hy.len]; exact a10) (by simp)).mono ?_
  intro e w' hr
  unfold RetN at hr
  rwa [if_neg (by omega)] at hr
theorem xsame_ok (w : World) (N : Nat) (A1 : Option Addr) (n1 c1 : Nat) (A2 : Option Addr) (n2 c2 : Nat) (l1 l2 : List Pol) (A3 : Option Addr) (n3 c3 : Nat) (A4 : Option Addr) (n4 c4 : Nat) (l3 l4 : List Pol)
    (h1 : RL poE w [] A1 n1 c1 l1) (h2 : RL poE w [] A2 n2 c2 l2) (h3 : RL poE w [] A3 n3 c3 l3) (h4 : RL poE w [] A4 n4 c4 l4)
    (h : (l1.all gpB && l2.all gpB && l3.all gpB && l4.all gpB && decide (N < 1000) && decide (l1.length ≤ 1000) && decide (l2.length ≤ 1000) && decide (l3.length ≤ 1000) && decide (l4.length ≤ 1000) && decide ((coreB N l1 l2).length ≤ 10000000000) && decide ((coreB N l3 l4).length ≤ 10000000000)) = true) (z : Int) (hz : z = N) (z' : Int) (hz' : z' = N)
    (heq : ((strB (coreB N l1 l2)).toList == (strB (coreB N l3 l4)).toList) = true) :
    Calls Tryz.prog 20 #[.agg #[.int .i64 z, .slice A1 n1 c1, .slice A2 n2 c2], .agg #[.int .i64 z', .slice A3 n3 c3, .slice A4 n4 c4]] w (RetB w true) := by
  simp only [Bool.and_eq_true, decide_eq_true_eq] at h
  obtain ⟨⟨⟨⟨⟨⟨⟨⟨⟨⟨a1, a2⟩, a3⟩, a4⟩, a5⟩, a6⟩, a7⟩, a8⟩, a9⟩, a10⟩, a11⟩ := h
  subst hz hz'
  have := samecore_ok w [] N A1 n1 c1 A2 n2 c2 l1 l2 N A3 n3 c3 A4 n4 c4 l3 l4 h1 h2 h3 h4 (all_of (fun _ => gp_of_b) a1) (all_of (fun _ => gp_of_b) a2) (all_of (fun _ => gp_of_b) a3) (all_of (fun _ => gp_of_b) a4) (by omega) (by omega) (by rw [h1.len]; omega) (by rw [h2.len]; omega) (by rw [h3.len]; omega) (by rw [h4.len]; omega) a10 a11
  rwa [heq] at this
theorem xcanon_ok (w : World) (A1 : Option Addr) (n1 c1 : Nat) (l1 : List Pol) (A2 : Option Addr) (n2 c2 : Nat) (l2 : List Pol) (hx : RL poE w [] A1 n1 c1 l1) (hy : RL poE w [] A2 n2 c2 l2) (h1 : canOkB 2 1 l1 l2 id8 = true) (h2 : canOkB 2 1 l1 l2 [1, 0, 2, 3, 4, 5, 6, 7] = true) (q1 q2 : List Pol) (τ : List Nat) (hres : canonS 2 l1 l2 = some (q1, q2, τ)) (z : Int) (hz : z = (2 : Nat)) :
    Calls Tryz.prog 18 #[.agg #[.int .i64 z, .slice A1 n1 c1, .slice A2 n2 c2]] w (RetCn w [] 2 q1 q2 τ) := by
  subst hz
  refine canon_ok w [] 2 A1 n1 c1 l1 A2 n2 c2 l2 hx hy (by omega) (by omega) 1 (by omega) (by omega) (fun π hp hf => ?_) q1 q2 τ hres (by simp)
  rcases two_perms hp hf with rfl | rfl
  · exact canOk_of_b ⟨by omega, by omega⟩ h1
  · exact canOk_of_b ⟨by omega, by omega⟩ h2
theorem xodd_ok (w : World) (n : Nat) (A1 : Option Addr) (n1 c1 : Nat) (eqs : List Pol) (hx : RL poE w [] A1 n1 c1 eqs) (h : (decide (1 ≤ n) && decide (n ≤ 4) && eqs.all gpB && eqs.any (fun p => !withinB p n) && decide (eqs.length ≤ 100000)) = true) (z : Int) (hz : z = n) :
    Calls Tryz.prog 12 #[.int .i64 z, .slice A1 n1 c1, .slice none 0 0] w (RetC w [] 0 [] [] 1) := by
  simp only [Bool.and_eq_true, decide_eq_true_eq] at h
  obtain ⟨⟨⟨⟨a1, a2⟩, a3⟩, a4⟩, a5⟩ := h
  subst hz
  exact normal_odd w [] n A1 n1 c1 eqs none 0 0 [] hx (RL.nil _ _ _ _) a1 a2 (all_of (fun _ => gp_of_b) a3) (by simp) (by rw [a4]; rfl) (by rw [hx.len]; exact a5) (by omega)

theorem xvalid1_ok (w : World) : Calls Tryz.prog 28 #[.agg #[.slice none 0 0, .slice none 0 0, .slice none 0 0, .int .i64 1]] w (RetB w true) := by
  have := valid_vars w [] none 0 0 [] rfl (Nat.le_refl _) (by omega) (by simp) (Row.nil _ _ _)
  rwa [varsB_true ⟨by simp, List.nodup_nil⟩] at this

end Go.Proofs.YthhdleppkggepaaGreat
