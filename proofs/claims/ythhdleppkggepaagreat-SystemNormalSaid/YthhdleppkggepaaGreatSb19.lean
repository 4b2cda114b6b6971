/-
  Plain laws of sorted lists of polynomials without repetitions.
-/
import Derived.Shelf.SlSortCmp.NoneTotal
import Derived.Laws.IdiomStrings
import Derived.Test.YthhdleppkggepaaGreatSb15
import Derived.Test.YthhdleppkggepaaGreatSb17
import Derived.Test.YthhdleppkggepaaGreatSb18

set_option linter.unusedSimpArgs false
set_option linter.unusedVariables false
set_option linter.unusedSectionVars false

namespace Go.Proofs.YthhdleppkggepaaGreat

def StrictP (l : List Pol) : Prop := l.Pairwise (fun p q => cmpP p q < 0)
theorem cmpP_asymm {p q : Pol} (h1 : cmpP p q < 0) (h2 : cmpP q p < 0) : False := by rw [cmpP_swap] at h2; omega
theorem cmpP_irrefl {p : Pol} (h : cmpP p p < 0) : False := by rw [cmpP_self] at h; omega
theorem strict_ext : ∀ {a b : List Pol}, StrictP a → StrictP b → (∀ x, x ∈ a ↔ x ∈ b) → a = b
  | [], [], _, _, _ => rfl
  | [], y :: b, _, _, h => by have := (h y).2 List.mem_cons_self; cases this
  | x :: a, [], _, _, h => by have := (h x).1 List.mem_cons_self; cases this
  | x :: a, y :: b, ha, hb, h => by
    obtain ⟨a1, a2⟩ := List.pairwise_cons.1 ha
    obtain ⟨b1, b2⟩ := List.pairwise_cons.1 hb
    have hxy : x = y := by
      rcases List.mem_cons.1 ((h x).1 List.mem_cons_self) with e | e
      · exact e
      · rcases List.mem_cons.1 ((h y).2 List.mem_cons_self) with e2 | e2
        · exact e2.symm
        · exact (cmpP_asymm (b1 x e) (a1 y e2)).elim
    subst hxy
    rw [strict_ext a2 b2 (fun z => ?_)]
    constructor
    · intro hz
      rcases List.mem_cons.1 ((h z).1 (List.mem_cons_of_mem _ hz)) with e | e
      · subst e; exact (cmpP_irrefl (a1 _ hz)).elim
      · exact e
    · intro hz
      rcases List.mem_cons.1 ((h z).2 (List.mem_cons_of_mem _ hz)) with e | e
      · subst e; exact (cmpP_irrefl (b1 _ hz)).elim
      · exact e

/-! ### taking out equal neighbours -/
theorem mem_compK {l : List Pol} (h8 : ∀ p ∈ l, Len8 p) : ∀ j, j ≤ l.length → ∀ x, x ∈ compK l j ↔ x ∈ l.take j
  | 0, _, x => by simp [compK]
  | j + 1, hj, x => by
    have ih := mem_compK h8 j (by omega)
    have hjl : j < l.length := by omega
    rw [compK, List.take_succ_eq_append_getElem hjl, getD_at hjl]
    split
    · rename_i hc
      obtain ⟨h0, hc⟩ := hc
      have hj1 : j - 1 < l.length := by omega
      rw [getD_at hj1] at hc
      have he := cmpP_zero (h8 _ (List.getElem_mem hjl)) (h8 _ (List.getElem_mem hj1)) hc
      rw [ih x, List.mem_append]
      constructor
      · exact Or.inl
      · rintro (h | h)
        · exact h
        · rw [List.mem_singleton.1 h, he]
          exact List.mem_take_iff_getElem.2 ⟨j - 1, by omega, rfl⟩
    · rw [List.mem_append, List.mem_append, ih x]
theorem strict_compK {l : List Pol} (h8 : ∀ p ∈ l, Len8 p) (hs : l.Pairwise (fun p q => ¬ cmpP q p < 0)) : ∀ j, j ≤ l.length → StrictP (compK l j)
  | 0, _ => List.Pairwise.nil
  | j + 1, hj => by
    have ih := strict_compK h8 hs j (by omega)
    have hjl : j < l.length := by omega
    rw [compK, getD_at hjl]
    split
    · exact ih
    · rename_i hc
      refine List.pairwise_append.2 ⟨ih, List.pairwise_singleton _ _, fun x hx y hy => ?_⟩
      rw [List.mem_singleton.1 hy]
      obtain ⟨i, hi, rfl⟩ := List.mem_take_iff_getElem.1 ((mem_compK h8 j (by omega) x).1 hx)
      have hij : i < j := by omega
      have hil : i < l.length := by omega
      have h1 := List.pairwise_iff_getElem.1 hs i j hil hjl hij
      rcases cmpP_cases l[i] l[j] with e | e | e
      · omega
      · exfalso
        have he := cmpP_zero (h8 _ (List.getElem_mem hil)) (h8 _ (List.getElem_mem hjl)) e
        have hj1 : j - 1 < l.length := by omega
        have h2 := List.pairwise_iff_getElem.1 hs (j - 1) j hj1 hjl (by omega)
        apply hc
        refine ⟨by omega, ?_⟩
        rw [getD_at hj1]
        rcases Nat.lt_or_ge i (j - 1) with hlt | hge
        · have h3 := List.pairwise_iff_getElem.1 hs i (j - 1) hil hj1 hlt
          rw [he] at h3
          rw [cmpP_swap] at h2
          rw [cmpP_swap] at h3
          have := cmpP_swap l[j - 1] l[j]
          omega
        · have : i = j - 1 := by omega
          subst this
          rw [cmpP_swap, e]; rfl
      · rw [cmpP_swap, e] at h1; omega

/-! ### insertion -/
def insP (p : Pol) : List Pol → List Pol
  | [] => [p]
  | q :: r => if cmpP q p < 0 then q :: insP p r else if cmpP q p = 0 then q :: r else p :: q :: r
theorem mem_insP {p : Pol} (hp : Len8 p) : ∀ {l : List Pol}, (∀ q ∈ l, Len8 q) → ∀ x, x ∈ insP p l ↔ x = p ∨ x ∈ l
  | [], _, x => by simp [insP]
  | q :: r, h8, x => by
    have ih := mem_insP hp (l := r) (fun z hz => h8 z (List.mem_cons_of_mem _ hz)) x
    unfold insP
    split
    · rw [List.mem_cons, ih, List.mem_cons]
      constructor
      · rintro (h | h | h)
        · exact .inr (.inl h)
        · exact .inl h
        · exact .inr (.inr h)
      · rintro (h | h | h)
        · exact .inr (.inl h)
        · exact .inl h
        · exact .inr (.inr h)
    · split
      · rename_i _ h0
        have he := cmpP_zero (h8 q List.mem_cons_self) hp h0
        rw [← he]
        constructor
        · exact .inr
        · rintro (h | h)
          · rw [h]; exact List.mem_cons_self
          · exact h
      · rw [List.mem_cons]
theorem strict_insP {p : Pol} (hp : Len8 p) : ∀ {l : List Pol}, (∀ q ∈ l, Len8 q) → StrictP l → StrictP (insP p l)
  | [], _, _ => List.pairwise_singleton _ _
  | q :: r, h8, hs => by
    have h8r : ∀ z ∈ r, Len8 z := fun z hz => h8 z (List.mem_cons_of_mem _ hz)
    obtain ⟨h1, h2⟩ := List.pairwise_cons.1 hs
    unfold insP
    split
    · rename_i hlt
      refine List.pairwise_cons.2 ⟨fun z hz => ?_, strict_insP hp h8r h2⟩
      rcases (mem_insP hp h8r z).1 hz with e | e
      · rw [e]; exact hlt
      · exact h1 z e
    · split
      · exact hs
      · rename_i hn h0
        have hpq : cmpP p q < 0 := by rw [cmpP_swap]; rcases cmpP_cases q p with e | e | e <;> omega
        refine List.pairwise_cons.2 ⟨fun z hz => ?_, hs⟩
        rcases List.mem_cons.1 hz with e | e
        · rw [e]; exact hpq
        · exact cmpP_trans hp (h8 q List.mem_cons_self) (h8r z e) hpq (h1 z e)
/-- A list sorted, without repetitions. -/
def sortD (m : List Pol) : List Pol := m.foldl (fun out p => insP p out) []
theorem sortD_aux (m : List Pol) (h8 : ∀ p ∈ m, Len8 p) : ∀ (out : List Pol), (∀ p ∈ out, Len8 p) → StrictP out →
    (∀ p ∈ m.foldl (fun out p => insP p out) out, Len8 p) ∧ StrictP (m.foldl (fun out p => insP p out) out) ∧ ∀ x, x ∈ m.foldl (fun out p => insP p out) out ↔ x ∈ m ∨ x ∈ out := by
  induction m with
  | nil => intro out h1 h2; exact ⟨h1, h2, fun x => by simp⟩
  | cons p r ih =>
    intro out h1 h2
    have hp := h8 p List.mem_cons_self
    have hm := mem_insP hp h1
    obtain ⟨a, b, c⟩ := ih (fun z hz => h8 z (List.mem_cons_of_mem _ hz)) (insP p out) (fun z hz => by
      rcases (hm z).1 hz with e | e
      · rw [e]; exact hp
      · exact h1 z e) (strict_insP hp h1 h2)
    refine ⟨a, b, fun x => ?_⟩
    rw [List.foldl_cons, c x, hm x, List.mem_cons]
    constructor
    · rintro (h | h | h)
      · exact .inl (.inr h)
      · exact .inl (.inl h)
      · exact .inr h
    · rintro ((h | h) | h)
      · exact .inr (.inl h)
      · exact .inl h
      · exact .inr (.inr h)
theorem mem_sortD {m : List Pol} (h8 : ∀ p ∈ m, Len8 p) (x : Pol) : x ∈ sortD m ↔ x ∈ m := by
  have := (sortD_aux m h8 [] (by simp) List.Pairwise.nil).2.2 x
  unfold sortD
  simpa using this
theorem strict_sortD {m : List Pol} (h8 : ∀ p ∈ m, Len8 p) : StrictP (sortD m) := (sortD_aux m h8 [] (by simp) List.Pairwise.nil).2.1
/-- Sorting and taking out equal neighbours gives the same list. -/
theorem compact_sortD {l m : List Pol} (h8 : ∀ p ∈ m, Len8 p) (hp : l.Perm m) (hs : l.Pairwise (fun p q => ¬ cmpP q p < 0)) : compactP l = sortD m := by
  have h8' : ∀ p ∈ l, Len8 p := fun p hpl => h8 p (hp.mem_iff.1 hpl)
  refine strict_ext (strict_compK h8' hs _ (Nat.le_refl _)) (strict_sortD h8) (fun x => ?_)
  have := mem_compK h8' l.length (Nat.le_refl _) x
  rw [List.take_length] at this
  unfold compactP
  rw [this, mem_sortD h8, hp.mem_iff]

end Go.Proofs.YthhdleppkggepaaGreat

/-
  The walk of system.tidy: normal multiples, sorted, without repetitions.
-/
namespace Go.Proofs.YthhdleppkggepaaGreat
open Go.RowKit Go.Deep
set_option maxRecDepth 100000

def tidyP (l : List Pol) : List Pol := sortD (l.map normP)
/-- What mgcd.Normal asks. -/
structure NP (M : Int) (p : Pol) : Prop where
  gp : GP p
  nz : ∀ t ∈ p, t.1 ≠ 0
  dv : ∀ t ∈ p, (t.1.den : Int) ∣ M
  res : GP (normP p)
theorem sortP_nil (p : Option Addr) (cap : Nat) (w : World) : Calls Tryz.prog 96 #[.slice p 0 cap, .func (Fn.func 97) #[] #[]] w fun e w' => e = .returned (.tuple #[]) ∧ w' = w := by
  have L := Tryz.sortP
  exact AnyF.slices_SortFunc_none (P := Tryz.prog) (ρ := Tryz.sortP_ren) { L with } p cap _ w
set_option maxHeartbeats 400000 in
theorem compact_nil (p : Option Addr) (cap : Nat) (w : World) : Calls Tryz.prog 98 #[.slice p 0 cap, .func (Fn.func 80) #[] #[]] w fun e w' => e = .returned (.slice p 0 cap) ∧ w' = w := by
  go_enter Tryz.func98, Tryz.ntmps98
  go_wp2_with fail
  go_ret
  exact ⟨rfl, rfl⟩
/-- An own slice of polynomials as a row that may be written. -/
theorem OwnL.prow {w : World} {base : Nat} {ex : List Nat} {g n c : Nat} {l : List Pol} (h : OwnL poE w base ex (.slice (some ⟨g, 0, none⟩) n c) l) : PRow w ex g l := by
  obtain ⟨cs, h1, h2⟩ := h
  intro k hk
  obtain ⟨vs, ⟨A, m, c', rfl, hp⟩, hc⟩ := h2.get k hk
  have hcell := h1.cells (g := g) rfl (k * 1 + 0) _ (hc 0 _ rfl)
  rw [Addr.add_lit] at hcell
  have hn : n = l.length := by
    obtain ⟨A', c'', e, _⟩ := own_form h1
    injection e
  refine ⟨A, m, c', by simpa using hcell, ?_, hp⟩
  have := World.ownsRow.frozenAt (g := g) (n := l.length) (cap := c) (by rw [← hn]; rw [hn] at h1; rw [hn]; exact h1) k
  exact this

set_option maxHeartbeats 4000000 in
theorem tidy_ok (w : World) (ex : List Nat) (A : Option Addr) (n c : Nat) (l : List Pol) (hx : RL poE w ex A n c l) (M : Int) (hM : 0 < M) (hM2 : M < 65536) (hp : ∀ p ∈ l, NP M p) (hn : n ≤ 1000000) (hex : ∀ b ∈ ex, b < w.heap.size) :
    Calls Tryz.prog 49 #[.slice A n c] w (RetL poE w ex (tidyP l)) := by
  have HL := Lib.hid hx.len
  have hcap := hx.cap
  have HX := Lib.hid hx
  have HP := Lib.hid hp
  clear hp hx
  go_enter Tryz.func49, Tryz.ntmps49
  go_wp2_with fail
  go_loopw [3, 8] (fun v i wr => ∃ k : Nat, k ≤ n ∧ i = .int .i64 k ∧ OwnL poE wr w.heap.size ex v ((l.map normP).take k) ∧ Below w.heap.size w wr) (fun _ i _ => n - (intOf i).toNat)
  case atStart => exact ⟨0, Nat.zero_le _, rfl, OwnL.nil _ _ _, Below.refl _ _⟩
  case round =>
    obtain ⟨k, hk, rfl, hown, hb⟩ := hrel
    have hsz := hb.size
    have hvle := hown.le
    have hlen : ((l.map normP).take k).length = k := by rw [List.length_take, List.length_map, ← HL.out]; omega
    obtain ⟨vA, vc, rfl, hvc⟩ := hown.form hlen
    by_cases hlt : k < n
    · have hxw := HX.out.mono (Kr.fresh (l := own (.slice vA k vc)) hb (fun b hb => (hvle b hb).1))
      have hkl : k < l.length := by rw [← HL.out]; exact hlt
      obtain ⟨b, o, rfl, hbx, hbl⟩ := hxw.some_ (by omega)
      obtain ⟨A1, m1, c1, hcell, hp1⟩ := hxw.poly hkl
      have hnp := HP.out _ (List.getElem_mem hkl)
      have HN : Hid ((l.map normP).take (k + 1) = (l.map normP).take k ++ [normP l[k]]) := Lib.hid (by rw [List.take_succ_eq_append_getElem (by simpa using hkl)]; simp)
      generalize hPt : (l.map normP).take k = P at *
      have HPt := Lib.hid hPt; clear hPt
      have hm1 : m1 ≤ 1000000000 := by rw [hp1.len]; have := hnp.gp.len; omega
      have hi1 : (k : Int) < (n : Int) := by omega
      clear hxw
      go_wp2_with fail
      refine (mnormal_ok _ (own (.slice vA k vc) ++ ex) A1 m1 c1 l[k] hp1 hnp.gp.exps hnp.gp.ty hnp.nz M hM hM2 hnp.dv hm1 (hexs hex hsz (fun b hb => (hvle b hb).2))).mono ?_; rintro e w1 ⟨A2, m2, c2, X1, D1, rfl, rfl, h2⟩
      go_wp2_with (at_builtin; refine wpList_append_elt poE _ rfl _ _ 25 rfl Tryz.underlying25 w.heap.size ex (.slice vA k vc) P rfl (hown.keep (by repeat first | with_reducible exact .refl .. | with_reducible assumption | refine .s ?_ ?_ | refine .m ?_ ?_ | refine .l ?_ ?_ | refine .d ?_ | refine .e ?_ | (simp <;> omega) | omega)) _ _ rfl (normP l[k]) [.slice A2 m2 c2] (cell_new _ _ _ _ (by simp)) (by intro hh; rcases List.mem_append.1 hh with hh | hh; (have := (hvle _ hh).2; omega); (have := hex _ hh; omega)) ⟨A2, m2, c2, rfl, h2.mono (Kr.of_below (by repeat first | with_reducible exact .refl .. | with_reducible assumption | refine .s ?_ ?_ | refine .m ?_ ?_ | refine .l ?_ ?_ | refine .d ?_ | refine .e ?_ | (simp <;> omega) | omega) _)⟩ (by rw [hlen]; omega) (by simp; omega) ?_; intro v' w1 hown1 hkr1 hbl1; have hbx1 := hbl1 _ _ (show Below w.heap.size w _ from (by repeat first | with_reducible exact .refl .. | with_reducible assumption | refine .s ?_ ?_ | refine .m ?_ ?_ | refine .l ?_ ?_ | refine .d ?_ | refine .e ?_ | (simp <;> omega) | omega)) (Nat.le_refl _))
      go_wp2_with fail
      go_roundw
      case rel => exact ⟨k + 1, by omega, by go_num, by rw [HN.out]; exact hown1, hbx1⟩
      case measure => simp [intOf]; omega
    · obtain rfl : k = n := by omega
      rw [List.take_of_length_le (by rw [List.length_map, ← HL.out]; exact Nat.le_refl _)] at hown hlen
      clear hlt hk
      by_cases hn0 : k = 0
      · subst hn0
        have HE : Hid (tidyP l = []) := Lib.hid (by
          have : l = [] := List.eq_nil_of_length_eq_zero HL.out.symm
          subst this; rfl)
        go_wp2_with fail
        refine (sortP_nil _ _ _).mono ?_; rintro e w1 ⟨rfl, rfl⟩
        go_wp2_with fail
        refine (compact_nil _ _ _).mono ?_; rintro e w1 ⟨rfl, rfl⟩
        go_wp2_with fail
        go_ret
        rw [HE.out]
        exact RetL.mk rfl hb (RL.nil _ _ _ _)
      · obtain ⟨cs, hcs, _⟩ := id hown
        obtain ⟨g, cap, e, hg1, hg2⟩ := hcs.form (by omega)
        injection e with e1 e2 e3
        subst e1
        clear e2 e3 hcs
        have hrow := hown.prow
        have hgp : ∀ p ∈ l.map normP, GP p := by
          intro p hp
          obtain ⟨q, hq, rfl⟩ := List.mem_map.1 hp
          exact (HP.out q hq).res
        have hs := sortP_ok wr ex g vc (l.map normP) hrow hgp hg2 (by omega)
        rw [hlen] at hs
        have HS := Lib.hid hs
        clear hs
        go_wp2_with fail
        refine HS.out.mono ?_; rintro e w1 ⟨rfl, l', hperm, hsort, hgr, hdr, hrow2⟩
        have hlen2 : l'.length = k := by rw [hperm.length_eq]; exact hlen
        have hgp2 : ∀ p ∈ l', GP p := fun p hp => hgp p (hperm.mem_iff.1 hp)
        have h8 : ∀ p ∈ l.map normP, Len8 p := by
          intro p hp
          obtain ⟨i, hi, rfl⟩ := List.getElem_of_mem hp
          obtain ⟨_, _, _, _, _, hrp⟩ := hrow i hi
          exact hrp.len8
        have hc2 := compact_ok w1 ex g vc l' hrow2 hgp2 (by omega) (by omega)
        rw [hlen2] at hc2
        have hsort' : l'.Pairwise (fun p q => ¬ cmpP q p < 0) := hsort.imp (fun hh => by omega)
        have HE := Lib.hid (compact_sortD h8 hperm hsort')
        clear hsort hsort'
        clear hrow hown h8 hgp
        go_wp2_with fail
        refine hc2.mono ?_; rintro e w2 ⟨rfl, hbut, hrow3⟩
        go_wp2_with fail
        go_ret
        have hb2 : Below w.heap.size w w2 := (hb.grown hgr hdr hsz (fun j hj => by cases hj; omega)).grown hbut.low hbut.draws (Nat.le_trans hsz hgr.size) (fun j hj => by cases hj; omega)
        refine RetL.mk rfl hb2 ?_
        show RL poE w2 ex _ _ _ (sortD (l.map normP))
        rw [← HE.out]
        refine ⟨rfl, ?_, fun h0 => ⟨g, 0, rfl, fun hh => by have := hex _ hh; omega, Nat.lt_of_lt_of_le hg2 (Nat.le_trans hgr.size hbut.low.size), fun i hi => ?_⟩⟩
        · have := compK_len l' l'.length; unfold compactP; omega
        · obtain ⟨A3, m3, c3, h1, h2, h3⟩ := hrow3 i hi
          refine ⟨[.slice A3 m3 c3], ⟨A3, m3, c3, rfl, h3.mono ((Kr.refl _ _).sub (by intro b hb; simp [hb]))⟩, fun j u hu => ?_⟩
          match j, hu with
          | 0, hu => cases hu; show w2.cell? ⟨g, 0 + i * 1 + 0, none⟩ = _; rw [show 0 + i * 1 + 0 = i by omega]; exact h1

end Go.Proofs.YthhdleppkggepaaGreat

/-
  The walk of package claim: Valid$1, space.list, Valid, Key: for cores that are in order.
-/
namespace Go.Proofs.YthhdleppkggepaaGreat
open Go.RowKit Go.Deep
set_option maxRecDepth 100000

set_option maxHeartbeats 1000000 in
theorem valid1_ok (w : World) (ex : List Nat) (A : Option Addr) (m c : Nat) (p : List (Rat × List Int)) (hx : RP w ex A m c p) (hg : GP p) :
    Calls Tryz.prog 54 #[.slice A m c] w (RetV w (.bool (pdeg p == 0))) := by
  have hm : m ≤ 1000000000 := by rw [hx.len]; have := hg.len; omega
  have h1 := pdegree_ok w ex A m c p hx hg.exps hm
  go_enter Tryz.func54, Tryz.ntmps54
  go_wp2_with fail
  refine h1.mono ?_; rintro e w1 ⟨X, D, rfl, rfl⟩
  go_wp2_with fail
  go_ret
  exact RetV.mk (by simp) (by repeat first | with_reducible exact .refl .. | with_reducible assumption | refine .s ?_ ?_ | refine .m ?_ ?_ | refine .l ?_ ?_ | refine .d ?_ | refine .e ?_ | (simp <;> omega) | omega)
theorem tellsV1 (w : World) (ex : List Nat) (l : List (List (Rat × List Int))) (hg : ∀ p ∈ l, GP p) : Tells 54 #[] w ex l (fun p => pdeg p == 0) := by
  intro w' hw A m c p hp hr
  exact valid1_ok w' ex A m c p hr (hg p hp)

/-- What a list of a valid core is. -/
structure ListOk (n : Nat) (M : Int) (l : List (List (Rat × List Int))) : Prop where
  few : l.length ≤ 12
  mod : 0 < M ∧ M < 65536
  each : ∀ p ∈ l, withinB p n = true ∧ p ≠ [] ∧ normP p = p ∧ NP M p
  sorted : ∀ k (hk : k + 1 < l.length), cmpP l[k] l[k + 1] < 0

set_option maxHeartbeats 4000000 in
theorem list_ok (w : World) (ex : List Nat) (A : Option Addr) (m c : Nat) (l : List (List (Rat × List Int))) (n : Nat) (M : Int) (hx : RL poE w ex A m c l) (hl : ListOk n M l) (hn : n ≤ 4) (hex : ∀ b ∈ ex, b < w.heap.size) :
    Calls Tryz.prog 53 #[.agg #[.int .i64 n], .slice A m c] w (RetV w (.bool true)) := by
  have HL := Lib.hid hx.len
  have hcap := hx.cap
  have hm : m ≤ 12 := by rw [hx.len]; exact hl.few
  have HX := Lib.hid hx
  have HK := Lib.hid hl
  clear hx hl
  go_enter Tryz.func53, Tryz.ntmps53
  go_wp2_with fail
  go_loopw [12] (fun i wr => ∃ k : Nat, k ≤ m ∧ i = .int .i64 k ∧ Below (w.heap.size + 1) (w.alloc (.cells #[.int .i64 n] 103)) wr) (fun i _ => m - (intOf i).toNat)
  case atStart => exact ⟨0, Nat.zero_le _, rfl, Below.refl _ _⟩
  case round =>
    obtain ⟨k, hk, rfl, hb⟩ := hrel
    have hbw : Below w.heap.size w wr := (show Below w.heap.size w (w.alloc (.cells #[.int .i64 n] 103)) from (by repeat first | with_reducible exact .refl .. | with_reducible assumption | refine .s ?_ ?_ | refine .m ?_ ?_ | refine .l ?_ ?_ | refine .d ?_ | refine .e ?_ | (simp <;> omega) | omega)).trans (hb.mono (by omega))
    have hsz := hbw.size
    have hsz1 : w.heap.size + 1 ≤ wr.heap.size := by have := hb.size; simpa using this
    have c0 : wr.cell? ⟨w.heap.size, 0, none⟩ = some (.int .i64 n) := (hb.at0 (by omega) 0).trans (by simp [go_sem, ↓IntWalk.iteOmega])
    by_cases hlt : k < m
    · have hxw := HX.out.mono (Kr.of_below hbw ex)
      obtain ⟨b, o, rfl, hbx, hbl⟩ := hxw.some_ (by omega)
      have hkl : k < l.length := by rw [← HL.out]; exact hlt
      obtain ⟨A3, m3, c3, hcell, hp3⟩ := hxw.poly hkl
      obtain ⟨hk1, hk2, hk3, hk4⟩ := HK.out.each _ (List.getElem_mem hkl)
      have hm3 : m3 ≤ 1000000000 := by rw [hp3.len]; have := hk4.gp.len; omega
      have hm0 : m3 ≠ 0 := by rw [hp3.len]; intro e; exact hk2 (List.eq_nil_of_length_eq_zero e)
      have hm0' : ((m3 : Int) == 0) = false := by simpa using hm0
      have hfit := fit_ok wr ex A3 m3 c3 l[k] n hp3 hk4.gp hn
      rw [hk1] at hfit
      have hi1 : (k : Int) < (m : Int) := by omega
      have hsame : (cmpP l[k] l[k] == 0) = true := by rw [cmpP_self]; rfl
      by_cases hk0 : k = 0
      · subst hk0
        have hcell0 : wr.cell? ⟨b, o, none⟩ = some (.slice A3 m3 c3) := by simpa using hcell
        go_wp2_with fail
        refine hfit.mono ?_; rintro e w1 ⟨X, D, rfl, rfl⟩
        go_wp2_with fail
        refine (mnormal_ok _ ex A3 m3 c3 l[0] (hp3.mono (Kr.of_below (by repeat first | with_reducible exact .refl .. | with_reducible assumption | refine .s ?_ ?_ | refine .m ?_ ?_ | refine .l ?_ ?_ | refine .d ?_ | refine .e ?_ | (simp <;> omega) | omega) _)) hk4.gp.exps hk4.gp.ty hk4.nz M HK.out.mod.1 HK.out.mod.2 hk4.dv hm3 (fun b hb => by have := hex b hb; simp; omega)).mono ?_; rintro e w1 ⟨A4, m4, c4, X2, D2, rfl, rfl, h4⟩
        rw [hk3] at h4
        have hs := psame_ok _ ex A4 m4 c4 l[0] A3 m3 c3 l[0] h4 (hp3.mono (Kr.of_below (by repeat first | with_reducible exact .refl .. | with_reducible assumption | refine .s ?_ ?_ | refine .m ?_ ?_ | refine .l ?_ ?_ | refine .d ?_ | refine .e ?_ | (simp <;> omega) | omega) _)) hk4.gp.ty hk4.gp.ty (by rw [h4.len, ← hp3.len]; exact hm3) hm3
        rw [hsame] at hs
        go_wp2_with fail
        refine hs.mono ?_; rintro e w1 ⟨X3, D3, rfl, rfl⟩
        go_wp2_with fail
        go_roundw
        case rel => exact ⟨1, by omega, by go_num, hb.trans ((show Below wr.heap.size wr _ from (by repeat first | with_reducible exact .refl .. | with_reducible assumption | refine .s ?_ ?_ | refine .m ?_ ?_ | refine .l ?_ ?_ | refine .d ?_ | refine .e ?_ | (simp <;> omega) | omega)).mono hsz1)⟩
        case measure => simp [intOf]; omega
      · obtain ⟨j, hj⟩ : ∃ j, k = j + 1 := ⟨k - 1, by omega⟩
        have hjl : j < l.length := by omega
        obtain ⟨A5, m5, c5, hcell5, hp5⟩ := hxw.poly hjl
        have hg5 := (HK.out.each _ (List.getElem_mem hjl)).2.2.2.gp
        have hm5 : m5 ≤ 1000000000 := by rw [hp5.len]; have := hg5.len; omega
        have hlt0 : cmpP l[j] l[k] < 0 := by
          have := HK.out.sorted j (by omega)
          simpa only [hj] using this
        have hw1 : IntKind.i64.wrap ((k : Int) - 1) = (j : Int) := by
          rw [hj]; simp [IntKind.wrap, IntKind.bits, IntKind.signed]; omega
        have hj0 : (0 : Int) ≤ (j : Int) := by omega
        have hj1 : (j : Int) < (m : Int) := by omega
        have hk0' : (0 : Int) < (k : Int) := by omega
        have HJ := Lib.hid hj
        clear hj
        obtain ⟨z, hz⟩ : ∃ z, cmpP l[j] l[k] = z := ⟨_, rfl⟩
        have HZ := Lib.hid hz
        rw [hz] at hlt0
        clear hz
        go_wp2_with fail
        refine hfit.mono ?_; rintro e w1 ⟨X, D, rfl, rfl⟩
        go_wp2_with fail
        refine (mnormal_ok _ ex A3 m3 c3 l[k] (hp3.mono (Kr.of_below (by repeat first | with_reducible exact .refl .. | with_reducible assumption | refine .s ?_ ?_ | refine .m ?_ ?_ | refine .l ?_ ?_ | refine .d ?_ | refine .e ?_ | (simp <;> omega) | omega) _)) hk4.gp.exps hk4.gp.ty hk4.nz M HK.out.mod.1 HK.out.mod.2 hk4.dv hm3 (fun b hb => by have := hex b hb; simp; omega)).mono ?_; rintro e w1 ⟨A4, m4, c4, X2, D2, rfl, rfl, h4⟩
        rw [hk3] at h4
        have hs := psame_ok _ ex A4 m4 c4 l[k] A3 m3 c3 l[k] h4 (hp3.mono (Kr.of_below (by repeat first | with_reducible exact .refl .. | with_reducible assumption | refine .s ?_ ?_ | refine .m ?_ ?_ | refine .l ?_ ?_ | refine .d ?_ | refine .e ?_ | (simp <;> omega) | omega) _)) hk4.gp.ty hk4.gp.ty (by rw [h4.len, ← hp3.len]; exact hm3) hm3
        rw [hsame] at hs
        go_wp2_with fail
        refine hs.mono ?_; rintro e w1 ⟨X3, D3, rfl, rfl⟩
        go_wp2_with fail
        refine (pcmp_ok _ ex A5 m5 c5 l[j] A3 m3 c3 l[k] (hp5.mono (Kr.of_below (by repeat first | with_reducible exact .refl .. | with_reducible assumption | refine .s ?_ ?_ | refine .m ?_ ?_ | refine .l ?_ ?_ | refine .d ?_ | refine .e ?_ | (simp <;> omega) | omega) _)) (hp3.mono (Kr.of_below (by repeat first | with_reducible exact .refl .. | with_reducible assumption | refine .s ?_ ?_ | refine .m ?_ ?_ | refine .l ?_ ?_ | refine .d ?_ | refine .e ?_ | (simp <;> omega) | omega) _)) hg5.ty hk4.gp.ty hm5 hm3).mono ?_; rintro e w1 ⟨X4, D4, rfl, rfl⟩
        rw [HZ.out]
        go_wp2_with fail
        go_roundw
        case rel => exact ⟨k + 1, by omega, by go_num, hb.trans ((show Below wr.heap.size wr _ from (by repeat first | with_reducible exact .refl .. | with_reducible assumption | refine .s ?_ ?_ | refine .m ?_ ?_ | refine .l ?_ ?_ | refine .d ?_ | refine .e ?_ | (simp <;> omega) | omega)).mono hsz1)⟩
        case measure => simp [intOf]; omega
    · obtain rfl : k = m := by omega
      go_wp2_with fail
      go_ret
      exact RetV.mk rfl hbw

theorem any_deg0 {l : List (List (Rat × List Int))} (h : ∀ p ∈ l, pdeg p ≠ 0) : l.any (fun p => pdeg p == 0) = false := by
  rw [Bool.eq_false_iff]
  intro hh
  obtain ⟨p, hp, hc⟩ := List.any_eq_true.1 hh
  exact h p hp (by simpa using hc)

set_option maxHeartbeats 2000000 in
theorem cvalid_ok (w : World) (ex : List Nat) (N : Nat) (A1 : Option Addr) (n1 c1 : Nat) (A2 : Option Addr) (n2 c2 : Nat) (l1 l2 : List (List (Rat × List Int))) (M : Int) (hx : RL poE w ex A1 n1 c1 l1) (hy : RL poE w ex A2 n2 c2 l2) (hl1 : ListOk N M l1) (hl2 : ListOk N M l2) (hd : ∀ p ∈ l2, pdeg p ≠ 0) (h1 : 1 ≤ N) (h4 : N ≤ 4) (hex : ∀ b ∈ ex, b < w.heap.size) :
    Calls Tryz.prog 15 #[.agg #[.int .i64 N, .slice A1 n1 c1, .slice A2 n2 c2]] w (RetV w (.bool true)) := by
  have hcap1 := hx.cap
  have hcap2 := hy.cap
  have hn2 : n2 ≤ 1000000000 := by rw [hy.len]; have := hl2.few; omega
  have HX := Lib.hid hx
  have HY := Lib.hid hy
  have HK1 := Lib.hid hl1
  have HK2 := Lib.hid hl2
  have HD := Lib.hid (any_deg0 hd)
  have HG := Lib.hid (fun p hp => (hl2.each p hp).2.2.2.gp)
  have eg : ∀ args w, (callFunc 54 args).run Tryz.prog w = .ok (.enter 54 args) w := enters_of Tryz.func54 (by kernel_rfl) rfl
  have hc : ∀ w', RL poE w' ex A2 n2 c2 l2 → Calls Tryz.prog 45 #[.slice A2 n2 c2, .func (Fn.func 54) #[] #[]] w' (RetV w' (.bool false)) := fun w' h => by
    have := containsP_ok w' ex A2 n2 c2 l2 54 #[] _ eg h (tellsV1 w' ex l2 HG.out) hn2
    rwa [HD.out] at this
  clear hx hy hl1 hl2 hd eg
  have hN1 : (1 : Int) ≤ (N : Int) := by omega
  have hN4 : (N : Int) ≤ 4 := by omega
  go_enter Tryz.func15, Tryz.ntmps15
  go_wp2_with fail
  refine (list_ok _ ex A1 n1 c1 l1 N M (HX.out.mono (Kr.of_below (by repeat first | with_reducible exact .refl .. | with_reducible assumption | refine .s ?_ ?_ | refine .m ?_ ?_ | refine .l ?_ ?_ | refine .d ?_ | refine .e ?_ | (simp <;> omega) | omega) _)) HK1.out h4 (fun b hb => by have := hex b hb; simp; omega)).mono ?_; rintro e w1 ⟨X, D, rfl, rfl⟩
  go_wp2_with fail
  refine (list_ok _ ex A2 n2 c2 l2 N M (HY.out.mono (Kr.of_below (by repeat first | with_reducible exact .refl .. | with_reducible assumption | refine .s ?_ ?_ | refine .m ?_ ?_ | refine .l ?_ ?_ | refine .d ?_ | refine .e ?_ | (simp <;> omega) | omega) _)) HK2.out h4 (fun b hb => by have := hex b hb; simp; omega)).mono ?_; rintro e w1 ⟨X2, D2, rfl, rfl⟩
  go_wp2_with fail
  refine (hc _ (HY.out.mono (Kr.of_below (by repeat first | with_reducible exact .refl .. | with_reducible assumption | refine .s ?_ ?_ | refine .m ?_ ?_ | refine .l ?_ ?_ | refine .d ?_ | refine .e ?_ | (simp <;> omega) | omega) _))).mono ?_; rintro e w1 ⟨X3, D3, rfl, rfl⟩
  go_wp2_with fail
  go_ret
  exact RetV.mk rfl (by repeat first | with_reducible exact .refl .. | with_reducible assumption | refine .s ?_ ?_ | refine .m ?_ ?_ | refine .l ?_ ?_ | refine .d ?_ | refine .e ?_ | (simp <;> omega) | omega)

end Go.Proofs.YthhdleppkggepaaGreat

/-
  The walk of claim.Key.
-/
namespace Go.Proofs.YthhdleppkggepaaGreat
open Go.RowKit Go.Deep
set_option maxRecDepth 100000

def Bytes (bs : List Nat) : Prop := ∀ x ∈ bs, x < 256
theorem Bytes.append {a b : List Nat} (h1 : Bytes a) (h2 : Bytes b) : Bytes (a ++ b) := fun x hx => by
  rcases List.mem_append.1 hx with hx | hx
  · exact h1 x hx
  · exact h2 x hx
theorem Bytes.flat {α : Type} {f : α → List Nat} {l : List α} (h : ∀ y ∈ l, Bytes (f y)) : Bytes (l.flatMap f) := fun x hx => by
  obtain ⟨y, hy, hxy⟩ := List.mem_flatMap.1 hx
  exact h y hy x hxy
theorem natB_bytes (n : Nat) : Bytes (natB n) := by
  induction n using Nat.strongRecOn with
  | _ n ih =>
    by_cases h : n < 128
    · rw [natB_small h]; intro x hx; simp at hx; omega
    · rw [natB_big h]
      intro x hx
      rcases List.mem_cons.1 hx with hx | hx
      · rw [hx]; exact Nat.or_lt_two_pow (n := 8) (by omega) (by omega)
      · exact ih (n / 128) (by omega) x hx
theorem natB_ne (n : Nat) : natB n ≠ [] := by
  by_cases h : n < 128
  · rw [natB_small h]; simp
  · rw [natB_big h]; simp
theorem b4_bytes (x : Nat) : Bytes (b4 x) := by
  intro y hy; simp [b4] at hy; omega
theorem wholeB_bytes (z : Int) : Bytes (wholeB z) := (natB_bytes _).append (Bytes.flat fun y _ => b4_bytes y)
theorem ratB_bytes (q : Rat) : Bytes (ratB q) := (wholeB_bytes _).append (wholeB_bytes _)
theorem monB_bytes (m : List Int) : Bytes (monB m) := Bytes.flat fun y _ => natB_bytes _
theorem termB_bytes (t : Rat × List Int) : Bytes (termB t) := (ratB_bytes _).append (monB_bytes _)
theorem polB_bytes (p : List (Rat × List Int)) : Bytes (polB p) := (natB_bytes _).append (Bytes.flat fun y _ => termB_bytes y)
theorem polsB_bytes (l : List (List (Rat × List Int))) : Bytes (polsB l) := (natB_bytes _).append (Bytes.flat fun y _ => polB_bytes y)
theorem coreB_bytes (n : Nat) (l1 l2 : List (List (Rat × List Int))) : Bytes (coreB n l1 l2) := ((natB_bytes _).append (polsB_bytes _)).append (polsB_bytes _)
theorem coreB_ne (n : Nat) (l1 l2 : List (List (Rat × List Int))) : coreB n l1 l2 ≠ [] := by
  unfold coreB numB; simp [natB_ne]
/-- The string of bytes. -/
def strB (bs : List Nat) : ByteArray := ⟨(bs.map UInt8.ofNat).toArray⟩
theorem conv_own {w : World} {base : Nat} {v : Value} {bs : List Nat} (h : OwnL byE w base [] v bs) (hb : Bytes bs) (hne : bs ≠ []) : (convert 35 9 v).run Tryz.prog w = .ok (.string (strB bs)) w := by
  obtain ⟨cs, h1, h2⟩ := h
  have hpos : 0 < bs.length := List.length_pos_iff.2 hne
  obtain ⟨g, cap, rfl, hg1, hg2⟩ := h1.form (by omega)
  have hlen : (bs.map UInt8.ofNat).length = bs.length := by simp
  have hr := run_convert_bytes_back (P := Tryz.prog) w 35 9 5 ⟨g, 0, none⟩ cap (bs.map UInt8.ofNat) Tryz.underlying35 Tryz.underlying5 Tryz.underlying9 (fun j hj => by
    have hj' : j < bs.length := by simpa using hj
    obtain ⟨vs, hv, hc⟩ := h2.get j hj'
    have hv' : vs = [.int .u8 bs[j]] := hv
    subst hv'
    have := h1.cells (g := g) rfl (j * 1 + 0) _ (hc 0 _ rfl)
    rw [Nat.mul_one, Nat.add_zero] at this
    rw [this]
    have hlt := hb _ (List.getElem_mem hj')
    simp only [List.getElem_map]
    rw [UInt8.toNat_ofNat', Nat.mod_eq_of_lt (by omega)])
  rw [hlen] at hr
  exact hr

set_option maxHeartbeats 4000000 in
theorem key_ok (w : World) (ex : List Nat) (N : Nat) (A1 : Option Addr) (n1 c1 : Nat) (A2 : Option Addr) (n2 c2 : Nat) (l1 l2 : List (List (Rat × List Int))) (M : Int) (hx : RL poE w ex A1 n1 c1 l1) (hy : RL poE w ex A2 n2 c2 l2) (hl1 : ListOk N M l1) (hl2 : ListOk N M l2) (hd : ∀ p ∈ l2, pdeg p ≠ 0) (h1 : 1 ≤ N) (h4 : N ≤ 4) (hlen : (coreB N l1 l2).length ≤ 10000000000) (hex : ∀ b ∈ ex, b < w.heap.size) :
    Calls Tryz.prog 57 #[.agg #[.int .i64 N, .slice A1 n1 c1, .slice A2 n2 c2]] w (RetV w (.string (strB (coreB N l1 l2)))) := by
  have hcap1 := hx.cap
  have hcap2 := hy.cap
  have hn1 : n1 ≤ 1000000000 := by rw [hx.len]; have := hl1.few; omega
  have hn2 : n2 ≤ 1000000000 := by rw [hy.len]; have := hl2.few; omega
  have HX := Lib.hid hx
  have HY := Lib.hid hy
  have HK1 := Lib.hid hl1
  have HK2 := Lib.hid hl2
  have HD := Lib.hid hd
  clear hx hy hl1 hl2 hd
  go_enter Tryz.func57, Tryz.ntmps57
  go_wp2_with fail
  refine (cvalid_ok _ ex N A1 n1 c1 A2 n2 c2 l1 l2 M (HX.out.mono (Kr.of_below (by repeat first | with_reducible exact .refl .. | with_reducible assumption | refine .s ?_ ?_ | refine .m ?_ ?_ | refine .l ?_ ?_ | refine .d ?_ | refine .e ?_ | (simp <;> omega) | omega) _)) (HY.out.mono (Kr.of_below (by repeat first | with_reducible exact .refl .. | with_reducible assumption | refine .s ?_ ?_ | refine .m ?_ ?_ | refine .l ?_ ?_ | refine .d ?_ | refine .e ?_ | (simp <;> omega) | omega) _)) HK1.out HK2.out HD.out h1 h4 (fun b hb => by have := hex b hb; simp; omega)).mono ?_; rintro e w1 ⟨X, D, rfl, rfl⟩
  go_wp2_with fail
  obtain ⟨g, hg⟩ : ∃ g, g = w.heap.size + 1 + X.size := ⟨_, rfl⟩
  rw [← hg]
  obtain ⟨W, hW⟩ : ∃ W, W = (((w.alloc (.cells #[.int .i64 N, .slice A1 n1 c1, .slice A2 n2 c2] 28)).more X D).alloc (.cells #[.slice none 0 0] 151)) := ⟨_, rfl⟩
  have hsW : W.heap.size = g + 1 := by rw [hW]; simp; omega
  have hbW : Below w.heap.size w W := by rw [hW]; exact (by repeat first | with_reducible exact .refl .. | with_reducible assumption | refine .s ?_ ?_ | refine .m ?_ ?_ | refine .l ?_ ?_ | refine .d ?_ | refine .e ?_ | (simp <;> omega) | omega)
  have hWS : WS W (g + 1) g (.slice none 0 0) [] := by
    refine ⟨?_, ?_, OwnL.nil _ _ _, by omega, by omega⟩
    · rw [hW, hg]; simp [go_sem, ↓IntWalk.iteOmega]
    · rw [hW, hg]; simp [go_sem, ↓IntWalk.iteOmega]
  rw [← hW]
  clear hW
  have hr1 : RL poE W ([g] ++ (own (.slice none 0 0) ++ ex)) A1 n1 c1 l1 := HX.out.mono (Kr.fresh (l := [g]) hbW (by simp; omega))
  have hr2 : RL poE W ([g] ++ (own (.slice none 0 0) ++ ex)) A2 n2 c2 l2 := HY.out.mono (Kr.fresh (l := [g]) hbW (by simp; omega))
  refine (wcore_ok W (g + 1) g (.slice none 0 0) [] ex N A1 n1 c1 A2 n2 c2 l1 l2 hWS hr1 hr2 (fun p hp => (HK1.out.each p hp).2.2.2.gp) (fun p hp => (HK2.out.each p hp).2.2.2.gp) (by omega) hn1 hn2 (by simpa using hlen)).mono ?_; rintro e w2 ⟨v2, rfl, hw2, hk2, hb2⟩
  rw [List.nil_append] at hw2
  obtain ⟨A', c', rfl, hc'⟩ := hw2.mine.form rfl
  have d0 := hw2.cell
  have hconv := conv_own hw2.mine (coreB_bytes N l1 l2) (coreB_ne N l1 l2)
  have hbf := hbW.trans (hb2.mono (show w.heap.size ≤ g by omega))
  obtain ⟨T, hT⟩ : ∃ T, strB (coreB N l1 l2) = T := ⟨_, rfl⟩
  rw [hT] at hconv
  generalize (coreB N l1 l2).length = nn at *
  clear hw2 hk2 hb2 hr1 hr2 hWS
  rw [hg] at d0
  go_wp2_with fail
  go_ret
  exact RetV.mk (by rw [hT]; rfl) hbf

end Go.Proofs.YthhdleppkggepaaGreat
