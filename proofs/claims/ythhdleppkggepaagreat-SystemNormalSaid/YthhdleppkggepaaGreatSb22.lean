/-
  The walk of sum.add, where the monomial is new.
-/
import Derived.Test.YthhdleppkggepaaGreatSb01
import Derived.Test.YthhdleppkggepaaGreatSb03
import Derived.Test.YthhdleppkggepaaGreatSb12
import Derived.Test.YthhdleppkggepaaGreatSb18
import Derived.Test.YthhdleppkggepaaGreatSb21

set_option linter.unusedSimpArgs false
set_option linter.unusedVariables false
set_option linter.unusedSectionVars false

namespace Go.Proofs.YthhdleppkggepaaGreat
open Go.RowKit Go.Deep
set_option maxRecDepth 100000

/-- What a call does that lays an entry into the map in block b. -/
def RetM (w : World) (base : Nat) (ex : List Nat) (b : Nat) (L : List (Rat × List Int)) (e : Ending) (w' : World) : Prop :=
  e = .returned (.tuple #[]) ∧ MapR w' ex b L ∧ (∀ ex', Kr w ([b] ++ ex') w' ([b] ++ ex')) ∧ Below base w w'
theorem Below.turned {B : Nat} {a w w' : World} {b : Nat} (h : Below B a w) (hg : w.grownBy w' (some b)) (hd : w.drawn ≤ w'.drawn) (hB : B ≤ w.heap.size) (hb : B ≤ b) : Below B a w' :=
  h.grown hg hd hB (fun k e => by cases e; exact hb)
theorem Kr.turned {w w' w'' : World} {ex ex' : List Nat} {b : Nat} (h : Kr w ex w' ex') (hg : w'.grownBy w'' (some b)) (hb : b ∈ ex') : Kr w ex w'' ex' :=
  h.trans ⟨hg.size, fun _ _ h => h, fun i hi hx => hg.block i hi (by intro e; cases e; exact hx hb)⟩

set_option maxHeartbeats 2000000 in
theorem sumadd_ok (w : World) (base b : Nat) (ex : List Nat) (L : List (Rat × List Int)) (s1 : Bool) (A1 : Option Addr) (n1 c1 : Nat) (s2 : Bool) (A2 : Option Addr) (n2 c2 : Nat) (q : Rat) (e0 e1 e2 e3 e4 e5 e6 e7 : Int) (hm : MapR w ex b L) (hq : RQ w ([b] ++ ex) s1 A1 n1 c1 s2 A2 n2 c2 q) (hn : ∀ t ∈ L, t.2 ≠ [e0, e1, e2, e3, e4, e5, e6, e7]) (hbase : base ≤ b) :
    Calls Tryz.prog 154 #[.map (some b), .agg #[.bool s1, .slice A1 n1 c1, .bool s2, .slice A2 n2 c2], .agg #[.int .i64 e0, .int .i64 e1, .int .i64 e2, .int .i64 e3, .int .i64 e4, .int .i64 e5, .int .i64 e6, .int .i64 e7]] w (RetM w base ex b (L ++ [(q, [e0, e1, e2, e3, e4, e5, e6, e7])])) := by
  have hlt := hm.lt
  have HM := Lib.hid hm
  have HQ := Lib.hid hq
  have HN := Lib.hid hn
  clear hm hq hn
  go_enter Tryz.func154, Tryz.ntmps154
  go_wp2_with (first | (at_lookup; refine wpList_mono_lookup _ rfl _ _ rfl rfl (HM.out.keep (by repeat first | with_reducible exact .refl .. | with_reducible assumption | refine .s ?_ ?_ | refine .m ?_ ?_ | refine .l ?_ ?_ | refine .d ?_ | refine .e ?_ | (simp <;> omega) | omega)) rfl HN.out ?_) | (at_mapUpdate; refine wpList_mono_store _ rfl _ _ _ rfl rfl (HM.out.keep (by repeat first | with_reducible exact .refl .. | with_reducible assumption | refine .s ?_ ?_ | refine .m ?_ ?_ | refine .l ?_ ?_ | refine .d ?_ | refine .e ?_ | (simp <;> omega) | omega)) rfl HN.out rfl (HQ.out.mono (Kr.of_below (by repeat first | with_reducible exact .refl .. | with_reducible assumption | refine .s ?_ ?_ | refine .m ?_ ?_ | refine .l ?_ ?_ | refine .d ?_ | refine .e ?_ | (simp <;> omega) | omega) _)) ?_; intro w1 hm1 hg1 hs1 hd1) | fail)
  go_end0
  exact ⟨rfl, hm1, fun ex' => (Kr.of_below (show Below w.heap.size w _ from (by repeat first | with_reducible exact .refl .. | with_reducible assumption | refine .s ?_ ?_ | refine .m ?_ ?_ | refine .l ?_ ?_ | refine .d ?_ | refine .e ?_ | (simp <;> omega) | omega)) _).turned hg1 (by simp), ((show Below w.heap.size w _ from (by repeat first | with_reducible exact .refl .. | with_reducible assumption | refine .s ?_ ?_ | refine .m ?_ ?_ | refine .l ?_ ?_ | refine .d ?_ | refine .e ?_ | (simp <;> omega) | omega)).mono (by omega)).turned hg1 (by rw [hd1]; exact Nat.le_refl _) (by simp; omega) hbase⟩

set_option maxHeartbeats 2000000 in
/-- The order in which a sum's terms are laid. -/
theorem polyc_ok (w : World) (s1 : Bool) (A1 : Option Addr) (n1 c1 : Nat) (s2 : Bool) (A2 : Option Addr) (n2 c2 : Nat) (s3 : Bool) (A3 : Option Addr) (n3 c3 : Nat) (s4 : Bool) (A4 : Option Addr) (n4 c4 : Nat) (e0 e1 e2 e3 e4 e5 e6 e7 f0 f1 f2 f3 f4 f5 f6 f7 : Int) :
    Calls Tryz.prog 193 #[.agg #[.bool s1, .slice A1 n1 c1, .bool s2, .slice A2 n2 c2, .int .i64 e0, .int .i64 e1, .int .i64 e2, .int .i64 e3, .int .i64 e4, .int .i64 e5, .int .i64 e6, .int .i64 e7], .agg #[.bool s3, .slice A3 n3 c3, .bool s4, .slice A4 n4 c4, .int .i64 f0, .int .i64 f1, .int .i64 f2, .int .i64 f3, .int .i64 f4, .int .i64 f5, .int .i64 f6, .int .i64 f7]] w (RetV w (.int .i64 (cmpL [f0, f1, f2, f3, f4, f5, f6, f7] [e0, e1, e2, e3, e4, e5, e6, e7]))) := by
  go_enter Tryz.func193, Tryz.ntmps193
  go_wp2_with fail
  refine (mcmp_ok _ f0 f1 f2 f3 f4 f5 f6 f7 e0 e1 e2 e3 e4 e5 e6 e7).mono ?_; rintro e w1 ⟨X, D, rfl, rfl⟩
  go_wp2_with fail
  go_ret
  exact RetV.mk rfl (by repeat first | with_reducible exact .refl .. | with_reducible assumption | refine .s ?_ ?_ | refine .m ?_ ?_ | refine .l ?_ ?_ | refine .d ?_ | refine .e ?_ | (simp <;> omega) | omega)

end Go.Proofs.YthhdleppkggepaaGreat

/-
  Plain laws of exchanging variables: the exponents moved, the terms in their order again.
-/
namespace Go.Proofs.YthhdleppkggepaaGreat
set_option linter.unusedSectionVars false

abbrev Tm := Rat × List Int
/-- Terms in falling order. -/
def SP (l : List Tm) : Prop := l.Pairwise (fun s t => 0 < cmpL s.2 t.2)
theorem cmpL_transP {a b c : List Int} (h1 : a.length = b.length) (h2 : b.length = c.length) (h : 0 < cmpL a b) (k : 0 < cmpL b c) : 0 < cmpL a c := by
  have h' : cmpL b a < 0 := by rw [cmpL_swap]; omega
  have k' : cmpL c b < 0 := by rw [cmpL_swap]; omega
  have := cmpL_trans h2.symm h1.symm k' h'
  rw [cmpL_swap]; omega
theorem cmpL_irr {a : List Int} (h : 0 < cmpL a a) : False := by rw [cmpL_self] at h; omega
theorem cmpL_asymm {a b : List Int} (h : 0 < cmpL a b) (k : 0 < cmpL b a) : False := by rw [cmpL_swap] at k; omega
theorem SP.of_valid : ∀ {p : List Tm}, validB p = true → Len8 p → SP p
  | [], _, _ => .nil
  | [t], _, _ => List.pairwise_singleton _ _
  | t :: u :: r, h, h8 => by
    rw [validB] at h
    simp only [Bool.and_eq_true, decide_eq_true_eq] at h
    have ih := SP.of_valid (p := u :: r) h.2 h8.tail
    refine List.pairwise_cons.2 ⟨?_, ih⟩
    intro y hy
    rcases List.mem_cons.1 hy with rfl | hy
    · exact h.1.2
    · exact cmpL_transP (by rw [h8.head, h8.tail.head]) (by rw [h8.tail.head, h8.tail.tail y hy]) h.1.2 ((List.pairwise_cons.1 ih).1 y hy)
theorem SP.valid : ∀ {p : List Tm}, SP p → (∀ t ∈ p, t.1 ≠ 0) → validB p = true
  | [], _, _ => rfl
  | [t], _, h0 => by simp [validB, h0 t (by simp)]
  | t :: u :: r, h, h0 => by
    rw [validB, SP.valid (List.pairwise_cons.1 h).2 (fun x hx => h0 x (List.mem_cons_of_mem _ hx))]
    have := (List.pairwise_cons.1 h).1 u (by simp)
    simp [this, h0 t (by simp)]
theorem valid_nz {p : List Tm} (h : validB p = true) : ∀ t ∈ p, t.1 ≠ 0 := by
  intro t ht
  obtain ⟨i, hi, rfl⟩ := List.mem_iff_getElem.1 ht
  exact ((validB_iff p).1 h).1 i hi
theorem SP.nodup {p : List Tm} (h : SP p) : (p.map (·.2)).Nodup := by
  unfold List.Nodup
  rw [List.pairwise_map]
  exact List.Pairwise.imp (fun {a b} hab e => by rw [e] at hab; exact cmpL_irr hab) h
theorem sp_ext : ∀ {a b : List Tm}, SP a → SP b → (∀ x, x ∈ a ↔ x ∈ b) → a = b
  | [], [], _, _, _ => rfl
  | [], y :: b, _, _, h => by have := (h y).2 List.mem_cons_self; cases this
  | x :: a, [], _, _, h => by have := (h x).1 List.mem_cons_self; cases this
  | x :: a, y :: b, ha, hb, h => by
    obtain ⟨a1, a2⟩ := List.pairwise_cons.1 ha
    obtain ⟨b1, b2⟩ := List.pairwise_cons.1 hb
    have hxy : x = y := by
      rcases List.mem_cons.1 ((h x).1 List.mem_cons_self) with e | e
      · exact e
      · rcases List.mem_cons.1 ((h y).2 List.mem_cons_self) with e2 | e2
        · exact e2.symm
        · exact (cmpL_asymm (b1 x e) (a1 y e2)).elim
    subst hxy
    rw [sp_ext a2 b2 (fun z => ?_)]
    constructor
    · intro hz
      rcases List.mem_cons.1 ((h z).1 (List.mem_cons_of_mem _ hz)) with e | e
      · subst e; exact (cmpL_irr (a1 _ hz)).elim
      · exact e
    · intro hz
      rcases List.mem_cons.1 ((h z).2 (List.mem_cons_of_mem _ hz)) with e | e
      · subst e; exact (cmpL_irr (b1 _ hz)).elim
      · exact e

/-! ### one term more -/
theorem addP_one_perm {t : Tm} (h8 : t.2.length = 8) : ∀ {p : List Tm}, Len8 p → (∀ a ∈ p, a.2 ≠ t.2) → (addP p [t]).Perm (t :: p)
  | [], _, _ => List.Perm.refl _
  | a :: p, hp, hn => by
    rw [addP_cons]
    split
    · exact ((addP_one_perm h8 hp.tail (fun b hb => hn b (List.mem_cons_of_mem _ hb))).cons a).trans (List.Perm.swap _ _ _)
    · split
      · rw [addP_nil']
      · rename_i h1 h2
        exact absurd (cmpL_zero (by rw [hp.head, h8]) (show cmpL a.2 t.2 = 0 by omega)) (hn a (by simp))
theorem addP_one_mem {t : Tm} (h8 : t.2.length = 8) {p : List Tm} (hp : Len8 p) (hn : ∀ a ∈ p, a.2 ≠ t.2) (x : Tm) : x ∈ addP p [t] ↔ x = t ∨ x ∈ p := by
  rw [(addP_one_perm h8 hp hn).mem_iff, List.mem_cons]
theorem addP_one_sp {t : Tm} (h8 : t.2.length = 8) : ∀ {p : List Tm}, Len8 p → (∀ a ∈ p, a.2 ≠ t.2) → SP p → SP (addP p [t])
  | [], _, _, _ => List.pairwise_singleton _ _
  | a :: p, hp, hn, hs => by
    obtain ⟨s1, s2⟩ := List.pairwise_cons.1 hs
    rw [addP_cons]
    split
    · rename_i h
      refine List.pairwise_cons.2 ⟨fun x hx => ?_, addP_one_sp h8 hp.tail (fun b hb => hn b (List.mem_cons_of_mem _ hb)) s2⟩
      rcases (addP_one_mem h8 hp.tail (fun b hb => hn b (List.mem_cons_of_mem _ hb)) x).1 hx with rfl | hx
      · exact h
      · exact s1 x hx
    · split
      · rename_i h1 h2
        rw [addP_nil']
        have h3 : 0 < cmpL t.2 a.2 := by rw [cmpL_swap]; omega
        refine List.pairwise_cons.2 ⟨fun x hx => ?_, hs⟩
        rcases List.mem_cons.1 hx with rfl | hx
        · exact h3
        · exact cmpL_transP (by rw [h8, hp.head]) (by rw [hp.head, hp.tail x hx]) h3 (s1 x hx)
      · rename_i h1 h2
        exact absurd (cmpL_zero (by rw [hp.head, h8]) (show cmpL a.2 t.2 = 0 by omega)) (hn a (by simp))

/-! ### exponents moved -/
/-- A permutation of the eight variables. -/
def Perm8 (perm : List Nat) : Prop := perm.Perm (List.range 8)
section
variable {perm : List Nat} (h : Perm8 perm)
include h
theorem Perm8.len : perm.length = 8 := by have := h.length_eq; simpa using this
theorem Perm8.nodup : perm.Nodup := (List.Perm.nodup_iff h).2 List.nodup_range
theorem Perm8.lt : ∀ i ∈ perm, i < 8 := fun i hi => by have := h.mem_iff.1 hi; simpa using this
theorem Perm8.sur {j : Nat} (hj : j < 8) : j ∈ perm := h.mem_iff.2 (by simpa using hj)
end
def setE (a : List Int) (x : Nat × Int) : List Int := a.set x.1 x.2
/-- The exponents moved: at place perm[i] stands m[i]. -/
def pmE (perm : List Nat) (m : List Int) : List Int := (perm.zip m).foldl setE mono0
theorem foldl_setE_len : ∀ (L : List (Nat × Int)) (a : List Int), (L.foldl setE a).length = a.length
  | [], _ => rfl
  | x :: L, a => by rw [List.foldl_cons, foldl_setE_len L]; simp [setE]
theorem foldl_setE_out : ∀ (L : List (Nat × Int)) (a : List Int) (j : Nat), j ∉ L.map (·.1) → (L.foldl setE a)[j]? = a[j]?
  | [], _, _, _ => rfl
  | x :: L, a, j, h => by
    simp only [List.map_cons, List.mem_cons, not_or] at h
    rw [List.foldl_cons, foldl_setE_out L _ j h.2, setE, List.getElem?_set_ne (fun e => h.1 e.symm)]
theorem foldl_setE_get : ∀ (L : List (Nat × Int)) (a : List Int), (L.map (·.1)).Nodup → (∀ x ∈ L, x.1 < a.length) → ∀ x ∈ L, (L.foldl setE a)[x.1]? = some x.2
  | [], _, _, _, _, h => by cases h
  | y :: L, a, hn, hl, x, hx => by
    simp only [List.map_cons, List.nodup_cons] at hn
    rw [List.foldl_cons]
    rcases List.mem_cons.1 hx with rfl | hx
    · rw [foldl_setE_out L _ _ hn.1, setE, List.getElem?_set_self (hl x (by simp))]
    · exact foldl_setE_get L _ hn.2 (fun z hz => by simp [setE]; exact hl z (List.mem_cons_of_mem _ hz)) x hx
theorem pmE_len (perm : List Nat) (m : List Int) : (pmE perm m).length = 8 := by unfold pmE; rw [foldl_setE_len]; rfl
theorem pmE_get {perm : List Nat} (hp : Perm8 perm) {m : List Int} (hm : m.length = 8) {i : Nat} (hi : i < 8) : (pmE perm m)[perm[i]'(by rw [hp.len]; exact hi)]? = some (m[i]'(by rw [hm]; exact hi)) := by
  have hmap : (perm.zip m).map (·.1) = perm := by rw [List.map_fst_zip]; rw [hp.len, hm]; exact Nat.le_refl _
  have hz : i < (perm.zip m).length := by rw [List.length_zip, hp.len, hm]; exact hi
  have := foldl_setE_get (perm.zip m) mono0 (by rw [hmap]; exact hp.nodup) (fun x hx => by
    have : x.1 ∈ perm := by rw [← hmap]; exact List.mem_map_of_mem hx
    exact hp.lt _ this) (perm.zip m)[i] (List.getElem_mem hz)
  unfold pmE
  simpa [List.getElem_zip] using this
theorem pmE_inj {perm : List Nat} (hp : Perm8 perm) {m m' : List Int} (hm : m.length = 8) (hm' : m'.length = 8) (h : pmE perm m = pmE perm m') : m = m' := by
  apply List.ext_getElem (by rw [hm, hm'])
  intro i h1 h2
  have a := pmE_get hp hm (i := i) (by omega)
  have b := pmE_get hp hm' (i := i) (by omega)
  rw [h, b] at a
  exact (Option.some.inj a).symm
def pmT (perm : List Nat) (t : Tm) : Tm := (t.1, pmE perm t.2)
/-- The polynomial with its variables exchanged. -/
def permP (perm : List Nat) (p : List Tm) : List Tm := p.foldl (fun out t => addP out [pmT perm t]) []
theorem permP_aux {perm : List Nat} (hp : Perm8 perm) : ∀ (p out : List Tm), Len8 p → (p.map (·.2)).Nodup → Len8 out → SP out → (∀ a ∈ out, ∀ t ∈ p, a.2 ≠ pmE perm t.2) →
    SP (p.foldl (fun out t => addP out [pmT perm t]) out) ∧ Len8 (p.foldl (fun out t => addP out [pmT perm t]) out) ∧ (p.foldl (fun out t => addP out [pmT perm t]) out).Perm (out ++ p.map (pmT perm))
  | [], out, _, _, ho, hs, _ => ⟨hs, ho, by simp⟩
  | t :: p, out, h8, hn, ho, hs, hd => by
    simp only [List.map_cons, List.nodup_cons] at hn
    have h1 : ∀ a ∈ out, a.2 ≠ (pmT perm t).2 := fun a ha => hd a ha t (by simp)
    have hl : (pmT perm t).2.length = 8 := pmE_len _ _
    have hm := addP_one_mem hl ho h1
    have := permP_aux hp p (addP out [pmT perm t]) h8.tail hn.2 (Len8.add ho (Len8.cons hl Len8.nil)) (addP_one_sp hl ho h1 hs) (fun a ha u hu => by
      rcases (hm a).1 ha with rfl | ha
      · intro e
        have := pmE_inj hp h8.head (h8.tail u hu) e
        exact hn.1 (this ▸ List.mem_map_of_mem hu)
      · exact hd a ha u (List.mem_cons_of_mem _ hu))
    rw [List.foldl_cons]
    refine ⟨this.1, this.2.1, this.2.2.trans ?_⟩
    rw [List.map_cons]
    exact ((addP_one_perm hl ho h1).append_right _).trans List.perm_middle.symm
section
variable {perm : List Nat} (hp : Perm8 perm) {p : List Tm} (h8 : Len8 p) (hn : (p.map (·.2)).Nodup)
include hp h8 hn
theorem permP_sp : SP (permP perm p) := (permP_aux hp p [] h8 hn Len8.nil .nil (by simp)).1
theorem permP_len8 : Len8 (permP perm p) := (permP_aux hp p [] h8 hn Len8.nil .nil (by simp)).2.1
theorem permP_perm : (permP perm p).Perm (p.map (pmT perm)) := by
  have := (permP_aux hp p [] h8 hn Len8.nil .nil (by simp)).2.2
  rwa [List.nil_append] at this
theorem permP_length : (permP perm p).length = p.length := by rw [(permP_perm hp h8 hn).length_eq, List.length_map]
theorem permP_mem (x : Tm) : x ∈ permP perm p ↔ x ∈ p.map (pmT perm) := (permP_perm hp h8 hn).mem_iff
/-- Whatever is in falling order and has these terms. -/
theorem permP_ext {l : List Tm} (hs : SP l) (hm : ∀ x, x ∈ l ↔ x ∈ p.map (pmT perm)) : l = permP perm p :=
  sp_ext hs (permP_sp hp h8 hn) (fun x => by rw [hm x, permP_mem hp h8 hn])
end
/-- Each place gets its exponent from some place. -/
theorem pmE_at {perm : List Nat} (hp : Perm8 perm) {m : List Int} (hm : m.length = 8) {j : Nat} (hj : j < 8) : ∃ i, ∃ hi : i < 8, perm[i]'(by rw [hp.len]; exact hi) = j ∧ (pmE perm m)[j]? = some (m[i]'(by rw [hm]; exact hi)) := by
  obtain ⟨i, hi, e⟩ := List.mem_iff_getElem.1 (hp.sur hj)
  have hi8 : i < 8 := by rw [← hp.len]; exact hi
  refine ⟨i, hi8, e, ?_⟩
  rw [← e]; exact pmE_get hp hm hi8
/-- The exponents are the same ones. -/
theorem pmE_perm {perm : List Nat} (hp : Perm8 perm) {m : List Int} (hm : m.length = 8) : (pmE perm m).Perm m := by
  have h1 : (pmE perm m) = (List.range 8).map (fun j => (pmE perm m).getD j 0) := by
    apply List.ext_getElem
    · rw [pmE_len]; simp
    · intro i h1 h2
      simp [List.getD_eq_getElem?_getD, List.getElem?_eq_getElem h1]
  rw [h1]
  refine ((List.Perm.symm hp).map _).trans (List.Perm.of_eq ?_)
  apply List.ext_getElem
  · rw [List.length_map, hp.len, hm]
  · intro i h1 h2
    have hi : i < 8 := by omega
    rw [List.getElem_map, List.getD_eq_getElem?_getD, pmE_get hp hm hi]; rfl

end Go.Proofs.YthhdleppkggepaaGreat

/-
  slices.SortFunc at a row of terms, by the monomials, the greatest first.
-/
namespace Go.Proofs.YthhdleppkggepaaGreat
open Go.RowKit Go.Deep
open Go.Sort (HoldsK flatK putRowK)
set_option maxRecDepth 100000

/-- A term as it lies in its cells ('ok': it can be read). -/
structure TEl (w : World) (ex : List Nat) where
  t : Rat × List Int
  vs : List Value
  ok : Bool
  sh : ∃ s1 A1 n1 c1 s2 A2 n2 c2 e0 e1 e2 e3 e4 e5 e6 e7, vs = [.bool s1, .slice A1 n1 c1, .bool s2, .slice A2 n2 c2, .int .i64 e0, .int .i64 e1, .int .i64 e2, .int .i64 e3, .int .i64 e4, .int .i64 e5, .int .i64 e6, .int .i64 e7] ∧ t.2 = [e0, e1, e2, e3, e4, e5, e6, e7]
  rd : ok = true → tmRd w ex t vs
def TEl.enc {w : World} {ex : List Nat} (x : TEl w ex) : List Value := x.vs
instance {w : World} {ex : List Nat} : Inhabited (TEl w ex) := ⟨⟨(0, mono0), _, false, ⟨false, none, 0, 0, false, none, 0, 0, 0, 0, 0, 0, 0, 0, 0, 0, rfl, rfl⟩, fun h => by cases h⟩⟩
def TEl.of {w : World} {ex : List Nat} (t : Rat × List Int) (vs : List Value) (h : tmRd w ex t vs) : TEl w ex :=
  ⟨t, vs, true, by obtain ⟨s1, A1, n1, c1, s2, A2, n2, c2, e0, e1, e2, e3, e4, e5, e6, e7, rfl, hq, hm⟩ := h; exact ⟨s1, A1, n1, c1, s2, A2, n2, c2, e0, e1, e2, e3, e4, e5, e6, e7, rfl, hm⟩, fun _ => h⟩
def TEl.cf {w : World} {ex : List Nat} (x y : TEl w ex) : Int := cmpL y.t.2 x.t.2
theorem TEl.len8 {w : World} {ex : List Nat} (x : TEl w ex) : x.t.2.length = 8 := by
  obtain ⟨s1, A1, n1, c1, s2, A2, n2, c2, e0, e1, e2, e3, e4, e5, e6, e7, _, hm⟩ := x.sh
  rw [hm]; rfl
theorem TEl.len {w : World} {ex : List Nat} (x : TEl w ex) : x.enc.length = 12 := by
  obtain ⟨s1, A1, n1, c1, s2, A2, n2, c2, e0, e1, e2, e3, e4, e5, e6, e7, h, _⟩ := x.sh
  unfold TEl.enc; rw [h]; rfl
theorem TEl.one {w : World} {ex : List Nat} (x : TEl w ex) : ∀ v ∈ x.enc, v.oneCell' = true := by
  obtain ⟨s1, A1, n1, c1, s2, A2, n2, c2, e0, e1, e2, e3, e4, e5, e6, e7, h, _⟩ := x.sh
  unfold TEl.enc; rw [h]
  intro u hu
  simp only [List.mem_cons, List.not_mem_nil, or_false] at hu
  rcases hu with rfl | rfl | rfl | rfl | rfl | rfl | rfl | rfl | rfl | rfl | rfl | rfl <;> rfl

theorem swoT {w : World} {ex : List Nat} : Sort.SWO (ltOf (TEl.cf (w := w) (ex := ex))) where
  irrefl x := by simp [ltOf, TEl.cf, cmpL_self]
  trans x y z h1 h2 := by
    have h1' : cmpL y.t.2 x.t.2 < 0 := of_decide_eq_true h1
    have h2' : cmpL z.t.2 y.t.2 < 0 := of_decide_eq_true h2
    exact decide_eq_true (cmpL_trans (by rw [z.len8, y.len8]) (by rw [y.len8, x.len8]) h2' h1')
  ntrans x y z h1 h2 := by
    have h1' : ¬ cmpL y.t.2 x.t.2 < 0 := of_decide_eq_false h1
    have h2' : ¬ cmpL z.t.2 y.t.2 < 0 := of_decide_eq_false h2
    refine decide_eq_false ?_
    show ¬ cmpL z.t.2 x.t.2 < 0
    intro h3
    have hx := x.len8
    have hy := y.len8
    have hz := z.len8
    rcases cmpL_cases y.t.2 x.t.2 with e | e | e
    · omega
    · have := cmpL_zero (by rw [hy, hx]) e
      rw [← this] at h3; exact h2' h3
    · have h4 : cmpL x.t.2 y.t.2 < 0 := by rw [cmpL_swap]; omega
      exact h2' (cmpL_trans (by rw [hz, hx]) (by rw [hx, hy]) h3 h4)

/-- A row of terms that may be written. -/
def TRow (w : World) (ex : List Nat) (g : Nat) (l : List (Rat × List Int)) : Prop :=
  ∀ k (hk : k < l.length), ∃ vs, tmRd w ([g] ++ ex) l[k] vs ∧ ∀ j u, vs[j]? = some u → w.cell? ⟨g, k * 12 + j, none⟩ = some u ∧ w.frozen? ⟨g, k * 12 + j, none⟩ = false
theorem sortWorldK_block {α : Type} [Inhabited α] (enc : α → List Value) (w : World) (blk off m : Nat) (dk : Array α) (os : Array Obj) {b : Nat} (hb : b < w.heap.size) (hne : b ≠ blk) : (sortWorldK enc 12 w blk off m dk os).heap[b]? = w.heap[b]? := by
  unfold sortWorldK
  rw [Sort.heap_grow_old _ _ (by simpa [putRowK, Sort.putRow, Sort.mapBlock] using hb)]
  simp [putRowK, Sort.putRow, Sort.mapBlock, Array.getElem?_modify]
  omega
theorem sortWorldK_size {α : Type} [Inhabited α] (enc : α → List Value) (w : World) (blk off m : Nat) (dk : Array α) (os : Array Obj) : w.heap.size ≤ (sortWorldK enc 12 w blk off m dk os).heap.size := by
  unfold sortWorldK; simp [putRowK, Sort.putRow, Sort.mapBlock]
theorem sortWorldK_kr {α : Type} [Inhabited α] (enc : α → List Value) (w : World) (blk off m : Nat) (dk : Array α) (os : Array Obj) (ex : List Nat) : Kr w ([blk] ++ ex) (sortWorldK enc 12 w blk off m dk os) ([blk] ++ ex) :=
  ⟨sortWorldK_size _ _ _ _ _ _ _, fun _ _ h => h, fun b hb hx => sortWorldK_block _ _ _ _ _ _ _ hb (by intro e; apply hx; simp [e])⟩

theorem cmpLaysT (w : World) (ex : List Nat) (blk size : Nat) : CmpLays Tryz.prog 193 #[] (TEl.enc (w := w) (ex := [blk] ++ ex)) 12 TEl.cf blk 0 size w := by
  intro m os dk _ x y
  obtain ⟨t, vs, ok, ⟨s1, A1, n1, c1, s2, A2, n2, c2, e0, e1, e2, e3, e4, e5, e6, e7, rfl, hm⟩, rd⟩ := x
  obtain ⟨t', vs', ok', ⟨s3, A3, n3, c3, s4, A4, n4, c4, f0, f1, f2, f3, f4, f5, f6, f7, rfl, hm'⟩, rd'⟩ := y
  refine (polyc_ok _ s1 A1 n1 c1 s2 A2 n2 c2 s3 A3 n3 c3 s4 A4 n4 c4 e0 e1 e2 e3 e4 e5 e6 e7 f0 f1 f2 f3 f4 f5 f6 f7).mono ?_
  rintro e w' ⟨X, D, rfl, rfl⟩
  refine ⟨?_, D, X, rfl⟩
  show _ = Ending.returned (.int .i64 (cmpL t'.2 t.2))
  rw [hm, hm']

set_option maxHeartbeats 2000000 in
/-- slices.SortFunc at terms (its parameter's type is the defined one, so that the shelf's own contract does not lie here). -/
theorem sortT_whole {α : Type} [Inhabited α] (enc : α → List Value) (hk : ∀ x, (enc x).length = 12) (h1 : ∀ x, ∀ v ∈ enc x, v.oneCell' = true) (cf : α → α → Int) (hO : Sort.SWO (ltOf cf)) (blk cap : Nat) (d : Array α) (w : World)
    (hcmp : CmpLays Tryz.prog 193 #[] enc 12 cf blk 0 d.size w) (hH : HoldsK enc 12 w blk 0 d) (hblk : blk < w.heap.size) (hsz : d.size < 4611686018427387904) :
    Calls Tryz.prog 192 #[.slice (some ⟨blk, 0, none⟩) d.size cap, .func (Fn.func 193) #[] #[]] w fun e w' =>
      e = .returned (.tuple #[]) ∧ ∃ d' n os, Sort.PermIn 0 d.size d d' ∧ Sort.SortedIn (ltOf cf) 0 d.size d' ∧ w' = sortWorldK enc 12 w blk 0 n d' os := by
  have eg : ∀ args w, (callFunc 193 args).run Tryz.prog w = .ok (.enter 193 args) w := enters_of Tryz.func193 (by kernel_rfl) rfl
  have hlim : Lib.bitLen d.size < 4611686018427387904 := Nat.lt_of_le_of_lt (Lib.bitLen_le d.size 62 (by omega) (by omega)) (by omega)
  have hp := AnyQ.pdqsortCmpFunc_all (P := Tryz.prog) (ρ := Tryz.pdqT_ren) Tryz.pdqT 12 (fun w => by kernel_rfl) (fun w => by kernel_rfl) enc cf 193 #[] hO blk 0 cap d w eg hcmp ⟨hk, h1, hH, hblk⟩ (d.size + 1) 0 d.size (Lib.bitLen d.size) d w (by omega) rfl (SWK.start hH) (Nat.zero_le _) (Nat.le_refl _) hsz hlim (Or.inl rfl)
  have hl : Calls Tryz.prog 143 #[.int .u64 (d.size : Int)] w fun e w' => e = .returned (.int .i64 (Lib.bitLen d.size : Nat)) ∧ w' = w := by
    have L := Tryz.pdqT
    have h := Any.bits_Len (SlLaysF0.n15.bits (P := Tryz.prog) (ρ := Tryz.pdqT_ren) { L with }) (d.size : Int) w (by omega) (by omega)
    rwa [Int.toNat_natCast] at h
  change Calls Tryz.prog 224 _ _ _ at hp
  have wr : IntKind.u64.wrap (d.size : Int) = d.size := by simp [IntKind.wrap, IntKind.bits, IntKind.signed]; omega
  have HPd := Lib.hid hp
  have HLn := Lib.hid hl
  clear hH hcmp hk h1 hp hl
  go_enter Tryz.func192, Tryz.ntmps192
  go_wp2_with (first | (go_at_call 143; refine HLn.out.mono ?_; rintro e w' ⟨rfl, rfl⟩) | (go_at_call 224; refine HPd.out.mono ?_; rintro e w' ⟨rfl, n, os, rfl⟩))
  go_end0
  have h := Sort.pdq_sorts (ltOf cf) hO d 0 d.size (Lib.bitLen d.size) true true (Nat.zero_le _) (Nat.le_refl _) (Or.inl rfl)
  exact ⟨rfl, _, n, os, h.1, h.2, rfl⟩

theorem sortT_ok (w : World) (ex : List Nat) (blk c : Nat) (l : List (Rat × List Int)) (hr : TRow w ex blk l) (hblk : blk < w.heap.size) (hl : l.length < 1000000000) :
    Calls Tryz.prog 192 #[.slice (some ⟨blk, 0, none⟩) l.length c, .func (Fn.func 193) #[] #[]] w fun e w' =>
      e = .returned (.tuple #[]) ∧ ∃ l', l'.Perm l ∧ l'.Pairwise (fun s t => ¬ cmpL s.2 t.2 < 0) ∧ w.grownBy w' (some blk) ∧ w.drawn ≤ w'.drawn ∧ TRow w' ex blk l' := by
  have hch : ∀ k : Fin l.length, ∃ x : TEl w ([blk] ++ ex), x.t = l[k] ∧ x.ok = true ∧ ∀ j u, x.vs[j]? = some u → w.cell? ⟨blk, k * 12 + j, none⟩ = some u ∧ w.frozen? ⟨blk, k * 12 + j, none⟩ = false := by
    intro k
    obtain ⟨vs, h1, h2⟩ := hr k k.2
    exact ⟨TEl.of _ vs h1, rfl, rfl, h2⟩
  obtain ⟨f, hf⟩ := Classical.axiomOfChoice hch
  have hsz : (Array.ofFn f).size = l.length := Array.size_ofFn
  have hH : HoldsK (TEl.enc (w := w) (ex := [blk] ++ ex)) 12 w blk 0 (Array.ofFn f) := by
    intro t ht
    rw [Sort.size_flatK, hsz] at ht
    have hk : t / 12 < l.length := by omega
    have h1 := (hf ⟨t / 12, hk⟩).2.2
    rw [Sort.get_flatK _ _ _ _ (by rw [hsz]; exact ht)]
    have e : (Array.ofFn f)[t / 12]! = f ⟨t / 12, hk⟩ := by rw [getElem!_pos _ _ (by rw [hsz]; exact hk)]; simp
    rw [e]
    have hlen := (f ⟨t / 12, hk⟩).len
    have h2 := h1 (t % 12) ((f ⟨t / 12, hk⟩).enc[t % 12]!) (by
      show (f ⟨t / 12, hk⟩).enc[t % 12]? = _
      rw [getElem!_pos _ _ (by rw [hlen]; omega), List.getElem?_eq_getElem])
    have e3 : t / 12 * 12 + t % 12 = t := by omega
    simp only [e3] at h2
    rw [Nat.zero_add]
    exact h2
  have hcon := sortT_whole (TEl.enc (w := w) (ex := [blk] ++ ex)) TEl.len TEl.one TEl.cf swoT blk c (Array.ofFn f) w (cmpLaysT w ex blk _) hH hblk (by rw [hsz]; omega)
  rw [hsz] at hcon
  refine hcon.mono ?_
  rintro e w' ⟨rfl, d', n, os, hp, hs, rfl⟩
  have hsz' : d'.size = l.length := by rw [← hsz]; exact hp.1
  have hcl := holdsK_sortWorldK_c (TEl.enc (w := w) (ex := [blk] ++ ex)) 12 w blk 0 (Array.ofFn f) d' n os hH hblk (by rw [hsz', hsz])
  have hperm : d'.toList.Perm (Array.ofFn f).toList := by
    have h3 := hp.2.2
    have hxx : ∀ (a : Array (TEl w ([blk] ++ ex))) (n : Nat), a.size = n → a.extract 0 n = a := by rintro a n rfl; exact Array.extract_size
    rwa [hxx d' _ hsz', hxx _ _ hsz] at h3
  have hok : ∀ x ∈ d'.toList, x.ok = true := by
    intro x hx
    have := hperm.mem_iff.1 hx
    simp only [Array.toList_ofFn, List.mem_ofFn] at this
    obtain ⟨i, rfl⟩ := this
    exact (hf i).2.1
  refine ⟨rfl, d'.toList.map TEl.t, ?_, ?_, ?_, ?_, ?_⟩
  · have h4 := hperm.map TEl.t
    have h5 : (Array.ofFn f).toList.map TEl.t = l := by
      apply List.ext_getElem
      · simp
      · intro i h1 h2
        simp only [List.getElem_map, Array.getElem_toList, Array.getElem_ofFn]
        exact (hf ⟨i, h2⟩).1
    rwa [h5] at h4
  · rw [List.pairwise_iff_getElem]
    intro i j hi hj hij
    simp only [List.length_map, Array.length_toList] at hi hj
    have := hs i j (Nat.zero_le _) hij (by rw [← hsz']; exact hj)
    have h2 : ¬ (TEl.cf d'[j]! d'[i]! < 0) := of_decide_eq_false this
    rw [getElem!_pos d' j hj, getElem!_pos d' i hi] at h2
    simpa [TEl.cf] using h2
  · exact ⟨rfl, rfl, rfl, sortWorldK_size _ _ _ _ _ _ _, fun k hk hne => sortWorldK_block _ _ _ _ _ _ _ hk (fun e => hne (by rw [e]))⟩
  · exact Nat.le_add_right w.drawn n
  · intro k hk
    simp only [List.length_map, Array.length_toList] at hk
    refine ⟨d'[k].vs, ?_, fun j u hu => ?_⟩
    · simp only [List.getElem_map, Array.getElem_toList]
      exact tmE.mono (sortWorldK_kr _ _ _ _ _ _ _ _) (d'[k].rd (hok _ (by simp)))
    · have hlen := d'[k].len
      have hj : j < 12 := by rw [← hlen]; exact (List.getElem?_eq_some_iff.1 hu).1
      have := hcl.cell (i := k) (c := j) hk hj
      rw [getElem!_pos d' k hk, Nat.zero_add, getElem!_pos _ _ (by rw [hlen]; exact hj)] at this
      have e : d'[k].enc[j]'(by rw [hlen]; exact hj) = u := by
        have hu' : d'[k].enc[j]? = some u := hu
        rw [List.getElem?_eq_getElem (by rw [hlen]; exact hj)] at hu'
        exact Option.some.inj hu'
      rw [e] at this
      exact this

end Go.Proofs.YthhdleppkggepaaGreat

/-
  The walk of sum.poly: the terms that are left, sorted.
-/
namespace Go.Proofs.YthhdleppkggepaaGreat
open Go.RowKit Go.Deep
set_option maxRecDepth 100000

theorem mem_swap3 {a b c : List Nat} {x : Nat} : x ∈ a ++ (b ++ c) ↔ x ∈ b ++ (a ++ c) := by
  simp only [List.mem_append]
  constructor
  · rintro (h | h | h) <;> simp [h]
  · rintro (h | h | h) <;> simp [h]
theorem mem_wk {o ex : List Nat} {b r : Nat} : ∀ x, x ∈ o ++ ([r] ++ ex) → x ∈ [b, r] ++ (o ++ ex) := by
  intro x
  simp only [List.mem_append, List.mem_cons, List.not_mem_nil, or_false]
  rintro (h | h | h) <;> simp [h]
def nzT (t : Rat × List Int) : Bool := decide (t.1 ≠ 0)
theorem RQ.sub {w : World} {ex ex' : List Nat} {s1 : Bool} {A1 : Option Addr} {n1 c1 : Nat} {s2 : Bool} {A2 : Option Addr} {n2 c2 : Nat} {q : Rat} (h : RQ w ex s1 A1 n1 c1 s2 A2 n2 c2 q) (hs : ∀ b, b ∈ ex' → b ∈ ex) : RQ w ex' s1 A1 n1 c1 s2 A2 n2 c2 q := h.mono ((Kr.refl w ex).sub hs)
theorem OwnL.mono_ex {w : World} {base r : Nat} {ex : List Nat} {v : Value} {l : List (Rat × List Int)} (h : OwnL tmE w base ([r] ++ ex) v l) : OwnL tmE w base ex v l := by
  obtain ⟨cs, h1, h2⟩ := h
  exact ⟨cs, h1, h2.mono ((Kr.refl w _).sub (by intro b hb; rcases List.mem_append.1 hb with hb | hb <;> simp [hb]))⟩
theorem OwnL.cap_le {w : World} {base g n c : Nat} {ex : List Nat} {l : List (Rat × List Int)} (h : OwnL tmE w base ex (.slice (some ⟨g, 0, none⟩) n c) l) : l.length ≤ c := by
  obtain ⟨cs, h1, _⟩ := h
  obtain ⟨A', c', e, hc⟩ := own_form h1
  injection e with e1 e2 e3
  subst e3; exact hc
/-- An own slice of terms as a row that may be written. -/
theorem OwnL.trow {w : World} {base : Nat} {ex : List Nat} {g n c : Nat} {l : List (Rat × List Int)} (h : OwnL tmE w base ex (.slice (some ⟨g, 0, none⟩) n c) l) : TRow w ex g l := by
  obtain ⟨cs, h1, h2⟩ := h
  intro k hk
  obtain ⟨vs, hr, hc⟩ := h2.get k hk
  have hn : n = l.length := by
    obtain ⟨A', c'', e, _⟩ := own_form h1
    injection e
  refine ⟨vs, hr, fun j u hu => ⟨?_, ?_⟩⟩
  · have := h1.cells (g := g) rfl (k * 12 + j) _ (hc j u hu)
    rw [Addr.add_lit] at this
    simpa using this
  · exact World.ownsRow.frozenAt (g := g) (n := l.length) (cap := c) (by rw [← hn]; rw [hn] at h1; rw [hn]; exact h1) (k * 12 + j)
/-- .. and back. -/
theorem TRow.rp {w : World} {ex : List Nat} {g c : Nat} {l : List (Rat × List Int)} (h : TRow w ex g l) (hg : g ∉ ex) (hlt : g < w.heap.size) (hc : l.length ≤ c) : RP w ex (some ⟨g, 0, none⟩) l.length c l := by
  refine RP.of_rl ⟨rfl, hc, fun _ => ⟨g, 0, rfl, hg, hlt, fun i hi => ?_⟩⟩
  obtain ⟨vs, h1, h2⟩ := h i hi
  refine ⟨vs, tmE.mono ((Kr.refl w ([g] ++ ex)).sub (fun b hb => by simp [hb])) h1, fun j u hu => ?_⟩
  rw [Nat.zero_add]
  exact (h2 j u hu).1

theorem own_some_of {w : World} {base : Nat} {ex : List Nat} {v : Value} {l : List (Rat × List Int)} (h : OwnL tmE w base ex v l) (hl : 0 < l.length) : ∃ g c, v = .slice (some ⟨g, 0, none⟩) l.length c := by
  obtain ⟨cs, h1, _⟩ := h
  rcases h1.2 with ⟨_, h3⟩ | ⟨g, cap, cur, hv, _⟩
  · omega
  · exact ⟨g, cap, hv⟩
theorem left_less {a a' n : Nat} {done : List (Rat × List Int)} {x : Rat × List Int} (h1 : done.length + a = n) (h2 : (done ++ [x]).length + a' = n) : a' < a := by
  rw [List.length_append, List.length_singleton] at h2; omega
theorem filter_snoc_in {done : List (Rat × List Int)} {x : Rat × List Int} (h : x.1 ≠ 0) : (done ++ [x]).filter nzT = done.filter nzT ++ [x] := by
  rw [List.filter_append]; simp [nzT, h]
theorem filter_snoc_out {done : List (Rat × List Int)} {x : Rat × List Int} (h : x.1 = 0) : (done ++ [x]).filter nzT = done.filter nzT := by
  rw [List.filter_append]; simp [nzT, h]
theorem sp_of_sorted {l : List (Rat × List Int)} (h8 : Len8 l) (hn : (l.map (·.2)).Nodup) (hs : l.Pairwise (fun s t => ¬ cmpL s.2 t.2 < 0)) : SP l := by
  unfold List.Nodup at hn
  rw [List.pairwise_map] at hn
  have := List.Pairwise.and hs hn
  refine List.Pairwise.imp_of_mem ?_ this
  intro a b ha hb hab
  rcases cmpL_cases a.2 b.2 with e | e | e
  · omega
  · exact absurd (cmpL_zero (by rw [h8 a ha, h8 b hb]) e) hab.2
  · show 0 < cmpL a.2 b.2; omega

set_option maxHeartbeats 4000000 in
theorem sumpoly_ok (w : World) (ex : List Nat) (b : Nat) (L : List (Rat × List Int)) (hm : MapR w ex b L) (hlen : L.length ≤ 1000000) (hex : ∀ b ∈ ex, b < w.heap.size) (h8 : Len8 L) (hn : (L.map (·.2)).Nodup) :
    Calls Tryz.prog 155 #[.map (some b)] w (fun e w' => ∃ L', L'.Perm (L.filter nzT) ∧ SP L' ∧ RetP w ex L' e w') := by
  have hlt := hm.lt
  have HM := Lib.hid hm
  have HL := Lib.hid hlen
  have H8 := Lib.hid h8
  have HN := Lib.hid hn
  clear hm h8 hn
  go_enter Tryz.func155, Tryz.ntmps155
  have hm0 : MapR (w.alloc (.cells #[] 118)) ([w.heap.size] ++ ex) b L := HM.out.mono (((Kr.refl w ([b] ++ ex)).alloc _).sub (by intro x hx; simp at hx ⊢; grind)) (Below.heap_alloc _ _ _ hlt)
  go_wp2_with (first | (at_range; refine wpList_mono_range _ rfl _ rfl rfl hm0 ?_; intro W0 hrg0 hb0 hs0) | fail)
  go_frame
  rw [World.size_alloc] at hrg0 ⊢
  have hbel0 : Below w.heap.size w W0 := ((Below.refl w.heap.size w).alloc (Nat.le_refl _) _).trans (hb0.mono (by simp))
  have hown0 : OwnL tmE W0 w.heap.size ([w.heap.size + 1] ++ ex) (.slice (some ⟨w.heap.size, 0, none⟩) 0 0) [] := (OwnL.empty (E := tmE) w w.heap.size _ (Nat.le_refl _)).keep hb0
  have hsz0 : W0.heap.size = w.heap.size + 2 := by rw [hs0]; simp
  go_loopw [3] (fun v wr => ∃ done y, y = v ∧ RgR wr (own y ++ ex) b (w.heap.size + 1) L done ∧ OwnL tmE wr w.heap.size ([w.heap.size + 1] ++ ex) y (done.filter nzT) ∧ Below w.heap.size w wr ∧ w.heap.size + 2 ≤ wr.heap.size ∧ w.heap.size + 1 ∉ own y ∧ ∃ g c, y = .slice (some ⟨g, 0, none⟩) (done.filter nzT).length c) (fun _ wr => wr.rangeLeft b (w.heap.size + 1))
  case atStart => exact ⟨[], _, rfl, hrg0, hown0, hbel0, by omega, by simp [own, Value.ownBlock], _, _, rfl⟩
  case round =>
    obtain ⟨done, y, rfl, hrg, hown, hbw, hsz, hry, hform⟩ := hrel
    have hleft := hrg.left
    go_wp2_with (first | (at_next; refine wpList_mono_next _ rfl _ rfl rfl hrg (fun hperm => ?_) (fun q e0 e1 e2 e3 e4 e5 e6 e7 s1 A1 n1 c1 s2 A2 n2 c2 w1 hmem hq hrg1 hg1 hs1 hd1 hen => ?_)) | fail)
    · obtain ⟨g, c, rfl⟩ := hform
      have hg := hown.le g (by simp [own, Value.ownBlock])
      have hown2 : OwnL tmE wr w.heap.size ex (.slice (some ⟨g, 0, none⟩) (done.filter nzT).length c) (done.filter nzT) := hown.mono_ex
      have hcap := hown2.cap_le
      have htr := hown2.trow
      have hge : g ∉ ex := fun hh => by have := hex g hh; omega
      have hflen : (done.filter nzT).length ≤ 1000000 := Nat.le_trans (List.length_filter_le _ _) (by rw [← hperm.length_eq]; exact HL.out)
      have HF : Hid ((done.filter nzT).Perm (L.filter nzT)) := Lib.hid ((hperm.symm).filter _)
      have HS := Lib.hid (sortT_ok wr ex g c (done.filter nzT) htr hg.2 (by omega))
      generalize done.filter nzT = Q at *
      clear hrg hown hperm htr hown2 hleft
      go_wp2_with fail
      refine HS.out.mono ?_; rintro e w1 ⟨rfl, L', hp, hso, hg1, hd1, htr1⟩
      have hsz1 := hg1.size
      have hbe : Below w.heap.size w w1 := hbw.turned hg1 hd1 (by omega) hg.1
      go_wp2_with fail
      go_ret
      have hpl := hp.trans HF.out
      refine ⟨L', hpl, ?_, ?_⟩
      · refine sp_of_sorted (fun t ht => H8.out t ((List.mem_filter.1 (hpl.mem_iff.1 ht)).1)) ?_ (List.Pairwise.imp (fun h => by omega) hso)
        exact ((hpl.map (·.2)).nodup_iff).2 (HN.out.sublist (List.filter_sublist.map _))
      · rw [hp.length_eq.symm]
        exact RetP.mk rfl hbe (htr1.rp hge (Nat.lt_of_lt_of_le hg.2 hsz1) (by rw [hp.length_eq]; exact hcap))
    · have hyle := hown.le
      have hkw : Kr wr (own y ++ ([w.heap.size + 1] ++ ex)) w1 (own y ++ ([w.heap.size + 1] ++ ex)) := (Kr.refl _ _).turned hg1 (by simp)
      have hown1 : OwnL tmE w1 w.heap.size ([w.heap.size + 1] ++ ex) y (done.filter nzT) := hown.keepR hkw (fun b hb => hg1.block b (hyle b hb).2 (by intro e; cases e; exact hry hb))
      have hb1 : Below w.heap.size w w1 := hbw.turned hg1 hd1 (by omega) (by omega)
      have hflen : (done.filter nzT).length < 1000000 := by
        have h1 := List.length_filter_le nzT done
        have h2 := hrg1.left
        rw [List.length_append, List.length_singleton] at h2
        have := HL.out; omega
      have hlt1 : b < w1.heap.size := hrg1.lt.1
      have HLeft := Lib.hid hleft
      clear hrg hown hbw hkw hleft hg1
      by_cases h0 : q = 0
      · have hs := sign_eq_zero h0
        have HF : Hid ((done ++ [(q, [e0, e1, e2, e3, e4, e5, e6, e7])]).filter nzT = done.filter nzT) := Lib.hid (filter_snoc_out h0)
        clear h0
        go_wp2_with fail
        refine (ratsign_ok _ ([b, w.heap.size + 1] ++ (own y ++ ex)) s1 A1 n1 c1 s2 A2 n2 c2 q (hq.mono (Kr.of_below (by repeat first | with_reducible exact .refl .. | with_reducible assumption | refine .s ?_ ?_ | refine .m ?_ ?_ | refine .l ?_ ?_ | refine .d ?_ | refine .e ?_ | (simp <;> omega) | omega) _))).mono ?_; rintro e w2 ⟨X, D, rfl, rfl⟩
        go_wp2_with fail
        go_roundw
        case rel => exact ⟨_, y, rfl, hrg1.keep (by repeat first | with_reducible exact .refl .. | with_reducible assumption | refine .s ?_ ?_ | refine .m ?_ ?_ | refine .l ?_ ?_ | refine .d ?_ | refine .e ?_ | (simp <;> omega) | omega), by rw [HF.out]; exact hown1.keep (by repeat first | with_reducible exact .refl .. | with_reducible assumption | refine .s ?_ ?_ | refine .m ?_ ?_ | refine .l ?_ ?_ | refine .d ?_ | refine .e ?_ | (simp <;> omega) | omega), (by repeat first | with_reducible exact .refl .. | with_reducible assumption | refine .s ?_ ?_ | refine .m ?_ ?_ | refine .l ?_ ?_ | refine .d ?_ | refine .e ?_ | (simp <;> omega) | omega), by simp; omega, hry, by rw [HF.out]; exact hform⟩
        case measure => exact left_less HLeft.out (hrg1.keep (by repeat first | with_reducible exact .refl .. | with_reducible assumption | refine .s ?_ ?_ | refine .m ?_ ?_ | refine .l ?_ ?_ | refine .d ?_ | refine .e ?_ | (simp <;> omega) | omega)).left
      · have hs := sign_ne_zero h0
        have HF : Hid ((done ++ [(q, [e0, e1, e2, e3, e4, e5, e6, e7])]).filter nzT = done.filter nzT ++ [(q, [e0, e1, e2, e3, e4, e5, e6, e7])]) := Lib.hid (filter_snoc_in h0)
        clear h0
        go_wp2_with fail
        refine (ratsign_ok _ ([b, w.heap.size + 1] ++ (own y ++ ex)) s1 A1 n1 c1 s2 A2 n2 c2 q (hq.mono (Kr.of_below (by repeat first | with_reducible exact .refl .. | with_reducible assumption | refine .s ?_ ?_ | refine .m ?_ ?_ | refine .l ?_ ?_ | refine .d ?_ | refine .e ?_ | (simp <;> omega) | omega) _))).mono ?_; rintro e w2 ⟨X, D, rfl, rfl⟩
        go_wp2_with (at_builtin; go_loud (refine wpList_append_elt2 tmE _ rfl _ _ 65 rfl Tryz.underlying65 w.heap.size ([w.heap.size + 1] ++ ex) y (done.filter nzT) rfl (hown1.keep (by repeat first | with_reducible exact .refl .. | with_reducible assumption | refine .s ?_ ?_ | refine .m ?_ ?_ | refine .l ?_ ?_ | refine .d ?_ | refine .e ?_ | (simp <;> omega) | omega)) _ _ rfl (q, [e0, e1, e2, e3, e4, e5, e6, e7]) [.bool s1, .slice A1 n1 c1, .bool s2, .slice A2 n2 c2, .int .i64 e0, .int .i64 e1, .int .i64 e2, .int .i64 e3, .int .i64 e4, .int .i64 e5, .int .i64 e6, .int .i64 e7] (cell_new _ _ _ _ (by first | (simp; done) | (simp; omega) | omega)) (by intro hh; rcases List.mem_append.1 hh with hh | hh; (have := (hyle _ hh).2; first | omega | (simp at this; omega)); (rcases List.mem_append.1 hh with hh | hh; (simp at hh; omega); (have := hex _ hh; omega))) ⟨s1, A1, n1, c1, s2, A2, n2, c2, _, _, _, _, _, _, _, _, rfl, (hq.sub mem_wk).mono (Kr.of_below (by repeat first | with_reducible exact .refl .. | with_reducible assumption | refine .s ?_ ?_ | refine .m ?_ ?_ | refine .l ?_ ?_ | refine .d ?_ | refine .e ?_ | (simp <;> omega) | omega) _), rfl⟩ (by omega) (by simp; omega) ?_; intro v2 w3 ho3 hk3 hin3 hbl3; have hb3 := hbl3 _ _ (show Below w.heap.size w _ from (by repeat first | with_reducible exact .refl .. | with_reducible assumption | refine .s ?_ ?_ | refine .m ?_ ?_ | refine .l ?_ ?_ | refine .d ?_ | refine .e ?_ | (simp <;> omega) | omega)) (Nat.le_refl _); have hsz3 := (hk3 []).size; have hbs3 := (hk3 []).same b (by first | (simp; done) | (simp; omega) | omega) (by intro hh; rw [List.append_nil] at hh; have := (hyle _ hh).1; omega); have hrs3 := (hk3 []).same (w.heap.size + 1) (by first | (simp; done) | (simp; omega) | omega) (by intro hh; rw [List.append_nil] at hh; exact hry hh); have hrg3 := RgR.mono (hrg1.keep (by repeat first | with_reducible exact .refl .. | with_reducible assumption | refine .s ?_ ?_ | refine .m ?_ ?_ | refine .l ?_ ?_ | refine .d ?_ | refine .e ?_ | (simp <;> omega) | omega)) (((hk3 ([b, w.heap.size + 1] ++ ex)).src (fun _ hh => mem_swap3.1 hh)).sub (fun _ hh => mem_swap3.1 hh)) hbs3 hrs3))
        go_wp2_with fail
        go_roundw
        case rel => exact ⟨_, v2, rfl, hrg3, by rw [HF.out]; exact ho3, hb3, by simp at hsz3; omega, (by intro hh; rcases hin3 _ hh with hh | hh; exact hry hh; simp at hh; omega), by rw [HF.out]; exact own_some_of ho3 (by simp)⟩
        case measure => exact left_less HLeft.out hrg3.left

end Go.Proofs.YthhdleppkggepaaGreat
