/-
  The walk of the law SystemNormal.
-/
import Derived.Test.YthhdleppkggepaaGreatSbLast
import Derived.OpenShut
import Derived.ChangeArms
import Derived.ChangeOld
import Derived.ReadAgain
import Derived.Deep.Slices
import Derived.Test.YthhdleppkggepaaGreatSm06
import Derived.Test.YthhdleppkggepaaGreatSm07

set_option linter.unusedSimpArgs false
set_option linter.unusedVariables false
set_option linter.unusedSectionVars false

namespace Go.Proofs.YthhdleppkggepaaGreat
open Go.RowKit Go.Deep
set_option maxRecDepth 100000

set_option maxHeartbeats 1000000 in
theorem alike_ok (w : World) (N : Nat) (A1 : Option Addr) (n1 c1 : Nat) (A2 : Option Addr) (n2 c2 : Nat) (A3 : Option Addr) (n3 c3 : Nat) (A4 : Option Addr) (n4 c4 : Nat) (l1 l2 : List Pol) (z : Int)
    (h1 : RL poE w [] A1 n1 c1 l1) (h2 : RL poE w [] A2 n2 c2 l2) (h3 : RL poE w [] A3 n3 c3 l1) (h4 : RL poE w [] A4 n4 c4 l2) (g1 : ∀ p ∈ l1, ZP p) (g2 : ∀ p ∈ l2, ZP p) (hN : N ≤ 1000) (hl1 : l1.length ≤ 50) (hl2 : l2.length ≤ 50) :
    Calls Tryz.prog 14 #[.agg #[.int .i64 N, .slice A1 n1 c1, .slice A2 n2 c2], .int .i64 z, .agg #[.int .i64 N, .slice A3 n3 c3, .slice A4 n4 c4], .int .i64 z] w (RetB w true) := by
  have HB := Lib.hid (coreB_len hN g1 g2 hl1 hl2)
  have m1 : n1 ≤ 1000000000 := by rw [h1.len]; omega
  have m2 : n2 ≤ 1000000000 := by rw [h2.len]; omega
  have m3 : n3 ≤ 1000000000 := by rw [h3.len]; omega
  have m4 : n4 ≤ 1000000000 := by rw [h4.len]; omega
  have H1 := Lib.hid h1
  have H2 := Lib.hid h2
  have H3 := Lib.hid h3
  have H4 := Lib.hid h4
  have G1 := Lib.hid g1
  have G2 := Lib.hid g2
  clear h1 h2 h3 h4 g1 g2
  go_enter Tryz.func14, Tryz.ntmps14
  go_wp2_with fail
  refine (samecore_ok _ [] N A1 n1 c1 A2 n2 c2 l1 l2 N A3 n3 c3 A4 n4 c4 l1 l2 (H1.out.mono (Kr.of_below (by repeat first | with_reducible exact .refl .. | with_reducible assumption | refine .s ?_ ?_ | refine .m ?_ ?_ | refine .l ?_ ?_ | refine .d ?_ | refine .e ?_ | (simp <;> omega) | omega) _)) (H2.out.mono (Kr.of_below (by repeat first | with_reducible exact .refl .. | with_reducible assumption | refine .s ?_ ?_ | refine .m ?_ ?_ | refine .l ?_ ?_ | refine .d ?_ | refine .e ?_ | (simp <;> omega) | omega) _)) (H3.out.mono (Kr.of_below (by repeat first | with_reducible exact .refl .. | with_reducible assumption | refine .s ?_ ?_ | refine .m ?_ ?_ | refine .l ?_ ?_ | refine .d ?_ | refine .e ?_ | (simp <;> omega) | omega) _)) (H4.out.mono (Kr.of_below (by repeat first | with_reducible exact .refl .. | with_reducible assumption | refine .s ?_ ?_ | refine .m ?_ ?_ | refine .l ?_ ?_ | refine .d ?_ | refine .e ?_ | (simp <;> omega) | omega) _))
    (fun p hp => (G1.out p hp).gp) (fun p hp => (G2.out p hp).gp) (fun p hp => (G1.out p hp).gp) (fun p hp => (G2.out p hp).gp) (by omega) (by omega) m1 m2 m3 m4 HB.out HB.out).mono ?_; rintro e w' ⟨X, D, rfl, rfl⟩
  rw [beq_self_eq_true]
  go_wp2_with fail
  go_ret
  exact RetB.mk rfl (by repeat first | with_reducible exact .refl .. | with_reducible assumption | refine .s ?_ ?_ | refine .m ?_ ?_ | refine .l ?_ ?_ | refine .d ?_ | refine .e ?_ | (simp <;> omega) | omega)

/-- The lists that the law makes. -/
def lawP (x : List (List (List Int))) : List Pol := listP 3 3 3 (x.take 14)
theorem lawP_zp (x : List (List (List Int))) : ∀ p ∈ lawP x, ZP p := by
  intro p hp
  unfold lawP listP at hp
  obtain ⟨r, _, rfl⟩ := List.mem_map.1 hp
  obtain ⟨h1, h2⟩ := madeP_sb 3 (deg := 3) (by decide) (by decide) r 3
  exact h1.zp (by omega) (by omega)
theorem lawP_len (x : List (List (List Int))) : (lawP x).length ≤ 14 := by
  unfold lawP; rw [listP_len, List.length_take]; omega

set_option maxHeartbeats 4000000 in
theorem law_core (w : World) (nn : Int) (A0 : Option Addr) (m0 c0 : Nat) (x0 : List (List (List Int))) (A1 : Option Addr) (m1 c1 : Nat) (x1 : List (List (List Int))) (r0 : RL raE w [] A0 m0 c0 x0) (r1 : RL raE w [] A1 m1 c1 x1)
    (N : Nat) (l1 l2 : List Pol) (z : Int)
    (K1 : ∀ W A n c A' n' c', RL poE W [] A n c (lawP x0) → RL poE W [] A' n' c' (lawP x1) → Calls Tryz.prog 12 #[.int .i64 nn, .slice A n c, .slice A' n' c'] W (RetC W [] N l1 l2 z))
    (K2 : ∀ W A n c A' n' c', RL poE W [] A n c (lawP x0) → RL poE W [] A' n' c' (lawP x1) → Calls Tryz.prog 13 #[.int .i64 nn, .slice A n c, .slice A' n' c'] W (RetC W [] N l1 l2 z))
    (hz : z ≠ 0 ∨ (z = 0 ∧ ListOk N 1 l1 ∧ ListOk N 1 l2 ∧ (∀ p ∈ l2, pdeg p ≠ 0) ∧ 1 ≤ N ∧ N ≤ 4)) (g1 : ∀ p ∈ l1, ZP p) (g2 : ∀ p ∈ l2, ZP p) (hN : N ≤ 1000) (b1 : l1.length ≤ 50) (b2 : l2.length ≤ 50) :
    Calls Tryz.prog 3 #[.agg #[.slice A0 m0 c0, .slice A1 m1 c1], .int .i64 nn] w (RetB w true) := by
  have H0 := Lib.hid r0
  have H1 := Lib.hid r1
  have HK1 := Lib.hid K1
  have HK2 := Lib.hid K2
  have HG1 := Lib.hid g1
  have HG2 := Lib.hid g2
  have HZ := Lib.hid hz
  clear r0 r1 K1 K2 g1 g2 hz
  go_enter Tryz.func3, Tryz.ntmps3
  go_wp2_with fail
  refine (examples_ok _).mono ?_; rintro e w1 ⟨X, D, rfl, rfl⟩
  go_wp2_with fail
  go_cut [6, 7] (fun v6 v7 w' => ∃ A5 n5 c5 A6 n6 c6, v6 = .slice A5 n5 c5 ∧ v7 = .slice A6 n6 c6 ∧ Below w.heap.size w w' ∧ RL poE w' [] A5 n5 c5 (lawP x0) ∧ RL poE w' [] A6 n6 c6 (lawP x1))
  case first =>
    go_region_held3 (fun w' => w'.cell? ⟨w.heap.size, 0, none⟩ = some (.slice A0 m0 c0) ∧ w'.cell? ⟨w.heap.size, 0 + 1, none⟩ = some (.slice A1 m1 c1))
      ((repeat' apply And.intro) <;> first | (simp [*, go_sem, ↓IntWalk.iteOmega]; done) | (refine got_of ?_; simp [*, go_sem, ↓IntWalk.iteOmega]; done))
      (first | (go_at_call_of 11 A0; refine (r6list_ok _ [] A0 m0 c0 x0 3 3 3 14 (H0.out.mono (Kr.of_below (by repeat first | with_reducible exact .refl .. | with_reducible assumption | refine .s ?_ ?_ | refine .m ?_ ?_ | refine .l ?_ ?_ | refine .d ?_ | refine .e ?_ | (simp <;> omega) | omega) _)) (by decide) (by decide) (by decide) (by decide) (by simp)).mono ?_; rintro e w' ⟨A5, n5, c5, X5, D5, rfl, rfl, h5⟩) | (go_at_call_of 11 A1; refine (r6list_ok _ [] A1 m1 c1 x1 3 3 3 14 (H1.out.mono (Kr.of_below (by repeat first | with_reducible exact .refl .. | with_reducible assumption | refine .s ?_ ?_ | refine .m ?_ ?_ | refine .l ?_ ?_ | refine .d ?_ | refine .e ?_ | (simp <;> omega) | omega) _)) (by decide) (by decide) (by decide) (by decide) (by simp)).mono ?_; rintro e w' ⟨A6, n6, c6, X6, D6, rfl, rfl, h6⟩))
    all_goals (rename_i hHeldZ; clear hHeldZ)
    all_goals
      go_wp2_with fail
      go_meet
      case rel => exact ⟨A5, n5, c5, A6, n6, c6, rfl, rfl, (by repeat first | with_reducible exact .refl .. | with_reducible assumption | refine .s ?_ ?_ | refine .m ?_ ?_ | refine .l ?_ ?_ | refine .d ?_ | refine .e ?_ | (simp <;> omega) | omega), h5.mono (Kr.of_below (by repeat first | with_reducible exact .refl .. | with_reducible assumption | refine .s ?_ ?_ | refine .m ?_ ?_ | refine .l ?_ ?_ | refine .d ?_ | refine .e ?_ | (simp <;> omega) | omega) _), h6.mono (Kr.of_below (by repeat first | with_reducible exact .refl .. | with_reducible assumption | refine .s ?_ ?_ | refine .m ?_ ?_ | refine .l ?_ ?_ | refine .d ?_ | refine .e ?_ | (simp <;> omega) | omega) _)⟩
  case rest =>
    obtain ⟨A5, n5, c5, A6, n6, c6, rfl, rfl, hb, h5, h6⟩ := hcut
    have hsz := hb.size
    go_wp2_with fail
    refine (HK1.out _ A5 n5 c5 A6 n6 c6 (h5.mono (Kr.of_below (by repeat first | with_reducible exact .refl .. | with_reducible assumption | refine .s ?_ ?_ | refine .m ?_ ?_ | refine .l ?_ ?_ | refine .d ?_ | refine .e ?_ | (simp <;> omega) | omega) _)) (h6.mono (Kr.of_below (by repeat first | with_reducible exact .refl .. | with_reducible assumption | refine .s ?_ ?_ | refine .m ?_ ?_ | refine .l ?_ ?_ | refine .d ?_ | refine .e ?_ | (simp <;> omega) | omega) _))).mono ?_; rintro e w1 ⟨A7, n7, c7, A8, n8, c8, X1, D1, rfl, rfl, h7, h8⟩
    go_wp2_with fail
    refine (HK2.out _ A5 n5 c5 A6 n6 c6 (h5.mono (Kr.of_below (by repeat first | with_reducible exact .refl .. | with_reducible assumption | refine .s ?_ ?_ | refine .m ?_ ?_ | refine .l ?_ ?_ | refine .d ?_ | refine .e ?_ | (simp <;> omega) | omega) _)) (h6.mono (Kr.of_below (by repeat first | with_reducible exact .refl .. | with_reducible assumption | refine .s ?_ ?_ | refine .m ?_ ?_ | refine .l ?_ ?_ | refine .d ?_ | refine .e ?_ | (simp <;> omega) | omega) _))).mono ?_; rintro e w2 ⟨A9, n9, c9, A10, n10, c10, X2, D2, rfl, rfl, h9, h10⟩
    go_wp2_with fail
    refine (alike_ok _ N A7 n7 c7 A8 n8 c8 A9 n9 c9 A10 n10 c10 l1 l2 z (h7.mono (Kr.of_below (by repeat first | with_reducible exact .refl .. | with_reducible assumption | refine .s ?_ ?_ | refine .m ?_ ?_ | refine .l ?_ ?_ | refine .d ?_ | refine .e ?_ | (simp <;> omega) | omega) _)) (h8.mono (Kr.of_below (by repeat first | with_reducible exact .refl .. | with_reducible assumption | refine .s ?_ ?_ | refine .m ?_ ?_ | refine .l ?_ ?_ | refine .d ?_ | refine .e ?_ | (simp <;> omega) | omega) _)) (h9.mono (Kr.of_below (by repeat first | with_reducible exact .refl .. | with_reducible assumption | refine .s ?_ ?_ | refine .m ?_ ?_ | refine .l ?_ ?_ | refine .d ?_ | refine .e ?_ | (simp <;> omega) | omega) _)) (h10.mono (Kr.of_below (by repeat first | with_reducible exact .refl .. | with_reducible assumption | refine .s ?_ ?_ | refine .m ?_ ?_ | refine .l ?_ ?_ | refine .d ?_ | refine .e ?_ | (simp <;> omega) | omega) _)) HG1.out HG2.out hN b1 b2).mono ?_; rintro e w3 ⟨X3, D3, rfl, rfl⟩
    rcases HZ.out with hz | ⟨rfl, k1, k2, k3, k4, k5⟩
    · have hz' : (z == 0) = false := by simpa using hz
      go_wp2_with fail
      go_ret
      exact RetB.mk rfl (by repeat first | with_reducible exact .refl .. | with_reducible assumption | refine .s ?_ ?_ | refine .m ?_ ?_ | refine .l ?_ ?_ | refine .d ?_ | refine .e ?_ | (simp <;> omega) | omega)
    · have Q1 := Lib.hid k1
      have Q2 := Lib.hid k2
      have Q3 := Lib.hid k3
      clear k1 k2 k3
      go_wp2_with fail
      refine (cvalid_ok _ [] N A7 n7 c7 A8 n8 c8 l1 l2 1 (h7.mono (Kr.of_below (by repeat first | with_reducible exact .refl .. | with_reducible assumption | refine .s ?_ ?_ | refine .m ?_ ?_ | refine .l ?_ ?_ | refine .d ?_ | refine .e ?_ | (simp <;> omega) | omega) _)) (h8.mono (Kr.of_below (by repeat first | with_reducible exact .refl .. | with_reducible assumption | refine .s ?_ ?_ | refine .m ?_ ?_ | refine .l ?_ ?_ | refine .d ?_ | refine .e ?_ | (simp <;> omega) | omega) _)) Q1.out Q2.out Q3.out k4 k5 (by simp)).mono ?_; rintro e w4 ⟨X4, D4, rfl, rfl⟩
      go_wp2_with fail
      go_ret
      exact RetB.mk rfl (by repeat first | with_reducible exact .refl .. | with_reducible assumption | refine .s ?_ ?_ | refine .m ?_ ?_ | refine .l ?_ ?_ | refine .d ?_ | refine .e ?_ | (simp <;> omega) | omega)

theorem any_of_all {l m : List Pol} {f : Pol → Bool} (h : (l.all f && m.all f) = false) : (l.any (fun p => !f p) || m.any (fun p => !f p)) = true := by
  rw [Bool.or_eq_true]
  rw [Bool.and_eq_false_iff] at h
  rcases h with h | h
  · left; rw [List.any_eq_not_all_not]; simpa using h
  · right; rw [List.any_eq_not_all_not]; simpa using h

theorem snormal_ok (w : World) (nn : Int) (A0 : Option Addr) (m0 c0 : Nat) (x0 : List (List (List Int))) (A1 : Option Addr) (m1 c1 : Nat) (x1 : List (List (List Int))) (r0 : RL raE w [] A0 m0 c0 x0) (r1 : RL raE w [] A1 m1 c1 x1) :
    Calls Tryz.prog 3 #[.agg #[.slice A0 m0 c0, .slice A1 m1 c1], .int .i64 nn] w (RetB w true) := by
  have hz0 := lawP_zp x0
  have hz1 := lawP_zp x1
  have hl : ∀ x (n : Nat), n = (lawP x).length → n ≤ 100000 := fun x n h => by have := lawP_len x; omega
  by_cases hn : nn < 1 ∨ 4 < nn
  · exact law_core w nn A0 m0 c0 x0 A1 m1 c1 x1 r0 r1 0 [] [] 1 (fun W A n c A' n' c' _ _ => normal_num W [] nn hn A n c A' n' c') (fun W A n c A' n' c' _ _ => r32normal_num W [] nn hn A n c A' n' c') (.inl (by decide)) (by simp) (by simp) (by decide) (by decide) (by decide)
  · obtain ⟨n, rfl⟩ : ∃ n : Nat, nn = n := ⟨nn.toNat, by omega⟩
    have hn1 : 1 ≤ n := by omega
    have hn4 : n ≤ 4 := by omega
    cases hv : ((lawP x0).all (fun p => withinB p n) && (lawP x1).all (fun p => withinB p n)) with
    | false =>
      exact law_core w n A0 m0 c0 x0 A1 m1 c1 x1 r0 r1 0 [] [] 1
        (fun W A m c A' m' c' h h' => normal_odd W [] n A m c _ A' m' c' _ h h' hn1 hn4 (fun p hp => (hz0 p hp).gp) (fun p hp => (hz1 p hp).gp) (any_of_all hv) (hl x0 m h.len) (hl x1 m' h'.len))
        (fun W A m c A' m' c' h h' => r32normal_odd W [] n A m c _ A' m' c' _ h h' hn1 hn4 (fun p hp => (hz0 p hp).gp) (fun p hp => (hz1 p hp).gp) hv (hl x0 m h.len) (hl x1 m' h'.len))
        (.inl (by decide)) (by simp) (by simp) (by decide) (by decide) (by decide)
    | true =>
      obtain ⟨hv1, hv2⟩ := Bool.and_eq_true_iff.1 hv
      have hw1 : ∀ p ∈ lawP x0, withinB p n = true := List.all_eq_true.1 hv1
      have hw2 : ∀ p ∈ lawP x1, withinB p n = true := List.all_eq_true.1 hv2
      have y1 := yesL_zp (neqs := lawP x1) hz0
      have y2 := noL_zp hz1
      have K1 : ∀ W A m c A' m' c', RL poE W [] A m c (lawP x0) → RL poE W [] A' m' c' (lawP x1) → Calls Tryz.prog 12 #[.int .i64 n, .slice A m c, .slice A' m' c'] W (RetN W [] n (tidyP (yesL (lawP x0) (lawP x1))) (tidyP (noL (lawP x1)))) := fun W A m c A' m' c' h h' =>
        normal_ok W [] n A m c _ A' m' c' _ h h' hn1 hn4 (fun p hp => (hz0 p hp).gp) (fun p hp => (hz1 p hp).gp) hw1 hw2 1 (by decide) (by decide) (fun p hp => (y1 p hp).1.np) (fun p hp => (y2 p hp).1.np) (hl x0 m h.len) (hl x1 m' h'.len) (by simp)
      have K2 : ∀ W A m c A' m' c', RL poE W [] A m c (lawP x0) → RL poE W [] A' m' c' (lawP x1) → Calls Tryz.prog 13 #[.int .i64 n, .slice A m c, .slice A' m' c'] W (RetN W [] n (tidyP (yesL (lawP x0) (lawP x1))) (tidyP (noL (lawP x1)))) := fun W A m c A' m' c' h h' => by
        have := r32normal_ok W [] n A m c _ A' m' c' _ h h' hn1 hn4 hz0 hz1 hv1 hv2 (hl x0 m h.len) (hl x1 m' h'.len) (by simp)
        rwa [sortedK_yes hz0 hz1, sortedK_no hz1] at this
      have z1 := tidyP_zp (fun p hp => (y1 p hp).1)
      have z2 := tidyP_zp (fun p hp => (y2 p hp).1)
      by_cases hbig : 12 < (tidyP (yesL (lawP x0) (lawP x1))).length ∨ 12 < (tidyP (noL (lawP x1))).length
      · exact law_core w n A0 m0 c0 x0 A1 m1 c1 x1 r0 r1 0 [] [] 2 (fun W A m c A' m' c' h h' => (K1 W A m c A' m' c' h h').mono (fun e w' hh => by unfold RetN at hh; rwa [if_pos hbig] at hh)) (fun W A m c A' m' c' h h' => (K2 W A m c A' m' c' h h').mono (fun e w' hh => by unfold RetN at hh; rwa [if_pos hbig] at hh))
          (.inl (by decide)) (by simp) (by simp) (by decide) (by decide) (by decide)
      · have hwy : ∀ p ∈ yesL (lawP x0) (lawP x1), withinB p n = true := by
          intro p hp
          unfold yesL at hp
          rcases List.mem_append.1 hp with hp | hp
          · exact hw1 p (List.mem_filter.1 hp).1
          · obtain ⟨q, _, rfl⟩ := List.mem_map.1 hp
            obtain rfl | rfl | rfl | rfl : n = 1 ∨ n = 2 ∨ n = 3 ∨ n = 4 := by omega
            all_goals decide
        have hwn : ∀ p ∈ noL (lawP x1), withinB p n = true := fun p hp => hw2 p (List.mem_filter.1 hp).1
        exact law_core w n A0 m0 c0 x0 A1 m1 c1 x1 r0 r1 n _ _ 0 (fun W A m c A' m' c' h h' => (K1 W A m c A' m' c' h h').mono (fun e w' hh => by unfold RetN at hh; rwa [if_neg hbig] at hh)) (fun W A m c A' m' c' h h' => (K2 W A m c A' m' c' h h').mono (fun e w' hh => by unfold RetN at hh; rwa [if_neg hbig] at hh))
          (.inr ⟨rfl, tidyP_ok y1 hwy (by omega), tidyP_ok (fun p hp => ⟨(y2 p hp).1, (y2 p hp).2.1⟩) hwn (by omega), tidyP_deg y2, hn1, hn4⟩) z1 z2 (by omega) (by omega) (by omega)

end Go.Proofs.YthhdleppkggepaaGreat

/-
  What comes in: raw numbers, opened down to their cells; a reading carried into the world behind the call. No condition but those in the statements.
-/
namespace Go.Proofs.YthhdleppkggepaaGreat
open Go.RowKit
set_option maxRecDepth 100000

section
variable {H : Type} {enc : TypeId × Value → H} {W : World} {sp : Nat → Bool} {hd : Bool}
theorem cells_at {a : Addr} {n : Nat} {cs : List Value} (h : W.cells? 0 a n = some cs) : cs.length = n ∧ ∀ j u, cs[j]? = some u → W.cell? (a.add j) = some u := by
  unfold World.cells? at h
  rw [if_pos (Nat.zero_le _)] at h
  have hl := mapM_some_length h
  rw [List.length_range] at hl
  refine ⟨hl, fun j u hu => ?_⟩
  have hj : j < n := by rw [← hl]; exact (List.getElem?_eq_some_iff.1 hu).1
  have := mapM_some_get h j j (by simp [hj])
  rw [this]; exact hu
theorem cellsRow : Tryz.prog.cellsOf 139 = 5 := by kernel_rfl
theorem cellsI8 : Tryz.prog.cellsOf 54 = 1 := by kernel_rfl
theorem cellsRaw : Tryz.prog.cellsOf 93 = 1 := by kernel_rfl
theorem cellsRows : Tryz.prog.cellsOf 91 = 1 := by kernel_rfl
theorem cellsRaws : Tryz.prog.cellsOf 22 = 1 := by kernel_rfl
theorem open_i8 {fuel : Nat} {cs : List Value} {x : DataW H × List MemPlace} (h : DataW.trod enc Tryz.prog W 0 sp hd fuel 54 cs = some x) : ∃ n : Int, cs = [.int .i8 n] ∧ -128 ≤ n ∧ n ≤ 127 := by
  obtain ⟨n, h1, _, h2⟩ := DataW.trod_int Tryz.underlying54 h
  refine ⟨n, h1, ?_⟩
  simp only [Lit.wf, Bool.and_eq_true, decide_eq_true_eq] at h2
  exact h2
theorem open_row5 {fuel : Nat} {cs : List Value} {x : DataW H × List MemPlace} (h : DataW.trod enc Tryz.prog W 0 sp hd fuel 139 cs = some x) : ∃ r, rwRd W [] r cs := by
  obtain ⟨xs, m, _, _, hl, hx, hel⟩ := DataW.trod_array Tryz.underlying139 h
  rw [cellsRow] at hl
  have key : ∀ i, i < 5 → ∃ n : Int, cs[i]? = some (.int .i8 n) ∧ -128 ≤ n ∧ n ≤ 127 := by
    intro i hi
    have h1 := hel i hi
    rw [cellsI8, List.getElem?_eq_getElem (by omega)] at h1
    obtain ⟨n, h2, h3⟩ := open_i8 h1
    refine ⟨n, ?_, h3⟩
    have h4 : ((cs.drop (i * 1)).take 1)[0]? = some (.int .i8 n) := by rw [h2]; rfl
    simpa using h4
  match cs, hl, key with
  | [c0, c1, c2, c3, c4], _, key =>
    obtain ⟨n0, e0, b0⟩ := key 0 (by omega)
    obtain ⟨n1, e1, b1⟩ := key 1 (by omega)
    obtain ⟨n2, e2, b2⟩ := key 2 (by omega)
    obtain ⟨n3, e3, b3⟩ := key 3 (by omega)
    obtain ⟨n4, e4, b4⟩ := key 4 (by omega)
    cases e0; cases e1; cases e2; cases e3; cases e4
    refine ⟨[n0, n1, n2, n3, n4], n0, n1, n2, n3, n4, rfl, rfl, fun x hx => ?_⟩
    simp only [List.mem_cons, List.not_mem_nil, or_false] at hx
    rcases hx with rfl | rfl | rfl | rfl | rfl <;> assumption
/-- A slice of elements, each of which is read. -/
theorem open_elts {α : Type} [Inhabited α] (E : Elt α) {t : TypeId} (ht : Tryz.prog.underlying t = some (.slice E.ty)) (hc : Tryz.prog.cellsOf E.ty = E.size)
    (ho : ∀ (fuel : Nat) (cs : List Value) (x : DataW H × List MemPlace), DataW.trod enc Tryz.prog W 0 sp hd fuel E.ty cs = some x → ∃ r, E.rd W [] r cs)
    {fuel : Nat} {cs : List Value} {x : DataW H × List MemPlace} (h : DataW.trod enc Tryz.prog W 0 sp hd fuel t cs = some x) : ∃ A n c l, cs = [.slice A n c] ∧ RL E W [] A n c l := by
  rcases Deep.open_slice ht h with ⟨h1, _⟩ | ⟨a, len, cap, m, n, D, Pl, h1, _, hlc, _, hm, _, hel⟩
  · exact ⟨none, 0, 0, [], h1, RL.nil _ _ _ _⟩
  · have hlm : len ≤ m := by rw [hm]; split <;> omega
    have key : ∀ i, i < len → ∃ r : α, ∃ vs, E.rd W [] r vs ∧ ∀ j u, vs[j]? = some u → W.cell? (a.add (i * E.size + j)) = some u := by
      intro i hi
      obtain ⟨cs', h2, h3⟩ := hel i (by omega)
      obtain ⟨r, hr⟩ := ho _ _ _ h3
      rw [hc] at h2
      obtain ⟨h4, h5⟩ := cells_at h2
      exact ⟨r, cs', hr, fun j u hu => by rw [← Deep.add_add]; exact h5 j u hu⟩
    obtain ⟨f, hf⟩ := Deep.choose_lt key
    obtain ⟨b, o, spot⟩ := a
    refine ⟨_, len, cap, (List.range len).map f, h1, by simp, hlc, fun h0 => ?_⟩
    have hs : spot = none := by
      obtain ⟨vs, hr, hv⟩ := hf 0 h0
      have hl := E.len hr
      have hp := E.pos
      have := hv 0 vs[0] (List.getElem?_eq_getElem (by omega))
      rw [Nat.zero_mul] at this
      simpa [Addr.add] using World.cell?_spot this
    subst hs
    refine ⟨b, o, rfl, by simp, ?_, fun i hi => ?_⟩
    · obtain ⟨vs, hr, hv⟩ := hf 0 h0
      have hl := E.len hr
      have hp := E.pos
      have := hv 0 vs[0] (List.getElem?_eq_getElem (by omega))
      rw [Addr.add_lit] at this
      exact World.block_lt_of_cell? W _ this
    · have hi' : i < len := by simpa using hi
      obtain ⟨vs, hr, hv⟩ := hf i hi'
      refine ⟨vs, by simpa using hr, fun j u hu => ?_⟩
      have := hv j u hu
      rwa [Addr.add_lit, ← Nat.add_assoc] at this
theorem open_rows {fuel : Nat} {cs : List Value} {x : DataW H × List MemPlace} (h : DataW.trod enc Tryz.prog W 0 sp hd fuel 91 cs = some x) : ∃ A n c l, cs = [.slice A n c] ∧ RL rwE W [] A n c l :=
  open_elts rwE Tryz.underlying91 cellsRow (fun _ _ _ h => open_row5 h) h
theorem open_raw {fuel : Nat} {cs : List Value} {x : DataW H × List MemPlace} (h : DataW.trod enc Tryz.prog W 0 sp hd fuel 93 cs = some x) : ∃ r, raE.rd W [] r cs := by
  obtain ⟨xs, m, _, _, hl, hx, hel⟩ := DataW.trod_struct Tryz.underlying93 h
  rw [cellsRaw] at hl
  have h1 : DataW.trod enc Tryz.prog W 0 sp hd m 91 ((cs.drop 0).take (Tryz.prog.cellsOf 91)) = xs[0]? := hel 0 _ rfl
  rw [cellsRows, List.getElem?_eq_getElem (by rw [hx]; decide)] at h1
  obtain ⟨A, n, c, l, h2, h3⟩ := open_rows h1
  refine ⟨l, A, n, c, ?_, h3⟩
  match cs, hl with
  | [v], _ => simpa using h2
theorem open_raws {fuel : Nat} {cs : List Value} {x : DataW H × List MemPlace} (h : DataW.trod enc Tryz.prog W 0 sp hd fuel 22 cs = some x) : ∃ A n c l, cs = [.slice A n c] ∧ RL raE W [] A n c l :=
  open_elts raE Tryz.underlying22 cellsRaw (fun _ _ _ h => open_raw h) h
theorem open_raws2 {v : Value} {d : DataW H} {ps : List MemPlace} (hv : Value.okWide Tryz.prog W .any 0 23 v) (h : DataW.Trod enc Tryz.prog W 0 sp hd 23 v d ps) :
    ∃ A n c l A' n' c' l', v = .agg #[.slice A n c, .slice A' n' c'] ∧ RL raE W [] A n c l ∧ RL raE W [] A' n' c' l' := by
  unfold Value.okWide at hv
  rw [Tryz.underlying23] at hv
  obtain ⟨cs, rfl, _, _⟩ := hv
  obtain ⟨fuel, h⟩ := h
  obtain ⟨xs, m, _, _, hl, hx, hel⟩ := DataW.trod_array Tryz.underlying23 h
  have hl2 : cs.toList.length = 2 := by rw [← show Tryz.prog.cellsOf 23 = 2 by kernel_rfl]; exact hl
  have h0 := hel 0 (by decide)
  have h1 := hel 1 (by decide)
  rw [cellsRaws, List.getElem?_eq_getElem (by omega)] at h0 h1
  obtain ⟨A, n, c, l, e0, r0⟩ := open_raws h0
  obtain ⟨A', n', c', l', e1, r1⟩ := open_raws h1
  obtain ⟨cl⟩ := cs
  match cl, hl2 with
  | [x, y], _ =>
    have f0 : [x] = [Value.slice A n c] := e0
    have f1 : [y] = [Value.slice A' n' c'] := e1
    obtain rfl := List.cons.inj f0 |>.1
    obtain rfl := List.cons.inj f1 |>.1
    exact ⟨A, n, c, l, A', n', c', l', rfl, r0, r1⟩

/-! ### behind the call -/
variable {P : Program} {base : Nat} {W' : World}
theorem trodAll_carry : ∀ {ts : List TypeId} {vs : List Value} {ds : List (DataW H)} {ps : List MemPlace}, DataW.TrodAll enc P W base sp hd ts vs ds ps → (∀ p ∈ ps, W.sameAt W' p) → DataW.TrodAll enc P W' base sp hd ts vs ds ps
  | [], [], [], _, h, _ => h
  | _ :: _, _ :: _, _ :: _, _, ⟨p, q, ⟨n, h1⟩, h2, e⟩, hs => ⟨p, q, ⟨n, DataW.trod_carry n _ _ _ h1 (fun x hx => hs x (by rw [e]; exact List.mem_append_left _ hx))⟩, trodAll_carry h2 (fun x hx => hs x (by rw [e]; exact List.mem_append_right _ hx)), e⟩
theorem sameAt_below (h : Below W.heap.size W W') {p : MemPlace} (hp : p.block < W.heap.size) : W.sameAt W' p := by
  cases p with
  | cell b off => exact World.cell?_of_block (w := W) (h.block b hp)
  | map b => exact h.block b hp
end
theorem seat_kids : Kids Tryz.prog (· < Tryz.prog.types.size) := kids_rows (by kernel_rfl) (by kernel_rfl)
theorem seat_full : ∀ t e, t < Tryz.prog.types.size → Tryz.prog.underlying t = some (.slice e) → 0 < Tryz.prog.cellsOf e := slices_full_of Tryz.prog (by kernel_rfl)

end Go.Proofs.YthhdleppkggepaaGreat
