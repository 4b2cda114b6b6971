/-
  The walk of the law SystemNames.
-/
import Derived.Test.YthhdleppkggepaaGreatSn42

set_option linter.unusedSimpArgs false
set_option linter.unusedVariables false
set_option linter.unusedSectionVars false

namespace Go.Proofs.YthhdleppkggepaaGreat
open Go.RowKit Go.Deep
set_option maxRecDepth 100000

theorem vars1 (a : ByteArray) : varsB [a] = nameB a := by
  cases h : nameB a with
  | true => exact varsB_true ⟨by intro s hs; simp only [List.mem_singleton] at hs; subst hs; exact h, by simp⟩
  | false => exact varsB_false fun hv => by have := hv.1 a (by simp); rw [h] at this; cases this
theorem toList_inj {a b : ByteArray} (h : a.toList = b.toList) : a = b := by
  rw [ByteArray.toList_eq, ByteArray.toList_eq] at h
  cases a; cases b
  congr 1
  exact Array.toList_inj.1 h
theorem vars2 (a b : ByteArray) : varsB [a, b] = (nameB a && nameB b && !(a.toList == b.toList)) := by
  by_cases hab : a.toList = b.toList
  · have e : (a.toList == b.toList) = true := by simpa using hab
    rw [e]
    have := toList_inj hab
    rw [Bool.not_true, Bool.and_false]
    exact varsB_false fun hv => by have := hv.2; simp at this; simp_all
  · have e : (a.toList == b.toList) = false := by simpa using hab
    have hne : a ≠ b := fun h => hab (by rw [h])
    rw [e]
    cases h1 : nameB a with
    | false => exact varsB_false fun hv => by have := hv.1 a (by simp); rw [h1] at this; cases this
    | true =>
      cases h2 : nameB b with
      | false => exact varsB_false fun hv => by have := hv.1 b (by simp); rw [h2] at this; cases this
      | true => exact varsB_true ⟨by intro s hs; simp only [List.mem_cons, List.not_mem_nil, or_false] at hs; rcases hs with rfl | rfl <;> assumption, by simp [hne]⟩
theorem row1 {w : World} {g : Nat} {v : Value} (h : w.cell? ⟨g, 0, none⟩ = some v) : Row w [] (some ⟨g, 0, none⟩) [v] :=
  fun _ => ⟨g, 0, rfl, by simp, fun i u hu => by match i, hu with | 0, hu => cases hu; exact h⟩
theorem row2 {w : World} {g : Nat} {v v' : Value} (h : w.cell? ⟨g, 0, none⟩ = some v) (h' : w.cell? ⟨g, 1, none⟩ = some v') : Row w [] (some ⟨g, 0, none⟩) [v, v'] :=
  fun _ => ⟨g, 0, rfl, by simp, fun i u hu => by match i, hu with | 0, hu => cases hu; exact h | 1, hu => cases hu; exact h'⟩

set_option maxHeartbeats 1000000 in
theorem names_ok (w : World) (a b : ByteArray) : Calls Tryz.prog 7 #[.string a, .string b] w (RetB w true) := by
  by_cases ha : 20 < a.size
  · have ha' : (20 : Int) < (a.size : Int) := by omega
    go_enter Tryz.func7, Tryz.ntmps7
    go_wp2_with fail
    refine (examples_ok _).mono ?_; rintro e w1 ⟨X, D, rfl, rfl⟩
    go_wp2_with fail
    go_ret
    exact RetB.mk rfl (by repeat (first | (with_reducible exact Below.refl _ _) | (with_reducible assumption) | refine Below.setCell ?_ (by first | (simp; done) | (simp; omega) | omega) _ | refine Below.more ?_ (by first | (simp; done) | (simp; omega) | omega) _ _ | refine Below.alloc ?_ (by first | (simp; done) | (simp; omega) | omega) _ | refine Below.drew ?_ | refine Below.drewN ?_ _))
  have ha' : ¬ (20 : Int) < (a.size : Int) := by omega
  by_cases hb : 20 < b.size
  · have hb' : (20 : Int) < (b.size : Int) := by omega
    go_enter Tryz.func7, Tryz.ntmps7
    go_wp2_with fail
    refine (examples_ok _).mono ?_; rintro e w1 ⟨X, D, rfl, rfl⟩
    go_wp2_with fail
    go_ret
    exact RetB.mk rfl (by repeat (first | (with_reducible exact Below.refl _ _) | (with_reducible assumption) | refine Below.setCell ?_ (by first | (simp; done) | (simp; omega) | omega) _ | refine Below.more ?_ (by first | (simp; done) | (simp; omega) | omega) _ _ | refine Below.alloc ?_ (by first | (simp; done) | (simp; omega) | omega) _ | refine Below.drew ?_ | refine Below.drewN ?_ _))
  have hb' : ¬ (20 : Int) < (b.size : Int) := by omega
  have H1 := Lib.hid (vars1 a)
  have H2 := Lib.hid (vars2 a b)
  have H3 : Hid (varsB [a, a] = false) := Lib.hid (by rw [vars2]; simp)
  obtain ⟨na, hna⟩ : ∃ x, nameB a = x := ⟨_, rfl⟩
  obtain ⟨nb, hnb⟩ : ∃ x, nameB b = x := ⟨_, rfl⟩
  obtain ⟨eb, heb⟩ : ∃ x, (a.toList == b.toList) = x := ⟨_, rfl⟩
  rw [hna] at H1
  rw [hna, hnb, heb] at H2
  have HNa := Lib.hid hna
  have HNb := Lib.hid hnb
  clear hna hnb
  go_enter Tryz.func7, Tryz.ntmps7
  go_wp2_with fail
  refine (examples_ok _).mono ?_; rintro e w1 ⟨X, D, rfl, rfl⟩
  go_wp2_with fail
  refine (valid_vars _ [] _ 1 1 [a] rfl (Nat.le_refl _) (by omega) (by intro s hs; simp only [List.mem_singleton] at hs; subst hs; omega) (row1 (by simp [go_sem, ↓IntWalk.iteOmega]))).mono ?_; rintro e w2 ⟨X2, D2, rfl, rfl⟩
  go_wp2_with fail
  refine (valid_vars _ [] _ 2 2 [a, b] rfl (Nat.le_refl _) (by omega) (by intro s hs; simp only [List.mem_cons, List.not_mem_nil, or_false] at hs; rcases hs with rfl | rfl <;> omega) (row2 (by simp [go_sem, ↓IntWalk.iteOmega]) (by simp [go_sem, ↓IntWalk.iteOmega]))).mono ?_; rintro e w3 ⟨X3, D3, rfl, rfl⟩
  go_wp2_with fail
  refine (valid_vars _ [] _ 2 2 [a, a] rfl (Nat.le_refl _) (by omega) (by intro s hs; simp only [List.mem_cons, List.not_mem_nil, or_false] at hs; rcases hs with rfl | rfl <;> omega) (row2 (by simp [go_sem, ↓IntWalk.iteOmega]) (by simp [go_sem, ↓IntWalk.iteOmega]))).mono ?_; rintro e w4 ⟨X4, D4, rfl, rfl⟩
  rw [H1.out, H2.out, H3.out]
  go_wp2_with fail
  refine (rname_ok _ a (by omega)).mono ?_; rintro e w5 ⟨X5, D5, rfl, rfl⟩
  rw [HNa.out]
  cases na <;> cases nb <;> cases eb
  all_goals
    go_wp2_with (first | (go_at_call_of 29 a; refine (rname_ok _ a (by omega)).mono ?_; rintro e w6 ⟨X6, D6, rfl, rfl⟩; rw [HNa.out]) | (go_at_call_of 29 b; refine (rname_ok _ b (by omega)).mono ?_; rintro e w7 ⟨X7, D7, rfl, rfl⟩; rw [HNb.out]))
    go_ret
    exact RetB.mk rfl (by repeat (first | (with_reducible exact Below.refl _ _) | (with_reducible assumption) | refine Below.setCell ?_ (by first | (simp; done) | (simp; omega) | omega) _ | refine Below.more ?_ (by first | (simp; done) | (simp; omega) | omega) _ _ | refine Below.alloc ?_ (by first | (simp; done) | (simp; omega) | omega) _ | refine Below.drew ?_ | refine Below.drewN ?_ _))

end Go.Proofs.YthhdleppkggepaaGreat
