/-
  The walks of package integer: sums, differences and products of integers, and their order.
-/
import Derived.Laws.BitsAllLaws
import Derived.Test.YthhdleppkggepaaGreatSb04

set_option linter.unusedSimpArgs false
set_option linter.unusedVariables false
set_option linter.unusedSectionVars false

namespace Go.Proofs.YthhdleppkggepaaGreat
open Go.RowKit Go.Deep
set_option maxRecDepth 100000

/-- What is known of an integer's words. -/
theorem RI.val_ {w : World} {ex : List Nat} {s : Bool} {A : Option Addr} {n c : Nat} {z : Int} (_ : RI w ex s A n c z) : val (digits z.natAbs) = z.natAbs := val_digits _

theorem natAbs_mul_sign (a b : Int) : (if (!decide (a < 0) == decide (b < 0)) = true then -((a.natAbs * b.natAbs : Nat) : Int) else ((a.natAbs * b.natAbs : Nat) : Int)) = a * b := by
  rw [← Int.natAbs_mul]
  by_cases ha : a < 0 <;> by_cases hb : b < 0
  · have := Int.mul_pos_of_neg_of_neg ha hb; simp [ha, hb]; omega
  · have := Int.mul_nonneg (show 0 ≤ -a by omega) (show 0 ≤ b by omega)
    rw [Int.neg_mul] at this
    simp [ha, hb]; omega
  · have := Int.mul_nonneg (show 0 ≤ a by omega) (show 0 ≤ -b by omega)
    rw [Int.mul_neg] at this
    simp [ha, hb]; omega
  · have := Int.mul_nonneg (show 0 ≤ a by omega) (show 0 ≤ b by omega)
    simp [ha, hb]; omega

set_option maxHeartbeats 1000000 in
theorem imul_ok (w : World) (ex : List Nat) (s1 : Bool) (A1 : Option Addr) (n1 c1 : Nat) (a : Int) (s2 : Bool) (A2 : Option Addr) (n2 c2 : Nat) (b : Int)
    (hx : RI w ex s1 A1 n1 c1 a) (hy : RI w ex s2 A2 n2 c2 b) (hn1 : n1 ≤ 100000000) (hn2 : n2 ≤ 100000000) (hex : ∀ b ∈ ex, b < w.heap.size) :
    Calls Tryz.prog 137 #[.agg #[.bool s1, .slice A1 n1 c1], .agg #[.bool s2, .slice A2 n2 c2]] w (RetI w ex (a * b)) := by
  have HZ : Hid ((if !s1 == s2 then -(val (digits (val (digits a.natAbs) * val (digits b.natAbs))) : Int) else val (digits (val (digits a.natAbs) * val (digits b.natAbs)))) = a * b) := by
    show _ = _
    rw [val_digits, val_digits, val_digits, hx.sign, hy.sign]
    exact natAbs_mul_sign a b
  have HL : Hid (∀ m, m = (digits (val (digits a.natAbs) * val (digits b.natAbs))).length → m ≤ 1000000000) := by
    rintro m rfl
    rw [val_digits, val_digits]
    have h1 := hx.len; have h2 := hy.len
    have := length_digits_mul a.natAbs b.natAbs
    unfold wl at h1 h2
    omega
  go_enter Tryz.func137, Tryz.ntmps137
  go_wp2_with fail
  go_region_held3 (fun w' => w'.cell? ⟨w.heap.size, 0, none⟩ = some (.bool s1) ∧ w'.cell? ⟨w.heap.size, 1, none⟩ = some (.slice A1 n1 c1) ∧ w'.cell? ⟨w.heap.size + 1, 0, none⟩ = some (.bool s2) ∧ w'.cell? ⟨w.heap.size + 1, 1, none⟩ = some (.slice A2 n2 c2) ∧ w'.cell? ⟨w.heap.size + 2, 0, none⟩ = some (World.got w' (w.heap.size + 2) (0)) ∧ w'.cell? ⟨w.heap.size + 2, 1, none⟩ = some (World.got w' (w.heap.size + 2) (1)) ∧ w'.frozen? ⟨w.heap.size + 2, 0, none⟩ = false ∧ w'.frozen? ⟨w.heap.size + 2, 1, none⟩ = false)
    ((repeat' apply And.intro) <;> first | (simp [*, go_sem, ↓IntWalk.iteOmega]; done) | (refine got_of ?_; simp [*, go_sem, ↓IntWalk.iteOmega]; done))
    (first | (go_at_call 177; refine (nmul_ok _ _ _ _ _ _ _ _ _ _ (hx.2.mono (Kr.fresh (l := [w.heap.size + 2]) (by repeat first | with_reducible exact .refl .. | with_reducible assumption | refine .s ?_ ?_ | refine .m ?_ ?_ | refine .l ?_ ?_ | refine .d ?_ | refine .e ?_ | (simp <;> omega) | omega) (by simp))) (hy.2.mono (Kr.fresh (l := [w.heap.size + 2]) (by repeat first | with_reducible exact .refl .. | with_reducible assumption | refine .s ?_ ?_ | refine .m ?_ ?_ | refine .l ?_ ?_ | refine .d ?_ | refine .e ?_ | (simp <;> omega) | omega) (by simp))) hn1 hn2 (hexs hex (by first | (simp; done) | (simp; omega) | omega) (by first | (simp; done) | (simp; omega) | omega))).mono ?_; rintro e w' ⟨A, m, c, X, D, rfl, rfl, hres⟩) | (go_at_call 135; refine (signed_ok _ _ _ _ _ _ _ hres (HL.out _ hres.len) (hexs hex (by first | (simp; done) | (simp; omega) | omega) (by first | (simp; done) | (simp; omega) | omega))).mono ?_; rintro e w' ⟨s, A, m, c, X, D, rfl, rfl, hres2⟩))
  go_wp2_with fail
  refine bodyPost_ret (v := .agg #[.bool s, .slice A m c]) (by simp [results, Tryz.results137, go_sem, ↓IntWalk.iteOmega]) rfl (RetI.mk rfl (by repeat first | with_reducible exact .refl .. | with_reducible assumption | refine .s ?_ ?_ | refine .m ?_ ?_ | refine .l ?_ ?_ | refine .d ?_ | refine .e ?_ | (simp <;> omega) | omega) ?_)
  rw [HZ.out] at hres2
  exact hres2.mono (Kr.down (by repeat (first | (with_reducible exact Kr.refl _ _) | (with_reducible assumption) | refine Kr.setCell ?_ _ (by simp) | refine Kr.more ?_ _ _ | refine Kr.alloc_ ?_ _ | refine Kr.drew ?_ | refine Kr.drewN ?_ _)) (by first | (intro b hb; simp [hb]; done) | (intro b hb; exact hb) | (intro b hb; simp at hb ⊢; grind)))

theorem cmpN_neg {a b : Nat} (h : a < b) : cmpN a b = -1 := by unfold cmpN; rw [if_pos h]
theorem cmpN_nonneg {a b : Nat} (h : ¬ a < b) : ∃ v : Int, cmpN a b = v ∧ 0 ≤ v := ⟨_, rfl, by unfold cmpN; rw [if_neg h]; split <;> omega⟩

set_option maxHeartbeats 1000000 in
theorem iadd_ok (w : World) (ex : List Nat) (s1 : Bool) (A1 : Option Addr) (n1 c1 : Nat) (a : Int) (s2 : Bool) (A2 : Option Addr) (n2 c2 : Nat) (b : Int)
    (hx : RI w ex s1 A1 n1 c1 a) (hy : RI w ex s2 A2 n2 c2 b) (hn1 : n1 ≤ 100000000) (hn2 : n2 ≤ 100000000) (hex : ∀ b ∈ ex, b < w.heap.size) :
    Calls Tryz.prog 166 #[.agg #[.bool s1, .slice A1 n1 c1], .agg #[.bool s2, .slice A2 n2 c2]] w (RetI w ex (a + b)) := by
  have hs1 := hx.sign
  have hs2 := hy.sign
  have HL : Hid (∀ m, m = (digits (val (digits a.natAbs) + val (digits b.natAbs))).length → m ≤ 1000000000) := by
    rintro m rfl
    rw [val_digits, val_digits]
    have h1 := hx.len; have h2 := hy.len
    have := length_digits_add a.natAbs b.natAbs
    unfold wl at h1 h2
    omega
  have HL1 : Hid (∀ m k, m = (digits (a.natAbs - k)).length → m ≤ 1000000000) := by
    rintro m k rfl
    have h1 := hx.len
    have := length_digits_mono (show a.natAbs - k ≤ a.natAbs by omega)
    unfold wl at h1
    omega
  have HL2 : Hid (∀ m k, m = (digits (b.natAbs - k)).length → m ≤ 1000000000) := by
    rintro m k rfl
    have h1 := hy.len
    have := length_digits_mono (show b.natAbs - k ≤ b.natAbs by omega)
    unfold wl at h1
    omega
  by_cases hs : s1 = s2
  · subst hs
    have HZ : Hid ((if s1 then -(val (digits (val (digits a.natAbs) + val (digits b.natAbs))) : Int) else val (digits (val (digits a.natAbs) + val (digits b.natAbs)))) = a + b) := by
      show _ = _
      rw [val_digits, val_digits, val_digits]
      cases s1 <;> simp at hs1 hs2 ⊢ <;> omega
    clear hs1 hs2
    go_enter Tryz.func166, Tryz.ntmps166
    go_wp2_with fail
    go_quiet (fail)
    go_wp2_with fail
    go_region_held3 (fun w' => w'.cell? ⟨w.heap.size, 0, none⟩ = some (.bool s1) ∧ w'.cell? ⟨w.heap.size, 1, none⟩ = some (.slice A1 n1 c1) ∧ w'.cell? ⟨w.heap.size + 1, 0, none⟩ = some (.bool s1) ∧ w'.cell? ⟨w.heap.size + 1, 1, none⟩ = some (.slice A2 n2 c2) ∧ w'.cell? ⟨w.heap.size + 2, 0, none⟩ = some (World.got w' (w.heap.size + 2) (0)) ∧ w'.cell? ⟨w.heap.size + 2, 1, none⟩ = some (World.got w' (w.heap.size + 2) (1)) ∧ w'.frozen? ⟨w.heap.size + 2, 0, none⟩ = false ∧ w'.frozen? ⟨w.heap.size + 2, 1, none⟩ = false)
      ((repeat' apply And.intro) <;> first | (simp [*, go_sem, ↓IntWalk.iteOmega]; done) | (refine got_of ?_; simp [*, go_sem, ↓IntWalk.iteOmega]; done))
      (first | (go_at_call 175; refine (add_ok _ _ _ _ _ _ _ _ _ _ (hx.2.mono (Kr.fresh (l := [w.heap.size + 2]) (by repeat first | with_reducible exact .refl .. | with_reducible assumption | refine .s ?_ ?_ | refine .m ?_ ?_ | refine .l ?_ ?_ | refine .d ?_ | refine .e ?_ | (simp <;> omega) | omega) (by simp))) (hy.2.mono (Kr.fresh (l := [w.heap.size + 2]) (by repeat first | with_reducible exact .refl .. | with_reducible assumption | refine .s ?_ ?_ | refine .m ?_ ?_ | refine .l ?_ ?_ | refine .d ?_ | refine .e ?_ | (simp <;> omega) | omega) (by simp))) hn1 hn2 (hexs hex (by first | (simp; done) | (simp; omega) | omega) (by first | (simp; done) | (simp; omega) | omega))).mono ?_; rintro e w' ⟨A, m, c, X, D, rfl, rfl, hres⟩) | (go_at_call 135; refine (signed_ok _ _ _ _ _ _ _ hres (HL.out _ hres.len) (hexs hex (by first | (simp; done) | (simp; omega) | omega) (by first | (simp; done) | (simp; omega) | omega))).mono ?_; rintro e w' ⟨s, A, m, c, X, D, rfl, rfl, hres2⟩))
    go_wp2_with fail
    refine bodyPost_ret (v := .agg #[.bool s, .slice A m c]) (by simp [results, Tryz.results166, go_sem, ↓IntWalk.iteOmega]) rfl (RetI.mk rfl (by repeat first | with_reducible exact .refl .. | with_reducible assumption | refine .s ?_ ?_ | refine .m ?_ ?_ | refine .l ?_ ?_ | refine .d ?_ | refine .e ?_ | (simp <;> omega) | omega) ?_)
    rw [HZ.out] at hres2
    exact hres2.mono (Kr.down (by repeat (first | (with_reducible exact Kr.refl _ _) | (with_reducible assumption) | refine Kr.setCell ?_ _ (by simp) | refine Kr.more ?_ _ _ | refine Kr.alloc_ ?_ _ | refine Kr.drew ?_ | refine Kr.drewN ?_ _)) (by first | (intro b hb; simp [hb]; done) | (intro b hb; exact hb) | (intro b hb; simp at hb ⊢; grind)))
  · have hsb : (s1 == s2) = false := by simp [hs]
    have HS := Lib.hid hs; clear hs
    by_cases hlt : a.natAbs < b.natAbs
    · have HZ : Hid ((if s2 then -(val (digits (b.natAbs - a.natAbs)) : Int) else val (digits (b.natAbs - a.natAbs))) = a + b) := by
        show _ = _
        have := HS.out
        rw [val_digits]
        cases s1 <;> cases s2 <;> simp at hs1 hs2 this ⊢ <;> omega
      have hc := cmpN_neg hlt
      clear hs1 hs2
      go_enter Tryz.func166, Tryz.ntmps166
      go_wp2_with fail
      go_quiet (fail)
      go_wp2_with fail
      refine (cmp_ok _ _ _ _ _ _ _ _ _ _ (hx.2.mono (Kr.fresh (l := []) (by repeat first | with_reducible exact .refl .. | with_reducible assumption | refine .s ?_ ?_ | refine .m ?_ ?_ | refine .l ?_ ?_ | refine .d ?_ | refine .e ?_ | (simp <;> omega) | omega) (by simp))) (hy.2.mono (Kr.fresh (l := []) (by repeat first | with_reducible exact .refl .. | with_reducible assumption | refine .s ?_ ?_ | refine .m ?_ ?_ | refine .l ?_ ?_ | refine .d ?_ | refine .e ?_ | (simp <;> omega) | omega) (by simp))) (by omega) (by omega)).mono ?_; rintro e w' ⟨rfl, D0, rfl⟩
      go_wp2_with fail
      go_region_held3 (fun w' => w'.cell? ⟨w.heap.size, 0, none⟩ = some (.bool s1) ∧ w'.cell? ⟨w.heap.size, 1, none⟩ = some (.slice A1 n1 c1) ∧ w'.cell? ⟨w.heap.size + 1, 0, none⟩ = some (.bool s2) ∧ w'.cell? ⟨w.heap.size + 1, 1, none⟩ = some (.slice A2 n2 c2) ∧ w'.cell? ⟨w.heap.size + 2, 0, none⟩ = some (World.got w' (w.heap.size + 2) (0)) ∧ w'.cell? ⟨w.heap.size + 2, 1, none⟩ = some (World.got w' (w.heap.size + 2) (1)) ∧ w'.frozen? ⟨w.heap.size + 2, 0, none⟩ = false ∧ w'.frozen? ⟨w.heap.size + 2, 1, none⟩ = false)
        ((repeat' apply And.intro) <;> first | (simp [*, go_sem, ↓IntWalk.iteOmega]; done) | (refine got_of ?_; simp [*, go_sem, ↓IntWalk.iteOmega]; done))
        (first | (go_at_call 176; refine (sub_ok _ _ _ _ _ _ _ _ _ _ (hy.2.mono (Kr.fresh (l := [w.heap.size + 2]) (by repeat first | with_reducible exact .refl .. | with_reducible assumption | refine .s ?_ ?_ | refine .m ?_ ?_ | refine .l ?_ ?_ | refine .d ?_ | refine .e ?_ | (simp <;> omega) | omega) (by simp))) (hx.2.mono (Kr.fresh (l := [w.heap.size + 2]) (by repeat first | with_reducible exact .refl .. | with_reducible assumption | refine .s ?_ ?_ | refine .m ?_ ?_ | refine .l ?_ ?_ | refine .d ?_ | refine .e ?_ | (simp <;> omega) | omega) (by simp))) (Nat.le_of_lt hlt) hn2 (hexs hex (by first | (simp; done) | (simp; omega) | omega) (by first | (simp; done) | (simp; omega) | omega))).mono ?_; rintro e w' ⟨A, m, c, X, D, rfl, rfl, hres⟩) | (go_at_call 135; refine (signed_ok _ _ _ _ _ _ _ hres (HL2.out _ _ hres.len) (hexs hex (by first | (simp; done) | (simp; omega) | omega) (by first | (simp; done) | (simp; omega) | omega))).mono ?_; rintro e w' ⟨s, A, m, c, X, D, rfl, rfl, hres2⟩))
      go_wp2_with fail
      refine bodyPost_ret (v := .agg #[.bool s, .slice A m c]) (by simp [results, Tryz.results166, go_sem, ↓IntWalk.iteOmega]) rfl (RetI.mk rfl (by repeat first | with_reducible exact .refl .. | with_reducible assumption | refine .s ?_ ?_ | refine .m ?_ ?_ | refine .l ?_ ?_ | refine .d ?_ | refine .e ?_ | (simp <;> omega) | omega) ?_)
      rw [HZ.out] at hres2
      exact hres2.mono (Kr.down (by repeat (first | (with_reducible exact Kr.refl _ _) | (with_reducible assumption) | refine Kr.setCell ?_ _ (by simp) | refine Kr.more ?_ _ _ | refine Kr.alloc_ ?_ _ | refine Kr.drew ?_ | refine Kr.drewN ?_ _)) (by first | (intro b hb; simp [hb]; done) | (intro b hb; exact hb) | (intro b hb; simp at hb ⊢; grind)))
    · have HZ : Hid ((if s1 then -(val (digits (a.natAbs - b.natAbs)) : Int) else val (digits (a.natAbs - b.natAbs))) = a + b) := by
        show _ = _
        have := HS.out
        rw [val_digits]
        cases s1 <;> cases s2 <;> simp at hs1 hs2 this ⊢ <;> omega
      obtain ⟨v, hc, hv⟩ := cmpN_nonneg hlt
      clear hs1 hs2
      go_enter Tryz.func166, Tryz.ntmps166
      go_wp2_with fail
      go_quiet (fail)
      go_wp2_with fail
      refine (cmp_ok _ _ _ _ _ _ _ _ _ _ (hx.2.mono (Kr.fresh (l := []) (by repeat first | with_reducible exact .refl .. | with_reducible assumption | refine .s ?_ ?_ | refine .m ?_ ?_ | refine .l ?_ ?_ | refine .d ?_ | refine .e ?_ | (simp <;> omega) | omega) (by simp))) (hy.2.mono (Kr.fresh (l := []) (by repeat first | with_reducible exact .refl .. | with_reducible assumption | refine .s ?_ ?_ | refine .m ?_ ?_ | refine .l ?_ ?_ | refine .d ?_ | refine .e ?_ | (simp <;> omega) | omega) (by simp))) (by omega) (by omega)).mono ?_; rintro e w' ⟨rfl, D0, rfl⟩
      go_wp2_with fail
      go_region_held3 (fun w' => w'.cell? ⟨w.heap.size, 0, none⟩ = some (.bool s1) ∧ w'.cell? ⟨w.heap.size, 1, none⟩ = some (.slice A1 n1 c1) ∧ w'.cell? ⟨w.heap.size + 1, 0, none⟩ = some (.bool s2) ∧ w'.cell? ⟨w.heap.size + 1, 1, none⟩ = some (.slice A2 n2 c2) ∧ w'.cell? ⟨w.heap.size + 2, 0, none⟩ = some (World.got w' (w.heap.size + 2) (0)) ∧ w'.cell? ⟨w.heap.size + 2, 1, none⟩ = some (World.got w' (w.heap.size + 2) (1)) ∧ w'.frozen? ⟨w.heap.size + 2, 0, none⟩ = false ∧ w'.frozen? ⟨w.heap.size + 2, 1, none⟩ = false)
        ((repeat' apply And.intro) <;> first | (simp [*, go_sem, ↓IntWalk.iteOmega]; done) | (refine got_of ?_; simp [*, go_sem, ↓IntWalk.iteOmega]; done))
        (first | (go_at_call 176; refine (sub_ok _ _ _ _ _ _ _ _ _ _ (hx.2.mono (Kr.fresh (l := [w.heap.size + 2]) (by repeat first | with_reducible exact .refl .. | with_reducible assumption | refine .s ?_ ?_ | refine .m ?_ ?_ | refine .l ?_ ?_ | refine .d ?_ | refine .e ?_ | (simp <;> omega) | omega) (by simp))) (hy.2.mono (Kr.fresh (l := [w.heap.size + 2]) (by repeat first | with_reducible exact .refl .. | with_reducible assumption | refine .s ?_ ?_ | refine .m ?_ ?_ | refine .l ?_ ?_ | refine .d ?_ | refine .e ?_ | (simp <;> omega) | omega) (by simp))) (by omega) hn1 (hexs hex (by first | (simp; done) | (simp; omega) | omega) (by first | (simp; done) | (simp; omega) | omega))).mono ?_; rintro e w' ⟨A, m, c, X, D, rfl, rfl, hres⟩) | (go_at_call 135; refine (signed_ok _ _ _ _ _ _ _ hres (HL1.out _ _ hres.len) (hexs hex (by first | (simp; done) | (simp; omega) | omega) (by first | (simp; done) | (simp; omega) | omega))).mono ?_; rintro e w' ⟨s, A, m, c, X, D, rfl, rfl, hres2⟩))
      go_wp2_with fail
      refine bodyPost_ret (v := .agg #[.bool s, .slice A m c]) (by simp [results, Tryz.results166, go_sem, ↓IntWalk.iteOmega]) rfl (RetI.mk rfl (by repeat first | with_reducible exact .refl .. | with_reducible assumption | refine .s ?_ ?_ | refine .m ?_ ?_ | refine .l ?_ ?_ | refine .d ?_ | refine .e ?_ | (simp <;> omega) | omega) ?_)
      rw [HZ.out] at hres2
      exact hres2.mono (Kr.down (by repeat (first | (with_reducible exact Kr.refl _ _) | (with_reducible assumption) | refine Kr.setCell ?_ _ (by simp) | refine Kr.more ?_ _ _ | refine Kr.alloc_ ?_ _ | refine Kr.drew ?_ | refine Kr.drewN ?_ _)) (by first | (intro b hb; simp [hb]; done) | (intro b hb; exact hb) | (intro b hb; simp at hb ⊢; grind)))

end Go.Proofs.YthhdleppkggepaaGreat

/-
  The walks of package integer: order, validity, division by one word.
-/
namespace Go.Proofs.YthhdleppkggepaaGreat
open Go.RowKit Go.Deep
set_option maxRecDepth 100000

theorem cmpZ_sign {a b : Int} {s1 s2 : Bool} (h1 : s1 = decide (a < 0)) (h2 : s2 = decide (b < 0)) (h : s1 ≠ s2) : cmpZ a.sign b.sign = cmpZ a b := by
  cases s1 <;> cases s2 <;> simp at h1 h2 h
  · have hb := Int.sign_eq_neg_one_of_neg h2
    have ha : 0 ≤ a.sign := Int.sign_nonneg_iff.2 h1
    unfold cmpZ; rw [hb, if_neg (by omega), if_pos (by omega), if_neg (by omega), if_pos (by omega)]
  · have ha := Int.sign_eq_neg_one_of_neg h1
    have hb : 0 ≤ b.sign := Int.sign_nonneg_iff.2 h2
    unfold cmpZ; rw [ha, if_pos (by omega), if_pos (by omega)]
theorem cmpN_pos_ {a b : Int} (h1 : 0 ≤ a) (h2 : 0 ≤ b) : cmpN a.natAbs b.natAbs = cmpZ a b := by
  unfold cmpN cmpZ
  by_cases h : a < b
  · rw [if_pos (by omega), if_pos h]
  · rw [if_neg (by omega), if_neg h]
    by_cases h' : b < a
    · rw [if_pos (by omega), if_pos h']
    · rw [if_neg (by omega), if_neg h']
theorem cmpN_neg_ {a b : Int} (h1 : a < 0) (h2 : b < 0) : cmpN b.natAbs a.natAbs = cmpZ a b := by
  unfold cmpN cmpZ
  by_cases h : a < b
  · rw [if_pos (by omega), if_pos h]
  · rw [if_neg (by omega), if_neg h]
    by_cases h' : b < a
    · rw [if_pos (by omega), if_pos h']
    · rw [if_neg (by omega), if_neg h']

set_option maxHeartbeats 1000000 in
theorem icmp_ok (w : World) (ex : List Nat) (s1 : Bool) (A1 : Option Addr) (n1 c1 : Nat) (a : Int) (s2 : Bool) (A2 : Option Addr) (n2 c2 : Nat) (b : Int)
    (hx : RI w ex s1 A1 n1 c1 a) (hy : RI w ex s2 A2 n2 c2 b) (hn1 : n1 ≤ 1000000000) (hn2 : n2 ≤ 1000000000) :
    Calls Tryz.prog 170 #[.agg #[.bool s1, .slice A1 n1 c1], .agg #[.bool s2, .slice A2 n2 c2]] w (RetV w (.int .i64 (cmpZ a b))) := by
  have hs1 := hx.sign
  have hs2 := hy.sign
  by_cases hs : s1 = s2
  · subst hs
    cases s1
    · have HC : Hid (cmpN a.natAbs b.natAbs = cmpZ a b) := cmpN_pos_ (by simpa using hs1) (by simpa using hs2)
      clear hs1 hs2
      go_enter Tryz.func170, Tryz.ntmps170
      go_wp2_with fail
      refine (cmp_ok _ _ _ _ _ _ _ _ _ _ (hx.2.mono (Kr.fresh (l := []) (by repeat first | with_reducible exact .refl .. | with_reducible assumption | refine .s ?_ ?_ | refine .m ?_ ?_ | refine .l ?_ ?_ | refine .d ?_ | refine .e ?_ | (simp <;> omega) | omega) (by simp))) (hy.2.mono (Kr.fresh (l := []) (by repeat first | with_reducible exact .refl .. | with_reducible assumption | refine .s ?_ ?_ | refine .m ?_ ?_ | refine .l ?_ ?_ | refine .d ?_ | refine .e ?_ | (simp <;> omega) | omega) (by simp))) (by omega) (by omega)).mono ?_; rintro e w' ⟨rfl, D0, rfl⟩
      go_wp2_with fail
      go_ret
      exact RetV.mk (by rw [← HC.out]; rfl) (by repeat first | with_reducible exact .refl .. | with_reducible assumption | refine .s ?_ ?_ | refine .m ?_ ?_ | refine .l ?_ ?_ | refine .d ?_ | refine .e ?_ | (simp <;> omega) | omega)
    · have HC : Hid (cmpN b.natAbs a.natAbs = cmpZ a b) := cmpN_neg_ (by simpa using hs1) (by simpa using hs2)
      clear hs1 hs2
      go_enter Tryz.func170, Tryz.ntmps170
      go_wp2_with fail
      refine (cmp_ok _ _ _ _ _ _ _ _ _ _ (hy.2.mono (Kr.fresh (l := []) (by repeat first | with_reducible exact .refl .. | with_reducible assumption | refine .s ?_ ?_ | refine .m ?_ ?_ | refine .l ?_ ?_ | refine .d ?_ | refine .e ?_ | (simp <;> omega) | omega) (by simp))) (hx.2.mono (Kr.fresh (l := []) (by repeat first | with_reducible exact .refl .. | with_reducible assumption | refine .s ?_ ?_ | refine .m ?_ ?_ | refine .l ?_ ?_ | refine .d ?_ | refine .e ?_ | (simp <;> omega) | omega) (by simp))) (by omega) (by omega)).mono ?_; rintro e w' ⟨rfl, D0, rfl⟩
      go_wp2_with fail
      go_ret
      exact RetV.mk (by rw [← HC.out]; rfl) (by repeat first | with_reducible exact .refl .. | with_reducible assumption | refine .s ?_ ?_ | refine .m ?_ ?_ | refine .l ?_ ?_ | refine .d ?_ | refine .e ?_ | (simp <;> omega) | omega)
  · have HC : Hid (cmpZ a.sign b.sign = cmpZ a b) := cmpZ_sign hs1 hs2 hs
    clear hs1 hs2
    have hsb : (s1 == s2) = false := by simp [hs]
    clear hs
    go_enter Tryz.func170, Tryz.ntmps170
    go_wp2_with fail
    go_region_held3 (fun w' => w'.cell? ⟨w.heap.size, 0, none⟩ = some (.bool s1) ∧ w'.cell? ⟨w.heap.size, 1, none⟩ = some (.slice A1 n1 c1) ∧ w'.cell? ⟨w.heap.size + 1, 0, none⟩ = some (.bool s2) ∧ w'.cell? ⟨w.heap.size + 1, 1, none⟩ = some (.slice A2 n2 c2))
      ((repeat' apply And.intro) <;> first | (simp [*, go_sem, ↓IntWalk.iteOmega]; done) | (refine got_of ?_; simp [*, go_sem, ↓IntWalk.iteOmega]; done))
      (first | (go_at_call_of 133 s1; refine (sign_ok _ _ _ _ _ _ _ (hx.mono (Kr.fresh (l := []) (by repeat first | with_reducible exact .refl .. | with_reducible assumption | refine .s ?_ ?_ | refine .m ?_ ?_ | refine .l ?_ ?_ | refine .d ?_ | refine .e ?_ | (simp <;> omega) | omega) (by simp)))).mono ?_; rintro e w' ⟨X, D, rfl, rfl⟩) | (go_at_call_of 133 s2; refine (sign_ok _ _ _ _ _ _ _ (hy.mono (Kr.fresh (l := []) (by repeat first | with_reducible exact .refl .. | with_reducible assumption | refine .s ?_ ?_ | refine .m ?_ ?_ | refine .l ?_ ?_ | refine .d ?_ | refine .e ?_ | (simp <;> omega) | omega) (by simp)))).mono ?_; rintro e w' ⟨X, D, rfl, rfl⟩) | (go_at_call 204; refine (compareI_ok _ _ _).mono ?_; rintro e w' ⟨rfl, rfl⟩; rw [HC.out]))
    go_wp2_with fail
    go_ret
    exact RetV.mk rfl (by repeat first | with_reducible exact .refl .. | with_reducible assumption | refine .s ?_ ?_ | refine .m ?_ ?_ | refine .l ?_ ?_ | refine .d ?_ | refine .e ?_ | (simp <;> omega) | omega)

set_option maxHeartbeats 400000 in
theorem ivalid_ok (w : World) (ex : List Nat) (s : Bool) (A : Option Addr) (n c : Nat) (z : Int) (hx : RI w ex s A n c z) (hn : n ≤ 1000000000) :
    Calls Tryz.prog 169 #[.agg #[.bool s, .slice A n c]] w (RetV w (.bool true)) := by
  have hs := hx.sign
  have h0 := hx.n0
  have HL := Lib.hid hx.2.len
  by_cases hn0 : 0 < n
  · obtain ⟨K, rfl⟩ : ∃ K : Nat, n = K + 1 := ⟨n - 1, by omega⟩
    obtain ⟨b, o, rfl, hb, hc⟩ := hx.2.at_ hn0
    have hk : K < (digits z.natAbs).length := by have := HL.out; omega
    have hcell := hc _ hk
    have HC := Lib.hid hc; clear hc
    have hbl := hx.2.lt hn0
    have hne : (digits z.natAbs)[K] ≠ 0 := by
      have := (canon_digits z.natAbs).2
      rw [List.getLast?_eq_getElem?, ← HL.out, show K + 1 - 1 = K from rfl, List.getElem?_eq_getElem hk] at this
      intro e; exact this (by rw [e])
    have hq : ((((digits z.natAbs)[K] : Nat) : Int) == 0) = false := by simp; omega
    have HNE := Lib.hid hne
    clear hs h0 hne
    go_enter Tryz.func169, Tryz.ntmps169
    go_wp2
    go_ret
    exact RetV.mk (by simp; exact HNE.out) (by repeat first | with_reducible exact .refl .. | with_reducible assumption | refine .s ?_ ?_ | refine .m ?_ ?_ | refine .l ?_ ?_ | refine .d ?_ | refine .e ?_ | (simp <;> omega) | omega)
  · obtain rfl : n = 0 := by omega
    have hz := h0.1 rfl
    subst hz
    have hs' : s = false := by simpa using hs
    subst hs'
    clear hs h0
    go_enter Tryz.func169, Tryz.ntmps169
    go_wp2
    go_ret
    exact RetV.mk rfl (by repeat first | with_reducible exact .refl .. | with_reducible assumption | refine .s ?_ ?_ | refine .m ?_ ?_ | refine .l ?_ ?_ | refine .d ?_ | refine .e ?_ | (simp <;> omega) | omega)

set_option maxHeartbeats 400000 in
theorem div32_ok (x y d : Nat) (w : World) (hd : x < d) (hdl : d < 4294967296) (hy : y < 4294967296) :
    Calls Tryz.prog 231 #[.int .u32 x, .int .u32 y, .int .u32 d] w fun e w' => e = .returned (.tuple #[.int .u32 (((x * 4294967296 + y) / d : Nat) : Int), .int .u32 (((x * 4294967296 + y) % d : Nat) : Int)]) ∧ ∃ D, w' = w.drewN D := by
  have hd0 : ((d : Int) != 0) = true := by simp; omega
  have hle : ¬ ((d : Int) ≤ (x : Int)) := by omega
  have hle' : decide ((d : Int) ≤ (x : Int)) = false := by simp; omega
  obtain ⟨T, hT⟩ : ∃ T : Nat, x * 4294967296 + y = T := ⟨_, rfl⟩
  have hTl : T ≤ 18446744073709551615 := by omega
  have hor : bits BinOp.or IntKind.u64 ((x : Int) * 4294967296) (y : Int) = (T : Int) := by
    rw [show ((x : Int) * 4294967296) = ((x * 4294967296 : Nat) : Int) from by simp, u64_or_nat _ _ (by omega) (by omega), nat_join 32 _ _ (by omega) (by omega), hT]
  obtain ⟨q, hq⟩ : ∃ q : Nat, T / d = q := ⟨_, rfl⟩
  obtain ⟨r, hr⟩ : ∃ r : Nat, T % d = r := ⟨_, rfl⟩
  have hql : q < 4294967296 := by
    rw [← hq, Nat.div_lt_iff_lt_mul (by omega)]
    have := Nat.mul_le_mul_left 4294967296 (show x + 1 ≤ d from hd)
    omega
  have hrl : r < d := by rw [← hr]; exact Nat.mod_lt _ (by omega)
  have hqi : (T : Int) / (d : Int) = (q : Int) := by rw [← hq]; rfl
  have hri : (T : Int) % (d : Int) = (r : Int) := by rw [← hr]; rfl
  have HQ : Hid ((((x * 4294967296 + y) / d : Nat) : Int) = (q : Int) ∧ (((x * 4294967296 + y) % d : Nat) : Int) = (r : Int)) := by rw [hT]; exact ⟨by rw [hq], by rw [hr]⟩
  rw [HQ.out.1, HQ.out.2]
  clear hT hq hr HQ
  go_enter Tryz.func231, Tryz.ntmps231
  go_wp2_with fail
  go_quiet (fail)
  go_wp2_with fail
  go_ret2
  exact ⟨rfl, _, rfl⟩

/-- One word of a quotient. -/
theorem word_step {xs os : List Nat} {K d r x : Nat} (hk : K < xs.length) (hko : K < os.length) (hx : xs[K] = x)
    (h : val (xs.drop (K + 1)) = val (os.drop (K + 1)) * d + r) :
    val (xs.drop K) = val ((os.set K ((r * 4294967296 + x) / d)).drop K) * d + (r * 4294967296 + x) % d := by
  rw [List.drop_eq_getElem_cons hk, List.drop_eq_getElem_cons (l := os.set K _) (by simpa using hko), List.drop_set_of_lt (by omega), hx]
  simp only [val, List.getElem_set_self]
  rw [h]
  have := Nat.div_add_mod (r * 4294967296 + x) d
  generalize (r * 4294967296 + x) / d = q at *
  generalize (r * 4294967296 + x) % d = m at *
  generalize val (os.drop (K + 1)) = V at *
  have h1 : (q + 4294967296 * V) * d = d * q + 4294967296 * (V * d) := by rw [Nat.add_mul, Nat.mul_comm q d, Nat.mul_assoc]
  rw [h1]
  omega

/-- A slice of words and a number. -/
def RetWN (w : World) (ex : List Nat) (ws : List Nat) (k : Nat) (e : Ending) (w' : World) : Prop :=
  ∃ A m c X D, e = .returned (.tuple #[.slice A m c, .int .u32 k]) ∧ w' = w.more X D ∧ RW (w.more X D) ex A m c ws
theorem RetWN.mk {w w' : World} {ex ws : List Nat} {k : Nat} {A : Option Addr} {m c : Nat} {e : Ending} (he : e = .returned (.tuple #[.slice A m c, .int .u32 k])) (hb : Below w.heap.size w w') (hr : RW w' ex A m c ws) : RetWN w ex ws k e w' := by
  obtain ⟨X, D, rfl⟩ := World.more_of_below hb
  exact ⟨A, m, c, X, D, he, rfl, hr⟩

set_option maxHeartbeats 1000000 in
theorem word_ok (w : World) (ex : List Nat) (A : Option Addr) (n c : Nat) (xs : List Nat) (d : Nat) (hx : RW w ex A n c xs) (hd : 0 < d) (hdl : d < 4294967296) (hn : n ≤ 1000000000) (hex : ∀ b ∈ ex, b < w.heap.size) :
    Calls Tryz.prog 205 #[.slice A n c, .int .u32 d] w (RetWN w ex (digits (val xs / d)) (val xs % d)) := by
  have HX := Lib.hid hx.len
  have HEX := Lib.hid hex
  clear hex
  have hmk := makeNat (n : Int) n rfl (by omega)
  go_enter Tryz.func205, Tryz.ntmps205
  go_wp2_with fail
  go_loopw [7, 15] (fun rs i wr => ∃ (j r : Nat) (os : List Nat), j ≤ n ∧ i = .int .i64 j ∧ rs = .int .u32 r ∧ r < d ∧ Buf 192 wr w.heap.size os ∧ Hid (os.length = n) ∧ Wd os ∧
      Hid (val (xs.drop (n - j)) = val (os.drop (n - j)) * d + r) ∧ Below w.heap.size w wr) (fun _ i _ => n - (intOf i).toNat)
  case atStart =>
    refine ⟨0, 0, _, Nat.zero_le _, rfl, rfl, hd, Buf.new _ _ _, List.length_replicate, wd_replicate _, ?_, (Below.refl _ _).alloc (Nat.le_refl _) _⟩
    show _ = _
    rw [Nat.sub_zero, List.drop_of_length_le (by have := HX.out; omega), List.drop_of_length_le (by simp)]; simp [val]
  case round =>
    clear hmk
    obtain ⟨j, r, os, hj, rfl, rfl, hr, hbuf, HO, hwd, HV, hb⟩ := hrel
    have hxw := hx.mono (Kr.of_below hb ex)
    by_cases hlt : j < n
    · obtain ⟨K, hK⟩ : ∃ K : Nat, (n : Int) - 1 - (j : Int) = (K : Int) := ⟨n - 1 - j, by omega⟩
      have hKn : K < n := by omega
      have hko : K < os.length := by have := HO.out; omega
      have hkx : K < xs.length := by have := HX.out; omega
      have hcell := hbuf.cell hko
      have hfroz := hbuf.frozen K
      obtain ⟨bx, ox, rfl, hbx, hcx⟩ := hxw.at_ (by omega)
      have hcellx := hcx K hkx
      have HCX := Lib.hid hcx; clear hcx
      have hbl := hx.lt (by omega)
      obtain ⟨x, hX⟩ : ∃ x : Nat, xs[K] = x := ⟨_, rfl⟩
      have hxl : x < 4294967296 := by rw [← hX]; exact hx.wd _ (List.getElem_mem hkx)
      rw [hX] at hcellx
      have HXj := Lib.hid hX; clear hX
      have HV2 : Hid (val (xs.drop (K + 1)) = val (os.drop (K + 1)) * d + r) := by
        rw [show K + 1 = n - j from by omega]; exact HV
      have hql : (r * 4294967296 + x) / d < 4294967296 := by
        rw [Nat.div_lt_iff_lt_mul hd]
        have := Nat.mul_le_mul_left 4294967296 (show r + 1 ≤ d from hr)
        omega
      have hrl : (r * 4294967296 + x) % d < d := Nat.mod_lt _ hd
      go_wp2_with fail
      refine (div32_ok _ _ _ _ hr hdl hxl).mono ?_; rintro e w1 ⟨rfl, D, rfl⟩
      generalize hq : (r * 4294967296 + x) / d = q at *
      generalize hm : (r * 4294967296 + x) % d = m at *
      have HQ := Lib.hid hq; clear hq
      have HM := Lib.hid hm; clear hm
      go_wp2_with fail
      go_roundw
      case rel =>
        refine ⟨j + 1, m, os.set K q, by omega, by go_num, rfl, hrl, (hbuf.set K q).of rfl, by simpa using HO, hwd.set _ hql, ?_, Below.drewN (hb.setCell (p := ⟨w.heap.size, K, none⟩) (Nat.le_refl _) (.int .u32 (q : Int))) _⟩
        show _ = _
        rw [show n - (j + 1) = K from by omega, ← HQ.out, ← HM.out]
        exact word_step hkx hko HXj.out HV2.out
      case measure => simp [intOf]; omega
    · obtain rfl : n = j := by omega
      go_wp2_with fail
      have hrw : RW wr ex (some ⟨w.heap.size, 0, none⟩) n n os := hbuf.rw_ (fun h => absurd (HEX.out _ h) (by omega)) hwd (by have := HO.out; omega) (Nat.le_refl _)
      refine (norm_ok _ ex _ _ _ _ hrw (by omega)).mono ?_; rintro e w1 ⟨m, rfl, rfl, hres⟩
      go_wp2_with fail
      go_ret2
      have hv := HV.out
      rw [Nat.sub_self, List.drop_zero, List.drop_zero] at hv
      have h1 : val xs / d = val os := by rw [hv, Nat.mul_comm, Nat.mul_add_div hd, Nat.div_eq_of_lt hr]; simp
      have h2 : val xs % d = r := by rw [hv, Nat.mul_comm, Nat.mul_add_mod, Nat.mod_eq_of_lt hr]
      rw [h1, h2]
      exact RetWN.mk rfl hb hres

end Go.Proofs.YthhdleppkggepaaGreat
