/-
  The walks of the reference of package rational: whole numbers, signs, validity.
-/
import Derived.Test.YthhdleppkggepaaGreatSb06
import Derived.Test.YthhdleppkggepaaGreatSb07
import Derived.Test.YthhdleppkggepaaGreatSb08
import Derived.Test.YthhdleppkggepaaGreatSb10

set_option linter.unusedSimpArgs false
set_option linter.unusedVariables false
set_option linter.unusedSectionVars false

namespace Go.Proofs.YthhdleppkggepaaGreat
open Go.RowKit Go.Deep
set_option maxRecDepth 100000

set_option maxHeartbeats 400000 in
theorem r2whole_ok (w : World) (ex : List Nat) (z : Int) (hz1 : -9223372036854775808 ≤ z) (hz2 : z ≤ 9223372036854775807) (hex : ∀ b ∈ ex, b < w.heap.size) :
    Calls Tryz.prog 26 #[.int .i64 z] w (RetQ w ex (z : Rat)) := by
  go_enter Tryz.func26, Tryz.ntmps26
  go_wp2_with fail
  refine (r1of_ok _ ([w.heap.size] ++ ex) z hz1 hz2 (hexs hex (by first | (simp; done) | (simp; omega) | omega) (by first | (simp; done) | (simp; omega) | omega))).mono ?_; rintro e w' ⟨s1, A1, m1, c1, X1, D1, rfl, rfl, h1⟩
  go_wp2_with fail
  refine (r1of_ok _ ([w.heap.size] ++ ex) 1 (by decide) (by decide) (hexs hex (by first | (simp; done) | (simp; omega) | omega) (by first | (simp; done) | (simp; omega) | omega))).mono ?_; rintro e w' ⟨s2, A2, m2, c2, X2, D2, rfl, rfl, h2⟩
  go_wp2_with fail
  refine bodyPost_ret (v := .agg #[.bool s1, .slice A1 m1 c1, .bool s2, .slice A2 m2 c2]) (by simp [results, Tryz.results26, go_sem, ↓IntWalk.iteOmega]) rfl (RetQ.mk rfl (by repeat first | with_reducible exact .refl .. | with_reducible assumption | refine .s ?_ ?_ | refine .m ?_ ?_ | refine .l ?_ ?_ | refine .d ?_ | refine .e ?_ | (simp <;> omega) | omega) ?_ ?_)
  · rw [Rat.num_intCast]; exact h1.mono (Kr.down (by repeat (first | (with_reducible exact Kr.refl _ _) | (with_reducible assumption) | refine Kr.setCell ?_ _ (by simp) | refine Kr.more ?_ _ _ | refine Kr.alloc_ ?_ _ | refine Kr.drew ?_ | refine Kr.drewN ?_ _)) (by first | (intro b hb; simp [hb]; done) | (intro b hb; exact hb) | (intro b hb; simp at hb ⊢; grind)))
  · rw [Rat.den_intCast]; exact h2.mono (Kr.down (by repeat (first | (with_reducible exact Kr.refl _ _) | (with_reducible assumption) | refine Kr.setCell ?_ _ (by simp) | refine Kr.more ?_ _ _ | refine Kr.alloc_ ?_ _ | refine Kr.drew ?_ | refine Kr.drewN ?_ _)) (by first | (intro b hb; simp [hb]; done) | (intro b hb; exact hb) | (intro b hb; simp at hb ⊢; grind)))

set_option maxHeartbeats 400000 in
theorem r2neg_ok (w : World) (ex : List Nat) (s1 : Bool) (A1 : Option Addr) (n1 c1 : Nat) (s2 : Bool) (A2 : Option Addr) (n2 c2 : Nat) (q : Rat) (hx : RQ w ex s1 A1 n1 c1 s2 A2 n2 c2 q) (hn1 : n1 ≤ 1000000) :
    Calls Tryz.prog 151 #[.agg #[.bool s1, .slice A1 n1 c1, .bool s2, .slice A2 n2 c2]] w (RetQ w ex (-q)) := by
  go_enter Tryz.func151, Tryz.ntmps151
  go_wp2_with fail
  go_region_held3 (fun w' => w'.cell? ⟨w.heap.size, 0, none⟩ = some (.bool s1) ∧ w'.cell? ⟨w.heap.size, 1, none⟩ = some (.slice A1 n1 c1) ∧ w'.cell? ⟨w.heap.size, 2, none⟩ = some (.bool s2) ∧ w'.cell? ⟨w.heap.size, 3, none⟩ = some (.slice A2 n2 c2) ∧ w'.cell? ⟨w.heap.size + 1, 0, none⟩ = some (World.got w' (w.heap.size + 1) (0)) ∧ w'.cell? ⟨w.heap.size + 1, 1, none⟩ = some (World.got w' (w.heap.size + 1) (1)) ∧ w'.cell? ⟨w.heap.size + 1, 2, none⟩ = some (World.got w' (w.heap.size + 1) (2)) ∧ w'.cell? ⟨w.heap.size + 1, 3, none⟩ = some (World.got w' (w.heap.size + 1) (3)) ∧ w'.frozen? ⟨w.heap.size + 1, 0, none⟩ = false ∧ w'.frozen? ⟨w.heap.size + 1, 1, none⟩ = false ∧ w'.frozen? ⟨w.heap.size + 1, 2, none⟩ = false ∧ w'.frozen? ⟨w.heap.size + 1, 3, none⟩ = false)
    ((repeat' apply And.intro) <;> first | (simp [*, go_sem, ↓IntWalk.iteOmega]; done) | (refine got_of ?_; simp [*, go_sem, ↓IntWalk.iteOmega]; done))
    (first | (go_at_call 119; refine (r1neg_ok _ ([w.heap.size + 1] ++ ex) _ _ _ _ _ (hx.num.mono (Kr.fresh (l := [w.heap.size + 1]) (by repeat first | with_reducible exact .refl .. | with_reducible assumption | refine .s ?_ ?_ | refine .m ?_ ?_ | refine .l ?_ ?_ | refine .d ?_ | refine .e ?_ | (simp <;> omega) | omega) (by simp))) (by omega)).mono ?_; rintro e w' ⟨t1, B1, m1, d1, X1, D1, rfl, rfl, h1⟩))
  all_goals
    go_wp2_with fail
    refine bodyPost_ret (v := .agg #[.bool t1, .slice B1 m1 d1, .bool s2, .slice A2 n2 c2]) (by simp [results, Tryz.results151, go_sem, ↓IntWalk.iteOmega]) rfl (RetQ.mk rfl (by repeat first | with_reducible exact .refl .. | with_reducible assumption | refine .s ?_ ?_ | refine .m ?_ ?_ | refine .l ?_ ?_ | refine .d ?_ | refine .e ?_ | (simp <;> omega) | omega) ?_ ?_)
    · exact h1.mono (Kr.down (by repeat (first | (with_reducible exact Kr.refl _ _) | (with_reducible assumption) | refine Kr.setCell ?_ _ (by simp) | refine Kr.more ?_ _ _ | refine Kr.alloc_ ?_ _ | refine Kr.drew ?_ | refine Kr.drewN ?_ _)) (by first | (intro b hb; simp [hb]; done) | (intro b hb; exact hb) | (intro b hb; simp at hb ⊢; grind)))
    · exact hx.den.mono (Kr.of_below (by repeat first | with_reducible exact .refl .. | with_reducible assumption | refine .s ?_ ?_ | refine .m ?_ ?_ | refine .l ?_ ?_ | refine .d ?_ | refine .e ?_ | (simp <;> omega) | omega) ex)

set_option maxHeartbeats 400000 in
theorem r2sign_ok (w : World) (ex : List Nat) (s1 : Bool) (A1 : Option Addr) (n1 c1 : Nat) (s2 : Bool) (A2 : Option Addr) (n2 c2 : Nat) (q : Rat) (hx : RQ w ex s1 A1 n1 c1 s2 A2 n2 c2 q) :
    Calls Tryz.prog 66 #[.agg #[.bool s1, .slice A1 n1 c1, .bool s2, .slice A2 n2 c2]] w (RetV w (.int .i64 q.num.sign)) := by
  go_enter Tryz.func66, Tryz.ntmps66
  go_wp2_with fail
  refine (r1sign_ok _ _ _ _ _ _ _ (hx.num.mono (Kr.fresh (l := []) (by repeat first | with_reducible exact .refl .. | with_reducible assumption | refine .s ?_ ?_ | refine .m ?_ ?_ | refine .l ?_ ?_ | refine .d ?_ | refine .e ?_ | (simp <;> omega) | omega) (by simp)))).mono ?_; rintro e w' ⟨X, D, rfl, rfl⟩
  go_wp2_with fail
  go_ret
  exact RetV.mk rfl (by repeat first | with_reducible exact .refl .. | with_reducible assumption | refine .s ?_ ?_ | refine .m ?_ ?_ | refine .l ?_ ?_ | refine .d ?_ | refine .e ?_ | (simp <;> omega) | omega)

set_option maxHeartbeats 1000000 in
theorem r2valid_ok (w : World) (ex : List Nat) (s1 : Bool) (A1 : Option Addr) (n1 c1 : Nat) (s2 : Bool) (A2 : Option Addr) (n2 c2 : Nat) (q : Rat) (hx : RQ w ex s1 A1 n1 c1 s2 A2 n2 c2 q)
    (hw : Wee q.den) (hn1 : n1 ≤ 1000000) (hn2 : n2 ≤ 1000000) :
    Calls Tryz.prog 188 #[.agg #[.bool s1, .slice A1 n1 c1, .bool s2, .slice A2 n2 c2]] w (RetV w (.bool true)) := by
  have hsg : (q.den : Int).sign = 1 := Int.sign_eq_one_of_pos (den_pos_ q)
  have hw' : Wee (q.den : Int).natAbs := by rw [Int.natAbs_natCast]; exact hw
  go_enter Tryz.func188, Tryz.ntmps188
  go_wp2_with fail
  refine (r1ivalid_ok _ [] _ _ _ _ _ (hx.num.mono ((Kr.of_below (by repeat first | with_reducible exact .refl .. | with_reducible assumption | refine .s ?_ ?_ | refine .m ?_ ?_ | refine .l ?_ ?_ | refine .d ?_ | refine .e ?_ | (simp <;> omega) | omega) ex).sub (by simp))) (by omega)).mono ?_; rintro e w' ⟨X, D, rfl, rfl⟩
  go_wp2_with fail
  refine (r1ivalid_ok _ [] _ _ _ _ _ (hx.den.mono ((Kr.of_below (by repeat first | with_reducible exact .refl .. | with_reducible assumption | refine .s ?_ ?_ | refine .m ?_ ?_ | refine .l ?_ ?_ | refine .d ?_ | refine .e ?_ | (simp <;> omega) | omega) ex).sub (by simp))) (by omega)).mono ?_; rintro e w' ⟨X2, D2, rfl, rfl⟩
  go_wp2_with fail
  refine (r1sign_ok _ [] _ _ _ _ _ (hx.den.mono ((Kr.of_below (by repeat first | with_reducible exact .refl .. | with_reducible assumption | refine .s ?_ ?_ | refine .m ?_ ?_ | refine .l ?_ ?_ | refine .d ?_ | refine .e ?_ | (simp <;> omega) | omega) ex).sub (by simp)))).mono ?_; rintro e w' ⟨X3, D3, rfl, rfl⟩
  rw [hsg]
  go_wp2_with fail
  refine (r1gcd_ok _ [] _ _ _ _ _ _ _ _ _ _ (hx.num.mono ((Kr.of_below (by repeat first | with_reducible exact .refl .. | with_reducible assumption | refine .s ?_ ?_ | refine .m ?_ ?_ | refine .l ?_ ?_ | refine .d ?_ | refine .e ?_ | (simp <;> omega) | omega) ex).sub (by simp))) (hx.den.mono ((Kr.of_below (by repeat first | with_reducible exact .refl .. | with_reducible assumption | refine .s ?_ ?_ | refine .m ?_ ?_ | refine .l ?_ ?_ | refine .d ?_ | refine .e ?_ | (simp <;> omega) | omega) ex).sub (by simp))) hw' (by omega) (by omega) (by simp)).mono ?_; rintro e w' ⟨s3, A3, n3, c3, X4, D4, rfl, rfl, hg⟩
  rw [gcd_one] at hg
  have hgl : n3 ≤ 10 := by rw [hg.len]; decide
  go_wp2_with fail
  refine (r1of_ok _ [] 1 (by decide) (by decide) (by simp)).mono ?_; rintro e w' ⟨s4, A4, n4, c4, X5, D5, rfl, rfl, ho⟩
  have hol : n4 ≤ 10 := by rw [ho.len]; decide
  go_wp2_with fail
  refine (r1icmp_ok _ [] _ _ _ _ _ _ _ _ _ _ (hg.mono (by repeat (first | (with_reducible exact Kr.refl _ _) | (with_reducible assumption) | refine Kr.setCell ?_ _ (by simp) | refine Kr.more ?_ _ _ | refine Kr.alloc_ ?_ _ | refine Kr.drew ?_ | refine Kr.drewN ?_ _))) ho (by omega) (by omega)).mono ?_; rintro e w' ⟨X6, D6, rfl, rfl⟩
  rw [show cmpZ ((1 : Nat) : Int) 1 = 0 from rfl]
  go_wp2_with fail
  go_ret
  exact RetV.mk rfl (by repeat first | with_reducible exact .refl .. | with_reducible assumption | refine .s ?_ ?_ | refine .m ?_ ?_ | refine .l ?_ ?_ | refine .d ?_ | refine .e ?_ | (simp <;> omega) | omega)

set_option maxHeartbeats 1000000 in
theorem r2new_ok (w : World) (ex : List Nat) (s1 : Bool) (A1 : Option Addr) (n1 c1 : Nat) (a : Int) (s2 : Bool) (A2 : Option Addr) (n2 c2 : Nat) (d : Int)
    (hx : RI w ex s1 A1 n1 c1 a) (hy : RI w ex s2 A2 n2 c2 d) (hd : d ≠ 0) (hw : Wee d.natAbs) (hn1 : n1 ≤ 1000000) (hn2 : n2 ≤ 1000000) (hex : ∀ b ∈ ex, b < w.heap.size) :
    Calls Tryz.prog 150 #[.agg #[.bool s1, .slice A1 n1 c1], .agg #[.bool s2, .slice A2 n2 c2]] w (RetQE w ex (Rat.divInt a d) 0) := by
  have hsg : (d.sign == 0) = false := by simp; omega
  have HD := Lib.hid hd
  clear hd
  go_enter Tryz.func150, Tryz.ntmps150
  go_wp2_with fail
  refine (r1sign_ok _ _ _ _ _ _ _ (hy.mono (Kr.fresh (l := []) (by repeat first | with_reducible exact .refl .. | with_reducible assumption | refine .s ?_ ?_ | refine .m ?_ ?_ | refine .l ?_ ?_ | refine .d ?_ | refine .e ?_ | (simp <;> omega) | omega) (by simp)))).mono ?_; rintro e w' ⟨X, D, rfl, rfl⟩
  go_wp2_with fail
  refine (r2lowest_ok _ ([w.heap.size + 2] ++ ex) _ _ _ _ _ _ _ _ _ _ (hx.mono (Kr.fresh (l := [w.heap.size + 2]) (by repeat first | with_reducible exact .refl .. | with_reducible assumption | refine .s ?_ ?_ | refine .m ?_ ?_ | refine .l ?_ ?_ | refine .d ?_ | refine .e ?_ | (simp <;> omega) | omega) (by first | (simp; done) | (simp; omega) | omega))) (hy.mono (Kr.fresh (l := [w.heap.size + 2]) (by repeat first | with_reducible exact .refl .. | with_reducible assumption | refine .s ?_ ?_ | refine .m ?_ ?_ | refine .l ?_ ?_ | refine .d ?_ | refine .e ?_ | (simp <;> omega) | omega) (by first | (simp; done) | (simp; omega) | omega))) HD.out hw (by omega) (by omega) (hexs hex (by first | (simp; done) | (simp; omega) | omega) (by first | (simp; done) | (simp; omega) | omega))).mono ?_; rintro e w' ⟨s1, A1, n1, c1, s2, A2, n2, c2, X3, D3, rfl, rfl, h3⟩
  go_wp2_with fail
  refine bodyPost_ret (v := .tuple #[.agg #[.bool s1, .slice A1 n1 c1, .bool s2, .slice A2 n2 c2], .int .i64 0]) (by simp [results, Tryz.results150, go_sem, ↓IntWalk.iteOmega]) rfl (RetQE.mk rfl (by repeat first | with_reducible exact .refl .. | with_reducible assumption | refine .s ?_ ?_ | refine .m ?_ ?_ | refine .l ?_ ?_ | refine .d ?_ | refine .e ?_ | (simp <;> omega) | omega) ?_ ?_)
  · exact h3.num.mono (Kr.down (by repeat (first | (with_reducible exact Kr.refl _ _) | (with_reducible assumption) | refine Kr.setCell ?_ _ (by simp) | refine Kr.more ?_ _ _ | refine Kr.alloc_ ?_ _ | refine Kr.drew ?_ | refine Kr.drewN ?_ _)) (by first | (intro b hb; simp [hb]; done) | (intro b hb; exact hb) | (intro b hb; simp at hb ⊢; grind)))
  · exact h3.den.mono (Kr.down (by repeat (first | (with_reducible exact Kr.refl _ _) | (with_reducible assumption) | refine Kr.setCell ?_ _ (by simp) | refine Kr.more ?_ _ _ | refine Kr.alloc_ ?_ _ | refine Kr.drew ?_ | refine Kr.drewN ?_ _)) (by first | (intro b hb; simp [hb]; done) | (intro b hb; exact hb) | (intro b hb; simp at hb ⊢; grind)))


end Go.Proofs.YthhdleppkggepaaGreat

/-
  The walks of package polynomial and its reference: constants.
-/
namespace Go.Proofs.YthhdleppkggepaaGreat
open Go.RowKit Go.Deep
set_option maxRecDepth 100000

def RetP (w : World) (ex : List Nat) (p : List (Rat × List Int)) (e : Ending) (w' : World) : Prop :=
  ∃ A n c X D, e = .returned (.slice A n c) ∧ w' = w.more X D ∧ RP (w.more X D) ex A n c p
theorem RetP.mk {w w' : World} {ex : List Nat} {p : List (Rat × List Int)} {A : Option Addr} {n c : Nat} {e : Ending} (he : e = .returned (.slice A n c)) (hb : Below w.heap.size w w') (hr : RP w' ex A n c p) : RetP w ex p e w' := by
  obtain ⟨X, D, rfl⟩ := World.more_of_below hb
  exact ⟨A, n, c, X, D, he, rfl, hr⟩
def constP (q : Rat) : List (Rat × List Int) := if q = 0 then [] else [(q, [0, 0, 0, 0, 0, 0, 0, 0])]
theorem rat_sign0 {q : Rat} : q.num.sign = 0 ↔ q = 0 := by
  rw [Int.sign_eq_zero_iff_zero, Rat.num_eq_zero]

set_option maxHeartbeats 1000000 in
theorem r6constant_ok (w : World) (ex : List Nat) (s1 : Bool) (A1 : Option Addr) (n1 c1 : Nat) (s2 : Bool) (A2 : Option Addr) (n2 c2 : Nat) (q : Rat) (hx : RQ w ex s1 A1 n1 c1 s2 A2 n2 c2 q) (hex : ∀ b ∈ ex, b < w.heap.size) :
    Calls Tryz.prog 51 #[.agg #[.bool s1, .slice A1 n1 c1, .bool s2, .slice A2 n2 c2]] w (RetP w ex (constP q)) := by
  by_cases h0 : q = 0
  · have hs : (q.num.sign == 0) = true := by simp only [beq_iff_eq]; exact rat_sign0.2 h0
    have HC : Hid (constP q = []) := if_pos h0
    clear h0
    go_enter Tryz.func51, Tryz.ntmps51
    go_wp2_with fail
    refine (r2sign_ok _ ex _ _ _ _ _ _ _ _ _ (hx.mono (Kr.of_below (by repeat first | with_reducible exact .refl .. | with_reducible assumption | refine .s ?_ ?_ | refine .m ?_ ?_ | refine .l ?_ ?_ | refine .d ?_ | refine .e ?_ | (simp <;> omega) | omega) ex))).mono ?_; rintro e w1 ⟨X, D, rfl, rfl⟩
    go_wp2_with fail
    go_ret
    rw [HC.out]
    exact RetP.mk rfl (by repeat first | with_reducible exact .refl .. | with_reducible assumption | refine .s ?_ ?_ | refine .m ?_ ?_ | refine .l ?_ ?_ | refine .d ?_ | refine .e ?_ | (simp <;> omega) | omega) (RP.nil _ _ _ _)
  · have hs : (q.num.sign == 0) = false := by rw [beq_eq_false_iff_ne]; exact fun hh => h0 (rat_sign0.1 hh)
    have HC : Hid (constP q = [(q, [0, 0, 0, 0, 0, 0, 0, 0])]) := if_neg h0
    clear h0
    go_enter Tryz.func51, Tryz.ntmps51
    go_wp2_with fail
    refine (r2sign_ok _ ex _ _ _ _ _ _ _ _ _ (hx.mono (Kr.of_below (by repeat first | with_reducible exact .refl .. | with_reducible assumption | refine .s ?_ ?_ | refine .m ?_ ?_ | refine .l ?_ ?_ | refine .d ?_ | refine .e ?_ | (simp <;> omega) | omega) ex))).mono ?_; rintro e w1 ⟨X, D, rfl, rfl⟩
    go_wp2_with fail
    go_ret
    rw [HC.out]
    refine RetP.mk rfl (by repeat first | with_reducible exact .refl .. | with_reducible assumption | refine .s ?_ ?_ | refine .m ?_ ?_ | refine .l ?_ ?_ | refine .d ?_ | refine .e ?_ | (simp <;> omega) | omega) ⟨rfl, Nat.le_refl _, fun _ => ⟨_, _, rfl, fun hb => by have := hex _ hb; omega, by simp, fun i hi => ?_⟩⟩
    obtain rfl : i = 0 := by simp at hi; omega
    exact ⟨s1, A1, n1, c1, s2, A2, n2, c2, 0, 0, 0, 0, 0, 0, 0, 0, by simp [go_sem, ↓IntWalk.iteOmega], by simp [go_sem, ↓IntWalk.iteOmega], by simp [go_sem, ↓IntWalk.iteOmega], by simp [go_sem, ↓IntWalk.iteOmega], by simp [go_sem, ↓IntWalk.iteOmega], by simp [go_sem, ↓IntWalk.iteOmega], by simp [go_sem, ↓IntWalk.iteOmega], by simp [go_sem, ↓IntWalk.iteOmega], by simp [go_sem, ↓IntWalk.iteOmega], by simp [go_sem, ↓IntWalk.iteOmega], by simp [go_sem, ↓IntWalk.iteOmega], by simp [go_sem, ↓IntWalk.iteOmega], hx.mono (Kr.of_below (by repeat first | with_reducible exact .refl .. | with_reducible assumption | refine .s ?_ ?_ | refine .m ?_ ?_ | refine .l ?_ ?_ | refine .d ?_ | refine .e ?_ | (simp <;> omega) | omega) ex), rfl⟩

set_option maxHeartbeats 1000000 in
theorem pconstant_ok (w : World) (ex : List Nat) (s1 : Bool) (A1 : Option Addr) (n1 c1 : Nat) (s2 : Bool) (A2 : Option Addr) (n2 c2 : Nat) (q : Rat) (hx : RQ w ex s1 A1 n1 c1 s2 A2 n2 c2 q) (hex : ∀ b ∈ ex, b < w.heap.size) :
    Calls Tryz.prog 47 #[.agg #[.bool s1, .slice A1 n1 c1, .bool s2, .slice A2 n2 c2]] w (RetP w ex (constP q)) := by
  by_cases h0 : q = 0
  · have hs : (q.num.sign == 0) = true := by simp only [beq_iff_eq]; exact rat_sign0.2 h0
    have HC : Hid (constP q = []) := if_pos h0
    clear h0
    go_enter Tryz.func47, Tryz.ntmps47
    go_wp2_with fail
    refine (ratsign_ok _ ex _ _ _ _ _ _ _ _ _ (hx.mono (Kr.of_below (by repeat first | with_reducible exact .refl .. | with_reducible assumption | refine .s ?_ ?_ | refine .m ?_ ?_ | refine .l ?_ ?_ | refine .d ?_ | refine .e ?_ | (simp <;> omega) | omega) ex))).mono ?_; rintro e w1 ⟨X, D, rfl, rfl⟩
    go_wp2_with fail
    go_ret
    rw [HC.out]
    exact RetP.mk rfl (by repeat first | with_reducible exact .refl .. | with_reducible assumption | refine .s ?_ ?_ | refine .m ?_ ?_ | refine .l ?_ ?_ | refine .d ?_ | refine .e ?_ | (simp <;> omega) | omega) (RP.nil _ _ _ _)
  · have hs : (q.num.sign == 0) = false := by rw [beq_eq_false_iff_ne]; exact fun hh => h0 (rat_sign0.1 hh)
    have HC : Hid (constP q = [(q, [0, 0, 0, 0, 0, 0, 0, 0])]) := if_neg h0
    clear h0
    go_enter Tryz.func47, Tryz.ntmps47
    go_wp2_with fail
    refine (ratsign_ok _ ex _ _ _ _ _ _ _ _ _ (hx.mono (Kr.of_below (by repeat first | with_reducible exact .refl .. | with_reducible assumption | refine .s ?_ ?_ | refine .m ?_ ?_ | refine .l ?_ ?_ | refine .d ?_ | refine .e ?_ | (simp <;> omega) | omega) ex))).mono ?_; rintro e w1 ⟨X, D, rfl, rfl⟩
    go_wp2_with fail
    go_ret
    rw [HC.out]
    refine RetP.mk rfl (by repeat first | with_reducible exact .refl .. | with_reducible assumption | refine .s ?_ ?_ | refine .m ?_ ?_ | refine .l ?_ ?_ | refine .d ?_ | refine .e ?_ | (simp <;> omega) | omega) ⟨rfl, Nat.le_refl _, fun _ => ⟨_, _, rfl, fun hb => by have := hex _ hb; omega, by simp, fun i hi => ?_⟩⟩
    obtain rfl : i = 0 := by simp at hi; omega
    exact ⟨s1, A1, n1, c1, s2, A2, n2, c2, 0, 0, 0, 0, 0, 0, 0, 0, by simp [go_sem, ↓IntWalk.iteOmega], by simp [go_sem, ↓IntWalk.iteOmega], by simp [go_sem, ↓IntWalk.iteOmega], by simp [go_sem, ↓IntWalk.iteOmega], by simp [go_sem, ↓IntWalk.iteOmega], by simp [go_sem, ↓IntWalk.iteOmega], by simp [go_sem, ↓IntWalk.iteOmega], by simp [go_sem, ↓IntWalk.iteOmega], by simp [go_sem, ↓IntWalk.iteOmega], by simp [go_sem, ↓IntWalk.iteOmega], by simp [go_sem, ↓IntWalk.iteOmega], by simp [go_sem, ↓IntWalk.iteOmega], hx.mono (Kr.of_below (by repeat first | with_reducible exact .refl .. | with_reducible assumption | refine .s ?_ ?_ | refine .m ?_ ?_ | refine .l ?_ ?_ | refine .d ?_ | refine .e ?_ | (simp <;> omega) | omega) ex), rfl⟩

end Go.Proofs.YthhdleppkggepaaGreat

/-
  The walks of package rational: products of two integers.
-/
namespace Go.Proofs.YthhdleppkggepaaGreat
open Go.RowKit Go.Deep
set_option maxRecDepth 100000

/-- A box with an integer. -/
structure IBox (w : World) (g : Nat) (s : Bool) (A : Option Addr) (m c : Nat) : Prop where
  c0 : w.cell? ⟨g, 0, none⟩ = some (.bool s)
  c1 : w.cell? ⟨g, 1, none⟩ = some (.slice A m c)
  f0 : w.frozen? ⟨g, 0, none⟩ = false
  f1 : w.frozen? ⟨g, 1, none⟩ = false
theorem wl_one : wl 1 = 1 := by decide
set_option maxHeartbeats 2000000 in
theorem product_ok (w : World) (ex : List Nat) (b c : Nat) (s1 : Bool) (A1 : Option Addr) (n1 c1 : Nat) (x : Int) (s2 : Bool) (A2 : Option Addr) (n2 c2 : Nat) (y : Int)
    (h0 : w.cell? ⟨b, 0, none⟩ = some (.bool s1)) (h1 : w.cell? ⟨b, 1, none⟩ = some (.slice A1 n1 c1)) (h2 : w.cell? ⟨b, 2, none⟩ = some (.bool s2)) (h3 : w.cell? ⟨b, 3, none⟩ = some (.slice A2 n2 c2)) (hc : 2 ≤ c)
    (hx : RI w ex s1 A1 n1 c1 x) (hy : RI w ex s2 A2 n2 c2 y) (hn1 : n1 ≤ 10000000) (hn2 : n2 ≤ 10000000) (hex : ∀ b ∈ ex, b < w.heap.size) :
    Calls Tryz.prog 165 #[.slice (some ⟨b, 0, none⟩) 2 c] w (RetI w ex (x * y)) := by
  have hbl := World.block_lt_of_cell? w _ h0
  go_enter Tryz.func165, Tryz.ntmps165
  go_wp2_with fail
  refine (of_ok _ ([w.heap.size] ++ ex) 1 (by decide) (by decide) (hexs hex (by first | (simp; done) | (simp; omega) | omega) (by first | (simp; done) | (simp; omega) | omega))).mono ?_; rintro e w1 ⟨sp, Ap, mp, cp, X, D, rfl, rfl, hp⟩
  go_wp2_with fail
  go_loopw [9] (fun i wr => ∃ (s : Bool) (A : Option Addr) (m c : Nat) (z : Int), IBox wr (w.heap.size + 1 + X.size) s A m c ∧ IBox wr w.heap.size false none 0 0 ∧ RI wr ([w.heap.size, w.heap.size + 1 + X.size] ++ ex) s A m c z ∧ Below w.heap.size w wr ∧ w.heap.size + 1 + X.size < wr.heap.size ∧
      ((i = .int .i64 0 ∧ z = 1) ∨ (i = .int .i64 1 ∧ z = x) ∨ (i = .int .i64 2 ∧ z = x * y))) (fun i _ => 2 - (intOf i).toNat)
  case atStart =>
    refine ⟨sp, Ap, mp, cp, 1, ⟨by simp [go_sem, ↓IntWalk.iteOmega], by simp [go_sem, ↓IntWalk.iteOmega], by simp [go_sem, ↓IntWalk.iteOmega], by simp [go_sem, ↓IntWalk.iteOmega]⟩, ⟨by simp [go_sem, ↓IntWalk.iteOmega], by simp [go_sem, ↓IntWalk.iteOmega], by simp [go_sem, ↓IntWalk.iteOmega], by simp [go_sem, ↓IntWalk.iteOmega]⟩, ?_, (by repeat first | with_reducible exact .refl .. | with_reducible assumption | refine .s ?_ ?_ | refine .m ?_ ?_ | refine .l ?_ ?_ | refine .d ?_ | refine .e ?_ | (simp <;> omega) | omega), (by first | (simp; done) | (simp; omega) | omega), .inl ⟨rfl, rfl⟩⟩
    have hp2 := hp.mono (Kr.add (l := [w.heap.size + 1 + X.size]) (ex' := [w.heap.size] ++ ex) (w' := ((w.alloc (.cells #[.bool false, .slice none 0 0] 57)).more X D).alloc (.cells #[.bool sp, .slice Ap mp cp] 57)) (by repeat (first | (with_reducible exact Kr.refl _ _) | (with_reducible assumption) | refine Kr.setCell ?_ _ (by simp) | refine Kr.more ?_ _ _ | refine Kr.alloc_ ?_ _ | refine Kr.drew ?_ | refine Kr.drewN ?_ _)) (by first | (simp; done) | (simp; omega) | omega))
    exact hp2.mono (Kr.down (Kr.refl _ _) (by intro b hb; simp at hb ⊢; grind))
  case round =>
    obtain ⟨s, A, m, cz, z, hbox, hres, hz, hb, hsz, hcase⟩ := hrel
    obtain ⟨b0, b1, bf0, bf1⟩ := hbox
    obtain ⟨r0, r1, rf0, rf1⟩ := hres
    have k0 : wr.cell? ⟨b, 0, none⟩ = some (.bool s1) := (Below.cell hb (by simpa using hbl)).trans h0
    have k1 : wr.cell? ⟨b, 1, none⟩ = some (.slice A1 n1 c1) := (Below.cell hb (by simpa using hbl)).trans h1
    have k2 : wr.cell? ⟨b, 2, none⟩ = some (.bool s2) := (Below.cell hb (by simpa using hbl)).trans h2
    have k3 : wr.cell? ⟨b, 3, none⟩ = some (.slice A2 n2 c2) := (Below.cell hb (by simpa using hbl)).trans h3
    have HB := Lib.hid (And.intro h0 (And.intro h1 (And.intro h2 h3)))
    clear h0 h1 h2 h3
    have hml := hz.len
    have hxl := hx.len
    have hyl := hy.len
    rcases hcase with ⟨rfl, rfl⟩ | ⟨rfl, hzz⟩ | ⟨rfl, hzz⟩
    · have hm : m ≤ 10 := by rw [hml, wl_one]; omega
      have HM := Lib.hid (And.intro hml (And.intro hxl hyl))
      clear hml hxl hyl
      go_wp2_with fail
      refine (imul_ok _ ([w.heap.size, w.heap.size + 1 + X.size] ++ ex) _ _ _ _ _ _ _ _ _ _ (hz.mono (by repeat (first | (with_reducible exact Kr.refl _ _) | (with_reducible assumption) | refine Kr.setCell ?_ _ (by simp) | refine Kr.more ?_ _ _ | refine Kr.alloc_ ?_ _ | refine Kr.drew ?_ | refine Kr.drewN ?_ _))) (hx.mono (Kr.fresh (l := [w.heap.size, w.heap.size + 1 + X.size]) (by repeat first | with_reducible exact .refl .. | with_reducible assumption | refine .s ?_ ?_ | refine .m ?_ ?_ | refine .l ?_ ?_ | refine .d ?_ | refine .e ?_ | (simp <;> omega) | omega) (by first | (simp; done) | (simp; omega) | omega))) (by omega) (by omega) (hexs hex (by first | (simp; done) | (simp; omega) | omega) (by first | (simp; done) | (simp; omega) | omega))).mono ?_; rintro e w1 ⟨s', A', m', c', X', D', rfl, rfl, hz'⟩
      go_wp2_with fail
      go_roundw
      case rel =>
        refine ⟨s', A', m', c', x, ⟨by simp [*, go_sem, ↓IntWalk.iteOmega], by simp [*, go_sem, ↓IntWalk.iteOmega], by simp [*, go_sem, ↓IntWalk.iteOmega], by simp [*, go_sem, ↓IntWalk.iteOmega]⟩, ⟨by simp [*, go_sem, ↓IntWalk.iteOmega], by simp [*, go_sem, ↓IntWalk.iteOmega], by simp [*, go_sem, ↓IntWalk.iteOmega], by simp [*, go_sem, ↓IntWalk.iteOmega]⟩, ?_, (by repeat first | with_reducible exact .refl .. | with_reducible assumption | refine .s ?_ ?_ | refine .m ?_ ?_ | refine .l ?_ ?_ | refine .d ?_ | refine .e ?_ | (simp <;> omega) | omega), (by first | (simp; done) | (simp; omega) | omega), .inr (.inl ⟨rfl, rfl⟩)⟩
        rw [Int.one_mul] at hz'
        exact hz'.mono (Kr.down (by repeat (first | (with_reducible exact Kr.refl _ _) | (with_reducible assumption) | refine Kr.setCell ?_ _ (by simp) | refine Kr.more ?_ _ _ | refine Kr.alloc_ ?_ _ | refine Kr.drew ?_ | refine Kr.drewN ?_ _)) (by first | (intro b hb; simp [hb]; done) | (intro b hb; exact hb) | (intro b hb; simp at hb ⊢; grind)))
      case measure => simp [intOf]
    · have hm : m ≤ 10000000 := by rw [hml, hzz]; omega
      have HM := Lib.hid (And.intro hml (And.intro hxl hyl))
      have HZ := Lib.hid hzz
      clear hml hxl hyl hzz
      go_wp2_with fail
      refine (imul_ok _ ([w.heap.size, w.heap.size + 1 + X.size] ++ ex) _ _ _ _ _ _ _ _ _ _ (hz.mono (by repeat (first | (with_reducible exact Kr.refl _ _) | (with_reducible assumption) | refine Kr.setCell ?_ _ (by simp) | refine Kr.more ?_ _ _ | refine Kr.alloc_ ?_ _ | refine Kr.drew ?_ | refine Kr.drewN ?_ _))) (hy.mono (Kr.fresh (l := [w.heap.size, w.heap.size + 1 + X.size]) (by repeat first | with_reducible exact .refl .. | with_reducible assumption | refine .s ?_ ?_ | refine .m ?_ ?_ | refine .l ?_ ?_ | refine .d ?_ | refine .e ?_ | (simp <;> omega) | omega) (by first | (simp; done) | (simp; omega) | omega))) (by omega) (by omega) (hexs hex (by first | (simp; done) | (simp; omega) | omega) (by first | (simp; done) | (simp; omega) | omega))).mono ?_; rintro e w1 ⟨s', A', m', c', X', D', rfl, rfl, hz'⟩
      go_wp2_with fail
      go_roundw
      case rel =>
        refine ⟨s', A', m', c', x * y, ⟨by simp [*, go_sem, ↓IntWalk.iteOmega], by simp [*, go_sem, ↓IntWalk.iteOmega], by simp [*, go_sem, ↓IntWalk.iteOmega], by simp [*, go_sem, ↓IntWalk.iteOmega]⟩, ⟨by simp [*, go_sem, ↓IntWalk.iteOmega], by simp [*, go_sem, ↓IntWalk.iteOmega], by simp [*, go_sem, ↓IntWalk.iteOmega], by simp [*, go_sem, ↓IntWalk.iteOmega]⟩, ?_, (by repeat first | with_reducible exact .refl .. | with_reducible assumption | refine .s ?_ ?_ | refine .m ?_ ?_ | refine .l ?_ ?_ | refine .d ?_ | refine .e ?_ | (simp <;> omega) | omega), (by first | (simp; done) | (simp; omega) | omega), .inr (.inr ⟨rfl, rfl⟩)⟩
        rw [HZ.out] at hz'
        exact hz'.mono (Kr.down (by repeat (first | (with_reducible exact Kr.refl _ _) | (with_reducible assumption) | refine Kr.setCell ?_ _ (by simp) | refine Kr.more ?_ _ _ | refine Kr.alloc_ ?_ _ | refine Kr.drew ?_ | refine Kr.drewN ?_ _)) (by first | (intro b hb; simp [hb]; done) | (intro b hb; exact hb) | (intro b hb; simp at hb ⊢; grind)))
      case measure => simp [intOf]
    · have HZ := Lib.hid hzz
      clear hml hxl hyl hzz
      go_wp2_with fail
      refine bodyPost_ret (v := .agg #[.bool s, .slice A m cz]) (by simp [results, Tryz.results165, *, go_sem, ↓IntWalk.iteOmega]) rfl (RetI.mk rfl (by repeat first | with_reducible exact .refl .. | with_reducible assumption | refine .s ?_ ?_ | refine .m ?_ ?_ | refine .l ?_ ?_ | refine .d ?_ | refine .e ?_ | (simp <;> omega) | omega) ?_)
      rw [HZ.out] at hz
      exact hz.mono (Kr.down (by repeat (first | (with_reducible exact Kr.refl _ _) | (with_reducible assumption) | refine Kr.setCell ?_ _ (by simp) | refine Kr.more ?_ _ _ | refine Kr.alloc_ ?_ _ | refine Kr.drew ?_ | refine Kr.drewN ?_ _)) (by first | (intro b hb; simp [hb]; done) | (intro b hb; exact hb) | (intro b hb; simp at hb ⊢; grind)))

end Go.Proofs.YthhdleppkggepaaGreat

/-
  The walks of package rational: sums, products, order.
-/
namespace Go.Proofs.YthhdleppkggepaaGreat
open Go.RowKit Go.Deep
set_option maxRecDepth 100000

theorem den_ne_ (a : Rat) : (a.den : Int) ≠ 0 := by have := a.den_nz; omega
theorem rat_mul_law (a b : Rat) : Rat.divInt (a.num * b.num) ((a.den : Int) * b.den) = a * b := by
  rw [← Rat.divInt_mul_divInt, Rat.num_divInt_den, Rat.num_divInt_den]
theorem rat_add_law (a b : Rat) : Rat.divInt (a.num * b.den + b.num * a.den) ((a.den : Int) * b.den) = a + b := by
  rw [← Rat.divInt_add_divInt _ _ (den_ne_ a) (den_ne_ b), Rat.num_divInt_den, Rat.num_divInt_den]
theorem den_mul_ne (a b : Rat) : (a.den : Int) * (b.den : Int) ≠ 0 := Int.mul_ne_zero (den_ne_ a) (den_ne_ b)
/-- Not too long. -/
def Few (q : Rat) : Prop := wl q.num ≤ 400000 ∧ wl (q.den : Int) ≤ 400000

set_option maxHeartbeats 1000000 in
theorem ratmul_ok (w : World) (ex : List Nat) (s1 : Bool) (A1 : Option Addr) (n1 c1 : Nat) (s2 : Bool) (A2 : Option Addr) (n2 c2 : Nat) (a : Rat) (s3 : Bool) (A3 : Option Addr) (n3 c3 : Nat) (s4 : Bool) (A4 : Option Addr) (n4 c4 : Nat) (b : Rat)
    (hx : RQ w ex s1 A1 n1 c1 s2 A2 n2 c2 a) (hy : RQ w ex s3 A3 n3 c3 s4 A4 n4 c4 b) (ha : Few a) (hb : Few b) (hw : Wee (a.den * b.den)) (hex : ∀ b ∈ ex, b < w.heap.size) :
    Calls Tryz.prog 122 #[.agg #[.bool s1, .slice A1 n1 c1, .bool s2, .slice A2 n2 c2], .agg #[.bool s3, .slice A3 n3 c3, .bool s4, .slice A4 n4 c4]] w (RetQ w ex (a * b)) := by
  have hn1 : n1 ≤ 400000 := by rw [hx.num.len]; exact ha.1
  have hn2 : n2 ≤ 400000 := by rw [hx.den.len]; exact ha.2
  have hn3 : n3 ≤ 400000 := by rw [hy.num.len]; exact hb.1
  have hn4 : n4 ≤ 400000 := by rw [hy.den.len]; exact hb.2
  have HN : Hid (∀ m, m = wl (a.num * b.num) → m ≤ 1000000) := by
    rintro m rfl; have := wl_mul a.num b.num; have := ha.1; have := hb.1; omega
  have HD : Hid (∀ m, m = wl ((a.den : Int) * b.den) → m ≤ 1000000) := by
    rintro m rfl; have := wl_mul (a.den : Int) b.den; have := ha.2; have := hb.2; omega
  have hw' : Wee ((a.den : Int) * (b.den : Int)).natAbs := by rw [Int.natAbs_mul, Int.natAbs_natCast, Int.natAbs_natCast]; exact hw
  go_enter Tryz.func122, Tryz.ntmps122
  go_wp2_with fail
  go_region_held3 (fun w' => w'.cell? ⟨w.heap.size, 0, none⟩ = some (.bool s1) ∧ w'.cell? ⟨w.heap.size, 1, none⟩ = some (.slice A1 n1 c1) ∧ w'.cell? ⟨w.heap.size, 2, none⟩ = some (.bool s2) ∧ w'.cell? ⟨w.heap.size, 3, none⟩ = some (.slice A2 n2 c2) ∧ w'.cell? ⟨w.heap.size + 1, 0, none⟩ = some (.bool s3) ∧ w'.cell? ⟨w.heap.size + 1, 1, none⟩ = some (.slice A3 n3 c3) ∧ w'.cell? ⟨w.heap.size + 1, 2, none⟩ = some (.bool s4) ∧ w'.cell? ⟨w.heap.size + 1, 3, none⟩ = some (.slice A4 n4 c4) ∧ w'.cell? ⟨w.heap.size + 2, 0, none⟩ = some (World.got w' (w.heap.size + 2) (0)) ∧ w'.cell? ⟨w.heap.size + 2, 1, none⟩ = some (World.got w' (w.heap.size + 2) (1)) ∧ w'.cell? ⟨w.heap.size + 2, 2, none⟩ = some (World.got w' (w.heap.size + 2) (2)) ∧ w'.cell? ⟨w.heap.size + 2, 3, none⟩ = some (World.got w' (w.heap.size + 2) (3)) ∧ w'.frozen? ⟨w.heap.size + 2, 0, none⟩ = false ∧ w'.frozen? ⟨w.heap.size + 2, 1, none⟩ = false ∧ w'.frozen? ⟨w.heap.size + 2, 2, none⟩ = false ∧ w'.frozen? ⟨w.heap.size + 2, 3, none⟩ = false)
    ((repeat' apply And.intro) <;> first | (simp [*, go_sem, ↓IntWalk.iteOmega]; done) | (refine got_of ?_; simp [*, go_sem, ↓IntWalk.iteOmega]; done))
    (first | (go_at_call 165; have hgo := Lib.hid hN; refine (product_ok _ ([w.heap.size + 2] ++ ex) _ _ _ _ _ _ _ _ _ _ _ _ (by simp [go_sem, ↓IntWalk.iteOmega]; done) (by simp [go_sem, ↓IntWalk.iteOmega]; done) (by simp [go_sem, ↓IntWalk.iteOmega]; done) (by simp [go_sem, ↓IntWalk.iteOmega]; done) (Nat.le_refl _) (hx.den.mono (Kr.fresh (l := [w.heap.size + 2]) (by repeat first | with_reducible exact .refl .. | with_reducible assumption | refine .s ?_ ?_ | refine .m ?_ ?_ | refine .l ?_ ?_ | refine .d ?_ | refine .e ?_ | (simp <;> omega) | omega) (by simp))) (hy.den.mono (Kr.fresh (l := [w.heap.size + 2]) (by repeat first | with_reducible exact .refl .. | with_reducible assumption | refine .s ?_ ?_ | refine .m ?_ ?_ | refine .l ?_ ?_ | refine .d ?_ | refine .e ?_ | (simp <;> omega) | omega) (by simp))) (by omega) (by omega) (hexs hex (by first | (simp; done) | (simp; omega) | omega) (by first | (simp; done) | (simp; omega) | omega))).mono ?_; rintro e w' ⟨sd, Ad, md, cd, XD, DD, rfl, rfl, hD⟩) | (go_at_call 165; refine (product_ok _ ([w.heap.size + 2] ++ ex) _ _ _ _ _ _ _ _ _ _ _ _ (by simp [go_sem, ↓IntWalk.iteOmega]; done) (by simp [go_sem, ↓IntWalk.iteOmega]; done) (by simp [go_sem, ↓IntWalk.iteOmega]; done) (by simp [go_sem, ↓IntWalk.iteOmega]; done) (Nat.le_refl _) (hx.num.mono (Kr.fresh (l := [w.heap.size + 2]) (by repeat first | with_reducible exact .refl .. | with_reducible assumption | refine .s ?_ ?_ | refine .m ?_ ?_ | refine .l ?_ ?_ | refine .d ?_ | refine .e ?_ | (simp <;> omega) | omega) (by simp))) (hy.num.mono (Kr.fresh (l := [w.heap.size + 2]) (by repeat first | with_reducible exact .refl .. | with_reducible assumption | refine .s ?_ ?_ | refine .m ?_ ?_ | refine .l ?_ ?_ | refine .d ?_ | refine .e ?_ | (simp <;> omega) | omega) (by simp))) (by omega) (by omega) (hexs hex (by first | (simp; done) | (simp; omega) | omega) (by first | (simp; done) | (simp; omega) | omega))).mono ?_; rintro e w' ⟨sn, An, mn, cn, XN, DN, rfl, rfl, hN⟩) | (go_at_call 164; refine (lowest_ok _ ([w.heap.size + 2] ++ ex) _ _ _ _ _ _ _ _ _ _ (hN.mono (by repeat (first | (with_reducible exact Kr.refl _ _) | (with_reducible assumption) | refine Kr.setCell ?_ _ (by simp) | refine Kr.more ?_ _ _ | refine Kr.alloc_ ?_ _ | refine Kr.drew ?_ | refine Kr.drewN ?_ _))) (hD.mono (by repeat (first | (with_reducible exact Kr.refl _ _) | (with_reducible assumption) | refine Kr.setCell ?_ _ (by simp) | refine Kr.more ?_ _ _ | refine Kr.alloc_ ?_ _ | refine Kr.drew ?_ | refine Kr.drewN ?_ _))) (den_mul_ne a b) hw' (HN.out _ hN.len) (HD.out _ hD.len) (hexs hex (by first | (simp; done) | (simp; omega) | omega) (by first | (simp; done) | (simp; omega) | omega))).mono ?_; rintro e w' ⟨t1, B1, m1, d1, t2, B2, m2, d2, X3, D3, rfl, rfl, h3⟩))
  all_goals
    go_wp2_with fail
    refine bodyPost_ret (v := .agg #[.bool t1, .slice B1 m1 d1, .bool t2, .slice B2 m2 d2]) (by simp [results, Tryz.results122, go_sem, ↓IntWalk.iteOmega]) rfl (RetQ.mk rfl (by repeat first | with_reducible exact .refl .. | with_reducible assumption | refine .s ?_ ?_ | refine .m ?_ ?_ | refine .l ?_ ?_ | refine .d ?_ | refine .e ?_ | (simp <;> omega) | omega) ?_ ?_)
    · rw [← rat_mul_law]; exact h3.num.mono (Kr.down (by repeat (first | (with_reducible exact Kr.refl _ _) | (with_reducible assumption) | refine Kr.setCell ?_ _ (by simp) | refine Kr.more ?_ _ _ | refine Kr.alloc_ ?_ _ | refine Kr.drew ?_ | refine Kr.drewN ?_ _)) (by first | (intro b hb; simp [hb]; done) | (intro b hb; exact hb) | (intro b hb; simp at hb ⊢; grind)))
    · rw [← rat_mul_law]; exact h3.den.mono (Kr.down (by repeat (first | (with_reducible exact Kr.refl _ _) | (with_reducible assumption) | refine Kr.setCell ?_ _ (by simp) | refine Kr.more ?_ _ _ | refine Kr.alloc_ ?_ _ | refine Kr.drew ?_ | refine Kr.drewN ?_ _)) (by first | (intro b hb; simp [hb]; done) | (intro b hb; exact hb) | (intro b hb; simp at hb ⊢; grind)))

end Go.Proofs.YthhdleppkggepaaGreat

/-
  The walks of package monomial and of its reference: the order.
-/
namespace Go.Proofs.YthhdleppkggepaaGreat
open Go.RowKit Go.Deep
set_option maxRecDepth 100000

set_option maxHeartbeats 2000000 in
theorem r4cmp_ok (w : World) (e0 e1 e2 e3 e4 e5 e6 e7 f0 f1 f2 f3 f4 f5 f6 f7 : Int) :
    Calls Tryz.prog 85 #[.agg #[.int .i64 e0, .int .i64 e1, .int .i64 e2, .int .i64 e3, .int .i64 e4, .int .i64 e5, .int .i64 e6, .int .i64 e7], .agg #[.int .i64 f0, .int .i64 f1, .int .i64 f2, .int .i64 f3, .int .i64 f4, .int .i64 f5, .int .i64 f6, .int .i64 f7]] w (RetV w (.int .i64 (cmpL [e0, e1, e2, e3, e4, e5, e6, e7] [f0, f1, f2, f3, f4, f5, f6, f7]))) := by
  go_enter Tryz.func85, Tryz.ntmps85
  go_wp2_with fail
  go_loopw [5] (fun i wr => ∃ k : Nat, k ≤ 8 ∧ i = .int .i64 k ∧ Hid (cmpL ([e0, e1, e2, e3, e4, e5, e6, e7].drop k) ([f0, f1, f2, f3, f4, f5, f6, f7].drop k) = cmpL [e0, e1, e2, e3, e4, e5, e6, e7] [f0, f1, f2, f3, f4, f5, f6, f7]) ∧ ∃ D, wr = ((w.alloc (.cells #[.int .i64 e0, .int .i64 e1, .int .i64 e2, .int .i64 e3, .int .i64 e4, .int .i64 e5, .int .i64 e6, .int .i64 e7] 68)).alloc (.cells #[.int .i64 f0, .int .i64 f1, .int .i64 f2, .int .i64 f3, .int .i64 f4, .int .i64 f5, .int .i64 f6, .int .i64 f7] 68)).drewN D) (fun i _ => 8 - (intOf i).toNat)
  case atStart => exact ⟨0, Nat.zero_le _, rfl, rfl, 0, rfl⟩
  case round =>
    obtain ⟨k, hk, rfl, HC, D, hw⟩ := hrel
    have hbel : Below w.heap.size w wr := by rw [hw]; exact (by repeat first | with_reducible exact .refl .. | with_reducible assumption | refine .s ?_ ?_ | refine .m ?_ ?_ | refine .l ?_ ?_ | refine .d ?_ | refine .e ?_ | (simp <;> omega) | omega)
    have HW := Lib.hid hw
    by_cases hlt : k < 8
    · have hc1 := cell8 w 68 e0 e1 e2 e3 e4 e5 e6 e7 k hlt
      have hc2 := cell8 (w.alloc (.cells #[.int .i64 e0, .int .i64 e1, .int .i64 e2, .int .i64 e3, .int .i64 e4, .int .i64 e5, .int .i64 e6, .int .i64 e7] 68)) 68 f0 f1 f2 f3 f4 f5 f6 f7 k hlt
      rw [World.size_alloc] at hc2
      have hc1 : wr.cell? ⟨w.heap.size, k, none⟩ = some (.int .i64 ([e0, e1, e2, e3, e4, e5, e6, e7].getD k 0)) := by rw [hw, World.cell?_drewN, World.cell?_alloc_or, hc1]; rfl
      have hc2 : wr.cell? ⟨w.heap.size + 1, k, none⟩ = some (.int .i64 ([f0, f1, f2, f3, f4, f5, f6, f7].getD k 0)) := by rw [hw, World.cell?_drewN, hc2]
      clear hw
      have hd := cmpL_drop (a := [e0, e1, e2, e3, e4, e5, e6, e7]) (b := [f0, f1, f2, f3, f4, f5, f6, f7]) (k := k) hlt hlt
      obtain ⟨x, hx⟩ : ∃ x : Int, [e0, e1, e2, e3, e4, e5, e6, e7].getD k 0 = x := ⟨_, rfl⟩
      obtain ⟨y, hy⟩ : ∃ y : Int, [f0, f1, f2, f3, f4, f5, f6, f7].getD k 0 = y := ⟨_, rfl⟩
      rw [hx] at hc1
      rw [hy] at hc2
      rw [hx, hy, HC.out] at hd
      have HD := Lib.hid hd; clear hd
      have HX := Lib.hid (And.intro hx hy); clear hx hy
      rcases Int.lt_trichotomy x y with hxy | hxy | hxy
      · go_wp2_with fail
        go_quiet (fail)
        go_wp2_with fail
        go_ret
        exact RetV.mk (by rw [HD.out, if_pos hxy]; rfl) (by repeat first | with_reducible exact .refl .. | with_reducible assumption | refine .s ?_ ?_ | refine .m ?_ ?_ | refine .l ?_ ?_ | refine .d ?_ | refine .e ?_ | (simp <;> omega) | omega)
      · subst hxy
        go_wp2_with fail
        go_quiet (fail)
        go_wp2_with fail
        go_quiet (fail)
        go_wp2_with fail
        go_roundw
        case rel => exact ⟨k + 1, by omega, by go_num, by show _ = _; rw [HD.out, if_neg (by omega), if_neg (by omega)], _, by rw [HW.out]; simp only [World.drewN_drewN]; rfl⟩
        case measure => simp [intOf]; omega
      · go_wp2_with fail
        go_quiet (fail)
        go_wp2_with fail
        go_quiet (fail)
        go_wp2_with fail
        go_ret
        exact RetV.mk (by rw [HD.out, if_neg (by omega), if_pos hxy]; rfl) (by repeat first | with_reducible exact .refl .. | with_reducible assumption | refine .s ?_ ?_ | refine .m ?_ ?_ | refine .l ?_ ?_ | refine .d ?_ | refine .e ?_ | (simp <;> omega) | omega)
    · obtain rfl : k = 8 := by omega
      go_wp2_with fail
      go_ret
      exact RetV.mk (by rw [← HC.out]; rfl) (by repeat first | with_reducible exact .refl .. | with_reducible assumption | refine .s ?_ ?_ | refine .m ?_ ?_ | refine .l ?_ ?_ | refine .d ?_ | refine .e ?_ | (simp <;> omega) | omega)

end Go.Proofs.YthhdleppkggepaaGreat
