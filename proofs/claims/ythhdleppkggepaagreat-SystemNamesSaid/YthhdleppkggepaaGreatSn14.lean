/-
  The walks of the reference of package rational: reduction.
-/
import Derived.Test.YthhdleppkggepaaGreatSn07
import Derived.Test.YthhdleppkggepaaGreatSn10
import Derived.Test.YthhdleppkggepaaGreatSn12
import Derived.Test.YthhdleppkggepaaGreatSn13

set_option linter.unusedSimpArgs false
set_option linter.unusedVariables false
set_option linter.unusedSectionVars false

namespace Go.Proofs.YthhdleppkggepaaGreat
open Go.RowKit Go.Deep
set_option maxRecDepth 100000

set_option maxHeartbeats 1000000 in
theorem r2exact_ok (w : World) (ex : List Nat) (s1 : Bool) (A1 : Option Addr) (n1 c1 : Nat) (a : Int) (s2 : Bool) (A2 : Option Addr) (n2 c2 : Nat) (b : Int)
    (hx : RI w ex s1 A1 n1 c1 a) (hy : RI w ex s2 A2 n2 c2 b) (hb0 : b ≠ 0) (hw : Wee b.natAbs) (hn1 : n1 ≤ 10000000) (hn2 : n2 ≤ 10000000) (hex : ∀ b ∈ ex, b < w.heap.size) :
    Calls Tryz.prog 120 #[.agg #[.bool s1, .slice A1 n1 c1], .agg #[.bool s2, .slice A2 n2 c2]] w (RetI w ex (a / b)) := by
  go_enter Tryz.func120, Tryz.ntmps120
  go_wp2_with fail
  refine (r1divmod_ok _ ([w.heap.size + 2] ++ ex) _ _ _ _ _ _ _ _ _ _ (hx.mono (Kr.fresh (l := [w.heap.size + 2]) (by repeat (first | (with_reducible exact Below.refl _ _) | (with_reducible assumption) | refine Below.setCell ?_ (by first | (simp; done) | (simp; omega) | omega) _ | refine Below.more ?_ (by first | (simp; done) | (simp; omega) | omega) _ _ | refine Below.alloc ?_ (by first | (simp; done) | (simp; omega) | omega) _ | refine Below.drew ?_ | refine Below.drewN ?_ _)) (by first | (simp; done) | (simp; omega) | omega))) (hy.mono (Kr.fresh (l := [w.heap.size + 2]) (by repeat (first | (with_reducible exact Below.refl _ _) | (with_reducible assumption) | refine Below.setCell ?_ (by first | (simp; done) | (simp; omega) | omega) _ | refine Below.more ?_ (by first | (simp; done) | (simp; omega) | omega) _ _ | refine Below.alloc ?_ (by first | (simp; done) | (simp; omega) | omega) _ | refine Below.drew ?_ | refine Below.drewN ?_ _)) (by first | (simp; done) | (simp; omega) | omega))) hb0 hw hn1 hn2 (hexs hex (by first | (simp; done) | (simp; omega) | omega) (by first | (simp; done) | (simp; omega) | omega))).mono ?_; rintro e w1 ⟨sq, Aq, mq, cq, sr, Ar, mr, cr, X4, D4, rfl, rfl, hq, hr⟩
  go_wp2_with fail
  refine bodyPost_ret (v := .agg #[.bool sq, .slice Aq mq cq]) (by simp [results, Tryz.results120, go_sem, ↓IntWalk.iteOmega]) rfl (RetI.mk rfl (by repeat (first | (with_reducible exact Below.refl _ _) | (with_reducible assumption) | refine Below.setCell ?_ (by first | (simp; done) | (simp; omega) | omega) _ | refine Below.more ?_ (by first | (simp; done) | (simp; omega) | omega) _ _ | refine Below.alloc ?_ (by first | (simp; done) | (simp; omega) | omega) _ | refine Below.drew ?_ | refine Below.drewN ?_ _)) ?_)
  exact hq.mono (Kr.down (by repeat (first | (with_reducible exact Kr.refl _ _) | (with_reducible assumption) | refine Kr.setCell ?_ _ (by simp) | refine Kr.more ?_ _ _ | refine Kr.alloc_ ?_ _ | refine Kr.drew ?_ | refine Kr.drewN ?_ _)) (by first | (intro b hb; simp [hb]; done) | (intro b hb; exact hb) | (intro b hb; simp at hb ⊢; grind)))

set_option maxHeartbeats 2000000 in
theorem r2lowest_ok (w : World) (ex : List Nat) (s1 : Bool) (A1 : Option Addr) (n1 c1 : Nat) (a : Int) (s2 : Bool) (A2 : Option Addr) (n2 c2 : Nat) (d : Int)
    (hx : RI w ex s1 A1 n1 c1 a) (hy : RI w ex s2 A2 n2 c2 d) (hd : d ≠ 0) (hw : Wee d.natAbs) (hn1 : n1 ≤ 1000000) (hn2 : n2 ≤ 1000000) (hex : ∀ b ∈ ex, b < w.heap.size) :
    Calls Tryz.prog 65 #[.agg #[.bool s1, .slice A1 n1 c1], .agg #[.bool s2, .slice A2 n2 c2]] w (RetQ w ex (Rat.divInt a d)) := by
  have HLg : Hid (∀ m, m = wl (Int.gcd a d : Int) → m ≤ 1000000) := by
    rintro m rfl
    have h1 := hx.len; have h2 := hy.len
    have := wl_gcd_le a d
    omega
  have HG0 : Hid ((Int.gcd a d : Int) ≠ 0) := gcd_ne hd
  have HGw : Hid (Wee (Int.gcd a d : Int).natAbs) := by show Wee _; rw [Int.natAbs_natCast]; exact hw.le (gcd_natAbs_le hd)
  by_cases hneg : d < 0
  · have HE := Lib.hid (lowest_neg (a := a) hneg : _ ∧ _)
    have hsg : d.sign = -1 := Int.sign_eq_neg_one_of_neg hneg
    have HD := Lib.hid hd
    clear hd hneg
    go_enter Tryz.func65, Tryz.ntmps65
    go_wp2_with fail
    refine (r1gcd_ok _ ([w.heap.size, w.heap.size + 1, w.heap.size + 2] ++ ex) _ _ _ _ _ _ _ _ _ _ (hx.mono (Kr.fresh (l := [w.heap.size, w.heap.size + 1, w.heap.size + 2]) (by repeat (first | (with_reducible exact Below.refl _ _) | (with_reducible assumption) | refine Below.setCell ?_ (by first | (simp; done) | (simp; omega) | omega) _ | refine Below.more ?_ (by first | (simp; done) | (simp; omega) | omega) _ _ | refine Below.alloc ?_ (by first | (simp; done) | (simp; omega) | omega) _ | refine Below.drew ?_ | refine Below.drewN ?_ _)) (by simp))) (hy.mono (Kr.fresh (l := [w.heap.size, w.heap.size + 1, w.heap.size + 2]) (by repeat (first | (with_reducible exact Below.refl _ _) | (with_reducible assumption) | refine Below.setCell ?_ (by first | (simp; done) | (simp; omega) | omega) _ | refine Below.more ?_ (by first | (simp; done) | (simp; omega) | omega) _ _ | refine Below.alloc ?_ (by first | (simp; done) | (simp; omega) | omega) _ | refine Below.drew ?_ | refine Below.drewN ?_ _)) (by simp))) hw (by omega) (by omega) (hexs hex (by first | (simp; done) | (simp; omega) | omega) (by first | (simp; done) | (simp; omega) | omega))).mono ?_; rintro e w1 ⟨sg, Ag, mg, cg, X, D, rfl, rfl, hg⟩
    have hgl := HLg.out _ hg.len
    go_wp2_with fail
    refine (r1sign_ok _ ex _ _ _ _ _ (hy.mono (Kr.fresh (l := []) (by repeat (first | (with_reducible exact Below.refl _ _) | (with_reducible assumption) | refine Below.setCell ?_ (by first | (simp; done) | (simp; omega) | omega) _ | refine Below.more ?_ (by first | (simp; done) | (simp; omega) | omega) _ _ | refine Below.alloc ?_ (by first | (simp; done) | (simp; omega) | omega) _ | refine Below.drew ?_ | refine Below.drewN ?_ _)) (by simp)))).mono ?_; rintro e w1 ⟨X2, D2, rfl, rfl⟩
    rw [hsg]
    go_wp2_with fail
    refine (r1neg_ok _ ([w.heap.size + 3 + X.size, w.heap.size, w.heap.size + 1, w.heap.size + 2] ++ ex) _ _ _ _ _ (hg.mono (Kr.fresh (l := [w.heap.size + 3 + X.size]) (by repeat (first | (with_reducible exact Below.refl _ _) | (with_reducible assumption) | refine Below.setCell ?_ (by first | (simp; done) | (simp; omega) | omega) _ | refine Below.more ?_ (by first | (simp; done) | (simp; omega) | omega) _ _ | refine Below.alloc ?_ (by first | (simp; done) | (simp; omega) | omega) _ | refine Below.drew ?_ | refine Below.drewN ?_ _)) (by first | (simp; done) | (simp; omega) | omega))) (by omega)).mono ?_; rintro e w1 ⟨sh, Ah, mh, ch, X3, D3, rfl, rfl, hh⟩
    have hhl : mh ≤ 1000000 := by have := hh.len; rw [wl_neg] at this; exact HLg.out _ this
    go_wp2_with fail
    go_region_held3 (fun w' => w'.cell? ⟨w.heap.size, 0, none⟩ = some (.bool s1) ∧ w'.cell? ⟨w.heap.size, 1, none⟩ = some (.slice A1 n1 c1) ∧ w'.cell? ⟨w.heap.size + 1, 0, none⟩ = some (.bool s2) ∧ w'.cell? ⟨w.heap.size + 1, 1, none⟩ = some (.slice A2 n2 c2) ∧ w'.cell? ⟨w.heap.size + 3 + X.size, 0, none⟩ = some (.bool sh) ∧ w'.cell? ⟨w.heap.size + 3 + X.size, 1, none⟩ = some (.slice Ah mh ch) ∧ w'.cell? ⟨w.heap.size + 2, 0, none⟩ = some (World.got w' (w.heap.size + 2) (0)) ∧ w'.cell? ⟨w.heap.size + 2, 1, none⟩ = some (World.got w' (w.heap.size + 2) (1)) ∧ w'.cell? ⟨w.heap.size + 2, 2, none⟩ = some (World.got w' (w.heap.size + 2) (2)) ∧ w'.cell? ⟨w.heap.size + 2, 3, none⟩ = some (World.got w' (w.heap.size + 2) (3)) ∧ w'.frozen? ⟨w.heap.size + 2, 0, none⟩ = false ∧ w'.frozen? ⟨w.heap.size + 2, 1, none⟩ = false ∧ w'.frozen? ⟨w.heap.size + 2, 2, none⟩ = false ∧ w'.frozen? ⟨w.heap.size + 2, 3, none⟩ = false)
      ((repeat' apply And.intro) <;> first | (simp [*, go_sem, ↓IntWalk.iteOmega]; done) | (refine got_of ?_; simp [*, go_sem, ↓IntWalk.iteOmega]; done))
      (first | (go_at_call 120; have hgo := Lib.hid hq; refine (r2exact_ok _ ([w.heap.size + 3 + X.size, w.heap.size, w.heap.size + 1, w.heap.size + 2] ++ ex) _ _ _ _ _ _ _ _ _ _ (hy.mono (Kr.fresh (l := [w.heap.size + 3 + X.size, w.heap.size, w.heap.size + 1, w.heap.size + 2]) (by repeat (first | (with_reducible exact Below.refl _ _) | (with_reducible assumption) | refine Below.setCell ?_ (by first | (simp; done) | (simp; omega) | omega) _ | refine Below.more ?_ (by first | (simp; done) | (simp; omega) | omega) _ _ | refine Below.alloc ?_ (by first | (simp; done) | (simp; omega) | omega) _ | refine Below.drew ?_ | refine Below.drewN ?_ _)) (by first | (simp; done) | (simp; omega) | omega))) (hh.mono (by repeat (first | (with_reducible exact Kr.refl _ _) | (with_reducible assumption) | refine Kr.setCell ?_ _ (by simp) | refine Kr.more ?_ _ _ | refine Kr.alloc_ ?_ _ | refine Kr.drew ?_ | refine Kr.drewN ?_ _))) (by have := HG0.out; omega) (by rw [Int.natAbs_neg]; exact HGw.out) (by omega) (by omega) (hexs hex (by first | (simp; done) | (simp; omega) | omega) (by first | (simp; done) | (simp; omega) | omega))).mono ?_; rintro e w1 ⟨sq2, Aq2, mq2, cq2, X5, D5, rfl, rfl, hq2⟩) | (go_at_call 120; refine (r2exact_ok _ ([w.heap.size + 3 + X.size, w.heap.size, w.heap.size + 1, w.heap.size + 2] ++ ex) _ _ _ _ _ _ _ _ _ _ (hx.mono (Kr.fresh (l := [w.heap.size + 3 + X.size, w.heap.size, w.heap.size + 1, w.heap.size + 2]) (by repeat (first | (with_reducible exact Below.refl _ _) | (with_reducible assumption) | refine Below.setCell ?_ (by first | (simp; done) | (simp; omega) | omega) _ | refine Below.more ?_ (by first | (simp; done) | (simp; omega) | omega) _ _ | refine Below.alloc ?_ (by first | (simp; done) | (simp; omega) | omega) _ | refine Below.drew ?_ | refine Below.drewN ?_ _)) (by first | (simp; done) | (simp; omega) | omega))) (hh.mono (by repeat (first | (with_reducible exact Kr.refl _ _) | (with_reducible assumption) | refine Kr.setCell ?_ _ (by simp) | refine Kr.more ?_ _ _ | refine Kr.alloc_ ?_ _ | refine Kr.drew ?_ | refine Kr.drewN ?_ _))) (by have := HG0.out; omega) (by rw [Int.natAbs_neg]; exact HGw.out) (by omega) (by omega) (hexs hex (by first | (simp; done) | (simp; omega) | omega) (by first | (simp; done) | (simp; omega) | omega))).mono ?_; rintro e w1 ⟨sq, Aq, mq, cq, X4, D4, rfl, rfl, hq⟩))
    all_goals
      go_wp2_with fail
      refine bodyPost_ret (v := .agg #[.bool sq, .slice Aq mq cq, .bool sq2, .slice Aq2 mq2 cq2]) (by simp [results, Tryz.results65, go_sem, ↓IntWalk.iteOmega]) rfl (RetQ.mk rfl (by repeat (first | (with_reducible exact Below.refl _ _) | (with_reducible assumption) | refine Below.setCell ?_ (by first | (simp; done) | (simp; omega) | omega) _ | refine Below.more ?_ (by first | (simp; done) | (simp; omega) | omega) _ _ | refine Below.alloc ?_ (by first | (simp; done) | (simp; omega) | omega) _ | refine Below.drew ?_ | refine Below.drewN ?_ _)) ?_ ?_)
      · rw [HE.out.1] at hq; exact hq.mono (Kr.down (by repeat (first | (with_reducible exact Kr.refl _ _) | (with_reducible assumption) | refine Kr.setCell ?_ _ (by simp) | refine Kr.more ?_ _ _ | refine Kr.alloc_ ?_ _ | refine Kr.drew ?_ | refine Kr.drewN ?_ _)) (by first | (intro b hb; simp [hb]; done) | (intro b hb; exact hb) | (intro b hb; simp at hb ⊢; grind)))
      · rw [HE.out.2] at hq2; exact hq2.mono (Kr.down (by repeat (first | (with_reducible exact Kr.refl _ _) | (with_reducible assumption) | refine Kr.setCell ?_ _ (by simp) | refine Kr.more ?_ _ _ | refine Kr.alloc_ ?_ _ | refine Kr.drew ?_ | refine Kr.drewN ?_ _)) (by first | (intro b hb; simp [hb]; done) | (intro b hb; exact hb) | (intro b hb; simp at hb ⊢; grind)))
  · have HE := Lib.hid (lowest_pos (a := a) (d := d) (by omega) : _ ∧ _)
    have hsg : d.sign = 1 := Int.sign_eq_one_of_pos (by omega)
    have HD := Lib.hid hd
    clear hd hneg
    go_enter Tryz.func65, Tryz.ntmps65
    go_wp2_with fail
    refine (r1gcd_ok _ ([w.heap.size, w.heap.size + 1, w.heap.size + 2] ++ ex) _ _ _ _ _ _ _ _ _ _ (hx.mono (Kr.fresh (l := [w.heap.size, w.heap.size + 1, w.heap.size + 2]) (by repeat (first | (with_reducible exact Below.refl _ _) | (with_reducible assumption) | refine Below.setCell ?_ (by first | (simp; done) | (simp; omega) | omega) _ | refine Below.more ?_ (by first | (simp; done) | (simp; omega) | omega) _ _ | refine Below.alloc ?_ (by first | (simp; done) | (simp; omega) | omega) _ | refine Below.drew ?_ | refine Below.drewN ?_ _)) (by simp))) (hy.mono (Kr.fresh (l := [w.heap.size, w.heap.size + 1, w.heap.size + 2]) (by repeat (first | (with_reducible exact Below.refl _ _) | (with_reducible assumption) | refine Below.setCell ?_ (by first | (simp; done) | (simp; omega) | omega) _ | refine Below.more ?_ (by first | (simp; done) | (simp; omega) | omega) _ _ | refine Below.alloc ?_ (by first | (simp; done) | (simp; omega) | omega) _ | refine Below.drew ?_ | refine Below.drewN ?_ _)) (by simp))) hw (by omega) (by omega) (hexs hex (by first | (simp; done) | (simp; omega) | omega) (by first | (simp; done) | (simp; omega) | omega))).mono ?_; rintro e w1 ⟨sg, Ag, mg, cg, X, D, rfl, rfl, hg⟩
    have hgl := HLg.out _ hg.len
    go_wp2_with fail
    refine (r1sign_ok _ ex _ _ _ _ _ (hy.mono (Kr.fresh (l := []) (by repeat (first | (with_reducible exact Below.refl _ _) | (with_reducible assumption) | refine Below.setCell ?_ (by first | (simp; done) | (simp; omega) | omega) _ | refine Below.more ?_ (by first | (simp; done) | (simp; omega) | omega) _ _ | refine Below.alloc ?_ (by first | (simp; done) | (simp; omega) | omega) _ | refine Below.drew ?_ | refine Below.drewN ?_ _)) (by simp)))).mono ?_; rintro e w1 ⟨X2, D2, rfl, rfl⟩
    rw [hsg]
    go_wp2_with fail
    have hhl := hgl
    have hh := hg
    go_region_held3 (fun w' => w'.cell? ⟨w.heap.size, 0, none⟩ = some (.bool s1) ∧ w'.cell? ⟨w.heap.size, 1, none⟩ = some (.slice A1 n1 c1) ∧ w'.cell? ⟨w.heap.size + 1, 0, none⟩ = some (.bool s2) ∧ w'.cell? ⟨w.heap.size + 1, 1, none⟩ = some (.slice A2 n2 c2) ∧ w'.cell? ⟨w.heap.size + 3 + X.size, 0, none⟩ = some (.bool sg) ∧ w'.cell? ⟨w.heap.size + 3 + X.size, 1, none⟩ = some (.slice Ag mg cg) ∧ w'.cell? ⟨w.heap.size + 2, 0, none⟩ = some (World.got w' (w.heap.size + 2) (0)) ∧ w'.cell? ⟨w.heap.size + 2, 1, none⟩ = some (World.got w' (w.heap.size + 2) (1)) ∧ w'.cell? ⟨w.heap.size + 2, 2, none⟩ = some (World.got w' (w.heap.size + 2) (2)) ∧ w'.cell? ⟨w.heap.size + 2, 3, none⟩ = some (World.got w' (w.heap.size + 2) (3)) ∧ w'.frozen? ⟨w.heap.size + 2, 0, none⟩ = false ∧ w'.frozen? ⟨w.heap.size + 2, 1, none⟩ = false ∧ w'.frozen? ⟨w.heap.size + 2, 2, none⟩ = false ∧ w'.frozen? ⟨w.heap.size + 2, 3, none⟩ = false)
      ((repeat' apply And.intro) <;> first | (simp [*, go_sem, ↓IntWalk.iteOmega]; done) | (refine got_of ?_; simp [*, go_sem, ↓IntWalk.iteOmega]; done))
      (first | (go_at_call 120; have hgo := Lib.hid hq; refine (r2exact_ok _ ([w.heap.size + 3 + X.size, w.heap.size, w.heap.size + 1, w.heap.size + 2] ++ ex) _ _ _ _ _ _ _ _ _ _ (hy.mono (Kr.fresh (l := [w.heap.size + 3 + X.size, w.heap.size, w.heap.size + 1, w.heap.size + 2]) (by repeat (first | (with_reducible exact Below.refl _ _) | (with_reducible assumption) | refine Below.setCell ?_ (by first | (simp; done) | (simp; omega) | omega) _ | refine Below.more ?_ (by first | (simp; done) | (simp; omega) | omega) _ _ | refine Below.alloc ?_ (by first | (simp; done) | (simp; omega) | omega) _ | refine Below.drew ?_ | refine Below.drewN ?_ _)) (by first | (simp; done) | (simp; omega) | omega))) (hh.mono (Kr.add (l := [w.heap.size + 3 + X.size]) (ex' := [w.heap.size, w.heap.size + 1, w.heap.size + 2] ++ ex) (by repeat (first | (with_reducible exact Kr.refl _ _) | (with_reducible assumption) | refine Kr.setCell ?_ _ (by simp) | refine Kr.more ?_ _ _ | refine Kr.alloc_ ?_ _ | refine Kr.drew ?_ | refine Kr.drewN ?_ _)) (by first | (simp; done) | (simp; omega) | omega))) HG0.out HGw.out (by omega) (by omega) (hexs hex (by first | (simp; done) | (simp; omega) | omega) (by first | (simp; done) | (simp; omega) | omega))).mono ?_; rintro e w1 ⟨sq2, Aq2, mq2, cq2, X5, D5, rfl, rfl, hq2⟩) | (go_at_call 120; refine (r2exact_ok _ ([w.heap.size + 3 + X.size, w.heap.size, w.heap.size + 1, w.heap.size + 2] ++ ex) _ _ _ _ _ _ _ _ _ _ (hx.mono (Kr.fresh (l := [w.heap.size + 3 + X.size, w.heap.size, w.heap.size + 1, w.heap.size + 2]) (by repeat (first | (with_reducible exact Below.refl _ _) | (with_reducible assumption) | refine Below.setCell ?_ (by first | (simp; done) | (simp; omega) | omega) _ | refine Below.more ?_ (by first | (simp; done) | (simp; omega) | omega) _ _ | refine Below.alloc ?_ (by first | (simp; done) | (simp; omega) | omega) _ | refine Below.drew ?_ | refine Below.drewN ?_ _)) (by first | (simp; done) | (simp; omega) | omega))) (hh.mono (Kr.add (l := [w.heap.size + 3 + X.size]) (ex' := [w.heap.size, w.heap.size + 1, w.heap.size + 2] ++ ex) (by repeat (first | (with_reducible exact Kr.refl _ _) | (with_reducible assumption) | refine Kr.setCell ?_ _ (by simp) | refine Kr.more ?_ _ _ | refine Kr.alloc_ ?_ _ | refine Kr.drew ?_ | refine Kr.drewN ?_ _)) (by first | (simp; done) | (simp; omega) | omega))) HG0.out HGw.out (by omega) (by omega) (hexs hex (by first | (simp; done) | (simp; omega) | omega) (by first | (simp; done) | (simp; omega) | omega))).mono ?_; rintro e w1 ⟨sq, Aq, mq, cq, X4, D4, rfl, rfl, hq⟩))
    all_goals
      go_wp2_with fail
      refine bodyPost_ret (v := .agg #[.bool sq, .slice Aq mq cq, .bool sq2, .slice Aq2 mq2 cq2]) (by simp [results, Tryz.results65, go_sem, ↓IntWalk.iteOmega]) rfl (RetQ.mk rfl (by repeat (first | (with_reducible exact Below.refl _ _) | (with_reducible assumption) | refine Below.setCell ?_ (by first | (simp; done) | (simp; omega) | omega) _ | refine Below.more ?_ (by first | (simp; done) | (simp; omega) | omega) _ _ | refine Below.alloc ?_ (by first | (simp; done) | (simp; omega) | omega) _ | refine Below.drew ?_ | refine Below.drewN ?_ _)) ?_ ?_)
      · rw [HE.out.1] at hq; exact hq.mono (Kr.down (by repeat (first | (with_reducible exact Kr.refl _ _) | (with_reducible assumption) | refine Kr.setCell ?_ _ (by simp) | refine Kr.more ?_ _ _ | refine Kr.alloc_ ?_ _ | refine Kr.drew ?_ | refine Kr.drewN ?_ _)) (by first | (intro b hb; simp [hb]; done) | (intro b hb; exact hb) | (intro b hb; simp at hb ⊢; grind)))
      · rw [HE.out.2] at hq2; exact hq2.mono (Kr.down (by repeat (first | (with_reducible exact Kr.refl _ _) | (with_reducible assumption) | refine Kr.setCell ?_ _ (by simp) | refine Kr.more ?_ _ _ | refine Kr.alloc_ ?_ _ | refine Kr.drew ?_ | refine Kr.drewN ?_ _)) (by first | (intro b hb; simp [hb]; done) | (intro b hb; exact hb) | (intro b hb; simp at hb ⊢; grind)))

end Go.Proofs.YthhdleppkggepaaGreat

/-
  The walks of the reference of package rational: whole numbers, signs, validity.
-/
namespace Go.Proofs.YthhdleppkggepaaGreat
open Go.RowKit Go.Deep
set_option maxRecDepth 100000

set_option maxHeartbeats 400000 in
theorem r2whole_ok (w : World) (ex : List Nat) (z : Int) (hz1 : -9223372036854775808 ≤ z) (hz2 : z ≤ 9223372036854775807) (hex : ∀ b ∈ ex, b < w.heap.size) :
    Calls Tryz.prog 26 #[.int .i64 z] w (RetQ w ex (z : Rat)) := by
  go_enter Tryz.func26, Tryz.ntmps26
  go_wp2_with fail
  refine (r1of_ok _ ([w.heap.size] ++ ex) z hz1 hz2 (hexs hex (by first | (simp; done) | (simp; omega) | omega) (by first | (simp; done) | (simp; omega) | omega))).mono ?_; rintro e w' ⟨s1, A1, m1, c1, X1, D1, rfl, rfl, h1⟩
  go_wp2_with fail
  refine (r1of_ok _ ([w.heap.size] ++ ex) 1 (by decide) (by decide) (hexs hex (by first | (simp; done) | (simp; omega) | omega) (by first | (simp; done) | (simp; omega) | omega))).mono ?_; rintro e w' ⟨s2, A2, m2, c2, X2, D2, rfl, rfl, h2⟩
  go_wp2_with fail
  refine bodyPost_ret (v := .agg #[.bool s1, .slice A1 m1 c1, .bool s2, .slice A2 m2 c2]) (by simp [results, Tryz.results26, go_sem, ↓IntWalk.iteOmega]) rfl (RetQ.mk rfl (by repeat (first | (with_reducible exact Below.refl _ _) | (with_reducible assumption) | refine Below.setCell ?_ (by first | (simp; done) | (simp; omega) | omega) _ | refine Below.more ?_ (by first | (simp; done) | (simp; omega) | omega) _ _ | refine Below.alloc ?_ (by first | (simp; done) | (simp; omega) | omega) _ | refine Below.drew ?_ | refine Below.drewN ?_ _)) ?_ ?_)
  · rw [Rat.num_intCast]; exact h1.mono (Kr.down (by repeat (first | (with_reducible exact Kr.refl _ _) | (with_reducible assumption) | refine Kr.setCell ?_ _ (by simp) | refine Kr.more ?_ _ _ | refine Kr.alloc_ ?_ _ | refine Kr.drew ?_ | refine Kr.drewN ?_ _)) (by first | (intro b hb; simp [hb]; done) | (intro b hb; exact hb) | (intro b hb; simp at hb ⊢; grind)))
  · rw [Rat.den_intCast]; exact h2.mono (Kr.down (by repeat (first | (with_reducible exact Kr.refl _ _) | (with_reducible assumption) | refine Kr.setCell ?_ _ (by simp) | refine Kr.more ?_ _ _ | refine Kr.alloc_ ?_ _ | refine Kr.drew ?_ | refine Kr.drewN ?_ _)) (by first | (intro b hb; simp [hb]; done) | (intro b hb; exact hb) | (intro b hb; simp at hb ⊢; grind)))

set_option maxHeartbeats 400000 in
theorem r2neg_ok (w : World) (ex : List Nat) (s1 : Bool) (A1 : Option Addr) (n1 c1 : Nat) (s2 : Bool) (A2 : Option Addr) (n2 c2 : Nat) (q : Rat) (hx : RQ w ex s1 A1 n1 c1 s2 A2 n2 c2 q) (hn1 : n1 ≤ 1000000) :
    Calls Tryz.prog 151 #[.agg #[.bool s1, .slice A1 n1 c1, .bool s2, .slice A2 n2 c2]] w (RetQ w ex (-q)) := by
  go_enter Tryz.func151, Tryz.ntmps151
  go_wp2_with fail
  go_region_held3 (fun w' => w'.cell? ⟨w.heap.size, 0, none⟩ = some (.bool s1) ∧ w'.cell? ⟨w.heap.size, 1, none⟩ = some (.slice A1 n1 c1) ∧ w'.cell? ⟨w.heap.size, 2, none⟩ = some (.bool s2) ∧ w'.cell? ⟨w.heap.size, 3, none⟩ = some (.slice A2 n2 c2) ∧ w'.cell? ⟨w.heap.size + 1, 0, none⟩ = some (World.got w' (w.heap.size + 1) (0)) ∧ w'.cell? ⟨w.heap.size + 1, 1, none⟩ = some (World.got w' (w.heap.size + 1) (1)) ∧ w'.cell? ⟨w.heap.size + 1, 2, none⟩ = some (World.got w' (w.heap.size + 1) (2)) ∧ w'.cell? ⟨w.heap.size + 1, 3, none⟩ = some (World.got w' (w.heap.size + 1) (3)) ∧ w'.frozen? ⟨w.heap.size + 1, 0, none⟩ = false ∧ w'.frozen? ⟨w.heap.size + 1, 1, none⟩ = false ∧ w'.frozen? ⟨w.heap.size + 1, 2, none⟩ = false ∧ w'.frozen? ⟨w.heap.size + 1, 3, none⟩ = false)
    ((repeat' apply And.intro) <;> first | (simp [*, go_sem, ↓IntWalk.iteOmega]; done) | (refine got_of ?_; simp [*, go_sem, ↓IntWalk.iteOmega]; done))
    (first | (go_at_call 119; refine (r1neg_ok _ ([w.heap.size + 1] ++ ex) _ _ _ _ _ (hx.num.mono (Kr.fresh (l := [w.heap.size + 1]) (by repeat (first | (with_reducible exact Below.refl _ _) | (with_reducible assumption) | refine Below.setCell ?_ (by first | (simp; done) | (simp; omega) | omega) _ | refine Below.more ?_ (by first | (simp; done) | (simp; omega) | omega) _ _ | refine Below.alloc ?_ (by first | (simp; done) | (simp; omega) | omega) _ | refine Below.drew ?_ | refine Below.drewN ?_ _)) (by simp))) (by omega)).mono ?_; rintro e w' ⟨t1, B1, m1, d1, X1, D1, rfl, rfl, h1⟩))
  all_goals
    go_wp2_with fail
    refine bodyPost_ret (v := .agg #[.bool t1, .slice B1 m1 d1, .bool s2, .slice A2 n2 c2]) (by simp [results, Tryz.results151, go_sem, ↓IntWalk.iteOmega]) rfl (RetQ.mk rfl (by repeat (first | (with_reducible exact Below.refl _ _) | (with_reducible assumption) | refine Below.setCell ?_ (by first | (simp; done) | (simp; omega) | omega) _ | refine Below.more ?_ (by first | (simp; done) | (simp; omega) | omega) _ _ | refine Below.alloc ?_ (by first | (simp; done) | (simp; omega) | omega) _ | refine Below.drew ?_ | refine Below.drewN ?_ _)) ?_ ?_)
    · exact h1.mono (Kr.down (by repeat (first | (with_reducible exact Kr.refl _ _) | (with_reducible assumption) | refine Kr.setCell ?_ _ (by simp) | refine Kr.more ?_ _ _ | refine Kr.alloc_ ?_ _ | refine Kr.drew ?_ | refine Kr.drewN ?_ _)) (by first | (intro b hb; simp [hb]; done) | (intro b hb; exact hb) | (intro b hb; simp at hb ⊢; grind)))
    · exact hx.den.mono (Kr.of_below (by repeat (first | (with_reducible exact Below.refl _ _) | (with_reducible assumption) | refine Below.setCell ?_ (by first | (simp; done) | (simp; omega) | omega) _ | refine Below.more ?_ (by first | (simp; done) | (simp; omega) | omega) _ _ | refine Below.alloc ?_ (by first | (simp; done) | (simp; omega) | omega) _ | refine Below.drew ?_ | refine Below.drewN ?_ _)) ex)

set_option maxHeartbeats 400000 in
theorem r2sign_ok (w : World) (ex : List Nat) (s1 : Bool) (A1 : Option Addr) (n1 c1 : Nat) (s2 : Bool) (A2 : Option Addr) (n2 c2 : Nat) (q : Rat) (hx : RQ w ex s1 A1 n1 c1 s2 A2 n2 c2 q) :
    Calls Tryz.prog 66 #[.agg #[.bool s1, .slice A1 n1 c1, .bool s2, .slice A2 n2 c2]] w (RetV w (.int .i64 q.num.sign)) := by
  go_enter Tryz.func66, Tryz.ntmps66
  go_wp2_with fail
  refine (r1sign_ok _ _ _ _ _ _ _ (hx.num.mono (Kr.fresh (l := []) (by repeat (first | (with_reducible exact Below.refl _ _) | (with_reducible assumption) | refine Below.setCell ?_ (by first | (simp; done) | (simp; omega) | omega) _ | refine Below.more ?_ (by first | (simp; done) | (simp; omega) | omega) _ _ | refine Below.alloc ?_ (by first | (simp; done) | (simp; omega) | omega) _ | refine Below.drew ?_ | refine Below.drewN ?_ _)) (by simp)))).mono ?_; rintro e w' ⟨X, D, rfl, rfl⟩
  go_wp2_with fail
  go_ret
  exact RetV.mk rfl (by repeat (first | (with_reducible exact Below.refl _ _) | (with_reducible assumption) | refine Below.setCell ?_ (by first | (simp; done) | (simp; omega) | omega) _ | refine Below.more ?_ (by first | (simp; done) | (simp; omega) | omega) _ _ | refine Below.alloc ?_ (by first | (simp; done) | (simp; omega) | omega) _ | refine Below.drew ?_ | refine Below.drewN ?_ _))

set_option maxHeartbeats 1000000 in
theorem r2valid_ok (w : World) (ex : List Nat) (s1 : Bool) (A1 : Option Addr) (n1 c1 : Nat) (s2 : Bool) (A2 : Option Addr) (n2 c2 : Nat) (q : Rat) (hx : RQ w ex s1 A1 n1 c1 s2 A2 n2 c2 q)
    (hw : Wee q.den) (hn1 : n1 ≤ 1000000) (hn2 : n2 ≤ 1000000) :
    Calls Tryz.prog 188 #[.agg #[.bool s1, .slice A1 n1 c1, .bool s2, .slice A2 n2 c2]] w (RetV w (.bool true)) := by
  have hsg : (q.den : Int).sign = 1 := Int.sign_eq_one_of_pos (den_pos_ q)
  have hw' : Wee (q.den : Int).natAbs := by rw [Int.natAbs_natCast]; exact hw
  go_enter Tryz.func188, Tryz.ntmps188
  go_wp2_with fail
  refine (r1ivalid_ok _ [] _ _ _ _ _ (hx.num.mono ((Kr.of_below (by repeat (first | (with_reducible exact Below.refl _ _) | (with_reducible assumption) | refine Below.setCell ?_ (by first | (simp; done) | (simp; omega) | omega) _ | refine Below.more ?_ (by first | (simp; done) | (simp; omega) | omega) _ _ | refine Below.alloc ?_ (by first | (simp; done) | (simp; omega) | omega) _ | refine Below.drew ?_ | refine Below.drewN ?_ _)) ex).sub (by simp))) (by omega)).mono ?_; rintro e w' ⟨X, D, rfl, rfl⟩
  go_wp2_with fail
  refine (r1ivalid_ok _ [] _ _ _ _ _ (hx.den.mono ((Kr.of_below (by repeat (first | (with_reducible exact Below.refl _ _) | (with_reducible assumption) | refine Below.setCell ?_ (by first | (simp; done) | (simp; omega) | omega) _ | refine Below.more ?_ (by first | (simp; done) | (simp; omega) | omega) _ _ | refine Below.alloc ?_ (by first | (simp; done) | (simp; omega) | omega) _ | refine Below.drew ?_ | refine Below.drewN ?_ _)) ex).sub (by simp))) (by omega)).mono ?_; rintro e w' ⟨X2, D2, rfl, rfl⟩
  go_wp2_with fail
  refine (r1sign_ok _ [] _ _ _ _ _ (hx.den.mono ((Kr.of_below (by repeat (first | (with_reducible exact Below.refl _ _) | (with_reducible assumption) | refine Below.setCell ?_ (by first | (simp; done) | (simp; omega) | omega) _ | refine Below.more ?_ (by first | (simp; done) | (simp; omega) | omega) _ _ | refine Below.alloc ?_ (by first | (simp; done) | (simp; omega) | omega) _ | refine Below.drew ?_ | refine Below.drewN ?_ _)) ex).sub (by simp)))).mono ?_; rintro e w' ⟨X3, D3, rfl, rfl⟩
  rw [hsg]
  go_wp2_with fail
  refine (r1gcd_ok _ [] _ _ _ _ _ _ _ _ _ _ (hx.num.mono ((Kr.of_below (by repeat (first | (with_reducible exact Below.refl _ _) | (with_reducible assumption) | refine Below.setCell ?_ (by first | (simp; done) | (simp; omega) | omega) _ | refine Below.more ?_ (by first | (simp; done) | (simp; omega) | omega) _ _ | refine Below.alloc ?_ (by first | (simp; done) | (simp; omega) | omega) _ | refine Below.drew ?_ | refine Below.drewN ?_ _)) ex).sub (by simp))) (hx.den.mono ((Kr.of_below (by repeat (first | (with_reducible exact Below.refl _ _) | (with_reducible assumption) | refine Below.setCell ?_ (by first | (simp; done) | (simp; omega) | omega) _ | refine Below.more ?_ (by first | (simp; done) | (simp; omega) | omega) _ _ | refine Below.alloc ?_ (by first | (simp; done) | (simp; omega) | omega) _ | refine Below.drew ?_ | refine Below.drewN ?_ _)) ex).sub (by simp))) hw' (by omega) (by omega) (by simp)).mono ?_; rintro e w' ⟨s3, A3, n3, c3, X4, D4, rfl, rfl, hg⟩
  rw [gcd_one] at hg
  have hgl : n3 ≤ 10 := by rw [hg.len]; decide
  go_wp2_with fail
  refine (r1of_ok _ [] 1 (by decide) (by decide) (by simp)).mono ?_; rintro e w' ⟨s4, A4, n4, c4, X5, D5, rfl, rfl, ho⟩
  have hol : n4 ≤ 10 := by rw [ho.len]; decide
  go_wp2_with fail
  refine (r1icmp_ok _ [] _ _ _ _ _ _ _ _ _ _ (hg.mono (by repeat (first | (with_reducible exact Kr.refl _ _) | (with_reducible assumption) | refine Kr.setCell ?_ _ (by simp) | refine Kr.more ?_ _ _ | refine Kr.alloc_ ?_ _ | refine Kr.drew ?_ | refine Kr.drewN ?_ _))) ho (by omega) (by omega)).mono ?_; rintro e w' ⟨X6, D6, rfl, rfl⟩
  rw [show cmpZ ((1 : Nat) : Int) 1 = 0 from rfl]
  go_wp2_with fail
  go_ret
  exact RetV.mk rfl (by repeat (first | (with_reducible exact Below.refl _ _) | (with_reducible assumption) | refine Below.setCell ?_ (by first | (simp; done) | (simp; omega) | omega) _ | refine Below.more ?_ (by first | (simp; done) | (simp; omega) | omega) _ _ | refine Below.alloc ?_ (by first | (simp; done) | (simp; omega) | omega) _ | refine Below.drew ?_ | refine Below.drewN ?_ _))

set_option maxHeartbeats 1000000 in
theorem r2new_ok (w : World) (ex : List Nat) (s1 : Bool) (A1 : Option Addr) (n1 c1 : Nat) (a : Int) (s2 : Bool) (A2 : Option Addr) (n2 c2 : Nat) (d : Int)
    (hx : RI w ex s1 A1 n1 c1 a) (hy : RI w ex s2 A2 n2 c2 d) (hd : d ≠ 0) (hw : Wee d.natAbs) (hn1 : n1 ≤ 1000000) (hn2 : n2 ≤ 1000000) (hex : ∀ b ∈ ex, b < w.heap.size) :
    Calls Tryz.prog 150 #[.agg #[.bool s1, .slice A1 n1 c1], .agg #[.bool s2, .slice A2 n2 c2]] w (RetQE w ex (Rat.divInt a d) 0) := by
  have hsg : (d.sign == 0) = false := by simp; omega
  have HD := Lib.hid hd
  clear hd
  go_enter Tryz.func150, Tryz.ntmps150
  go_wp2_with fail
  refine (r1sign_ok _ _ _ _ _ _ _ (hy.mono (Kr.fresh (l := []) (by repeat (first | (with_reducible exact Below.refl _ _) | (with_reducible assumption) | refine Below.setCell ?_ (by first | (simp; done) | (simp; omega) | omega) _ | refine Below.more ?_ (by first | (simp; done) | (simp; omega) | omega) _ _ | refine Below.alloc ?_ (by first | (simp; done) | (simp; omega) | omega) _ | refine Below.drew ?_ | refine Below.drewN ?_ _)) (by simp)))).mono ?_; rintro e w' ⟨X, D, rfl, rfl⟩
  go_wp2_with fail
  refine (r2lowest_ok _ ([w.heap.size + 2] ++ ex) _ _ _ _ _ _ _ _ _ _ (hx.mono (Kr.fresh (l := [w.heap.size + 2]) (by repeat (first | (with_reducible exact Below.refl _ _) | (with_reducible assumption) | refine Below.setCell ?_ (by first | (simp; done) | (simp; omega) | omega) _ | refine Below.more ?_ (by first | (simp; done) | (simp; omega) | omega) _ _ | refine Below.alloc ?_ (by first | (simp; done) | (simp; omega) | omega) _ | refine Below.drew ?_ | refine Below.drewN ?_ _)) (by first | (simp; done) | (simp; omega) | omega))) (hy.mono (Kr.fresh (l := [w.heap.size + 2]) (by repeat (first | (with_reducible exact Below.refl _ _) | (with_reducible assumption) | refine Below.setCell ?_ (by first | (simp; done) | (simp; omega) | omega) _ | refine Below.more ?_ (by first | (simp; done) | (simp; omega) | omega) _ _ | refine Below.alloc ?_ (by first | (simp; done) | (simp; omega) | omega) _ | refine Below.drew ?_ | refine Below.drewN ?_ _)) (by first | (simp; done) | (simp; omega) | omega))) HD.out hw (by omega) (by omega) (hexs hex (by first | (simp; done) | (simp; omega) | omega) (by first | (simp; done) | (simp; omega) | omega))).mono ?_; rintro e w' ⟨s1, A1, n1, c1, s2, A2, n2, c2, X3, D3, rfl, rfl, h3⟩
  go_wp2_with fail
  refine bodyPost_ret (v := .tuple #[.agg #[.bool s1, .slice A1 n1 c1, .bool s2, .slice A2 n2 c2], .int .i64 0]) (by simp [results, Tryz.results150, go_sem, ↓IntWalk.iteOmega]) rfl (RetQE.mk rfl (by repeat (first | (with_reducible exact Below.refl _ _) | (with_reducible assumption) | refine Below.setCell ?_ (by first | (simp; done) | (simp; omega) | omega) _ | refine Below.more ?_ (by first | (simp; done) | (simp; omega) | omega) _ _ | refine Below.alloc ?_ (by first | (simp; done) | (simp; omega) | omega) _ | refine Below.drew ?_ | refine Below.drewN ?_ _)) ?_ ?_)
  · exact h3.num.mono (Kr.down (by repeat (first | (with_reducible exact Kr.refl _ _) | (with_reducible assumption) | refine Kr.setCell ?_ _ (by simp) | refine Kr.more ?_ _ _ | refine Kr.alloc_ ?_ _ | refine Kr.drew ?_ | refine Kr.drewN ?_ _)) (by first | (intro b hb; simp [hb]; done) | (intro b hb; exact hb) | (intro b hb; simp at hb ⊢; grind)))
  · exact h3.den.mono (Kr.down (by repeat (first | (with_reducible exact Kr.refl _ _) | (with_reducible assumption) | refine Kr.setCell ?_ _ (by simp) | refine Kr.more ?_ _ _ | refine Kr.alloc_ ?_ _ | refine Kr.drew ?_ | refine Kr.drewN ?_ _)) (by first | (intro b hb; simp [hb]; done) | (intro b hb; exact hb) | (intro b hb; simp at hb ⊢; grind)))


end Go.Proofs.YthhdleppkggepaaGreat
