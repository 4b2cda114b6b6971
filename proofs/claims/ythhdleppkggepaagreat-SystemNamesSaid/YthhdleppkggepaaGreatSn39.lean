/-
  The walks of the law's term, and of system.Core at the empty system.
-/
import Derived.Test.YthhdleppkggepaaGreatSn14
import Derived.Test.YthhdleppkggepaaGreatSn15
import Derived.Test.YthhdleppkggepaaGreatSn37
import Derived.Test.YthhdleppkggepaaGreatSn38

set_option linter.unusedSimpArgs false
set_option linter.unusedVariables false
set_option linter.unusedSectionVars false

namespace Go.Proofs.YthhdleppkggepaaGreat
open Go.RowKit Go.Deep
set_option maxRecDepth 100000

theorem core_zero (w : World) (ex : List Nat) : Calls Tryz.prog 21 #[.agg #[.slice none 0 0, .slice none 0 0, .slice none 0 0, .int .i64 0]] w (RetC w ex 0 [] [] 320) := by
  go_enter Tryz.func21, Tryz.ntmps21
  go_wp2_with fail
  refine (valid_zero _).mono ?_; rintro e w1 ⟨X, D, rfl, rfl⟩
  go_wp2_with fail
  refine bodyPost_ret (v := .tuple #[.agg #[.int .i64 0, .slice none 0 0, .slice none 0 0], .int .i64 320]) (by simp [results, Tryz.results21, go_sem, ↓IntWalk.iteOmega]) rfl ?_
  exact RetC.mk rfl (by repeat (first | (with_reducible exact Below.refl _ _) | (with_reducible assumption) | refine Below.setCell ?_ (by first | (simp; done) | (simp; omega) | omega) _ | refine Below.more ?_ (by first | (simp; done) | (simp; omega) | omega) _ _ | refine Below.alloc ?_ (by first | (simp; done) | (simp; omega) | omega) _ | refine Below.drew ?_ | refine Below.drewN ?_ _)) (RL.nil _ _ _ _) (RL.nil _ _ _ _)

/-- The term c x^a y^b. -/
def termP (c : Int) (a b : Nat) : Pol := timesP (c : Rat) [(a : Int), (b : Int), 0, 0, 0, 0, 0, 0] (constP 1)
theorem exps_ab {a b : Nat} (ha : a ≤ 65535) (hb : b ≤ 65535) : Exps [(a : Int), (b : Int), 0, 0, 0, 0, 0, 0] := by
  intro k
  match k with
  | 0 => exact ⟨by show (0 : Int) ≤ a; omega, by show (a : Int) ≤ 65535; omega⟩
  | 1 => exact ⟨by show (0 : Int) ≤ b; omega, by show (b : Int) ≤ 65535; omega⟩
  | 2 | 3 | 4 | 5 | 6 | 7 => exact ⟨by show (0 : Int) ≤ 0; omega, by show (0 : Int) ≤ 65535; omega⟩
  | k + 8 => simp
theorem constP_one' : constP 1 = [(1, [0, 0, 0, 0, 0, 0, 0, 0])] := by unfold constP; rw [if_neg (by decide)]

set_option maxHeartbeats 1000000 in
theorem term_ok (w : World) (ex : List Nat) (c : Int) (a b : Nat) (hc1 : -65536 < c) (hc2 : c < 65536) (ha : a ≤ 65535) (hb : b ≤ 65535) (hex : ∀ b ∈ ex, b < w.heap.size) :
    Calls Tryz.prog 40 #[.int .i64 c, .int .i64 a, .int .i64 b] w (RetP w ex (termP c a b)) := by
  have hm := exps_ab ha hb
  have hty : Ty (c : Rat) := ⟨by show (c : Rat).num.natAbs < 65536; rw [Rat.num_intCast]; omega, by show (c : Rat).den < 65536; rw [Rat.den_intCast]; decide⟩
  have HM := Lib.hid hm
  have HT := Lib.hid hty
  have HP1 : Hid (PExps (constP 1)) := Lib.hid (by
    rw [constP_one']; intro t ht; simp only [List.mem_singleton] at ht; subst ht; exact exps_ab (a := 0) (b := 0) (by omega) (by omega))
  have HOk : Hid (MulOk [(a : Int), (b : Int), 0, 0, 0, 0, 0, 0] (constP 1)) := Lib.hid (by
    rw [constP_one']; intro t ht; simp only [List.mem_singleton] at ht; subst ht
    show Exps (addE _ [0, 0, 0, 0, 0, 0, 0, 0])
    rw [show ([0, 0, 0, 0, 0, 0, 0, 0] : List Int) = mono0 from rfl, addE_zero' rfl]; exact hm)
  have HTy : Hid (PTy (constP 1)) := Lib.hid (by
    rw [constP_one']; intro t ht; simp only [List.mem_singleton] at ht; subst ht; exact ⟨by decide, by decide⟩)
  have HLn : Hid ((constP 1).length ≤ 1000000000) := Lib.hid (by rw [constP_one']; decide)
  clear hm hty
  go_enter Tryz.func40, Tryz.ntmps40
  go_wp2_with fail
  refine (r2whole_ok _ ex c (by omega) (by omega) hex).mono ?_; rintro e w1 ⟨s3, A3, n3, c3, s4, A4, n4, c4, X, D, rfl, rfl, hq⟩
  go_wp2_with fail
  refine (r2whole_ok _ ex 1 (by omega) (by omega) (fun x hx => by have := hex x hx; simp; omega)).mono ?_; rintro e w2 ⟨s1, A1, n1, c1, s2, A2, n2, c2, X2, D2, rfl, rfl, hq2⟩
  go_wp2_with fail
  refine (r6constant_ok _ ex s1 A1 n1 c1 s2 A2 n2 c2 ((1 : Int) : Rat) (hq2.mono (Kr.of_below (by repeat (first | (with_reducible exact Below.refl _ _) | (with_reducible assumption) | refine Below.setCell ?_ (by first | (simp; done) | (simp; omega) | omega) _ | refine Below.more ?_ (by first | (simp; done) | (simp; omega) | omega) _ _ | refine Below.alloc ?_ (by first | (simp; done) | (simp; omega) | omega) _ | refine Below.drew ?_ | refine Below.drewN ?_ _)) _)) (fun x hx => by have := hex x hx; simp; omega)).mono ?_; rintro e w3 ⟨A5, n5, c5, X3, D3, rfl, rfl, hp⟩
  go_wp2_with fail
  refine (r6times_ok _ ex s3 A3 n3 c3 s4 A4 n4 c4 (c : Rat) a b 0 0 0 0 0 0 A5 n5 c5 (constP 1) (hq.mono (Kr.of_below (by repeat (first | (with_reducible exact Below.refl _ _) | (with_reducible assumption) | refine Below.setCell ?_ (by first | (simp; done) | (simp; omega) | omega) _ | refine Below.more ?_ (by first | (simp; done) | (simp; omega) | omega) _ _ | refine Below.alloc ?_ (by first | (simp; done) | (simp; omega) | omega) _ | refine Below.drew ?_ | refine Below.drewN ?_ _)) _)) (hp.mono (Kr.of_below (by repeat (first | (with_reducible exact Below.refl _ _) | (with_reducible assumption) | refine Below.setCell ?_ (by first | (simp; done) | (simp; omega) | omega) _ | refine Below.more ?_ (by first | (simp; done) | (simp; omega) | omega) _ _ | refine Below.alloc ?_ (by first | (simp; done) | (simp; omega) | omega) _ | refine Below.drew ?_ | refine Below.drewN ?_ _)) _)) HM.out HP1.out HOk.out HT.out HTy.out (by rw [hp.len]; exact HLn.out) (fun x hx => by have := hex x hx; simp; omega)).mono ?_; rintro e w4 ⟨A6, n6, c6, X4, D4, rfl, rfl, hres⟩
  go_wp2_with fail
  go_ret
  exact RetP.mk rfl (by repeat (first | (with_reducible exact Below.refl _ _) | (with_reducible assumption) | refine Below.setCell ?_ (by first | (simp; done) | (simp; omega) | omega) _ | refine Below.more ?_ (by first | (simp; done) | (simp; omega) | omega) _ _ | refine Below.alloc ?_ (by first | (simp; done) | (simp; omega) | omega) _ | refine Below.drew ?_ | refine Below.drewN ?_ _)) hres

end Go.Proofs.YthhdleppkggepaaGreat

/-
  The walks of the reference of package rational: sums.
-/
namespace Go.Proofs.YthhdleppkggepaaGreat
open Go.RowKit Go.Deep
set_option maxRecDepth 100000

set_option maxHeartbeats 20000000 in
theorem r2add_ok (w : World) (ex : List Nat) (s1 : Bool) (A1 : Option Addr) (n1 c1 : Nat) (s2 : Bool) (A2 : Option Addr) (n2 c2 : Nat) (a : Rat) (s3 : Bool) (A3 : Option Addr) (n3 c3 : Nat) (s4 : Bool) (A4 : Option Addr) (n4 c4 : Nat) (b : Rat)
    (hx : RQ w ex s1 A1 n1 c1 s2 A2 n2 c2 a) (hy : RQ w ex s3 A3 n3 c3 s4 A4 n4 c4 b) (ha : Few a) (hb : Few b) (hw : Wee (a.den * b.den)) (hex : ∀ b ∈ ex, b < w.heap.size) :
    Calls Tryz.prog 86 #[.agg #[.bool s1, .slice A1 n1 c1, .bool s2, .slice A2 n2 c2], .agg #[.bool s3, .slice A3 n3 c3, .bool s4, .slice A4 n4 c4]] w (RetQ w ex (a + b)) := by
  have hn1 : n1 ≤ 400000 := by rw [hx.num.len]; exact ha.1
  have hn2 : n2 ≤ 400000 := by rw [hx.den.len]; exact ha.2
  have hn3 : n3 ≤ 400000 := by rw [hy.num.len]; exact hb.1
  have hn4 : n4 ≤ 400000 := by rw [hy.den.len]; exact hb.2
  have HN1 : Hid (∀ m, m = wl (a.num * b.den) → m ≤ 1000000) := by
    rintro m rfl; have := wl_mul a.num b.den; have := ha.1; have := hb.2; omega
  have HN2 : Hid (∀ m, m = wl (b.num * a.den) → m ≤ 1000000) := by
    rintro m rfl; have := wl_mul b.num a.den; have := hb.1; have := ha.2; omega
  have HN : Hid (∀ m, m = wl (a.num * b.den + b.num * a.den) → m ≤ 1000000) := by
    rintro m rfl; have := wl_add (a.num * b.den) (b.num * a.den); have := wl_mul a.num b.den; have := wl_mul b.num a.den; have := ha.1; have := hb.2; have := hb.1; have := ha.2; omega
  have HD : Hid (∀ m, m = wl ((a.den : Int) * b.den) → m ≤ 1000000) := by
    rintro m rfl; have := wl_mul (a.den : Int) b.den; have := ha.2; have := hb.2; omega
  have hw' : Wee ((a.den : Int) * (b.den : Int)).natAbs := by rw [Int.natAbs_mul, Int.natAbs_natCast, Int.natAbs_natCast]; exact hw
  go_enter Tryz.func86, Tryz.ntmps86
  go_wp2_with fail
  go_region_held3 (fun w' => w'.cell? ⟨w.heap.size, 0, none⟩ = some (.bool s1) ∧ w'.cell? ⟨w.heap.size, 1, none⟩ = some (.slice A1 n1 c1) ∧ w'.cell? ⟨w.heap.size, 2, none⟩ = some (.bool s2) ∧ w'.cell? ⟨w.heap.size, 3, none⟩ = some (.slice A2 n2 c2) ∧ w'.cell? ⟨w.heap.size + 1, 0, none⟩ = some (.bool s3) ∧ w'.cell? ⟨w.heap.size + 1, 1, none⟩ = some (.slice A3 n3 c3) ∧ w'.cell? ⟨w.heap.size + 1, 2, none⟩ = some (.bool s4) ∧ w'.cell? ⟨w.heap.size + 1, 3, none⟩ = some (.slice A4 n4 c4) ∧ w'.cell? ⟨w.heap.size + 2, 0, none⟩ = some (World.got w' (w.heap.size + 2) (0)) ∧ w'.cell? ⟨w.heap.size + 2, 1, none⟩ = some (World.got w' (w.heap.size + 2) (1)) ∧ w'.cell? ⟨w.heap.size + 2, 2, none⟩ = some (World.got w' (w.heap.size + 2) (2)) ∧ w'.cell? ⟨w.heap.size + 2, 3, none⟩ = some (World.got w' (w.heap.size + 2) (3)) ∧ w'.frozen? ⟨w.heap.size + 2, 0, none⟩ = false ∧ w'.frozen? ⟨w.heap.size + 2, 1, none⟩ = false ∧ w'.frozen? ⟨w.heap.size + 2, 2, none⟩ = false ∧ w'.frozen? ⟨w.heap.size + 2, 3, none⟩ = false)
    ((repeat' apply And.intro) <;> first | (simp [*, go_sem, ↓IntWalk.iteOmega]; done) | (refine got_of ?_; simp [*, go_sem, ↓IntWalk.iteOmega]; done))
    (first | (go_at_call_of 64 A3; refine (r1imul_ok _ ([w.heap.size + 2] ++ ex) _ _ _ _ _ _ _ _ _ _ (hy.num.mono (Kr.fresh (l := [w.heap.size + 2]) (by repeat (first | (with_reducible exact Below.refl _ _) | (with_reducible assumption) | refine Below.setCell ?_ (by first | (simp; done) | (simp; omega) | omega) _ | refine Below.more ?_ (by first | (simp; done) | (simp; omega) | omega) _ _ | refine Below.alloc ?_ (by first | (simp; done) | (simp; omega) | omega) _ | refine Below.drew ?_ | refine Below.drewN ?_ _)) (by simp))) (hx.den.mono (Kr.fresh (l := [w.heap.size + 2]) (by repeat (first | (with_reducible exact Below.refl _ _) | (with_reducible assumption) | refine Below.setCell ?_ (by first | (simp; done) | (simp; omega) | omega) _ | refine Below.more ?_ (by first | (simp; done) | (simp; omega) | omega) _ _ | refine Below.alloc ?_ (by first | (simp; done) | (simp; omega) | omega) _ | refine Below.drew ?_ | refine Below.drewN ?_ _)) (by simp))) (by omega) (by omega) (hexs hex (by first | (simp; done) | (simp; omega) | omega) (by first | (simp; done) | (simp; omega) | omega))).mono ?_; rintro e w' ⟨sn2, An2, mn2, cn2, XN2, DN2, rfl, rfl, hN2⟩) | (go_at_call_of 64 A1; refine (r1imul_ok _ ([w.heap.size + 2] ++ ex) _ _ _ _ _ _ _ _ _ _ (hx.num.mono (Kr.fresh (l := [w.heap.size + 2]) (by repeat (first | (with_reducible exact Below.refl _ _) | (with_reducible assumption) | refine Below.setCell ?_ (by first | (simp; done) | (simp; omega) | omega) _ | refine Below.more ?_ (by first | (simp; done) | (simp; omega) | omega) _ _ | refine Below.alloc ?_ (by first | (simp; done) | (simp; omega) | omega) _ | refine Below.drew ?_ | refine Below.drewN ?_ _)) (by simp))) (hy.den.mono (Kr.fresh (l := [w.heap.size + 2]) (by repeat (first | (with_reducible exact Below.refl _ _) | (with_reducible assumption) | refine Below.setCell ?_ (by first | (simp; done) | (simp; omega) | omega) _ | refine Below.more ?_ (by first | (simp; done) | (simp; omega) | omega) _ _ | refine Below.alloc ?_ (by first | (simp; done) | (simp; omega) | omega) _ | refine Below.drew ?_ | refine Below.drewN ?_ _)) (by simp))) (by omega) (by omega) (hexs hex (by first | (simp; done) | (simp; omega) | omega) (by first | (simp; done) | (simp; omega) | omega))).mono ?_; rintro e w' ⟨sn, An, mn, cn, XN, DN, rfl, rfl, hN1⟩) | (go_at_call 63; refine (r1iadd_ok _ ([w.heap.size + 2] ++ ex) _ _ _ _ _ _ _ _ _ _ (hN1.mono (by repeat (first | (with_reducible exact Kr.refl _ _) | (with_reducible assumption) | refine Kr.setCell ?_ _ (by simp) | refine Kr.more ?_ _ _ | refine Kr.alloc_ ?_ _ | refine Kr.drew ?_ | refine Kr.drewN ?_ _))) (hN2.mono (by repeat (first | (with_reducible exact Kr.refl _ _) | (with_reducible assumption) | refine Kr.setCell ?_ _ (by simp) | refine Kr.more ?_ _ _ | refine Kr.alloc_ ?_ _ | refine Kr.drew ?_ | refine Kr.drewN ?_ _))) (by have := HN1.out _ hN1.len; omega) (by have := HN2.out _ hN2.len; omega) (hexs hex (by first | (simp; done) | (simp; omega) | omega) (by first | (simp; done) | (simp; omega) | omega))).mono ?_; rintro e w' ⟨sn, An, mn, cn, XN, DN, rfl, rfl, hN⟩) | (go_at_call 64; refine (r1imul_ok _ ([w.heap.size + 2] ++ ex) _ _ _ _ _ _ _ _ _ _ (hx.den.mono (Kr.fresh (l := [w.heap.size + 2]) (by repeat (first | (with_reducible exact Below.refl _ _) | (with_reducible assumption) | refine Below.setCell ?_ (by first | (simp; done) | (simp; omega) | omega) _ | refine Below.more ?_ (by first | (simp; done) | (simp; omega) | omega) _ _ | refine Below.alloc ?_ (by first | (simp; done) | (simp; omega) | omega) _ | refine Below.drew ?_ | refine Below.drewN ?_ _)) (by simp))) (hy.den.mono (Kr.fresh (l := [w.heap.size + 2]) (by repeat (first | (with_reducible exact Below.refl _ _) | (with_reducible assumption) | refine Below.setCell ?_ (by first | (simp; done) | (simp; omega) | omega) _ | refine Below.more ?_ (by first | (simp; done) | (simp; omega) | omega) _ _ | refine Below.alloc ?_ (by first | (simp; done) | (simp; omega) | omega) _ | refine Below.drew ?_ | refine Below.drewN ?_ _)) (by simp))) (by omega) (by omega) (hexs hex (by first | (simp; done) | (simp; omega) | omega) (by first | (simp; done) | (simp; omega) | omega))).mono ?_; rintro e w' ⟨sd, Ad, md, cd, XD, DD, rfl, rfl, hD⟩) | (go_at_call 65; refine (r2lowest_ok _ ([w.heap.size + 2] ++ ex) _ _ _ _ _ _ _ _ _ _ (hN.mono (by repeat (first | (with_reducible exact Kr.refl _ _) | (with_reducible assumption) | refine Kr.setCell ?_ _ (by simp) | refine Kr.more ?_ _ _ | refine Kr.alloc_ ?_ _ | refine Kr.drew ?_ | refine Kr.drewN ?_ _))) (hD.mono (by repeat (first | (with_reducible exact Kr.refl _ _) | (with_reducible assumption) | refine Kr.setCell ?_ _ (by simp) | refine Kr.more ?_ _ _ | refine Kr.alloc_ ?_ _ | refine Kr.drew ?_ | refine Kr.drewN ?_ _))) (den_mul_ne a b) hw' (HN.out _ hN.len) (HD.out _ hD.len) (hexs hex (by first | (simp; done) | (simp; omega) | omega) (by first | (simp; done) | (simp; omega) | omega))).mono ?_; rintro e w' ⟨t1, B1, m1, d1, t2, B2, m2, d2, X3, D3, rfl, rfl, h3⟩))
  all_goals
    go_wp2_with fail
    refine bodyPost_ret (v := .agg #[.bool t1, .slice B1 m1 d1, .bool t2, .slice B2 m2 d2]) (by simp [results, Tryz.results86, go_sem, ↓IntWalk.iteOmega]) rfl (RetQ.mk rfl (by repeat (first | (with_reducible exact Below.refl _ _) | (with_reducible assumption) | refine Below.setCell ?_ (by first | (simp; done) | (simp; omega) | omega) _ | refine Below.more ?_ (by first | (simp; done) | (simp; omega) | omega) _ _ | refine Below.alloc ?_ (by first | (simp; done) | (simp; omega) | omega) _ | refine Below.drew ?_ | refine Below.drewN ?_ _)) ?_ ?_)
    · rw [← rat_add_law]; exact h3.num.mono (Kr.down (by repeat (first | (with_reducible exact Kr.refl _ _) | (with_reducible assumption) | refine Kr.setCell ?_ _ (by simp) | refine Kr.more ?_ _ _ | refine Kr.alloc_ ?_ _ | refine Kr.drew ?_ | refine Kr.drewN ?_ _)) (by first | (intro b hb; simp [hb]; done) | (intro b hb; exact hb) | (intro b hb; simp at hb ⊢; grind)))
    · rw [← rat_add_law]; exact h3.den.mono (Kr.down (by repeat (first | (with_reducible exact Kr.refl _ _) | (with_reducible assumption) | refine Kr.setCell ?_ _ (by simp) | refine Kr.more ?_ _ _ | refine Kr.alloc_ ?_ _ | refine Kr.drew ?_ | refine Kr.drewN ?_ _)) (by first | (intro b hb; simp [hb]; done) | (intro b hb; exact hb) | (intro b hb; simp at hb ⊢; grind)))


end Go.Proofs.YthhdleppkggepaaGreat
