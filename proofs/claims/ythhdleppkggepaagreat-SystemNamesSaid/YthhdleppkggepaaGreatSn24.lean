/-
  The walks of package rational: order.
-/
import Derived.Test.YthhdleppkggepaaGreatSn15
import Derived.Test.YthhdleppkggepaaGreatSn16
import Derived.Test.YthhdleppkggepaaGreatSn19
import Derived.Test.YthhdleppkggepaaGreatSn23

set_option linter.unusedSimpArgs false
set_option linter.unusedVariables false
set_option linter.unusedSectionVars false

namespace Go.Proofs.YthhdleppkggepaaGreat
open Go.RowKit Go.Deep
set_option maxRecDepth 100000

set_option maxHeartbeats 1000000 in
theorem ratcmp_ok (w : World) (ex : List Nat) (s1 : Bool) (A1 : Option Addr) (n1 c1 : Nat) (s2 : Bool) (A2 : Option Addr) (n2 c2 : Nat) (a : Rat) (s3 : Bool) (A3 : Option Addr) (n3 c3 : Nat) (s4 : Bool) (A4 : Option Addr) (n4 c4 : Nat) (b : Rat)
    (hx : RQ w ex s1 A1 n1 c1 s2 A2 n2 c2 a) (hy : RQ w ex s3 A3 n3 c3 s4 A4 n4 c4 b) (ha : Few a) (hb : Few b) :
    Calls Tryz.prog 146 #[.agg #[.bool s1, .slice A1 n1 c1, .bool s2, .slice A2 n2 c2], .agg #[.bool s3, .slice A3 n3 c3, .bool s4, .slice A4 n4 c4]] w (RetV w (.int .i64 (cmpQ a b))) := by
  have hn1 : n1 ≤ 400000 := by rw [hx.num.len]; exact ha.1
  have hn2 : n2 ≤ 400000 := by rw [hx.den.len]; exact ha.2
  have hn3 : n3 ≤ 400000 := by rw [hy.num.len]; exact hb.1
  have hn4 : n4 ≤ 400000 := by rw [hy.den.len]; exact hb.2
  have HN1 : Hid (∀ m, m = wl (a.num * b.den) → m ≤ 1000000) := by
    rintro m rfl; have := wl_mul a.num b.den; have := ha.1; have := hb.2; omega
  have HN2 : Hid (∀ m, m = wl (b.num * a.den) → m ≤ 1000000) := by
    rintro m rfl; have := wl_mul b.num a.den; have := hb.1; have := ha.2; omega
  go_enter Tryz.func146, Tryz.ntmps146
  go_wp2_with fail
  go_region_held3 (fun w' => w'.cell? ⟨w.heap.size, 0, none⟩ = some (.bool s1) ∧ w'.cell? ⟨w.heap.size, 1, none⟩ = some (.slice A1 n1 c1) ∧ w'.cell? ⟨w.heap.size, 2, none⟩ = some (.bool s2) ∧ w'.cell? ⟨w.heap.size, 3, none⟩ = some (.slice A2 n2 c2) ∧ w'.cell? ⟨w.heap.size + 1, 0, none⟩ = some (.bool s3) ∧ w'.cell? ⟨w.heap.size + 1, 1, none⟩ = some (.slice A3 n3 c3) ∧ w'.cell? ⟨w.heap.size + 1, 2, none⟩ = some (.bool s4) ∧ w'.cell? ⟨w.heap.size + 1, 3, none⟩ = some (.slice A4 n4 c4))
    ((repeat' apply And.intro) <;> first | (simp [*, go_sem, ↓IntWalk.iteOmega]; done) | (refine got_of ?_; simp [*, go_sem, ↓IntWalk.iteOmega]; done))
    (first | (go_at_call 165; have hgo := Lib.hid hN1; refine (product_ok _ [] _ _ _ _ _ _ _ _ _ _ _ _ (by simp [go_sem, ↓IntWalk.iteOmega]; done) (by simp [go_sem, ↓IntWalk.iteOmega]; done) (by simp [go_sem, ↓IntWalk.iteOmega]; done) (by simp [go_sem, ↓IntWalk.iteOmega]; done) (Nat.le_refl _) (hy.num.mono ((Kr.of_below (by repeat (first | (with_reducible exact Below.refl _ _) | (with_reducible assumption) | refine Below.setCell ?_ (by first | (simp; done) | (simp; omega) | omega) _ | refine Below.more ?_ (by first | (simp; done) | (simp; omega) | omega) _ _ | refine Below.alloc ?_ (by first | (simp; done) | (simp; omega) | omega) _ | refine Below.drew ?_ | refine Below.drewN ?_ _)) ex).sub (by simp))) (hx.den.mono ((Kr.of_below (by repeat (first | (with_reducible exact Below.refl _ _) | (with_reducible assumption) | refine Below.setCell ?_ (by first | (simp; done) | (simp; omega) | omega) _ | refine Below.more ?_ (by first | (simp; done) | (simp; omega) | omega) _ _ | refine Below.alloc ?_ (by first | (simp; done) | (simp; omega) | omega) _ | refine Below.drew ?_ | refine Below.drewN ?_ _)) ex).sub (by simp))) (by omega) (by omega) (by simp)).mono ?_; rintro e w' ⟨sn2, An2, mn2, cn2, XN2, DN2, rfl, rfl, hN2⟩) | (go_at_call 165; refine (product_ok _ [] _ _ _ _ _ _ _ _ _ _ _ _ (by simp [go_sem, ↓IntWalk.iteOmega]; done) (by simp [go_sem, ↓IntWalk.iteOmega]; done) (by simp [go_sem, ↓IntWalk.iteOmega]; done) (by simp [go_sem, ↓IntWalk.iteOmega]; done) (Nat.le_refl _) (hx.num.mono ((Kr.of_below (by repeat (first | (with_reducible exact Below.refl _ _) | (with_reducible assumption) | refine Below.setCell ?_ (by first | (simp; done) | (simp; omega) | omega) _ | refine Below.more ?_ (by first | (simp; done) | (simp; omega) | omega) _ _ | refine Below.alloc ?_ (by first | (simp; done) | (simp; omega) | omega) _ | refine Below.drew ?_ | refine Below.drewN ?_ _)) ex).sub (by simp))) (hy.den.mono ((Kr.of_below (by repeat (first | (with_reducible exact Below.refl _ _) | (with_reducible assumption) | refine Below.setCell ?_ (by first | (simp; done) | (simp; omega) | omega) _ | refine Below.more ?_ (by first | (simp; done) | (simp; omega) | omega) _ _ | refine Below.alloc ?_ (by first | (simp; done) | (simp; omega) | omega) _ | refine Below.drew ?_ | refine Below.drewN ?_ _)) ex).sub (by simp))) (by omega) (by omega) (by simp)).mono ?_; rintro e w' ⟨sn1, An1, mn1, cn1, XN1, DN1, rfl, rfl, hN1⟩) | (go_at_call 170; refine (icmp_ok _ [] _ _ _ _ _ _ _ _ _ _ (hN1.mono (by repeat (first | (with_reducible exact Kr.refl _ _) | (with_reducible assumption) | refine Kr.setCell ?_ _ (by simp) | refine Kr.more ?_ _ _ | refine Kr.alloc_ ?_ _ | refine Kr.drew ?_ | refine Kr.drewN ?_ _))) (hN2.mono (by repeat (first | (with_reducible exact Kr.refl _ _) | (with_reducible assumption) | refine Kr.setCell ?_ _ (by simp) | refine Kr.more ?_ _ _ | refine Kr.alloc_ ?_ _ | refine Kr.drew ?_ | refine Kr.drewN ?_ _))) (by have := HN1.out _ hN1.len; omega) (by have := HN2.out _ hN2.len; omega)).mono ?_; rintro e w' ⟨X6, D6, rfl, rfl⟩; rw [cmpQ_law]))
  all_goals
    go_wp2_with fail
    go_ret
    exact RetV.mk rfl (by repeat (first | (with_reducible exact Below.refl _ _) | (with_reducible assumption) | refine Below.setCell ?_ (by first | (simp; done) | (simp; omega) | omega) _ | refine Below.more ?_ (by first | (simp; done) | (simp; omega) | omega) _ _ | refine Below.alloc ?_ (by first | (simp; done) | (simp; omega) | omega) _ | refine Below.drew ?_ | refine Below.drewN ?_ _))

end Go.Proofs.YthhdleppkggepaaGreat

/-
  The walks of package polynomial: the order.
-/
namespace Go.Proofs.YthhdleppkggepaaGreat
open Go.RowKit Go.Deep
set_option maxRecDepth 100000

def cmpT (a b : Rat × List Int) : Int := if cmpL a.2 b.2 = 0 then cmpQ a.1 b.1 else cmpL a.2 b.2
theorem cmpP_dropT {p q : List (Rat × List Int)} {k : Nat} (hp : k < p.length) (hq : k < q.length) :
    cmpP (p.drop k) (q.drop k) = if cmpT p[k] q[k] = 0 then cmpP (p.drop (k + 1)) (q.drop (k + 1)) else cmpT p[k] q[k] := by
  rw [cmpP_drop hp hq]
  unfold cmpT
  by_cases h1 : cmpL p[k].2 q[k].2 = 0
  · rw [if_pos h1, if_pos h1]
  · rw [if_neg h1, if_neg h1, if_neg h1]
theorem cmpP_end1 {p q : List (Rat × List Int)} {k : Nat} (hp : k < p.length) (hq : q.length ≤ k) : cmpP (p.drop k) (q.drop k) = 1 := by
  rw [List.drop_eq_getElem_cons hp, List.drop_of_length_le hq]; rfl
theorem cmpP_end2 {p q : List (Rat × List Int)} {k : Nat} (hp : p.length ≤ k) (hq : k < q.length) : cmpP (p.drop k) (q.drop k) = -1 := by
  rw [List.drop_eq_getElem_cons hq, List.drop_of_length_le hp]; rfl
theorem cmpP_end3 {p q : List (Rat × List Int)} {k : Nat} (hp : p.length ≤ k) (hq : q.length ≤ k) : cmpP (p.drop k) (q.drop k) = 0 := by
  rw [List.drop_of_length_le hq, List.drop_of_length_le hp]; rfl

set_option maxHeartbeats 2000000 in
theorem pcmp1_ok (w : World) (ex : List Nat) (s1 : Bool) (A1 : Option Addr) (n1 c1 : Nat) (s2 : Bool) (A2 : Option Addr) (n2 c2 : Nat) (s3 : Bool) (A3 : Option Addr) (n3 c3 : Nat) (s4 : Bool) (A4 : Option Addr) (n4 c4 : Nat) (a b : Rat) (e0 e1 e2 e3 e4 e5 e6 e7 f0 f1 f2 f3 f4 f5 f6 f7 : Int) (hx : RQ w ex s1 A1 n1 c1 s2 A2 n2 c2 a) (hy : RQ w ex s3 A3 n3 c3 s4 A4 n4 c4 b) (ha : Few a) (hb : Few b) :
    Calls Tryz.prog 145 #[.agg #[.bool s1, .slice A1 n1 c1, .bool s2, .slice A2 n2 c2, .int .i64 e0, .int .i64 e1, .int .i64 e2, .int .i64 e3, .int .i64 e4, .int .i64 e5, .int .i64 e6, .int .i64 e7], .agg #[.bool s3, .slice A3 n3 c3, .bool s4, .slice A4 n4 c4, .int .i64 f0, .int .i64 f1, .int .i64 f2, .int .i64 f3, .int .i64 f4, .int .i64 f5, .int .i64 f6, .int .i64 f7]] w (RetV w (.int .i64 (cmpT (a, [e0, e1, e2, e3, e4, e5, e6, e7]) (b, [f0, f1, f2, f3, f4, f5, f6, f7])))) := by
  obtain ⟨z, hz⟩ : ∃ z, cmpL [e0, e1, e2, e3, e4, e5, e6, e7] [f0, f1, f2, f3, f4, f5, f6, f7] = z := ⟨_, rfl⟩
  have HZ := Lib.hid hz
  by_cases h0 : z = 0
  · subst h0
    have HC : Hid (cmpT (a, [e0, e1, e2, e3, e4, e5, e6, e7]) (b, [f0, f1, f2, f3, f4, f5, f6, f7]) = cmpQ a b) := if_pos hz
    clear hz
    go_enter Tryz.func145, Tryz.ntmps145
    go_wp2_with fail
    refine (mcmp_ok _ e0 e1 e2 e3 e4 e5 e6 e7 f0 f1 f2 f3 f4 f5 f6 f7).mono ?_; rintro e w1 ⟨X, D, rfl, rfl⟩
    rw [HZ.out]
    go_wp2_with fail
    refine (ratcmp_ok _ ex s1 A1 n1 c1 s2 A2 n2 c2 a s3 A3 n3 c3 s4 A4 n4 c4 b (hx.mono (Kr.of_below (by repeat (first | (with_reducible exact Below.refl _ _) | (with_reducible assumption) | refine Below.setCell ?_ (by first | (simp; done) | (simp; omega) | omega) _ | refine Below.more ?_ (by first | (simp; done) | (simp; omega) | omega) _ _ | refine Below.alloc ?_ (by first | (simp; done) | (simp; omega) | omega) _ | refine Below.drew ?_ | refine Below.drewN ?_ _)) _)) (hy.mono (Kr.of_below (by repeat (first | (with_reducible exact Below.refl _ _) | (with_reducible assumption) | refine Below.setCell ?_ (by first | (simp; done) | (simp; omega) | omega) _ | refine Below.more ?_ (by first | (simp; done) | (simp; omega) | omega) _ _ | refine Below.alloc ?_ (by first | (simp; done) | (simp; omega) | omega) _ | refine Below.drew ?_ | refine Below.drewN ?_ _)) _)) ha hb).mono ?_; rintro e w1 ⟨X2, D2, rfl, rfl⟩
    go_wp2_with fail
    go_ret
    rw [HC.out]
    exact RetV.mk rfl (by repeat (first | (with_reducible exact Below.refl _ _) | (with_reducible assumption) | refine Below.setCell ?_ (by first | (simp; done) | (simp; omega) | omega) _ | refine Below.more ?_ (by first | (simp; done) | (simp; omega) | omega) _ _ | refine Below.alloc ?_ (by first | (simp; done) | (simp; omega) | omega) _ | refine Below.drew ?_ | refine Below.drewN ?_ _))
  · have HC : Hid (cmpT (a, [e0, e1, e2, e3, e4, e5, e6, e7]) (b, [f0, f1, f2, f3, f4, f5, f6, f7]) = z) := (if_neg (by show ¬ cmpL [e0, e1, e2, e3, e4, e5, e6, e7] [f0, f1, f2, f3, f4, f5, f6, f7] = 0; rw [hz]; exact h0)).trans hz
    have hzb : (z == 0) = false := by simpa using h0
    clear hz
    go_enter Tryz.func145, Tryz.ntmps145
    go_wp2_with fail
    refine (mcmp_ok _ e0 e1 e2 e3 e4 e5 e6 e7 f0 f1 f2 f3 f4 f5 f6 f7).mono ?_; rintro e w1 ⟨X, D, rfl, rfl⟩
    rw [HZ.out]
    go_wp2_with fail
    go_ret
    rw [HC.out]
    exact RetV.mk rfl (by repeat (first | (with_reducible exact Below.refl _ _) | (with_reducible assumption) | refine Below.setCell ?_ (by first | (simp; done) | (simp; omega) | omega) _ | refine Below.more ?_ (by first | (simp; done) | (simp; omega) | omega) _ _ | refine Below.alloc ?_ (by first | (simp; done) | (simp; omega) | omega) _ | refine Below.drew ?_ | refine Below.drewN ?_ _))

set_option maxHeartbeats 4000000 in
theorem comparefunc_ok (w : World) (ex : List Nat) (B1 : Option Addr) (np cp : Nat) (p : List (Rat × List Int)) (B2 : Option Addr) (nq cq : Nat) (q : List (Rat × List Int)) (hx : RP w ex B1 np cp p) (hy : RP w ex B2 nq cq q)
    (htp : PTy p) (htq : PTy q) (hnp : np ≤ 1000000000) (hnq : nq ≤ 1000000000) :
    Calls Tryz.prog 144 #[.slice B1 np cp, .slice B2 nq cq, .func (Fn.func 145) #[] #[]] w (RetV w (.int .i64 (cmpP p q))) := by
  have HL1 := Lib.hid hx.len
  have HL2 := Lib.hid hy.len
  have hcap1 := hx.cap
  have hcap2 := hy.cap
  have HT1 := Lib.hid htp
  have HT2 := Lib.hid htq
  clear htp htq
  go_enter Tryz.func144, Tryz.ntmps144
  go_wp2_with fail
  go_loopw [7, 13] (fun _ i wr => ∃ k : Nat, k ≤ np ∧ k ≤ nq ∧ i = .int .i64 k ∧ Hid (cmpP (p.drop k) (q.drop k) = cmpP p q) ∧ Below w.heap.size w wr) (fun _ i _ => np - (intOf i).toNat)
  case atStart => exact ⟨0, Nat.zero_le _, Nat.zero_le _, rfl, Lib.hid rfl, (by repeat (first | (with_reducible exact Below.refl _ _) | (with_reducible assumption) | refine Below.setCell ?_ (by first | (simp; done) | (simp; omega) | omega) _ | refine Below.more ?_ (by first | (simp; done) | (simp; omega) | omega) _ _ | refine Below.alloc ?_ (by first | (simp; done) | (simp; omega) | omega) _ | refine Below.drew ?_ | refine Below.drewN ?_ _))⟩
  case round =>
    obtain ⟨k, hk, hk2, rfl, HC, hb⟩ := hrel
    have hsz := hb.size
    have hxw := hx.mono (Kr.of_below hb ex)
    have hyw := hy.mono (Kr.of_below hb ex)
    by_cases hk1 : k < np
    · obtain ⟨b, o, rfl, hbx, hbl, ht⟩ := hxw.at_ (by omega)
      have hkp : k < p.length := by have := HL1.out; omega
      obtain ⟨s1, A1, n1, c1, s2, A2, n2, c2, e0, e1, e2, e3, e4, e5, e6, e7, h0, h1, h2, h3, h4, h5, h6, h7, h8, h9, h10, h11, hq, hm⟩ := ht k hkp
      clear ht
      have hii : (k : Int) < (np : Int) := by omega
      by_cases hk3 : k < nq
      · obtain ⟨b', o', rfl, hbx', hbl', ht⟩ := hyw.at_ (by omega)
        have hkq : k < q.length := by have := HL2.out; omega
        obtain ⟨s3, A3, n3, c3, s4, A4, n4, c4, f0, f1, f2, f3, f4, f5, f6, f7, g0, g1, g2, g3, g4, g5, g6, g7, g8, g9, g10, g11, gq, gm⟩ := ht k hkq
        clear ht
        have hkk : (k : Int) < (nq : Int) := by omega
        have hst := cmpP_dropT hkp hkq
        have he1 : p[k] = (p[k].1, [e0, e1, e2, e3, e4, e5, e6, e7]) := by rw [← hm]
        have he2 : q[k] = (q[k].1, [f0, f1, f2, f3, f4, f5, f6, f7]) := by rw [← gm]
        have hT1 : Ty p[k].1 := HT1.out _ (List.getElem_mem hkp)
        have hT2 : Ty q[k].1 := HT2.out _ (List.getElem_mem hkq)
        obtain ⟨x, hx1⟩ : ∃ x, p[k].1 = x := ⟨_, rfl⟩
        obtain ⟨y, hy1⟩ : ∃ y, q[k].1 = y := ⟨_, rfl⟩
        rw [hx1] at he1 hq hT1
        rw [hy1] at he2 gq hT2
        rw [he1, he2, HC.out] at hst
        obtain ⟨z, hz⟩ : ∃ z, cmpT (x, [e0, e1, e2, e3, e4, e5, e6, e7]) (y, [f0, f1, f2, f3, f4, f5, f6, f7]) = z := ⟨_, rfl⟩
        rw [hz] at hst
        have HZ := Lib.hid hz
        have HS := Lib.hid hst
        clear hz hst he1 he2 hx1 hy1 hm gm
        go_wp2_with fail
        refine (pcmp1_ok _ ex s1 A1 n1 c1 s2 A2 n2 c2 s3 A3 n3 c3 s4 A4 n4 c4 x y e0 e1 e2 e3 e4 e5 e6 e7 f0 f1 f2 f3 f4 f5 f6 f7 (hq.mono (Kr.of_below (by repeat (first | (with_reducible exact Below.refl _ _) | (with_reducible assumption) | refine Below.setCell ?_ (by first | (simp; done) | (simp; omega) | omega) _ | refine Below.more ?_ (by first | (simp; done) | (simp; omega) | omega) _ _ | refine Below.alloc ?_ (by first | (simp; done) | (simp; omega) | omega) _ | refine Below.drew ?_ | refine Below.drewN ?_ _)) _)) (gq.mono (Kr.of_below (by repeat (first | (with_reducible exact Below.refl _ _) | (with_reducible assumption) | refine Below.setCell ?_ (by first | (simp; done) | (simp; omega) | omega) _ | refine Below.more ?_ (by first | (simp; done) | (simp; omega) | omega) _ _ | refine Below.alloc ?_ (by first | (simp; done) | (simp; omega) | omega) _ | refine Below.drew ?_ | refine Below.drewN ?_ _)) _)) hT1.few hT2.few).mono ?_; rintro e w1 ⟨X, D, rfl, rfl⟩
        rw [HZ.out]
        by_cases h0 : z = 0
        · subst h0
          go_wp2_with fail
          go_roundw
          case rel => exact ⟨k + 1, by omega, by omega, by go_num, Lib.hid (by rw [HS.out]; simp), (by repeat (first | (with_reducible exact Below.refl _ _) | (with_reducible assumption) | refine Below.setCell ?_ (by first | (simp; done) | (simp; omega) | omega) _ | refine Below.more ?_ (by first | (simp; done) | (simp; omega) | omega) _ _ | refine Below.alloc ?_ (by first | (simp; done) | (simp; omega) | omega) _ | refine Below.drew ?_ | refine Below.drewN ?_ _))⟩
          case measure => simp [intOf]; omega
        · have hzb : (z == 0) = false := by simpa using h0
          have HE : Hid (cmpP p q = z) := by have hh := HS.out; simp [h0] at hh; exact hh
          go_wp2_with fail
          go_ret
          rw [HE.out]
          exact RetV.mk rfl (by repeat (first | (with_reducible exact Below.refl _ _) | (with_reducible assumption) | refine Below.setCell ?_ (by first | (simp; done) | (simp; omega) | omega) _ | refine Below.more ?_ (by first | (simp; done) | (simp; omega) | omega) _ _ | refine Below.alloc ?_ (by first | (simp; done) | (simp; omega) | omega) _ | refine Below.drew ?_ | refine Below.drewN ?_ _))
      · obtain rfl : k = nq := by omega
        have HE : Hid (cmpP p q = 1) := by rw [← HC.out]; exact cmpP_end1 hkp (by have := HL2.out; omega)
        go_wp2_with fail
        go_ret
        rw [HE.out]
        exact RetV.mk rfl (by repeat (first | (with_reducible exact Below.refl _ _) | (with_reducible assumption) | refine Below.setCell ?_ (by first | (simp; done) | (simp; omega) | omega) _ | refine Below.more ?_ (by first | (simp; done) | (simp; omega) | omega) _ _ | refine Below.alloc ?_ (by first | (simp; done) | (simp; omega) | omega) _ | refine Below.drew ?_ | refine Below.drewN ?_ _))
    · obtain rfl : k = np := by omega
      by_cases hk3 : k < nq
      · have HE : Hid (cmpP p q = -1) := by rw [← HC.out]; exact cmpP_end2 (by have := HL1.out; omega) (by have := HL2.out; omega)
        have hkk : (k : Int) < (nq : Int) := by omega
        go_wp2_with fail
        go_ret
        rw [HE.out]
        exact RetV.mk rfl (by repeat (first | (with_reducible exact Below.refl _ _) | (with_reducible assumption) | refine Below.setCell ?_ (by first | (simp; done) | (simp; omega) | omega) _ | refine Below.more ?_ (by first | (simp; done) | (simp; omega) | omega) _ _ | refine Below.alloc ?_ (by first | (simp; done) | (simp; omega) | omega) _ | refine Below.drew ?_ | refine Below.drewN ?_ _))
      · have HE : Hid (cmpP p q = 0) := by rw [← HC.out]; exact cmpP_end3 (by have := HL1.out; omega) (by have := HL2.out; omega)
        go_wp2_with fail
        go_ret
        rw [HE.out]
        exact RetV.mk rfl (by repeat (first | (with_reducible exact Below.refl _ _) | (with_reducible assumption) | refine Below.setCell ?_ (by first | (simp; done) | (simp; omega) | omega) _ | refine Below.more ?_ (by first | (simp; done) | (simp; omega) | omega) _ _ | refine Below.alloc ?_ (by first | (simp; done) | (simp; omega) | omega) _ | refine Below.drew ?_ | refine Below.drewN ?_ _))

set_option maxHeartbeats 400000 in
theorem pcmp_ok (w : World) (ex : List Nat) (B1 : Option Addr) (np cp : Nat) (p : List (Rat × List Int)) (B2 : Option Addr) (nq cq : Nat) (q : List (Rat × List Int)) (hx : RP w ex B1 np cp p) (hy : RP w ex B2 nq cq q)
    (htp : PTy p) (htq : PTy q) (hnp : np ≤ 1000000000) (hnq : nq ≤ 1000000000) :
    Calls Tryz.prog 97 #[.slice B1 np cp, .slice B2 nq cq] w (RetV w (.int .i64 (cmpP p q))) := by
  go_enter Tryz.func97, Tryz.ntmps97
  go_wp2_with fail
  refine (comparefunc_ok _ ex B1 np cp p B2 nq cq q hx hy htp htq hnp hnq).mono ?_; rintro e w1 ⟨X, D, rfl, rfl⟩
  go_wp2_with fail
  go_ret
  exact RetV.mk rfl (by repeat (first | (with_reducible exact Below.refl _ _) | (with_reducible assumption) | refine Below.setCell ?_ (by first | (simp; done) | (simp; omega) | omega) _ | refine Below.more ?_ (by first | (simp; done) | (simp; omega) | omega) _ _ | refine Below.alloc ?_ (by first | (simp; done) | (simp; omega) | omega) _ | refine Below.drew ?_ | refine Below.drewN ?_ _))

set_option maxHeartbeats 400000 in
theorem psame_ok (w : World) (ex : List Nat) (B1 : Option Addr) (np cp : Nat) (p : List (Rat × List Int)) (B2 : Option Addr) (nq cq : Nat) (q : List (Rat × List Int)) (hx : RP w ex B1 np cp p) (hy : RP w ex B2 nq cq q)
    (htp : PTy p) (htq : PTy q) (hnp : np ≤ 1000000000) (hnq : nq ≤ 1000000000) :
    Calls Tryz.prog 80 #[.slice B1 np cp, .slice B2 nq cq] w (RetV w (.bool (cmpP p q == 0))) := by
  go_enter Tryz.func80, Tryz.ntmps80
  go_wp2_with fail
  refine (pcmp_ok _ ex B1 np cp p B2 nq cq q hx hy htp htq hnp hnq).mono ?_; rintro e w1 ⟨X, D, rfl, rfl⟩
  go_wp2_with fail
  go_ret
  exact RetV.mk rfl (by repeat (first | (with_reducible exact Below.refl _ _) | (with_reducible assumption) | refine Below.setCell ?_ (by first | (simp; done) | (simp; omega) | omega) _ | refine Below.more ?_ (by first | (simp; done) | (simp; omega) | omega) _ _ | refine Below.alloc ?_ (by first | (simp; done) | (simp; omega) | omega) _ | refine Below.drew ?_ | refine Below.drewN ?_ _))

end Go.Proofs.YthhdleppkggepaaGreat

/-
  slices.SortFunc at a row of polynomials, by polynomial.Cmp.
-/
namespace Go.Proofs.YthhdleppkggepaaGreat
open Go.RowKit Go.Deep
set_option maxRecDepth 100000

/-- A slice that holds a polynomial, in a world and outside a block. -/
structure PEl (w : World) (ex : List Nat) where
  A : Option Addr
  n : Nat
  c : Nat
  p : List (Rat × List Int)
  rp : RP w ex A n c p
  gp : GP p
def PEl.enc {w : World} {ex : List Nat} (x : PEl w ex) : Value := .slice x.A x.n x.c
instance {w : World} {ex : List Nat} : Inhabited (PEl w ex) := ⟨⟨none, 0, 0, [], RP.nil _ _ _ _, ⟨fun _ h => by (cases h), fun _ h => by (cases h), by simp⟩⟩⟩
def PEl.cf {w : World} {ex : List Nat} (x y : PEl w ex) : Int := cmpP x.p y.p

theorem swoP {w : World} {ex : List Nat} : Sort.SWO (ltOf (PEl.cf (w := w) (ex := ex))) where
  irrefl x := by simp [ltOf, PEl.cf, cmpP_self]
  trans x y z h1 h2 := by
    have h1' : cmpP x.p y.p < 0 := of_decide_eq_true h1
    have h2' : cmpP y.p z.p < 0 := of_decide_eq_true h2
    exact decide_eq_true (cmpP_trans x.rp.len8 y.rp.len8 z.rp.len8 h1' h2')
  ntrans x y z h1 h2 := by
    have h1' : ¬ cmpP x.p y.p < 0 := of_decide_eq_false h1
    have h2' : ¬ cmpP y.p z.p < 0 := of_decide_eq_false h2
    refine decide_eq_false ?_
    show ¬ cmpP x.p z.p < 0
    intro h3
    have hx := x.rp.len8
    have hy := y.rp.len8
    have hz := z.rp.len8
    rcases cmpP_cases x.p y.p with e | e | e
    · omega
    · have := cmpP_zero hx hy e; rw [this] at h3; exact h2' h3
    · have h4 : cmpP y.p x.p < 0 := by rw [cmpP_swap]; omega
      exact h2' (cmpP_trans hy hx hz h4 h3)

/-- A row of polynomials that may be written. -/
def PRow (w : World) (ex : List Nat) (g : Nat) (l : List (List (Rat × List Int))) : Prop :=
  ∀ k (hk : k < l.length), ∃ A n c, w.cell? ⟨g, k, none⟩ = some (.slice A n c) ∧ w.frozen? ⟨g, k, none⟩ = false ∧ RP w ([g] ++ ex) A n c l[k]
theorem sortWorld_block {α : Type} [Inhabited α] (enc : α → Value) (w : World) (blk off m : Nat) (dk : Array α) (os : Array Obj) {b : Nat} (hb : b < w.heap.size) (hne : b ≠ blk) : (sortWorld enc w blk off m dk os).heap[b]? = w.heap[b]? := by
  unfold sortWorld
  rw [Sort.heap_grow_old _ _ (by simpa using hb)]
  simp [Sort.putRow, Sort.mapBlock, Array.getElem?_modify]
  omega
theorem sortWorld_size {α : Type} [Inhabited α] (enc : α → Value) (w : World) (blk off m : Nat) (dk : Array α) (os : Array Obj) : w.heap.size ≤ (sortWorld enc w blk off m dk os).heap.size := by
  unfold sortWorld; simp
theorem sortWorld_kr {α : Type} [Inhabited α] (enc : α → Value) (w : World) (blk off m : Nat) (dk : Array α) (os : Array Obj) (ex : List Nat) : Kr w ([blk] ++ ex) (sortWorld enc w blk off m dk os) ([blk] ++ ex) :=
  ⟨sortWorld_size _ _ _ _ _ _ _, fun _ _ h => h, fun b hb hx => sortWorld_block _ _ _ _ _ _ _ hb (by intro e; apply hx; simp [e])⟩

theorem cmpLaysP (w : World) (ex : List Nat) (blk size : Nat) : CmpLays1 Tryz.prog 97 #[] (PEl.enc (w := w) (ex := [blk] ++ ex)) PEl.cf blk 0 size w := by
  intro m os dk _ x y
  refine (pcmp_ok _ ([blk] ++ ex) x.A x.n x.c x.p y.A y.n y.c y.p (x.rp.mono (sortWorld_kr _ _ _ _ _ _ _ _)) (y.rp.mono (sortWorld_kr _ _ _ _ _ _ _ _)) x.gp.ty y.gp.ty (by rw [x.rp.len]; have := x.gp.len; omega) (by rw [y.rp.len]; have := y.gp.len; omega)).mono ?_
  rintro e w' ⟨X, D, rfl, rfl⟩
  exact ⟨rfl, D, X, rfl⟩

theorem sortP_ok (w : World) (ex : List Nat) (blk c : Nat) (l : List (List (Rat × List Int))) (hr : PRow w ex blk l) (hg : ∀ p ∈ l, GP p) (hblk : blk < w.heap.size) (hl : l.length < 1000000000) :
    Calls Tryz.prog 96 #[.slice (some ⟨blk, 0, none⟩) l.length c, .func (Fn.func 97) #[] #[]] w fun e w' =>
      e = .returned (.tuple #[]) ∧ ∃ l', l'.Perm l ∧ l'.Pairwise (fun p q => ¬ cmpP q p < 0) ∧ w.grownBy w' (some blk) ∧ w.drawn ≤ w'.drawn ∧ PRow w' ex blk l' := by
  have hch : ∀ k : Fin l.length, ∃ x : PEl w ([blk] ++ ex), x.p = l[k] ∧ w.cell? ⟨blk, k, none⟩ = some x.enc ∧ w.frozen? ⟨blk, k, none⟩ = false := by
    intro k
    obtain ⟨A, n, c, h1, h2, h3⟩ := hr k k.2
    exact ⟨⟨A, n, c, _, h3, hg _ (List.getElem_mem k.2)⟩, rfl, h1, h2⟩
  obtain ⟨f, hf⟩ := Classical.axiomOfChoice hch
  have hsz : (Array.ofFn f).size = l.length := Array.size_ofFn
  have hH : Sort.Holds (PEl.enc (w := w) (ex := [blk] ++ ex)) w blk 0 (Array.ofFn f) := by
    intro j hj
    rw [hsz] at hj
    have h1 := hf ⟨j, hj⟩
    have e : (Array.ofFn f)[j]! = f ⟨j, hj⟩ := by rw [getElem!_pos _ j (by rw [hsz]; exact hj)]; simp
    rw [e, Nat.zero_add]
    exact h1.2
  have eg : ∀ args w, (callFunc 97 args).run Tryz.prog w = .ok (.enter 97 args) w := enters_of Tryz.func97 (by kernel_rfl) rfl
  have hcon := Any.slices_SortFunc Tryz.sortP (PEl.enc (w := w) (ex := [blk] ++ ex)) (fun _ => rfl) PEl.cf swoP 97 #[] blk 0 c (Array.ofFn f) w eg (cmpLaysP w ex blk _) hH hblk (by rw [hsz]; omega)
  rw [hsz] at hcon
  change Calls Tryz.prog 96 _ _ _ at hcon
  refine hcon.mono ?_
  rintro e w' ⟨rfl, d', n, os, hp, hs, rfl⟩
  have hsz' : d'.size = l.length := by rw [← hsz]; exact hp.1
  have hcl := Sort.holds_grow (PEl.enc (w := w) (ex := [blk] ++ ex)) (Sort.putRow PEl.enc (Sort.ahead w n) blk 0 d') os blk 0 d' (by simpa using hblk) (Sort.holds_putRow _ _ _ _ _ _ (Sort.holds_ahead _ w n blk 0 _ hH) (by rw [hsz', hsz]))
  refine ⟨rfl, d'.toList.map PEl.p, ?_, ?_, ?_, ?_, ?_⟩
  · have h3 := hp.2.2
    have hxx : ∀ (a : Array (PEl w ([blk] ++ ex))) (n : Nat), a.size = n → a.extract 0 n = a := by rintro a n rfl; exact Array.extract_size
    rw [hxx d' _ hsz', hxx _ _ hsz] at h3
    have h4 := h3.map PEl.p
    have h5 : (Array.ofFn f).toList.map PEl.p = l := by
      apply List.ext_getElem
      · simp
      · intro i h1 h2
        simp only [List.getElem_map, Array.getElem_toList, Array.getElem_ofFn]
        exact (hf ⟨i, h2⟩).1
    rwa [h5] at h4
  · rw [List.pairwise_iff_getElem]
    intro i j hi hj hij
    simp only [List.length_map, Array.length_toList] at hi hj
    have := hs i j (Nat.zero_le _) hij (by rw [← hsz']; exact hj)
    have h2 : ¬ (PEl.cf d'[j]! d'[i]! < 0) := of_decide_eq_false this
    rw [getElem!_pos d' j hj, getElem!_pos d' i hi] at h2
    simpa [PEl.cf] using h2
  · exact ⟨rfl, rfl, rfl, sortWorld_size _ _ _ _ _ _ _, fun k hk hne => sortWorld_block _ _ _ _ _ _ _ hk (fun e => hne (by rw [e]))⟩
  · exact Nat.le_add_right w.drawn n
  · intro k hk
    simp only [List.length_map, Array.length_toList] at hk
    obtain ⟨h1, h2⟩ := hcl k hk
    rw [Nat.zero_add, getElem!_pos d' k hk] at h1
    rw [Nat.zero_add] at h2
    refine ⟨d'[k].A, d'[k].n, d'[k].c, h1, h2, ?_⟩
    simp only [List.getElem_map, Array.getElem_toList]
    exact d'[k].rp.mono (sortWorld_kr _ _ _ _ _ _ _ _)

end Go.Proofs.YthhdleppkggepaaGreat
