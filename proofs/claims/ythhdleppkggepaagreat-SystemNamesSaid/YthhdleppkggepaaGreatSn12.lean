/-
  The walks of the reference of package integer: order, division by one word, greatest common divisors of words.
-/
import Derived.Test.YthhdleppkggepaaGreatSn11

set_option linter.unusedSimpArgs false
set_option linter.unusedVariables false
set_option linter.unusedSectionVars false

namespace Go.Proofs.YthhdleppkggepaaGreat
open Go.RowKit Go.Deep
set_option maxRecDepth 100000

theorem gcd_lt_ {a b n : Nat} (ha : a < n) (hb : b < n) : Nat.gcd a b < n := by
  rcases Nat.eq_zero_or_pos a with h | h
  · subst h; rw [Nat.gcd_zero_left]; exact hb
  · exact Nat.lt_of_le_of_lt (Nat.gcd_le_left b h) ha
theorem two_words {a : Nat} (h : (digits a).length ≤ 2) : a < 18446744073709551616 := by
  have h1 := lt_pow_length a
  have h2 : 4294967296 ^ (digits a).length ≤ 4294967296 ^ 2 := Nat.pow_le_pow_right (by decide) h
  have h3 : 4294967296 ^ 2 = 18446744073709551616 := by decide
  omega

set_option maxHeartbeats 4000000 in
theorem r1common_ok (w : World) (ex : List Nat) (A1 : Option Addr) (n1 c1 : Nat) (a : Nat) (A2 : Option Addr) (n2 c2 : Nat) (b : Nat)
    (hx : RW w ex A1 n1 c1 (digits a)) (hy : RW w ex A2 n2 c2 (digits b)) (hw : Wee b) (hn1 : n1 ≤ 10000000) (hn2 : n2 ≤ 10000000) (hex : ∀ b ∈ ex, b < w.heap.size) :
    Calls Tryz.prog 163 #[.slice A1 n1 c1, .slice A2 n2 c2] w (RetW w ex (digits (Nat.gcd a b))) := by
  go_enter Tryz.func163, Tryz.ntmps163
  go_wp2_with fail
  go_loopg [0, 1] b (fun k u v wr => ∃ (X : Array Obj) (D : Nat) (A : Option Addr) (m c p : Nat) (A' : Option Addr) (m' c' : Nat), u = .slice A m c ∧ v = .slice A' m' c' ∧ m ≤ 10000000 ∧ m' ≤ 10000000 ∧
      wr = w.more X D ∧ RW wr ex A m c (digits p) ∧ RW wr ex A' m' c' (digits k) ∧ Wee k ∧ Hid (Nat.gcd p k = Nat.gcd a b))
  case atStart =>
    refine ⟨#[], _, _, _, _, a, _, _, _, rfl, rfl, hn1, hn2, World.more_self _, hx, hy, hw, rfl⟩
  case round =>
    obtain ⟨X, D, A, m, c, p, A', m', c', rfl, rfl, hm, hm', rfl, hp, hq, hwk, HG⟩ := hrel
    have hm0 : m' = 0 ↔ gk = 0 := by rw [hq.len, List.length_eq_zero_iff, digits_eq_nil]
    by_cases hk : gk = 0
    · obtain rfl : m' = 0 := hm0.2 hk
      have HK := Lib.hid hk
      clear hm0 hk
      go_wp2_with fail
      go_ret
      have h := HG.out
      rw [HK.out, Nat.gcd_zero_right] at h
      rw [h] at hp
      exact RetW.mk rfl (by repeat (first | (with_reducible exact Below.refl _ _) | (with_reducible assumption) | refine Below.setCell ?_ (by first | (simp; done) | (simp; omega) | omega) _ | refine Below.more ?_ (by first | (simp; done) | (simp; omega) | omega) _ _ | refine Below.alloc ?_ (by first | (simp; done) | (simp; omega) | omega) _ | refine Below.drew ?_ | refine Below.drewN ?_ _)) hp
    · have hmp : 0 < m' := by omega
      have hk0 : 0 < gk := by omega
      have hml : (digits (p % gk)).length ≤ 10000000 := by
        have := hq.len
        have := length_digits_mono (Nat.le_of_lt (Nat.mod_lt p hk0))
        omega
      have hmd := Nat.mod_lt p hk0
      have HK := Lib.hid hk
      clear hm0 hk
      by_cases hsm : m ≤ 2 ∧ m' ≤ 2
      · obtain ⟨hs1, hs2⟩ := hsm
        have hpl : p < 18446744073709551616 := two_words (by have := hp.len; omega)
        have hkl : gk < 18446744073709551616 := two_words (by have := hq.len; omega)
        go_wp2_with fail
        refine (r1number_ok _ _ _ _ _ _ hp hs1).mono ?_; rintro e w1 ⟨rfl, rfl⟩
        rw [val_digits]
        go_wp2_with fail
        refine (r1number_ok _ _ _ _ _ _ hq hs2).mono ?_; rintro e w1 ⟨rfl, rfl⟩
        rw [val_digits]
        go_wp2_with fail
        refine (r1euclid_ok _ _ _ hpl hkl).mono ?_; rintro e w1 ⟨rfl, rfl⟩
        rw [HG.out]
        go_wp2_with fail
        refine (r1words_ok _ ex _ (by rw [← HG.out]; exact gcd_lt_ hpl hkl) (hex0 hex (by first | (simp; done) | (simp; omega) | omega))).mono ?_; rintro e w' ⟨Ar, mr, cr, X2, D2, rfl, rfl, hres⟩
        go_wp2_with fail
        go_ret
        exact RetW.mk rfl (by repeat (first | (with_reducible exact Below.refl _ _) | (with_reducible assumption) | refine Below.setCell ?_ (by first | (simp; done) | (simp; omega) | omega) _ | refine Below.more ?_ (by first | (simp; done) | (simp; omega) | omega) _ _ | refine Below.alloc ?_ (by first | (simp; done) | (simp; omega) | omega) _ | refine Below.drew ?_ | refine Below.drewN ?_ _)) hres
      · have hsm1 : 2 < m ∨ 2 < m' := by omega
        have hdig : digits gk = [gk] := digits_small (Nat.ne_of_gt hk0) hwk
        have hm1 : m' = 1 := by rw [hq.len, hdig]; rfl
        have hsm2 : 2 < m := by omega
        clear hsm hsm1 hdig
        subst hm1
        go_wp2_with fail
        refine (r1divided_ok _ ex _ _ _ _ _ _ _ _ hp hq hk0 hwk (by omega) (by omega) (hex0 hex (by first | (simp; done) | (simp; omega) | omega))).mono ?_; rintro e w' ⟨Aq, mq, cq, Ar, mr, cr, X2, D2, rfl, rfl, hq2, hr2⟩
        go_wp2_with fail
        go_roundg (p % gk)
        case measure => exact hmd
        case rel =>
          refine ⟨X ++ X2, D + D2, _, _, _, gk, _, _, _, rfl, rfl, hm', by rw [hr2.len]; exact hml, World.more_more_ _ _ _ _ _, hq.mono (by repeat (first | (with_reducible exact Kr.refl _ _) | (with_reducible assumption) | refine Kr.setCell ?_ _ (by simp) | refine Kr.more ?_ _ _ | refine Kr.alloc_ ?_ _ | refine Kr.drew ?_ | refine Kr.drewN ?_ _)), hr2, hwk.mod hk0, ?_⟩
          show _ = _
          rw [← HG.out, Nat.gcd_comm gk, ← Nat.gcd_rec, Nat.gcd_comm]

end Go.Proofs.YthhdleppkggepaaGreat

/-
  The walks of the reference of package integer: integers.
-/
namespace Go.Proofs.YthhdleppkggepaaGreat
open Go.RowKit Go.Deep
set_option maxRecDepth 100000

set_option maxHeartbeats 2000000 in
theorem r1divmod_ok (w : World) (ex : List Nat) (s1 : Bool) (A1 : Option Addr) (n1 c1 : Nat) (a : Int) (s2 : Bool) (A2 : Option Addr) (n2 c2 : Nat) (b : Int)
    (hx : RI w ex s1 A1 n1 c1 a) (hy : RI w ex s2 A2 n2 c2 b) (hb0 : b ≠ 0) (hw : Wee b.natAbs) (hn1 : n1 ≤ 10000000) (hn2 : n2 ≤ 10000000) (hex : ∀ b ∈ ex, b < w.heap.size) :
    Calls Tryz.prog 149 #[.agg #[.bool s1, .slice A1 n1 c1], .agg #[.bool s2, .slice A2 n2 c2]] w (RetIIE w ex (a / b) (a % b) 0) := by
  have hs1 := hx.sign
  have hs2 := hy.sign
  have hn0 : ¬ n2 = 0 := fun h => hb0 (hy.n0.1 h)
  have hn0i : ((n2 : Int) == 0) = false := by simp; omega
  have HLq : Hid (∀ m, m = (digits (a.natAbs / b.natAbs)).length → m ≤ 10000000) := by
    rintro m rfl
    have h1 := hx.len
    have := length_digits_mono (Nat.div_le_self a.natAbs b.natAbs)
    unfold wl at h1
    omega
  have HLr : Hid (∀ m, m = (digits (a.natAbs % b.natAbs)).length → m ≤ 10000000) := by
    rintro m rfl
    have h1 := hy.len
    have := length_digits_mono (Nat.le_of_lt (Nat.mod_lt a.natAbs (show 0 < b.natAbs by omega)))
    unfold wl at h1
    omega
  have HLd : Hid (∀ m k, m = (digits (b.natAbs - k)).length → m ≤ 100000000) := by
    rintro m k rfl
    have h1 := hy.len
    have := length_digits_mono (show b.natAbs - k ≤ b.natAbs by omega)
    unfold wl at h1
    omega
  have HLq1 : Hid (∀ m k, m = (digits (val (digits (a.natAbs / b.natAbs)) + k)).length → k ≤ 1 → m ≤ 100000000) := by
    rintro m k rfl hk
    have h2 := HLq.out _ rfl
    have h3 := length_digits_add (a.natAbs / b.natAbs) k
    have h4 : (digits k).length ≤ 1 := length_digits_le (by omega)
    rw [val_digits]
    omega
  have hfr : ∀ b ∈ [w.heap.size + 3, w.heap.size + 2], w.heap.size ≤ b := by simp
  cases s1
  · have hann : 0 ≤ a := by simpa using hs1
    have hE := ediv_nonneg_ hann hb0
    rw [← hs1, ← hs2] at hE
    have hE2 : (if s2 = true then -((a.natAbs / b.natAbs : Nat) : Int) else ((a.natAbs / b.natAbs : Nat) : Int)) = a / b ∧ ((a.natAbs % b.natAbs : Nat) : Int) = a % b := by
      refine ⟨?_, hE.2⟩
      rw [← hE.1]; cases s2 <;> rfl
    have HE := Lib.hid hE2
    clear hs1 hs2 hE hE2
    go_enter Tryz.func149, Tryz.ntmps149
    go_wp2_with fail
    refine (r1divided_ok _ ([w.heap.size + 3, w.heap.size + 2] ++ ex) _ _ _ _ _ _ _ _ (hx.2.mono (Kr.fresh (by repeat (first | (with_reducible exact Below.refl _ _) | (with_reducible assumption) | refine Below.setCell ?_ (by first | (simp; done) | (simp; omega) | omega) _ | refine Below.more ?_ (by first | (simp; done) | (simp; omega) | omega) _ _ | refine Below.alloc ?_ (by first | (simp; done) | (simp; omega) | omega) _ | refine Below.drew ?_ | refine Below.drewN ?_ _)) hfr)) (hy.2.mono (Kr.fresh (by repeat (first | (with_reducible exact Below.refl _ _) | (with_reducible assumption) | refine Below.setCell ?_ (by first | (simp; done) | (simp; omega) | omega) _ | refine Below.more ?_ (by first | (simp; done) | (simp; omega) | omega) _ _ | refine Below.alloc ?_ (by first | (simp; done) | (simp; omega) | omega) _ | refine Below.drew ?_ | refine Below.drewN ?_ _)) hfr)) (by omega) hw (by omega) (by omega) (hexs hex (by first | (simp; done) | (simp; omega) | omega) (by first | (simp; done) | (simp; omega) | omega))).mono ?_; rintro e w' ⟨Aq, mq, cq, Ar, mr, cr, X, D, rfl, rfl, hq, hr⟩
    go_wp2_with fail
    refine (r1made_ok _ ([w.heap.size + 3, w.heap.size + 2] ++ ex) _ _ _ _ _ hq (by have := HLq.out _ hq.len; omega)).mono ?_; rintro e w' ⟨s, A, m, c, X2, D2, rfl, rfl, hres⟩
    go_wp2_with fail
    refine (r1made_ok _ ([w.heap.size + 3, w.heap.size + 2] ++ ex) _ _ _ _ _ (hr.mono (by repeat (first | (with_reducible exact Kr.refl _ _) | (with_reducible assumption) | refine Kr.setCell ?_ _ (by simp) | refine Kr.more ?_ _ _ | refine Kr.alloc_ ?_ _ | refine Kr.drew ?_ | refine Kr.drewN ?_ _))) (by have := HLr.out _ hr.len; omega)).mono ?_; rintro e w' ⟨s', A', m', c', X3, D3, rfl, rfl, hres'⟩
    go_wp2_with fail
    refine bodyPost_ret (v := .tuple #[.agg #[.bool s, .slice A m c], .agg #[.bool s', .slice A' m' c'], .int .i64 0]) (by simp [results, Tryz.results149, go_sem, ↓IntWalk.iteOmega]) rfl (RetIIE.mk rfl (by repeat (first | (with_reducible exact Below.refl _ _) | (with_reducible assumption) | refine Below.setCell ?_ (by first | (simp; done) | (simp; omega) | omega) _ | refine Below.more ?_ (by first | (simp; done) | (simp; omega) | omega) _ _ | refine Below.alloc ?_ (by first | (simp; done) | (simp; omega) | omega) _ | refine Below.drew ?_ | refine Below.drewN ?_ _)) ?_ ?_)
    · rw [val_digits, HE.out.1] at hres
      exact hres.mono (Kr.down (by repeat (first | (with_reducible exact Kr.refl _ _) | (with_reducible assumption) | refine Kr.setCell ?_ _ (by simp) | refine Kr.more ?_ _ _ | refine Kr.alloc_ ?_ _ | refine Kr.drew ?_ | refine Kr.drewN ?_ _)) (by first | (intro b hb; simp [hb]; done) | (intro b hb; exact hb) | (intro b hb; simp at hb ⊢; grind)))
    · rw [val_digits, if_neg (by simp), HE.out.2] at hres'
      exact hres'.mono (Kr.down (by repeat (first | (with_reducible exact Kr.refl _ _) | (with_reducible assumption) | refine Kr.setCell ?_ _ (by simp) | refine Kr.more ?_ _ _ | refine Kr.alloc_ ?_ _ | refine Kr.drew ?_ | refine Kr.drewN ?_ _)) (by first | (intro b hb; simp [hb]; done) | (intro b hb; exact hb) | (intro b hb; simp at hb ⊢; grind)))
  · have hann : a < 0 := by simpa using hs1
    by_cases hr0 : a.natAbs % b.natAbs = 0
    · have hE := ediv_neg0 hann hb0 hr0
      rw [← hs1, ← hs2] at hE
      have hE2 : (if (!s2) = true then -((a.natAbs / b.natAbs : Nat) : Int) else ((a.natAbs / b.natAbs : Nat) : Int)) = a / b ∧ (0 : Int) = a % b := by
        refine ⟨?_, hE.2⟩
        rw [← hE.1]; cases s2 <;> rfl
      have HE := Lib.hid hE2
      clear hE2
      have HR0 : Hid (digits (a.natAbs % b.natAbs) = []) := by show _ = _; rw [hr0]; rfl
      clear hs1 hs2 hE hr0
      go_enter Tryz.func149, Tryz.ntmps149
      go_wp2_with fail
      refine (r1divided_ok _ ([w.heap.size + 3, w.heap.size + 2] ++ ex) _ _ _ _ _ _ _ _ (hx.2.mono (Kr.fresh (by repeat (first | (with_reducible exact Below.refl _ _) | (with_reducible assumption) | refine Below.setCell ?_ (by first | (simp; done) | (simp; omega) | omega) _ | refine Below.more ?_ (by first | (simp; done) | (simp; omega) | omega) _ _ | refine Below.alloc ?_ (by first | (simp; done) | (simp; omega) | omega) _ | refine Below.drew ?_ | refine Below.drewN ?_ _)) hfr)) (hy.2.mono (Kr.fresh (by repeat (first | (with_reducible exact Below.refl _ _) | (with_reducible assumption) | refine Below.setCell ?_ (by first | (simp; done) | (simp; omega) | omega) _ | refine Below.more ?_ (by first | (simp; done) | (simp; omega) | omega) _ _ | refine Below.alloc ?_ (by first | (simp; done) | (simp; omega) | omega) _ | refine Below.drew ?_ | refine Below.drewN ?_ _)) hfr)) (by omega) hw (by omega) (by omega) (hexs hex (by first | (simp; done) | (simp; omega) | omega) (by first | (simp; done) | (simp; omega) | omega))).mono ?_; rintro e w' ⟨Aq, mq, cq, Ar, mr, cr, X, D, rfl, rfl, hq, hr⟩
      rw [HR0.out] at hr
      obtain rfl : mr = 0 := by simpa using hr.len
      go_wp2_with fail
      refine (r1made_ok _ ([w.heap.size + 3, w.heap.size + 2] ++ ex) _ _ _ _ _ hq (by have := HLq.out _ hq.len; omega)).mono ?_; rintro e w' ⟨s, A, m, c, X2, D2, rfl, rfl, hres⟩
      go_wp2_with fail
      refine (r1made_ok _ ([w.heap.size + 3, w.heap.size + 2] ++ ex) _ _ _ _ _ (hr.mono (by repeat (first | (with_reducible exact Kr.refl _ _) | (with_reducible assumption) | refine Kr.setCell ?_ _ (by simp) | refine Kr.more ?_ _ _ | refine Kr.alloc_ ?_ _ | refine Kr.drew ?_ | refine Kr.drewN ?_ _))) (by omega)).mono ?_; rintro e w' ⟨s', A', m', c', X3, D3, rfl, rfl, hres'⟩
      go_wp2_with fail
      refine bodyPost_ret (v := .tuple #[.agg #[.bool s, .slice A m c], .agg #[.bool s', .slice A' m' c'], .int .i64 0]) (by simp [results, Tryz.results149, go_sem, ↓IntWalk.iteOmega]) rfl (RetIIE.mk rfl (by repeat (first | (with_reducible exact Below.refl _ _) | (with_reducible assumption) | refine Below.setCell ?_ (by first | (simp; done) | (simp; omega) | omega) _ | refine Below.more ?_ (by first | (simp; done) | (simp; omega) | omega) _ _ | refine Below.alloc ?_ (by first | (simp; done) | (simp; omega) | omega) _ | refine Below.drew ?_ | refine Below.drewN ?_ _)) ?_ ?_)
      · rw [val_digits, HE.out.1] at hres
        exact hres.mono (Kr.down (by repeat (first | (with_reducible exact Kr.refl _ _) | (with_reducible assumption) | refine Kr.setCell ?_ _ (by simp) | refine Kr.more ?_ _ _ | refine Kr.alloc_ ?_ _ | refine Kr.drew ?_ | refine Kr.drewN ?_ _)) (by first | (intro b hb; simp [hb]; done) | (intro b hb; exact hb) | (intro b hb; simp at hb ⊢; grind)))
      · rw [if_neg (by simp), show ((val [] : Nat) : Int) = 0 from rfl, HE.out.2] at hres'
        exact hres'.mono (Kr.down (by repeat (first | (with_reducible exact Kr.refl _ _) | (with_reducible assumption) | refine Kr.setCell ?_ _ (by simp) | refine Kr.more ?_ _ _ | refine Kr.alloc_ ?_ _ | refine Kr.drew ?_ | refine Kr.drewN ?_ _)) (by first | (intro b hb; simp [hb]; done) | (intro b hb; exact hb) | (intro b hb; simp at hb ⊢; grind)))
    · have hE := ediv_neg1 hann hb0 (by omega)
      rw [← hs1, ← hs2] at hE
      have hE2 : (if (!s2) = true then -((a.natAbs / b.natAbs + 1 : Nat) : Int) else ((a.natAbs / b.natAbs + 1 : Nat) : Int)) = a / b ∧ ((b.natAbs - a.natAbs % b.natAbs : Nat) : Int) = a % b := by
        refine ⟨?_, hE.2⟩
        rw [← hE.1]; cases s2 <;> rfl
      have HE := Lib.hid hE2
      clear hE2
      have HR0 : Hid (0 < (digits (a.natAbs % b.natAbs)).length) := by
        show 0 < _
        rw [List.length_pos_iff]
        exact fun h => hr0 (digits_eq_nil.1 h)
      have hrb : a.natAbs % b.natAbs ≤ b.natAbs := Nat.le_of_lt (Nat.mod_lt _ (by omega))
      clear hs1 hs2 hE hr0
      go_enter Tryz.func149, Tryz.ntmps149
      go_wp2_with fail
      refine (r1divided_ok _ ([w.heap.size + 3, w.heap.size + 2] ++ ex) _ _ _ _ _ _ _ _ (hx.2.mono (Kr.fresh (by repeat (first | (with_reducible exact Below.refl _ _) | (with_reducible assumption) | refine Below.setCell ?_ (by first | (simp; done) | (simp; omega) | omega) _ | refine Below.more ?_ (by first | (simp; done) | (simp; omega) | omega) _ _ | refine Below.alloc ?_ (by first | (simp; done) | (simp; omega) | omega) _ | refine Below.drew ?_ | refine Below.drewN ?_ _)) hfr)) (hy.2.mono (Kr.fresh (by repeat (first | (with_reducible exact Below.refl _ _) | (with_reducible assumption) | refine Below.setCell ?_ (by first | (simp; done) | (simp; omega) | omega) _ | refine Below.more ?_ (by first | (simp; done) | (simp; omega) | omega) _ _ | refine Below.alloc ?_ (by first | (simp; done) | (simp; omega) | omega) _ | refine Below.drew ?_ | refine Below.drewN ?_ _)) hfr)) (by omega) hw (by omega) (by omega) (hexs hex (by first | (simp; done) | (simp; omega) | omega) (by first | (simp; done) | (simp; omega) | omega))).mono ?_; rintro e w' ⟨Aq, mq, cq, Ar, mr, cr, X, D, rfl, rfl, hq, hr⟩
      have hmr : 0 < mr := by rw [hr.len]; exact HR0.out
      go_wp2_with fail
      refine (r1added_ok _ ([w.heap.size + 3, w.heap.size + 2] ++ ex) _ _ _ _ _ _ _ _ (hq.mono (by repeat (first | (with_reducible exact Kr.refl _ _) | (with_reducible assumption) | refine Kr.setCell ?_ _ (by simp) | refine Kr.more ?_ _ _ | refine Kr.alloc_ ?_ _ | refine Kr.drew ?_ | refine Kr.drewN ?_ _))) (RW.one (x := 1) (by intro b hb; simp only [List.cons_append, List.nil_append, List.mem_cons] at hb; rcases hb with rfl | rfl | hb <;> first | omega | (have := hex _ hb; omega)) (by decide) (by simp [go_sem, ↓IntWalk.iteOmega])) (by have := HLq.out _ hq.len; omega) (by omega) (hexs hex (by first | (simp; done) | (simp; omega) | omega) (by first | (simp; done) | (simp; omega) | omega))).mono ?_; rintro e w' ⟨Ap, mp, cp, X2, D2, rfl, rfl, hp⟩
      go_wp2_with fail
      refine (r1taken_ok _ ([w.heap.size + 3, w.heap.size + 2] ++ ex) _ _ _ _ _ _ _ _ (hy.2.mono (Kr.fresh (by repeat (first | (with_reducible exact Below.refl _ _) | (with_reducible assumption) | refine Below.setCell ?_ (by first | (simp; done) | (simp; omega) | omega) _ | refine Below.more ?_ (by first | (simp; done) | (simp; omega) | omega) _ _ | refine Below.alloc ?_ (by first | (simp; done) | (simp; omega) | omega) _ | refine Below.drew ?_ | refine Below.drewN ?_ _)) hfr)) (hr.mono (by repeat (first | (with_reducible exact Kr.refl _ _) | (with_reducible assumption) | refine Kr.setCell ?_ _ (by simp) | refine Kr.more ?_ _ _ | refine Kr.alloc_ ?_ _ | refine Kr.drew ?_ | refine Kr.drewN ?_ _))) hrb (by omega) (hexs hex (by first | (simp; done) | (simp; omega) | omega) (by first | (simp; done) | (simp; omega) | omega))).mono ?_; rintro e w' ⟨Ad, md, cd, X3, D3, rfl, rfl, hd⟩
      go_wp2_with fail
      refine (r1made_ok _ ([w.heap.size + 3, w.heap.size + 2] ++ ex) _ _ _ _ _ (hp.mono (by repeat (first | (with_reducible exact Kr.refl _ _) | (with_reducible assumption) | refine Kr.setCell ?_ _ (by simp) | refine Kr.more ?_ _ _ | refine Kr.alloc_ ?_ _ | refine Kr.drew ?_ | refine Kr.drewN ?_ _))) (by have := HLq1.out _ _ hp.len (by decide); omega)).mono ?_; rintro e w' ⟨s, A, m, c, X4, D4, rfl, rfl, hres⟩
      go_wp2_with fail
      refine (r1made_ok _ ([w.heap.size + 3, w.heap.size + 2] ++ ex) _ _ _ _ _ (hd.mono (by repeat (first | (with_reducible exact Kr.refl _ _) | (with_reducible assumption) | refine Kr.setCell ?_ _ (by simp) | refine Kr.more ?_ _ _ | refine Kr.alloc_ ?_ _ | refine Kr.drew ?_ | refine Kr.drewN ?_ _))) (by have := HLd.out _ _ hd.len; omega)).mono ?_; rintro e w' ⟨s', A', m', c', X5, D5, rfl, rfl, hres'⟩
      go_wp2_with fail
      refine bodyPost_ret (v := .tuple #[.agg #[.bool s, .slice A m c], .agg #[.bool s', .slice A' m' c'], .int .i64 0]) (by simp [results, Tryz.results149, go_sem, ↓IntWalk.iteOmega]) rfl (RetIIE.mk rfl (by repeat (first | (with_reducible exact Below.refl _ _) | (with_reducible assumption) | refine Below.setCell ?_ (by first | (simp; done) | (simp; omega) | omega) _ | refine Below.more ?_ (by first | (simp; done) | (simp; omega) | omega) _ _ | refine Below.alloc ?_ (by first | (simp; done) | (simp; omega) | omega) _ | refine Below.drew ?_ | refine Below.drewN ?_ _)) ?_ ?_)
      · rw [val_digits, val_digits, show val [1] = 1 from rfl, HE.out.1] at hres
        exact hres.mono (Kr.down (by repeat (first | (with_reducible exact Kr.refl _ _) | (with_reducible assumption) | refine Kr.setCell ?_ _ (by simp) | refine Kr.more ?_ _ _ | refine Kr.alloc_ ?_ _ | refine Kr.drew ?_ | refine Kr.drewN ?_ _)) (by first | (intro b hb; simp [hb]; done) | (intro b hb; exact hb) | (intro b hb; simp at hb ⊢; grind)))
      · rw [val_digits, if_neg (by simp), HE.out.2] at hres'
        exact hres'.mono (Kr.down (by repeat (first | (with_reducible exact Kr.refl _ _) | (with_reducible assumption) | refine Kr.setCell ?_ _ (by simp) | refine Kr.more ?_ _ _ | refine Kr.alloc_ ?_ _ | refine Kr.drew ?_ | refine Kr.drewN ?_ _)) (by first | (intro b hb; simp [hb]; done) | (intro b hb; exact hb) | (intro b hb; simp at hb ⊢; grind)))


end Go.Proofs.YthhdleppkggepaaGreat
