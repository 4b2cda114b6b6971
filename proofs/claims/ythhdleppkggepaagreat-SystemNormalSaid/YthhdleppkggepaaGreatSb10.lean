/-
  The walks of the reference of package integer: integers.
-/
import Derived.Test.YthhdleppkggepaaGreatSb06
import Derived.Test.YthhdleppkggepaaGreatSb09

set_option linter.unusedSimpArgs false
set_option linter.unusedVariables false
set_option linter.unusedSectionVars false

namespace Go.Proofs.YthhdleppkggepaaGreat
open Go.RowKit Go.Deep
set_option maxRecDepth 100000

set_option maxHeartbeats 400000 in
theorem r1of_ok (w : World) (ex : List Nat) (z : Int) (hz1 : -9223372036854775808 ≤ z) (hz2 : z ≤ 9223372036854775807) (hex : ∀ b ∈ ex, b < w.heap.size) :
    Calls Tryz.prog 62 #[.int .i64 z] w (RetI w ex z) := by
  by_cases hz : z < 0
  · obtain ⟨k, hk⟩ : ∃ k : Nat, -(z + 1) = (k : Int) := ⟨(-(z + 1)).toNat, by omega⟩
    obtain ⟨m, hm⟩ : ∃ m : Nat, (k : Int) + 1 = (m : Int) := ⟨k + 1, by omega⟩
    have hmz : z = -(m : Int) := by omega
    have HM := Lib.hid hmz
    clear hmz
    go_enter Tryz.func62, Tryz.ntmps62
    go_wp2_with fail
    refine (r1words_ok _ (w.heap.size :: ex) m (by omega) (hexs (l := [w.heap.size]) hex (by simp) (by simp))).mono ?_; rintro e w1 ⟨A', m', c', X, D, rfl, rfl, hres⟩
    go_wp2_with fail
    refine (r1made_ok _ (w.heap.size :: ex) _ _ _ _ _ hres (by have := hres.len; have := length_digits_le (n := m) (k := 2) (by omega); omega)).mono ?_; rintro e w1 ⟨s2, A2, m2, c2, X2, D2, rfl, rfl, hres2⟩
    go_wp2_with fail
    refine bodyPost_ret (v := .agg #[.bool s2, .slice A2 m2 c2]) (by simp [results, Tryz.results62, go_sem, ↓IntWalk.iteOmega]) rfl (RetI.mk rfl (by repeat first | with_reducible exact .refl .. | with_reducible assumption | refine .s ?_ ?_ | refine .m ?_ ?_ | refine .l ?_ ?_ | refine .d ?_ | refine .e ?_ | (simp <;> omega) | omega) ?_)
    rw [val_digits, if_pos trivial, ← HM.out] at hres2
    exact hres2.mono (Kr.down (by repeat (first | (with_reducible exact Kr.refl _ _) | (with_reducible assumption) | refine Kr.setCell ?_ _ (by simp) | refine Kr.more ?_ _ _ | refine Kr.alloc_ ?_ _ | refine Kr.drew ?_ | refine Kr.drewN ?_ _)) (by first | (intro b hb; simp [hb]; done) | (intro b hb; exact hb) | (intro b hb; simp at hb ⊢; grind)))
  · obtain ⟨m, rfl⟩ := Int.eq_ofNat_of_zero_le (show 0 ≤ z by omega)
    go_enter Tryz.func62, Tryz.ntmps62
    go_wp2_with fail
    refine (r1words_ok _ (w.heap.size :: ex) m (by omega) (hexs (l := [w.heap.size]) hex (by simp) (by simp))).mono ?_; rintro e w1 ⟨A', m', c', X, D, rfl, rfl, hres⟩
    go_wp2_with fail
    refine (r1made_ok _ (w.heap.size :: ex) _ _ _ _ _ hres (by have := hres.len; have := length_digits_le (n := m) (k := 2) (by omega); omega)).mono ?_; rintro e w1 ⟨s2, A2, m2, c2, X2, D2, rfl, rfl, hres2⟩
    go_wp2_with fail
    refine bodyPost_ret (v := .agg #[.bool s2, .slice A2 m2 c2]) (by simp [results, Tryz.results62, go_sem, ↓IntWalk.iteOmega]) rfl (RetI.mk rfl (by repeat first | with_reducible exact .refl .. | with_reducible assumption | refine .s ?_ ?_ | refine .m ?_ ?_ | refine .l ?_ ?_ | refine .d ?_ | refine .e ?_ | (simp <;> omega) | omega) ?_)
    rw [val_digits] at hres2
    exact hres2.mono (Kr.down (by repeat (first | (with_reducible exact Kr.refl _ _) | (with_reducible assumption) | refine Kr.setCell ?_ _ (by simp) | refine Kr.more ?_ _ _ | refine Kr.alloc_ ?_ _ | refine Kr.drew ?_ | refine Kr.drewN ?_ _)) (by first | (intro b hb; simp [hb]; done) | (intro b hb; exact hb) | (intro b hb; simp at hb ⊢; grind)))

set_option maxHeartbeats 400000 in
theorem r1sign_ok (w : World) (ex : List Nat) (s : Bool) (A : Option Addr) (n c : Nat) (z : Int) (hx : RI w ex s A n c z) :
    Calls Tryz.prog 118 #[.agg #[.bool s, .slice A n c]] w (RetV w (.int .i64 z.sign)) := by
  have hs := hx.sign
  have h0 := hx.n0
  cases s
  · have hz : ¬ z < 0 := by simpa using hs
    have HZ : Hid (z.sign = if n = 0 then 0 else 1) := by
      show _ = _
      by_cases hn : n = 0
      · rw [if_pos hn, h0.1 hn]; rfl
      · rw [if_neg hn]; exact Int.sign_eq_one_of_pos (by omega)
    clear hs h0
    go_enter Tryz.func118, Tryz.ntmps118
    go_wp2
    · go_ret
      refine RetV.mk ?_ (by repeat first | with_reducible exact .refl .. | with_reducible assumption | refine .s ?_ ?_ | refine .m ?_ ?_ | refine .l ?_ ?_ | refine .d ?_ | refine .e ?_ | (simp <;> omega) | omega)
      rw [HZ.out, if_neg (by omega)]; rfl
    · go_ret
      refine RetV.mk ?_ (by repeat first | with_reducible exact .refl .. | with_reducible assumption | refine .s ?_ ?_ | refine .m ?_ ?_ | refine .l ?_ ?_ | refine .d ?_ | refine .e ?_ | (simp <;> omega) | omega)
      by_cases hn : n = 0
      · subst hn; rw [HZ.out]; rfl
      · obtain rfl : n = 1 := by omega
        rw [HZ.out]; rfl
  · have hz : z < 0 := by simpa using hs
    have HZ : Hid (z.sign = -1) := Int.sign_eq_neg_one_of_neg hz
    clear hs h0
    go_enter Tryz.func118, Tryz.ntmps118
    go_wp2
    go_ret
    refine RetV.mk ?_ (by repeat first | with_reducible exact .refl .. | with_reducible assumption | refine .s ?_ ?_ | refine .m ?_ ?_ | refine .l ?_ ?_ | refine .d ?_ | refine .e ?_ | (simp <;> omega) | omega)
    rw [HZ.out]; rfl

set_option maxHeartbeats 400000 in
theorem r1neg_ok (w : World) (ex : List Nat) (s : Bool) (A : Option Addr) (n c : Nat) (z : Int) (hx : RI w ex s A n c z) (hn : n ≤ 1000000000) :
    Calls Tryz.prog 119 #[.agg #[.bool s, .slice A n c]] w (RetI w ex (-z)) := by
  have HZ : Hid ((if !s then -(val (digits z.natAbs) : Int) else val (digits z.natAbs)) = -z) := by
    show _ = _
    rw [val_digits, hx.sign]
    by_cases hz : z < 0
    · simp [hz]; omega
    · simp [hz]; omega
  have h0 := hx.2.mono (Kr.fresh (l := [w.heap.size + 1]) (w' := (w.alloc (.cells #[.bool s, .slice A n c] 57)).alloc (.cells #[.bool false, .slice none 0 0] 57)) (by repeat first | with_reducible exact .refl .. | with_reducible assumption | refine .s ?_ ?_ | refine .m ?_ ?_ | refine .l ?_ ?_ | refine .d ?_ | refine .e ?_ | (simp <;> omega) | omega) (by simp))
  go_enter Tryz.func119, Tryz.ntmps119
  go_wp2_with fail
  refine (r1made_ok _ _ _ _ _ _ _ h0 hn).mono ?_; rintro e w1 ⟨s2, A2, m2, c2, X2, D2, rfl, rfl, hres2⟩
  rw [HZ.out] at hres2
  go_wp2_with fail
  refine bodyPost_ret (v := .agg #[.bool s2, .slice A2 m2 c2]) (by simp [results, Tryz.results119, go_sem, ↓IntWalk.iteOmega]) rfl (RetI.mk rfl (by repeat first | with_reducible exact .refl .. | with_reducible assumption | refine .s ?_ ?_ | refine .m ?_ ?_ | refine .l ?_ ?_ | refine .d ?_ | refine .e ?_ | (simp <;> omega) | omega) ?_)
  exact hres2.mono (Kr.down (by repeat (first | (with_reducible exact Kr.refl _ _) | (with_reducible assumption) | refine Kr.setCell ?_ _ (by simp) | refine Kr.more ?_ _ _ | refine Kr.alloc_ ?_ _ | refine Kr.drew ?_ | refine Kr.drewN ?_ _)) (by first | (intro b hb; simp [hb]; done) | (intro b hb; exact hb) | (intro b hb; simp at hb ⊢; grind)))

set_option maxHeartbeats 1000000 in
theorem r1imul_ok (w : World) (ex : List Nat) (s1 : Bool) (A1 : Option Addr) (n1 c1 : Nat) (a : Int) (s2 : Bool) (A2 : Option Addr) (n2 c2 : Nat) (b : Int)
    (hx : RI w ex s1 A1 n1 c1 a) (hy : RI w ex s2 A2 n2 c2 b) (hn1 : n1 ≤ 100000000) (hn2 : n2 ≤ 100000000) (hex : ∀ b ∈ ex, b < w.heap.size) :
    Calls Tryz.prog 64 #[.agg #[.bool s1, .slice A1 n1 c1], .agg #[.bool s2, .slice A2 n2 c2]] w (RetI w ex (a * b)) := by
  have HZ : Hid ((if !s1 == s2 then -(val (digits (val (digits a.natAbs) * val (digits b.natAbs))) : Int) else val (digits (val (digits a.natAbs) * val (digits b.natAbs)))) = a * b) := by
    show _ = _
    rw [val_digits, val_digits, val_digits, hx.sign, hy.sign]
    exact natAbs_mul_sign a b
  have HL : Hid (∀ m, m = (digits (val (digits a.natAbs) * val (digits b.natAbs))).length → m ≤ 1000000000) := by
    rintro m rfl
    rw [val_digits, val_digits]
    have h1 := hx.len; have h2 := hy.len
    have := length_digits_mul a.natAbs b.natAbs
    unfold wl at h1 h2
    omega
  go_enter Tryz.func64, Tryz.ntmps64
  go_wp2_with fail
  go_region_held3 (fun w' => w'.cell? ⟨w.heap.size, 0, none⟩ = some (.bool s1) ∧ w'.cell? ⟨w.heap.size, 1, none⟩ = some (.slice A1 n1 c1) ∧ w'.cell? ⟨w.heap.size + 1, 0, none⟩ = some (.bool s2) ∧ w'.cell? ⟨w.heap.size + 1, 1, none⟩ = some (.slice A2 n2 c2) ∧ w'.cell? ⟨w.heap.size + 2, 0, none⟩ = some (World.got w' (w.heap.size + 2) (0)) ∧ w'.cell? ⟨w.heap.size + 2, 1, none⟩ = some (World.got w' (w.heap.size + 2) (1)) ∧ w'.frozen? ⟨w.heap.size + 2, 0, none⟩ = false ∧ w'.frozen? ⟨w.heap.size + 2, 1, none⟩ = false)
    ((repeat' apply And.intro) <;> first | (simp [*, go_sem, ↓IntWalk.iteOmega]; done) | (refine got_of ?_; simp [*, go_sem, ↓IntWalk.iteOmega]; done))
    (first | (go_at_call 116; refine (r1times_ok _ _ _ _ _ _ _ _ _ _ (hx.2.mono (Kr.fresh (l := [w.heap.size + 2]) (by repeat first | with_reducible exact .refl .. | with_reducible assumption | refine .s ?_ ?_ | refine .m ?_ ?_ | refine .l ?_ ?_ | refine .d ?_ | refine .e ?_ | (simp <;> omega) | omega) (by simp))) (hy.2.mono (Kr.fresh (l := [w.heap.size + 2]) (by repeat first | with_reducible exact .refl .. | with_reducible assumption | refine .s ?_ ?_ | refine .m ?_ ?_ | refine .l ?_ ?_ | refine .d ?_ | refine .e ?_ | (simp <;> omega) | omega) (by simp))) hn1 hn2 (hexs hex (by first | (simp; done) | (simp; omega) | omega) (by first | (simp; done) | (simp; omega) | omega))).mono ?_; rintro e w' ⟨A, m, c, X, D, rfl, rfl, hres⟩) | (go_at_call 111; refine (r1made_ok _ _ _ _ _ _ _ hres (HL.out _ hres.len)).mono ?_; rintro e w' ⟨s, A, m, c, X, D, rfl, rfl, hres2⟩))
  go_wp2_with fail
  refine bodyPost_ret (v := .agg #[.bool s, .slice A m c]) (by simp [results, Tryz.results64, go_sem, ↓IntWalk.iteOmega]) rfl (RetI.mk rfl (by repeat first | with_reducible exact .refl .. | with_reducible assumption | refine .s ?_ ?_ | refine .m ?_ ?_ | refine .l ?_ ?_ | refine .d ?_ | refine .e ?_ | (simp <;> omega) | omega) ?_)
  rw [HZ.out] at hres2
  exact hres2.mono (Kr.down (by repeat (first | (with_reducible exact Kr.refl _ _) | (with_reducible assumption) | refine Kr.setCell ?_ _ (by simp) | refine Kr.more ?_ _ _ | refine Kr.alloc_ ?_ _ | refine Kr.drew ?_ | refine Kr.drewN ?_ _)) (by first | (intro b hb; simp [hb]; done) | (intro b hb; exact hb) | (intro b hb; simp at hb ⊢; grind)))

set_option maxHeartbeats 400000 in
theorem r1ivalid_ok (w : World) (ex : List Nat) (s : Bool) (A : Option Addr) (n c : Nat) (z : Int) (hx : RI w ex s A n c z) (hn : n ≤ 1000000000) :
    Calls Tryz.prog 218 #[.agg #[.bool s, .slice A n c]] w (RetV w (.bool true)) := by
  have hs := hx.sign
  have h0 := hx.n0
  have HL := Lib.hid hx.2.len
  by_cases hn0 : 0 < n
  · obtain ⟨K, rfl⟩ : ∃ K : Nat, n = K + 1 := ⟨n - 1, by omega⟩
    obtain ⟨b, o, rfl, hb, hc⟩ := hx.2.at_ hn0
    have hk : K < (digits z.natAbs).length := by have := HL.out; omega
    have hcell := hc _ hk
    have HC := Lib.hid hc; clear hc
    have hbl := hx.2.lt hn0
    have hne : (digits z.natAbs)[K] ≠ 0 := by
      have := (canon_digits z.natAbs).2
      rw [List.getLast?_eq_getElem?, ← HL.out, show K + 1 - 1 = K from rfl, List.getElem?_eq_getElem hk] at this
      intro e; exact this (by rw [e])
    have hq : ((((digits z.natAbs)[K] : Nat) : Int) == 0) = false := by simp; omega
    have HNE := Lib.hid hne
    clear hs h0 hne
    go_enter Tryz.func218, Tryz.ntmps218
    go_wp2
    go_ret
    exact RetV.mk (by simp; exact HNE.out) (by repeat first | with_reducible exact .refl .. | with_reducible assumption | refine .s ?_ ?_ | refine .m ?_ ?_ | refine .l ?_ ?_ | refine .d ?_ | refine .e ?_ | (simp <;> omega) | omega)
  · obtain rfl : n = 0 := by omega
    have hz := h0.1 rfl
    subst hz
    have hs' : s = false := by simpa using hs
    subst hs'
    clear hs h0
    go_enter Tryz.func218, Tryz.ntmps218
    go_wp2
    go_ret
    exact RetV.mk rfl (by repeat first | with_reducible exact .refl .. | with_reducible assumption | refine .s ?_ ?_ | refine .m ?_ ?_ | refine .l ?_ ?_ | refine .d ?_ | refine .e ?_ | (simp <;> omega) | omega)

set_option maxHeartbeats 1000000 in
theorem r1icmp_ok (w : World) (ex : List Nat) (s1 : Bool) (A1 : Option Addr) (n1 c1 : Nat) (a : Int) (s2 : Bool) (A2 : Option Addr) (n2 c2 : Nat) (b : Int)
    (hx : RI w ex s1 A1 n1 c1 a) (hy : RI w ex s2 A2 n2 c2 b) (hn1 : n1 ≤ 1000000000) (hn2 : n2 ≤ 1000000000) :
    Calls Tryz.prog 191 #[.agg #[.bool s1, .slice A1 n1 c1], .agg #[.bool s2, .slice A2 n2 c2]] w (RetV w (.int .i64 (cmpZ a b))) := by
  have hs1 := hx.sign
  have hs2 := hy.sign
  cases s1 <;> cases s2
  · have HC : Hid (cmpN a.natAbs b.natAbs = cmpZ a b) := cmpN_pos_ (by simpa using hs1) (by simpa using hs2)
    clear hs1 hs2
    go_enter Tryz.func191, Tryz.ntmps191
    go_wp2_with fail
    refine (r1compared_ok _ _ _ _ _ _ _ _ _ _ (hx.2.mono (Kr.fresh (l := []) (by repeat first | with_reducible exact .refl .. | with_reducible assumption | refine .s ?_ ?_ | refine .m ?_ ?_ | refine .l ?_ ?_ | refine .d ?_ | refine .e ?_ | (simp <;> omega) | omega) (by simp))) (hy.2.mono (Kr.fresh (l := []) (by repeat first | with_reducible exact .refl .. | with_reducible assumption | refine .s ?_ ?_ | refine .m ?_ ?_ | refine .l ?_ ?_ | refine .d ?_ | refine .e ?_ | (simp <;> omega) | omega) (by simp))) (by omega) (by omega)).mono ?_; rintro e w' ⟨rfl, D0, rfl⟩
    go_wp2_with fail
    go_ret
    exact RetV.mk (by rw [← HC.out]; rfl) (by repeat first | with_reducible exact .refl .. | with_reducible assumption | refine .s ?_ ?_ | refine .m ?_ ?_ | refine .l ?_ ?_ | refine .d ?_ | refine .e ?_ | (simp <;> omega) | omega)
  · have HC : Hid (cmpZ a b = 1) := by
      have h1 : ¬ a < 0 := by simpa using hs1
      have h2 : b < 0 := by simpa using hs2
      show _ = _
      unfold cmpZ; rw [if_neg (by omega), if_pos (by omega)]
    clear hs1 hs2
    go_enter Tryz.func191, Tryz.ntmps191
    go_wp2_with fail
    go_ret
    exact RetV.mk (by rw [HC.out]; rfl) (by repeat first | with_reducible exact .refl .. | with_reducible assumption | refine .s ?_ ?_ | refine .m ?_ ?_ | refine .l ?_ ?_ | refine .d ?_ | refine .e ?_ | (simp <;> omega) | omega)
  · have HC : Hid (cmpZ a b = -1) := by
      have h1 : a < 0 := by simpa using hs1
      have h2 : ¬ b < 0 := by simpa using hs2
      show _ = _
      unfold cmpZ; rw [if_pos (by omega)]
    clear hs1 hs2
    go_enter Tryz.func191, Tryz.ntmps191
    go_wp2_with fail
    go_ret
    exact RetV.mk (by rw [HC.out]; rfl) (by repeat first | with_reducible exact .refl .. | with_reducible assumption | refine .s ?_ ?_ | refine .m ?_ ?_ | refine .l ?_ ?_ | refine .d ?_ | refine .e ?_ | (simp <;> omega) | omega)
  · have HC : Hid (cmpN b.natAbs a.natAbs = cmpZ a b) := cmpN_neg_ (by simpa using hs1) (by simpa using hs2)
    clear hs1 hs2
    go_enter Tryz.func191, Tryz.ntmps191
    go_wp2_with fail
    refine (r1compared_ok _ _ _ _ _ _ _ _ _ _ (hy.2.mono (Kr.fresh (l := []) (by repeat first | with_reducible exact .refl .. | with_reducible assumption | refine .s ?_ ?_ | refine .m ?_ ?_ | refine .l ?_ ?_ | refine .d ?_ | refine .e ?_ | (simp <;> omega) | omega) (by simp))) (hx.2.mono (Kr.fresh (l := []) (by repeat first | with_reducible exact .refl .. | with_reducible assumption | refine .s ?_ ?_ | refine .m ?_ ?_ | refine .l ?_ ?_ | refine .d ?_ | refine .e ?_ | (simp <;> omega) | omega) (by simp))) (by omega) (by omega)).mono ?_; rintro e w' ⟨rfl, D0, rfl⟩
    go_wp2_with fail
    go_ret
    exact RetV.mk (by rw [← HC.out]; rfl) (by repeat first | with_reducible exact .refl .. | with_reducible assumption | refine .s ?_ ?_ | refine .m ?_ ?_ | refine .l ?_ ?_ | refine .d ?_ | refine .e ?_ | (simp <;> omega) | omega)

set_option maxHeartbeats 400000 in
theorem r1gcd_ok (w : World) (ex : List Nat) (s1 : Bool) (A1 : Option Addr) (n1 c1 : Nat) (a : Int) (s2 : Bool) (A2 : Option Addr) (n2 c2 : Nat) (b : Int)
    (hx : RI w ex s1 A1 n1 c1 a) (hy : RI w ex s2 A2 n2 c2 b) (hw : Wee b.natAbs) (hn1 : n1 ≤ 10000000) (hn2 : n2 ≤ 10000000) (hex : ∀ b ∈ ex, b < w.heap.size) :
    Calls Tryz.prog 117 #[.agg #[.bool s1, .slice A1 n1 c1], .agg #[.bool s2, .slice A2 n2 c2]] w (RetI w ex (Int.gcd a b : Int)) := by
  have HL : Hid ((digits (Nat.gcd a.natAbs b.natAbs)).length ≤ 1000000000) := by
    show _ ≤ _
    have h1 := hx.len
    have h2 := hy.len
    unfold wl at h1 h2
    rcases Nat.eq_zero_or_pos a.natAbs with h | h
    · rw [h, Nat.gcd_zero_left]; omega
    · have := length_digits_mono (Nat.gcd_le_left b.natAbs h); omega
  go_enter Tryz.func117, Tryz.ntmps117
  go_wp2_with fail
  refine (r1common_ok _ ([w.heap.size + 2] ++ ex) _ _ _ _ _ _ _ _ (hx.2.mono (Kr.fresh (l := [w.heap.size + 2]) (by repeat first | with_reducible exact .refl .. | with_reducible assumption | refine .s ?_ ?_ | refine .m ?_ ?_ | refine .l ?_ ?_ | refine .d ?_ | refine .e ?_ | (simp <;> omega) | omega) (by simp))) (hy.2.mono (Kr.fresh (l := [w.heap.size + 2]) (by repeat first | with_reducible exact .refl .. | with_reducible assumption | refine .s ?_ ?_ | refine .m ?_ ?_ | refine .l ?_ ?_ | refine .d ?_ | refine .e ?_ | (simp <;> omega) | omega) (by simp))) hw hn1 hn2 (hexs hex (by first | (simp; done) | (simp; omega) | omega) (by first | (simp; done) | (simp; omega) | omega))).mono ?_; rintro e w1 ⟨A', m', c', X, D, rfl, rfl, hres⟩
  go_wp2_with fail
  refine (r1made_ok _ ([w.heap.size + 2] ++ ex) _ _ _ _ _ hres (by rw [hres.len]; exact HL.out)).mono ?_; rintro e w1 ⟨s2, A2, m2, c2, X2, D2, rfl, rfl, hres2⟩
  go_wp2_with fail
  refine bodyPost_ret (v := .agg #[.bool s2, .slice A2 m2 c2]) (by simp [results, Tryz.results117, go_sem, ↓IntWalk.iteOmega]) rfl (RetI.mk rfl (by repeat first | with_reducible exact .refl .. | with_reducible assumption | refine .s ?_ ?_ | refine .m ?_ ?_ | refine .l ?_ ?_ | refine .d ?_ | refine .e ?_ | (simp <;> omega) | omega) ?_)
  rw [val_digits, if_neg (by simp)] at hres2
  exact hres2.mono (Kr.down (by repeat (first | (with_reducible exact Kr.refl _ _) | (with_reducible assumption) | refine Kr.setCell ?_ _ (by simp) | refine Kr.more ?_ _ _ | refine Kr.alloc_ ?_ _ | refine Kr.drew ?_ | refine Kr.drewN ?_ _)) (by first | (intro b hb; simp [hb]; done) | (intro b hb; exact hb) | (intro b hb; simp at hb ⊢; grind)))


end Go.Proofs.YthhdleppkggepaaGreat

/-
  The walks of the reference of package integer: integers.
-/
namespace Go.Proofs.YthhdleppkggepaaGreat
open Go.RowKit Go.Deep
set_option maxRecDepth 100000

set_option maxHeartbeats 1000000 in
theorem r1iadd_ok (w : World) (ex : List Nat) (s1 : Bool) (A1 : Option Addr) (n1 c1 : Nat) (a : Int) (s2 : Bool) (A2 : Option Addr) (n2 c2 : Nat) (b : Int)
    (hx : RI w ex s1 A1 n1 c1 a) (hy : RI w ex s2 A2 n2 c2 b) (hn1 : n1 ≤ 100000000) (hn2 : n2 ≤ 100000000) (hex : ∀ b ∈ ex, b < w.heap.size) :
    Calls Tryz.prog 63 #[.agg #[.bool s1, .slice A1 n1 c1], .agg #[.bool s2, .slice A2 n2 c2]] w (RetI w ex (a + b)) := by
  have hs1 := hx.sign
  have hs2 := hy.sign
  have HL : Hid (∀ m, m = (digits (val (digits a.natAbs) + val (digits b.natAbs))).length → m ≤ 1000000000) := by
    rintro m rfl
    rw [val_digits, val_digits]
    have h1 := hx.len; have h2 := hy.len
    have := length_digits_add a.natAbs b.natAbs
    unfold wl at h1 h2
    omega
  have HL1 : Hid (∀ m k, m = (digits (a.natAbs - k)).length → m ≤ 1000000000) := by
    rintro m k rfl
    have h1 := hx.len
    have := length_digits_mono (show a.natAbs - k ≤ a.natAbs by omega)
    unfold wl at h1
    omega
  have HL2 : Hid (∀ m k, m = (digits (b.natAbs - k)).length → m ≤ 1000000000) := by
    rintro m k rfl
    have h1 := hy.len
    have := length_digits_mono (show b.natAbs - k ≤ b.natAbs by omega)
    unfold wl at h1
    omega
  by_cases hs : s1 = s2
  · subst hs
    have HZ : Hid ((if s1 then -(val (digits (val (digits a.natAbs) + val (digits b.natAbs))) : Int) else val (digits (val (digits a.natAbs) + val (digits b.natAbs)))) = a + b) := by
      show _ = _
      rw [val_digits, val_digits, val_digits]
      cases s1 <;> simp at hs1 hs2 ⊢ <;> omega
    clear hs1 hs2
    go_enter Tryz.func63, Tryz.ntmps63
    go_wp2_with fail
    go_region_held3 (fun w' => w'.cell? ⟨w.heap.size, 0, none⟩ = some (.bool s1) ∧ w'.cell? ⟨w.heap.size, 1, none⟩ = some (.slice A1 n1 c1) ∧ w'.cell? ⟨w.heap.size + 1, 0, none⟩ = some (.bool s1) ∧ w'.cell? ⟨w.heap.size + 1, 1, none⟩ = some (.slice A2 n2 c2) ∧ w'.cell? ⟨w.heap.size + 2, 0, none⟩ = some (World.got w' (w.heap.size + 2) (0)) ∧ w'.cell? ⟨w.heap.size + 2, 1, none⟩ = some (World.got w' (w.heap.size + 2) (1)) ∧ w'.frozen? ⟨w.heap.size + 2, 0, none⟩ = false ∧ w'.frozen? ⟨w.heap.size + 2, 1, none⟩ = false)
      ((repeat' apply And.intro) <;> first | (simp [*, go_sem, ↓IntWalk.iteOmega]; done) | (refine got_of ?_; simp [*, go_sem, ↓IntWalk.iteOmega]; done))
      (first | (go_at_call 113; refine (r1added_ok _ _ _ _ _ _ _ _ _ _ (hx.2.mono (Kr.fresh (l := [w.heap.size + 2]) (by repeat first | with_reducible exact .refl .. | with_reducible assumption | refine .s ?_ ?_ | refine .m ?_ ?_ | refine .l ?_ ?_ | refine .d ?_ | refine .e ?_ | (simp <;> omega) | omega) (by simp))) (hy.2.mono (Kr.fresh (l := [w.heap.size + 2]) (by repeat first | with_reducible exact .refl .. | with_reducible assumption | refine .s ?_ ?_ | refine .m ?_ ?_ | refine .l ?_ ?_ | refine .d ?_ | refine .e ?_ | (simp <;> omega) | omega) (by simp))) hn1 hn2 (hexs hex (by first | (simp; done) | (simp; omega) | omega) (by first | (simp; done) | (simp; omega) | omega))).mono ?_; rintro e w' ⟨A, m, c, X, D, rfl, rfl, hres⟩) | (go_at_call 111; refine (r1made_ok _ _ _ _ _ _ _ hres (HL.out _ hres.len)).mono ?_; rintro e w' ⟨s, A, m, c, X, D, rfl, rfl, hres2⟩))
    go_wp2_with fail
    refine bodyPost_ret (v := .agg #[.bool s, .slice A m c]) (by simp [results, Tryz.results63, go_sem, ↓IntWalk.iteOmega]) rfl (RetI.mk rfl (by repeat first | with_reducible exact .refl .. | with_reducible assumption | refine .s ?_ ?_ | refine .m ?_ ?_ | refine .l ?_ ?_ | refine .d ?_ | refine .e ?_ | (simp <;> omega) | omega) ?_)
    rw [HZ.out] at hres2
    exact hres2.mono (Kr.down (by repeat (first | (with_reducible exact Kr.refl _ _) | (with_reducible assumption) | refine Kr.setCell ?_ _ (by simp) | refine Kr.more ?_ _ _ | refine Kr.alloc_ ?_ _ | refine Kr.drew ?_ | refine Kr.drewN ?_ _)) (by first | (intro b hb; simp [hb]; done) | (intro b hb; exact hb) | (intro b hb; simp at hb ⊢; grind)))
  · have hsb : (s1 == s2) = false := by simp [hs]
    have HS := Lib.hid hs; clear hs
    by_cases hlt : a.natAbs < b.natAbs
    · have HZ : Hid ((if s2 then -(val (digits (b.natAbs - a.natAbs)) : Int) else val (digits (b.natAbs - a.natAbs))) = a + b) := by
        show _ = _
        have := HS.out
        rw [val_digits]
        cases s1 <;> cases s2 <;> simp at hs1 hs2 this ⊢ <;> omega
      have hc := cmpN_neg hlt
      clear hs1 hs2
      go_enter Tryz.func63, Tryz.ntmps63
      go_wp2_with fail
      refine (r1compared_ok _ _ _ _ _ _ _ _ _ _ (hx.2.mono (Kr.fresh (l := []) (by repeat first | with_reducible exact .refl .. | with_reducible assumption | refine .s ?_ ?_ | refine .m ?_ ?_ | refine .l ?_ ?_ | refine .d ?_ | refine .e ?_ | (simp <;> omega) | omega) (by simp))) (hy.2.mono (Kr.fresh (l := []) (by repeat first | with_reducible exact .refl .. | with_reducible assumption | refine .s ?_ ?_ | refine .m ?_ ?_ | refine .l ?_ ?_ | refine .d ?_ | refine .e ?_ | (simp <;> omega) | omega) (by simp))) (by omega) (by omega)).mono ?_; rintro e w' ⟨rfl, D0, rfl⟩
      go_wp2_with fail
      go_region_held3 (fun w' => w'.cell? ⟨w.heap.size, 0, none⟩ = some (.bool s1) ∧ w'.cell? ⟨w.heap.size, 1, none⟩ = some (.slice A1 n1 c1) ∧ w'.cell? ⟨w.heap.size + 1, 0, none⟩ = some (.bool s2) ∧ w'.cell? ⟨w.heap.size + 1, 1, none⟩ = some (.slice A2 n2 c2) ∧ w'.cell? ⟨w.heap.size + 2, 0, none⟩ = some (World.got w' (w.heap.size + 2) (0)) ∧ w'.cell? ⟨w.heap.size + 2, 1, none⟩ = some (World.got w' (w.heap.size + 2) (1)) ∧ w'.frozen? ⟨w.heap.size + 2, 0, none⟩ = false ∧ w'.frozen? ⟨w.heap.size + 2, 1, none⟩ = false)
        ((repeat' apply And.intro) <;> first | (simp [*, go_sem, ↓IntWalk.iteOmega]; done) | (refine got_of ?_; simp [*, go_sem, ↓IntWalk.iteOmega]; done))
        (first | (go_at_call 115; refine (r1taken_ok _ _ _ _ _ _ _ _ _ _ (hy.2.mono (Kr.fresh (l := [w.heap.size + 2]) (by repeat first | with_reducible exact .refl .. | with_reducible assumption | refine .s ?_ ?_ | refine .m ?_ ?_ | refine .l ?_ ?_ | refine .d ?_ | refine .e ?_ | (simp <;> omega) | omega) (by simp))) (hx.2.mono (Kr.fresh (l := [w.heap.size + 2]) (by repeat first | with_reducible exact .refl .. | with_reducible assumption | refine .s ?_ ?_ | refine .m ?_ ?_ | refine .l ?_ ?_ | refine .d ?_ | refine .e ?_ | (simp <;> omega) | omega) (by simp))) (Nat.le_of_lt hlt) hn2 (hexs hex (by first | (simp; done) | (simp; omega) | omega) (by first | (simp; done) | (simp; omega) | omega))).mono ?_; rintro e w' ⟨A, m, c, X, D, rfl, rfl, hres⟩) | (go_at_call 111; refine (r1made_ok _ _ _ _ _ _ _ hres (HL2.out _ _ hres.len)).mono ?_; rintro e w' ⟨s, A, m, c, X, D, rfl, rfl, hres2⟩))
      go_wp2_with fail
      refine bodyPost_ret (v := .agg #[.bool s, .slice A m c]) (by simp [results, Tryz.results63, go_sem, ↓IntWalk.iteOmega]) rfl (RetI.mk rfl (by repeat first | with_reducible exact .refl .. | with_reducible assumption | refine .s ?_ ?_ | refine .m ?_ ?_ | refine .l ?_ ?_ | refine .d ?_ | refine .e ?_ | (simp <;> omega) | omega) ?_)
      rw [HZ.out] at hres2
      exact hres2.mono (Kr.down (by repeat (first | (with_reducible exact Kr.refl _ _) | (with_reducible assumption) | refine Kr.setCell ?_ _ (by simp) | refine Kr.more ?_ _ _ | refine Kr.alloc_ ?_ _ | refine Kr.drew ?_ | refine Kr.drewN ?_ _)) (by first | (intro b hb; simp [hb]; done) | (intro b hb; exact hb) | (intro b hb; simp at hb ⊢; grind)))
    · have HZ : Hid ((if s1 then -(val (digits (a.natAbs - b.natAbs)) : Int) else val (digits (a.natAbs - b.natAbs))) = a + b) := by
        show _ = _
        have := HS.out
        rw [val_digits]
        cases s1 <;> cases s2 <;> simp at hs1 hs2 this ⊢ <;> omega
      obtain ⟨v, hc, hv⟩ := cmpN_nonneg hlt
      clear hs1 hs2
      go_enter Tryz.func63, Tryz.ntmps63
      go_wp2_with fail
      refine (r1compared_ok _ _ _ _ _ _ _ _ _ _ (hx.2.mono (Kr.fresh (l := []) (by repeat first | with_reducible exact .refl .. | with_reducible assumption | refine .s ?_ ?_ | refine .m ?_ ?_ | refine .l ?_ ?_ | refine .d ?_ | refine .e ?_ | (simp <;> omega) | omega) (by simp))) (hy.2.mono (Kr.fresh (l := []) (by repeat first | with_reducible exact .refl .. | with_reducible assumption | refine .s ?_ ?_ | refine .m ?_ ?_ | refine .l ?_ ?_ | refine .d ?_ | refine .e ?_ | (simp <;> omega) | omega) (by simp))) (by omega) (by omega)).mono ?_; rintro e w' ⟨rfl, D0, rfl⟩
      go_wp2_with fail
      go_region_held3 (fun w' => w'.cell? ⟨w.heap.size, 0, none⟩ = some (.bool s1) ∧ w'.cell? ⟨w.heap.size, 1, none⟩ = some (.slice A1 n1 c1) ∧ w'.cell? ⟨w.heap.size + 1, 0, none⟩ = some (.bool s2) ∧ w'.cell? ⟨w.heap.size + 1, 1, none⟩ = some (.slice A2 n2 c2) ∧ w'.cell? ⟨w.heap.size + 2, 0, none⟩ = some (World.got w' (w.heap.size + 2) (0)) ∧ w'.cell? ⟨w.heap.size + 2, 1, none⟩ = some (World.got w' (w.heap.size + 2) (1)) ∧ w'.frozen? ⟨w.heap.size + 2, 0, none⟩ = false ∧ w'.frozen? ⟨w.heap.size + 2, 1, none⟩ = false)
        ((repeat' apply And.intro) <;> first | (simp [*, go_sem, ↓IntWalk.iteOmega]; done) | (refine got_of ?_; simp [*, go_sem, ↓IntWalk.iteOmega]; done))
        (first | (go_at_call 115; refine (r1taken_ok _ _ _ _ _ _ _ _ _ _ (hx.2.mono (Kr.fresh (l := [w.heap.size + 2]) (by repeat first | with_reducible exact .refl .. | with_reducible assumption | refine .s ?_ ?_ | refine .m ?_ ?_ | refine .l ?_ ?_ | refine .d ?_ | refine .e ?_ | (simp <;> omega) | omega) (by simp))) (hy.2.mono (Kr.fresh (l := [w.heap.size + 2]) (by repeat first | with_reducible exact .refl .. | with_reducible assumption | refine .s ?_ ?_ | refine .m ?_ ?_ | refine .l ?_ ?_ | refine .d ?_ | refine .e ?_ | (simp <;> omega) | omega) (by simp))) (by omega) hn1 (hexs hex (by first | (simp; done) | (simp; omega) | omega) (by first | (simp; done) | (simp; omega) | omega))).mono ?_; rintro e w' ⟨A, m, c, X, D, rfl, rfl, hres⟩) | (go_at_call 111; refine (r1made_ok _ _ _ _ _ _ _ hres (HL1.out _ _ hres.len)).mono ?_; rintro e w' ⟨s, A, m, c, X, D, rfl, rfl, hres2⟩))
      go_wp2_with fail
      refine bodyPost_ret (v := .agg #[.bool s, .slice A m c]) (by simp [results, Tryz.results63, go_sem, ↓IntWalk.iteOmega]) rfl (RetI.mk rfl (by repeat first | with_reducible exact .refl .. | with_reducible assumption | refine .s ?_ ?_ | refine .m ?_ ?_ | refine .l ?_ ?_ | refine .d ?_ | refine .e ?_ | (simp <;> omega) | omega) ?_)
      rw [HZ.out] at hres2
      exact hres2.mono (Kr.down (by repeat (first | (with_reducible exact Kr.refl _ _) | (with_reducible assumption) | refine Kr.setCell ?_ _ (by simp) | refine Kr.more ?_ _ _ | refine Kr.alloc_ ?_ _ | refine Kr.drew ?_ | refine Kr.drewN ?_ _)) (by first | (intro b hb; simp [hb]; done) | (intro b hb; exact hb) | (intro b hb; simp at hb ⊢; grind)))


end Go.Proofs.YthhdleppkggepaaGreat

/-
  The walks of the reference of package rational: reduction.
-/
namespace Go.Proofs.YthhdleppkggepaaGreat
open Go.RowKit Go.Deep
set_option maxRecDepth 100000

set_option maxHeartbeats 1000000 in
theorem r2exact_ok (w : World) (ex : List Nat) (s1 : Bool) (A1 : Option Addr) (n1 c1 : Nat) (a : Int) (s2 : Bool) (A2 : Option Addr) (n2 c2 : Nat) (b : Int)
    (hx : RI w ex s1 A1 n1 c1 a) (hy : RI w ex s2 A2 n2 c2 b) (hb0 : b ≠ 0) (hw : Wee b.natAbs) (hn1 : n1 ≤ 10000000) (hn2 : n2 ≤ 10000000) (hex : ∀ b ∈ ex, b < w.heap.size) :
    Calls Tryz.prog 120 #[.agg #[.bool s1, .slice A1 n1 c1], .agg #[.bool s2, .slice A2 n2 c2]] w (RetI w ex (a / b)) := by
  go_enter Tryz.func120, Tryz.ntmps120
  go_wp2_with fail
  refine (r1divmod_ok _ ([w.heap.size + 2] ++ ex) _ _ _ _ _ _ _ _ _ _ (hx.mono (Kr.fresh (l := [w.heap.size + 2]) (by repeat first | with_reducible exact .refl .. | with_reducible assumption | refine .s ?_ ?_ | refine .m ?_ ?_ | refine .l ?_ ?_ | refine .d ?_ | refine .e ?_ | (simp <;> omega) | omega) (by first | (simp; done) | (simp; omega) | omega))) (hy.mono (Kr.fresh (l := [w.heap.size + 2]) (by repeat first | with_reducible exact .refl .. | with_reducible assumption | refine .s ?_ ?_ | refine .m ?_ ?_ | refine .l ?_ ?_ | refine .d ?_ | refine .e ?_ | (simp <;> omega) | omega) (by first | (simp; done) | (simp; omega) | omega))) hb0 hw hn1 hn2 (hexs hex (by first | (simp; done) | (simp; omega) | omega) (by first | (simp; done) | (simp; omega) | omega))).mono ?_; rintro e w1 ⟨sq, Aq, mq, cq, sr, Ar, mr, cr, X4, D4, rfl, rfl, hq, hr⟩
  go_wp2_with fail
  refine bodyPost_ret (v := .agg #[.bool sq, .slice Aq mq cq]) (by simp [results, Tryz.results120, go_sem, ↓IntWalk.iteOmega]) rfl (RetI.mk rfl (by repeat first | with_reducible exact .refl .. | with_reducible assumption | refine .s ?_ ?_ | refine .m ?_ ?_ | refine .l ?_ ?_ | refine .d ?_ | refine .e ?_ | (simp <;> omega) | omega) ?_)
  exact hq.mono (Kr.down (by repeat (first | (with_reducible exact Kr.refl _ _) | (with_reducible assumption) | refine Kr.setCell ?_ _ (by simp) | refine Kr.more ?_ _ _ | refine Kr.alloc_ ?_ _ | refine Kr.drew ?_ | refine Kr.drewN ?_ _)) (by first | (intro b hb; simp [hb]; done) | (intro b hb; exact hb) | (intro b hb; simp at hb ⊢; grind)))

set_option maxHeartbeats 2000000 in
theorem r2lowest_ok (w : World) (ex : List Nat) (s1 : Bool) (A1 : Option Addr) (n1 c1 : Nat) (a : Int) (s2 : Bool) (A2 : Option Addr) (n2 c2 : Nat) (d : Int)
    (hx : RI w ex s1 A1 n1 c1 a) (hy : RI w ex s2 A2 n2 c2 d) (hd : d ≠ 0) (hw : Wee d.natAbs) (hn1 : n1 ≤ 1000000) (hn2 : n2 ≤ 1000000) (hex : ∀ b ∈ ex, b < w.heap.size) :
    Calls Tryz.prog 65 #[.agg #[.bool s1, .slice A1 n1 c1], .agg #[.bool s2, .slice A2 n2 c2]] w (RetQ w ex (Rat.divInt a d)) := by
  have HLg : Hid (∀ m, m = wl (Int.gcd a d : Int) → m ≤ 1000000) := by
    rintro m rfl
    have h1 := hx.len; have h2 := hy.len
    have := wl_gcd_le a d
    omega
  have HG0 : Hid ((Int.gcd a d : Int) ≠ 0) := gcd_ne hd
  have HGw : Hid (Wee (Int.gcd a d : Int).natAbs) := by show Wee _; rw [Int.natAbs_natCast]; exact hw.le (gcd_natAbs_le hd)
  by_cases hneg : d < 0
  · have HE := Lib.hid (lowest_neg (a := a) hneg : _ ∧ _)
    have hsg : d.sign = -1 := Int.sign_eq_neg_one_of_neg hneg
    have HD := Lib.hid hd
    clear hd hneg
    go_enter Tryz.func65, Tryz.ntmps65
    go_wp2_with fail
    refine (r1gcd_ok _ ([w.heap.size, w.heap.size + 1, w.heap.size + 2] ++ ex) _ _ _ _ _ _ _ _ _ _ (hx.mono (Kr.fresh (l := [w.heap.size, w.heap.size + 1, w.heap.size + 2]) (by repeat first | with_reducible exact .refl .. | with_reducible assumption | refine .s ?_ ?_ | refine .m ?_ ?_ | refine .l ?_ ?_ | refine .d ?_ | refine .e ?_ | (simp <;> omega) | omega) (by simp))) (hy.mono (Kr.fresh (l := [w.heap.size, w.heap.size + 1, w.heap.size + 2]) (by repeat first | with_reducible exact .refl .. | with_reducible assumption | refine .s ?_ ?_ | refine .m ?_ ?_ | refine .l ?_ ?_ | refine .d ?_ | refine .e ?_ | (simp <;> omega) | omega) (by simp))) hw (by omega) (by omega) (hexs hex (by first | (simp; done) | (simp; omega) | omega) (by first | (simp; done) | (simp; omega) | omega))).mono ?_; rintro e w1 ⟨sg, Ag, mg, cg, X, D, rfl, rfl, hg⟩
    have hgl := HLg.out _ hg.len
    go_wp2_with fail
    refine (r1sign_ok _ ex _ _ _ _ _ (hy.mono (Kr.fresh (l := []) (by repeat first | with_reducible exact .refl .. | with_reducible assumption | refine .s ?_ ?_ | refine .m ?_ ?_ | refine .l ?_ ?_ | refine .d ?_ | refine .e ?_ | (simp <;> omega) | omega) (by simp)))).mono ?_; rintro e w1 ⟨X2, D2, rfl, rfl⟩
    rw [hsg]
    go_wp2_with fail
    refine (r1neg_ok _ ([w.heap.size + 3 + X.size, w.heap.size, w.heap.size + 1, w.heap.size + 2] ++ ex) _ _ _ _ _ (hg.mono (Kr.fresh (l := [w.heap.size + 3 + X.size]) (by repeat first | with_reducible exact .refl .. | with_reducible assumption | refine .s ?_ ?_ | refine .m ?_ ?_ | refine .l ?_ ?_ | refine .d ?_ | refine .e ?_ | (simp <;> omega) | omega) (by first | (simp; done) | (simp; omega) | omega))) (by omega)).mono ?_; rintro e w1 ⟨sh, Ah, mh, ch, X3, D3, rfl, rfl, hh⟩
    have hhl : mh ≤ 1000000 := by have := hh.len; rw [wl_neg] at this; exact HLg.out _ this
    go_wp2_with fail
    go_region_held3 (fun w' => w'.cell? ⟨w.heap.size, 0, none⟩ = some (.bool s1) ∧ w'.cell? ⟨w.heap.size, 1, none⟩ = some (.slice A1 n1 c1) ∧ w'.cell? ⟨w.heap.size + 1, 0, none⟩ = some (.bool s2) ∧ w'.cell? ⟨w.heap.size + 1, 1, none⟩ = some (.slice A2 n2 c2) ∧ w'.cell? ⟨w.heap.size + 3 + X.size, 0, none⟩ = some (.bool sh) ∧ w'.cell? ⟨w.heap.size + 3 + X.size, 1, none⟩ = some (.slice Ah mh ch) ∧ w'.cell? ⟨w.heap.size + 2, 0, none⟩ = some (World.got w' (w.heap.size + 2) (0)) ∧ w'.cell? ⟨w.heap.size + 2, 1, none⟩ = some (World.got w' (w.heap.size + 2) (1)) ∧ w'.cell? ⟨w.heap.size + 2, 2, none⟩ = some (World.got w' (w.heap.size + 2) (2)) ∧ w'.cell? ⟨w.heap.size + 2, 3, none⟩ = some (World.got w' (w.heap.size + 2) (3)) ∧ w'.frozen? ⟨w.heap.size + 2, 0, none⟩ = false ∧ w'.frozen? ⟨w.heap.size + 2, 1, none⟩ = false ∧ w'.frozen? ⟨w.heap.size + 2, 2, none⟩ = false ∧ w'.frozen? ⟨w.heap.size + 2, 3, none⟩ = false)
      ((repeat' apply And.intro) <;> first | (simp [*, go_sem, ↓IntWalk.iteOmega]; done) | (refine got_of ?_; simp [*, go_sem, ↓IntWalk.iteOmega]; done))
      (first | (go_at_call 120; have hgo := Lib.hid hq; refine (r2exact_ok _ ([w.heap.size + 3 + X.size, w.heap.size, w.heap.size + 1, w.heap.size + 2] ++ ex) _ _ _ _ _ _ _ _ _ _ (hy.mono (Kr.fresh (l := [w.heap.size + 3 + X.size, w.heap.size, w.heap.size + 1, w.heap.size + 2]) (by repeat first | with_reducible exact .refl .. | with_reducible assumption | refine .s ?_ ?_ | refine .m ?_ ?_ | refine .l ?_ ?_ | refine .d ?_ | refine .e ?_ | (simp <;> omega) | omega) (by first | (simp; done) | (simp; omega) | omega))) (hh.mono (by repeat (first | (with_reducible exact Kr.refl _ _) | (with_reducible assumption) | refine Kr.setCell ?_ _ (by simp) | refine Kr.more ?_ _ _ | refine Kr.alloc_ ?_ _ | refine Kr.drew ?_ | refine Kr.drewN ?_ _))) (by have := HG0.out; omega) (by rw [Int.natAbs_neg]; exact HGw.out) (by omega) (by omega) (hexs hex (by first | (simp; done) | (simp; omega) | omega) (by first | (simp; done) | (simp; omega) | omega))).mono ?_; rintro e w1 ⟨sq2, Aq2, mq2, cq2, X5, D5, rfl, rfl, hq2⟩) | (go_at_call 120; refine (r2exact_ok _ ([w.heap.size + 3 + X.size, w.heap.size, w.heap.size + 1, w.heap.size + 2] ++ ex) _ _ _ _ _ _ _ _ _ _ (hx.mono (Kr.fresh (l := [w.heap.size + 3 + X.size, w.heap.size, w.heap.size + 1, w.heap.size + 2]) (by repeat first | with_reducible exact .refl .. | with_reducible assumption | refine .s ?_ ?_ | refine .m ?_ ?_ | refine .l ?_ ?_ | refine .d ?_ | refine .e ?_ | (simp <;> omega) | omega) (by first | (simp; done) | (simp; omega) | omega))) (hh.mono (by repeat (first | (with_reducible exact Kr.refl _ _) | (with_reducible assumption) | refine Kr.setCell ?_ _ (by simp) | refine Kr.more ?_ _ _ | refine Kr.alloc_ ?_ _ | refine Kr.drew ?_ | refine Kr.drewN ?_ _))) (by have := HG0.out; omega) (by rw [Int.natAbs_neg]; exact HGw.out) (by omega) (by omega) (hexs hex (by first | (simp; done) | (simp; omega) | omega) (by first | (simp; done) | (simp; omega) | omega))).mono ?_; rintro e w1 ⟨sq, Aq, mq, cq, X4, D4, rfl, rfl, hq⟩))
    all_goals
      go_wp2_with fail
      refine bodyPost_ret (v := .agg #[.bool sq, .slice Aq mq cq, .bool sq2, .slice Aq2 mq2 cq2]) (by simp [results, Tryz.results65, go_sem, ↓IntWalk.iteOmega]) rfl (RetQ.mk rfl (by repeat first | with_reducible exact .refl .. | with_reducible assumption | refine .s ?_ ?_ | refine .m ?_ ?_ | refine .l ?_ ?_ | refine .d ?_ | refine .e ?_ | (simp <;> omega) | omega) ?_ ?_)
      · rw [HE.out.1] at hq; exact hq.mono (Kr.down (by repeat (first | (with_reducible exact Kr.refl _ _) | (with_reducible assumption) | refine Kr.setCell ?_ _ (by simp) | refine Kr.more ?_ _ _ | refine Kr.alloc_ ?_ _ | refine Kr.drew ?_ | refine Kr.drewN ?_ _)) (by first | (intro b hb; simp [hb]; done) | (intro b hb; exact hb) | (intro b hb; simp at hb ⊢; grind)))
      · rw [HE.out.2] at hq2; exact hq2.mono (Kr.down (by repeat (first | (with_reducible exact Kr.refl _ _) | (with_reducible assumption) | refine Kr.setCell ?_ _ (by simp) | refine Kr.more ?_ _ _ | refine Kr.alloc_ ?_ _ | refine Kr.drew ?_ | refine Kr.drewN ?_ _)) (by first | (intro b hb; simp [hb]; done) | (intro b hb; exact hb) | (intro b hb; simp at hb ⊢; grind)))
  · have HE := Lib.hid (lowest_pos (a := a) (d := d) (by omega) : _ ∧ _)
    have hsg : d.sign = 1 := Int.sign_eq_one_of_pos (by omega)
    have HD := Lib.hid hd
    clear hd hneg
    go_enter Tryz.func65, Tryz.ntmps65
    go_wp2_with fail
    refine (r1gcd_ok _ ([w.heap.size, w.heap.size + 1, w.heap.size + 2] ++ ex) _ _ _ _ _ _ _ _ _ _ (hx.mono (Kr.fresh (l := [w.heap.size, w.heap.size + 1, w.heap.size + 2]) (by repeat first | with_reducible exact .refl .. | with_reducible assumption | refine .s ?_ ?_ | refine .m ?_ ?_ | refine .l ?_ ?_ | refine .d ?_ | refine .e ?_ | (simp <;> omega) | omega) (by simp))) (hy.mono (Kr.fresh (l := [w.heap.size, w.heap.size + 1, w.heap.size + 2]) (by repeat first | with_reducible exact .refl .. | with_reducible assumption | refine .s ?_ ?_ | refine .m ?_ ?_ | refine .l ?_ ?_ | refine .d ?_ | refine .e ?_ | (simp <;> omega) | omega) (by simp))) hw (by omega) (by omega) (hexs hex (by first | (simp; done) | (simp; omega) | omega) (by first | (simp; done) | (simp; omega) | omega))).mono ?_; rintro e w1 ⟨sg, Ag, mg, cg, X, D, rfl, rfl, hg⟩
    have hgl := HLg.out _ hg.len
    go_wp2_with fail
    refine (r1sign_ok _ ex _ _ _ _ _ (hy.mono (Kr.fresh (l := []) (by repeat first | with_reducible exact .refl .. | with_reducible assumption | refine .s ?_ ?_ | refine .m ?_ ?_ | refine .l ?_ ?_ | refine .d ?_ | refine .e ?_ | (simp <;> omega) | omega) (by simp)))).mono ?_; rintro e w1 ⟨X2, D2, rfl, rfl⟩
    rw [hsg]
    go_wp2_with fail
    have hhl := hgl
    have hh := hg
    go_region_held3 (fun w' => w'.cell? ⟨w.heap.size, 0, none⟩ = some (.bool s1) ∧ w'.cell? ⟨w.heap.size, 1, none⟩ = some (.slice A1 n1 c1) ∧ w'.cell? ⟨w.heap.size + 1, 0, none⟩ = some (.bool s2) ∧ w'.cell? ⟨w.heap.size + 1, 1, none⟩ = some (.slice A2 n2 c2) ∧ w'.cell? ⟨w.heap.size + 3 + X.size, 0, none⟩ = some (.bool sg) ∧ w'.cell? ⟨w.heap.size + 3 + X.size, 1, none⟩ = some (.slice Ag mg cg) ∧ w'.cell? ⟨w.heap.size + 2, 0, none⟩ = some (World.got w' (w.heap.size + 2) (0)) ∧ w'.cell? ⟨w.heap.size + 2, 1, none⟩ = some (World.got w' (w.heap.size + 2) (1)) ∧ w'.cell? ⟨w.heap.size + 2, 2, none⟩ = some (World.got w' (w.heap.size + 2) (2)) ∧ w'.cell? ⟨w.heap.size + 2, 3, none⟩ = some (World.got w' (w.heap.size + 2) (3)) ∧ w'.frozen? ⟨w.heap.size + 2, 0, none⟩ = false ∧ w'.frozen? ⟨w.heap.size + 2, 1, none⟩ = false ∧ w'.frozen? ⟨w.heap.size + 2, 2, none⟩ = false ∧ w'.frozen? ⟨w.heap.size + 2, 3, none⟩ = false)
      ((repeat' apply And.intro) <;> first | (simp [*, go_sem, ↓IntWalk.iteOmega]; done) | (refine got_of ?_; simp [*, go_sem, ↓IntWalk.iteOmega]; done))
      (first | (go_at_call 120; have hgo := Lib.hid hq; refine (r2exact_ok _ ([w.heap.size + 3 + X.size, w.heap.size, w.heap.size + 1, w.heap.size + 2] ++ ex) _ _ _ _ _ _ _ _ _ _ (hy.mono (Kr.fresh (l := [w.heap.size + 3 + X.size, w.heap.size, w.heap.size + 1, w.heap.size + 2]) (by repeat first | with_reducible exact .refl .. | with_reducible assumption | refine .s ?_ ?_ | refine .m ?_ ?_ | refine .l ?_ ?_ | refine .d ?_ | refine .e ?_ | (simp <;> omega) | omega) (by first | (simp; done) | (simp; omega) | omega))) (hh.mono (Kr.add (l := [w.heap.size + 3 + X.size]) (ex' := [w.heap.size, w.heap.size + 1, w.heap.size + 2] ++ ex) (by repeat (first | (with_reducible exact Kr.refl _ _) | (with_reducible assumption) | refine Kr.setCell ?_ _ (by simp) | refine Kr.more ?_ _ _ | refine Kr.alloc_ ?_ _ | refine Kr.drew ?_ | refine Kr.drewN ?_ _)) (by first | (simp; done) | (simp; omega) | omega))) HG0.out HGw.out (by omega) (by omega) (hexs hex (by first | (simp; done) | (simp; omega) | omega) (by first | (simp; done) | (simp; omega) | omega))).mono ?_; rintro e w1 ⟨sq2, Aq2, mq2, cq2, X5, D5, rfl, rfl, hq2⟩) | (go_at_call 120; refine (r2exact_ok _ ([w.heap.size + 3 + X.size, w.heap.size, w.heap.size + 1, w.heap.size + 2] ++ ex) _ _ _ _ _ _ _ _ _ _ (hx.mono (Kr.fresh (l := [w.heap.size + 3 + X.size, w.heap.size, w.heap.size + 1, w.heap.size + 2]) (by repeat first | with_reducible exact .refl .. | with_reducible assumption | refine .s ?_ ?_ | refine .m ?_ ?_ | refine .l ?_ ?_ | refine .d ?_ | refine .e ?_ | (simp <;> omega) | omega) (by first | (simp; done) | (simp; omega) | omega))) (hh.mono (Kr.add (l := [w.heap.size + 3 + X.size]) (ex' := [w.heap.size, w.heap.size + 1, w.heap.size + 2] ++ ex) (by repeat (first | (with_reducible exact Kr.refl _ _) | (with_reducible assumption) | refine Kr.setCell ?_ _ (by simp) | refine Kr.more ?_ _ _ | refine Kr.alloc_ ?_ _ | refine Kr.drew ?_ | refine Kr.drewN ?_ _)) (by first | (simp; done) | (simp; omega) | omega))) HG0.out HGw.out (by omega) (by omega) (hexs hex (by first | (simp; done) | (simp; omega) | omega) (by first | (simp; done) | (simp; omega) | omega))).mono ?_; rintro e w1 ⟨sq, Aq, mq, cq, X4, D4, rfl, rfl, hq⟩))
    all_goals
      go_wp2_with fail
      refine bodyPost_ret (v := .agg #[.bool sq, .slice Aq mq cq, .bool sq2, .slice Aq2 mq2 cq2]) (by simp [results, Tryz.results65, go_sem, ↓IntWalk.iteOmega]) rfl (RetQ.mk rfl (by repeat first | with_reducible exact .refl .. | with_reducible assumption | refine .s ?_ ?_ | refine .m ?_ ?_ | refine .l ?_ ?_ | refine .d ?_ | refine .e ?_ | (simp <;> omega) | omega) ?_ ?_)
      · rw [HE.out.1] at hq; exact hq.mono (Kr.down (by repeat (first | (with_reducible exact Kr.refl _ _) | (with_reducible assumption) | refine Kr.setCell ?_ _ (by simp) | refine Kr.more ?_ _ _ | refine Kr.alloc_ ?_ _ | refine Kr.drew ?_ | refine Kr.drewN ?_ _)) (by first | (intro b hb; simp [hb]; done) | (intro b hb; exact hb) | (intro b hb; simp at hb ⊢; grind)))
      · rw [HE.out.2] at hq2; exact hq2.mono (Kr.down (by repeat (first | (with_reducible exact Kr.refl _ _) | (with_reducible assumption) | refine Kr.setCell ?_ _ (by simp) | refine Kr.more ?_ _ _ | refine Kr.alloc_ ?_ _ | refine Kr.drew ?_ | refine Kr.drewN ?_ _)) (by first | (intro b hb; simp [hb]; done) | (intro b hb; exact hb) | (intro b hb; simp at hb ⊢; grind)))

end Go.Proofs.YthhdleppkggepaaGreat
