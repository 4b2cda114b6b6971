/-
  The walks of package integer: division and greatest common divisors; where the divisor has one word ('Wee').
-/
import Derived.Test.YthhdleppkggepaaGreatSb05

set_option linter.unusedSimpArgs false
set_option linter.unusedVariables false
set_option linter.unusedSectionVars false

namespace Go.Proofs.YthhdleppkggepaaGreat
open Go.RowKit Go.Deep
set_option maxRecDepth 100000

theorem World.more_more_ (w : World) (X Y : Array Obj) (D E : Nat) : (w.more X D).more Y E = w.more (X ++ Y) (D + E) := by
  simp [World.more, Array.append_assoc, Nat.add_assoc]

theorem hex0 {w w' : World} {ex : List Nat} (hex : ∀ b ∈ ex, b < w.heap.size) (hs : w.heap.size ≤ w'.heap.size) : ∀ b ∈ ex, b < w'.heap.size :=
  fun b hb => Nat.lt_of_lt_of_le (hex b hb) hs

/-- A divisor of one word. -/
def Wee (b : Nat) : Prop := b < 4294967296
theorem Wee.of {b : Nat} (hx : b < 4294967296) : Wee b := hx
theorem Wee.le {a b : Nat} (hx : Wee b) (hl : a ≤ b) : Wee a := Nat.lt_of_le_of_lt hl hx
theorem Wee.mod {a b : Nat} (hx : Wee b) (h0 : 0 < b) : Wee (a % b) := hx.le (Nat.le_of_lt (Nat.mod_lt a h0))

/-- Two slices of words. -/
def RetWW (w : World) (ex : List Nat) (us vs : List Nat) (e : Ending) (w' : World) : Prop :=
  ∃ A m c A' m' c' X D, e = .returned (.tuple #[.slice A m c, .slice A' m' c']) ∧ w' = w.more X D ∧ RW (w.more X D) ex A m c us ∧ RW (w.more X D) ex A' m' c' vs
theorem RetWW.mk {w w' : World} {ex us vs : List Nat} {A A' : Option Addr} {m c m' c' : Nat} {e : Ending} (he : e = .returned (.tuple #[.slice A m c, .slice A' m' c'])) (hb : Below w.heap.size w w')
    (hr : RW w' ex A m c us) (hr' : RW w' ex A' m' c' vs) : RetWW w ex us vs e w' := by
  obtain ⟨X, D, rfl⟩ := World.more_of_below hb
  exact ⟨A, m, c, A', m', c', X, D, he, rfl, hr, hr'⟩

set_option maxHeartbeats 1000000 in
theorem div_ok (w : World) (ex : List Nat) (A1 : Option Addr) (n1 c1 : Nat) (a : Nat) (A2 : Option Addr) (n2 c2 : Nat) (b : Nat)
    (hx : RW w ex A1 n1 c1 (digits a)) (hy : RW w ex A2 n2 c2 (digits b)) (hb0 : 0 < b) (hw : Wee b) (hn1 : n1 ≤ 100000000) (hn2 : n2 ≤ 100000000) (hex : ∀ b ∈ ex, b < w.heap.size) :
    Calls Tryz.prog 174 #[.slice A1 n1 c1, .slice A2 n2 c2] w (RetWW w ex (digits (a / b)) (digits (a % b))) := by
  by_cases hlt : a < b
  · have hc := cmpN_neg hlt
    have HQ : Hid (a / b = 0 ∧ a % b = a) := ⟨Nat.div_eq_of_lt hlt, Nat.mod_eq_of_lt hlt⟩
    rw [HQ.out.1, HQ.out.2]
    go_enter Tryz.func174, Tryz.ntmps174
    go_wp2_with fail
    refine (cmp_ok _ _ _ _ _ _ _ _ _ _ hx hy (by omega) (by omega)).mono ?_; rintro e w' ⟨rfl, D0, rfl⟩
    go_wp2_with fail
    go_ret2
    exact RetWW.mk rfl (by repeat first | with_reducible exact .refl .. | with_reducible assumption | refine .s ?_ ?_ | refine .m ?_ ?_ | refine .l ?_ ?_ | refine .d ?_ | refine .e ?_ | (simp <;> omega) | omega) (RW.nil _ _ _ _) (hx.mono (by repeat (first | (with_reducible exact Kr.refl _ _) | (with_reducible assumption) | refine Kr.setCell ?_ _ (by simp) | refine Kr.more ?_ _ _ | refine Kr.alloc_ ?_ _ | refine Kr.drew ?_ | refine Kr.drewN ?_ _)))
  · obtain ⟨v, hc, hv⟩ := cmpN_nonneg hlt
    have hdig : digits b = [b] := digits_small (by omega) hw
    have hn21 : n2 = 1 := by rw [hy.len, hdig]; rfl
    subst hn21
    obtain ⟨by_, oy, rfl, hby, hcy⟩ := hy.at_ (by omega)
    have hcelly : w.cell? ⟨by_, oy, none⟩ = some (.int .u32 (b : Int)) := by
      have := hcy 0 (by rw [hdig]; simp)
      simpa [hdig] using this
    have hbyl := hy.lt (by omega)
    have hbl : b < 4294967296 := hw
    have HY := Lib.hid hdig
    clear hcy hdig
    go_enter Tryz.func174, Tryz.ntmps174
    go_wp2_with fail
    refine (cmp_ok _ _ _ _ _ _ _ _ _ _ hx hy (by omega) (by omega)).mono ?_; rintro e w' ⟨rfl, D0, rfl⟩
    go_wp2_with fail
    refine (word_ok _ ex _ _ _ _ _ (hx.mono (by repeat (first | (with_reducible exact Kr.refl _ _) | (with_reducible assumption) | refine Kr.setCell ?_ _ (by simp) | refine Kr.more ?_ _ _ | refine Kr.alloc_ ?_ _ | refine Kr.drew ?_ | refine Kr.drewN ?_ _))) hb0 hbl (by omega) (hex0 hex (by first | (simp; done) | (simp; omega) | omega))).mono ?_; rintro e w' ⟨Aq, mq, cq, X, D, rfl, rfl, hq⟩
    rw [val_digits] at hq
    rw [val_digits]
    obtain ⟨r, hr⟩ : ∃ r : Nat, a % b = r := ⟨_, rfl⟩
    rw [hr]
    have hrl : r < 4294967296 := by rw [← hr]; exact Nat.lt_trans (Nat.mod_lt _ hb0) hbl
    have HR := Lib.hid hr
    clear hr
    go_wp2_with fail
    have hrow : RW ((((w.drewN D0).more X D)).alloc (.cells #[.int .u32 r] 192)) ex (some ⟨w.heap.size + X.size, 0, none⟩) 1 1 [r] := by
      refine ⟨rfl, Nat.le_refl _, fun _ => ⟨_, _, rfl, fun h => absurd (hex _ h) (by omega), fun i u hu => ?_⟩, fun x hx => ?_⟩
      · rw [Nat.zero_add, World.cell?_alloc_at _ _ _ _ (by simp)]; simpa [u32s] using hu
      · simp at hx; subst hx; exact hrl
    refine (norm_ok _ ex _ _ _ _ hrow (by omega)).mono ?_; rintro e w1 ⟨m, rfl, rfl, hres⟩
    go_wp2_with fail
    go_ret2
    refine RetWW.mk rfl (by repeat first | with_reducible exact .refl .. | with_reducible assumption | refine .s ?_ ?_ | refine .m ?_ ?_ | refine .l ?_ ?_ | refine .d ?_ | refine .e ?_ | (simp <;> omega) | omega) (hq.mono (by repeat (first | (with_reducible exact Kr.refl _ _) | (with_reducible assumption) | refine Kr.setCell ?_ _ (by simp) | refine Kr.more ?_ _ _ | refine Kr.alloc_ ?_ _ | refine Kr.drew ?_ | refine Kr.drewN ?_ _))) ?_
    rw [HR.out]
    simpa [val] using hres

theorem ediv_nonneg_ {a b : Int} (ha : 0 ≤ a) (hb : b ≠ 0) : (if (!decide (a < 0) == decide (b < 0)) = true then -((a.natAbs / b.natAbs : Nat) : Int) else ((a.natAbs / b.natAbs : Nat) : Int)) = a / b ∧ ((a.natAbs % b.natAbs : Nat) : Int) = a % b := by
  obtain ⟨m, rfl⟩ := Int.eq_ofNat_of_zero_le ha
  by_cases h : b < 0
  · obtain ⟨k, hk⟩ : ∃ k : Nat, b = -(k : Int) := ⟨b.natAbs, by omega⟩
    subst hk
    have : ¬ ((m : Int) < 0) := by omega
    have hk0 : k ≠ 0 := by omega
    simp [h, this, Int.ediv_neg, Int.emod_neg, hk0]
  · obtain ⟨k, rfl⟩ := Int.eq_ofNat_of_zero_le (show 0 ≤ b by omega)
    have h1 : ¬ ((m : Int) < 0) := by omega
    have h2 : ¬ ((k : Int) < 0) := by omega
    simp [h1, h2]
theorem ediv_neg0 {a b : Int} (ha : a < 0) (hb : b ≠ 0) (hr : a.natAbs % b.natAbs = 0) : (if (!decide (a < 0) == decide (b < 0)) = true then -((a.natAbs / b.natAbs : Nat) : Int) else ((a.natAbs / b.natAbs : Nat) : Int)) = a / b ∧ (0 : Int) = a % b := by
  have h1 := Nat.div_add_mod a.natAbs b.natAbs
  rw [hr, Nat.add_zero] at h1
  generalize a.natAbs / b.natAbs = q at *
  by_cases h : b < 0
  · obtain ⟨k, hk⟩ : ∃ k : Nat, b = -(k : Int) := ⟨b.natAbs, by omega⟩
    subst hk
    have hk0 : 0 < (k : Int) := by omega
    have hab : a = -((k : Int) * q) := by
      have : ((-(k : Int)).natAbs * q : Nat) = k * q := by simp
      rw [this] at h1
      have : ((k * q : Nat) : Int) = (k : Int) * q := by simp
      omega
    have := (Int.ediv_emod_unique (a := a) (r := 0) (q := -(q : Int)) hk0).2 ⟨by rw [hab, Int.mul_neg]; omega, by omega, by omega⟩
    have hk1 : k ≠ 0 := by omega
    simp [ha, h, Int.ediv_neg, Int.emod_neg, this.1, this.2, hk1]
  · obtain ⟨k, rfl⟩ := Int.eq_ofNat_of_zero_le (show 0 ≤ b by omega)
    have hk0 : 0 < (k : Int) := by omega
    have hab : a = -((k : Int) * q) := by
      have : ((k : Int).natAbs * q : Nat) = k * q := by simp
      rw [this] at h1
      have : ((k * q : Nat) : Int) = (k : Int) * q := by simp
      omega
    have := (Int.ediv_emod_unique (a := a) (r := 0) (q := -(q : Int)) hk0).2 ⟨by rw [hab, Int.mul_neg]; omega, by omega, by omega⟩
    simp [ha, h, this.1, this.2]
theorem ediv_neg1 {a b : Int} (ha : a < 0) (hb : b ≠ 0) (hr : 0 < a.natAbs % b.natAbs) : (if (!decide (a < 0) == decide (b < 0)) = true then -((a.natAbs / b.natAbs + 1 : Nat) : Int) else ((a.natAbs / b.natAbs + 1 : Nat) : Int)) = a / b ∧ ((b.natAbs - a.natAbs % b.natAbs : Nat) : Int) = a % b := by
  have h1 := Nat.div_add_mod a.natAbs b.natAbs
  have h2 := Nat.mod_lt a.natAbs (show 0 < b.natAbs by omega)
  generalize a.natAbs / b.natAbs = q at *
  generalize a.natAbs % b.natAbs = r at *
  by_cases h : b < 0
  · obtain ⟨k, hk⟩ : ∃ k : Nat, b = -(k : Int) := ⟨b.natAbs, by omega⟩
    subst hk
    have hk0 : 0 < (k : Int) := by omega
    have hkk : (-(k : Int)).natAbs = k := by simp
    rw [hkk] at h1 h2 ⊢
    have hab : a = -((k : Int) * q) - r := by
      have : ((k * q : Nat) : Int) = (k : Int) * q := by simp
      omega
    have := (Int.ediv_emod_unique (a := a) (r := ((k - r : Nat) : Int)) (q := -((q : Int) + 1)) hk0).2 ⟨by rw [hab, Int.mul_neg, Int.mul_add]; omega, by omega, by omega⟩
    simp only [Int.ediv_neg, Int.emod_neg, this.1, this.2]
    have hk1 : k ≠ 0 := by omega
    simp [ha, h, hk1]
  · obtain ⟨k, rfl⟩ := Int.eq_ofNat_of_zero_le (show 0 ≤ b by omega)
    have hk0 : 0 < (k : Int) := by omega
    have hkk : (k : Int).natAbs = k := by simp
    rw [hkk] at h1 h2 ⊢
    have hab : a = -((k : Int) * q) - r := by
      have : ((k * q : Nat) : Int) = (k : Int) * q := by simp
      omega
    have := (Int.ediv_emod_unique (a := a) (r := ((k - r : Nat) : Int)) (q := -((q : Int) + 1)) hk0).2 ⟨by rw [hab, Int.mul_neg, Int.mul_add]; omega, by omega, by omega⟩
    simp only [this.1, this.2]
    simp [ha, h]


/-- Two integers and no error. -/
def RetIIE (w : World) (ex : List Nat) (y z : Int) (n : Int) (e : Ending) (w' : World) : Prop :=
  ∃ s A m c s' A' m' c' X D, e = .returned (.tuple #[.agg #[.bool s, .slice A m c], .agg #[.bool s', .slice A' m' c'], .int .i64 n]) ∧ w' = w.more X D ∧ RI (w.more X D) ex s A m c y ∧ RI (w.more X D) ex s' A' m' c' z
theorem RetIIE.mk {w w' : World} {ex : List Nat} {y z n : Int} {s s' : Bool} {A A' : Option Addr} {m c m' c' : Nat} {e : Ending} (he : e = .returned (.tuple #[.agg #[.bool s, .slice A m c], .agg #[.bool s', .slice A' m' c'], .int .i64 n]))
    (hb : Below w.heap.size w w') (hr : RI w' ex s A m c y) (hr' : RI w' ex s' A' m' c' z) : RetIIE w ex y z n e w' := by
  obtain ⟨X, D, rfl⟩ := World.more_of_below hb
  exact ⟨s, A, m, c, s', A', m', c', X, D, he, rfl, hr, hr'⟩

set_option maxHeartbeats 2000000 in
theorem divmod_ok (w : World) (ex : List Nat) (s1 : Bool) (A1 : Option Addr) (n1 c1 : Nat) (a : Int) (s2 : Bool) (A2 : Option Addr) (n2 c2 : Nat) (b : Int)
    (hx : RI w ex s1 A1 n1 c1 a) (hy : RI w ex s2 A2 n2 c2 b) (hb0 : b ≠ 0) (hw : Wee b.natAbs) (hn1 : n1 ≤ 10000000) (hn2 : n2 ≤ 10000000) (hex : ∀ b ∈ ex, b < w.heap.size) :
    Calls Tryz.prog 136 #[.agg #[.bool s1, .slice A1 n1 c1], .agg #[.bool s2, .slice A2 n2 c2]] w (RetIIE w ex (a / b) (a % b) 0) := by
  have hs1 := hx.sign
  have hs2 := hy.sign
  have hn0 : ¬ n2 = 0 := fun h => hb0 (hy.n0.1 h)
  have hn0i : ((n2 : Int) == 0) = false := by simp; omega
  have HLq : Hid (∀ m, m = (digits (a.natAbs / b.natAbs)).length → m ≤ 10000000) := by
    rintro m rfl
    have h1 := hx.len
    have := length_digits_mono (Nat.div_le_self a.natAbs b.natAbs)
    unfold wl at h1
    omega
  have HLr : Hid (∀ m, m = (digits (a.natAbs % b.natAbs)).length → m ≤ 10000000) := by
    rintro m rfl
    have h1 := hy.len
    have := length_digits_mono (Nat.le_of_lt (Nat.mod_lt a.natAbs (show 0 < b.natAbs by omega)))
    unfold wl at h1
    omega
  have HLd : Hid (∀ m k, m = (digits (b.natAbs - k)).length → m ≤ 100000000) := by
    rintro m k rfl
    have h1 := hy.len
    have := length_digits_mono (show b.natAbs - k ≤ b.natAbs by omega)
    unfold wl at h1
    omega
  have HLq1 : Hid (∀ m k, m = (digits (val (digits (a.natAbs / b.natAbs)) + k)).length → k ≤ 1 → m ≤ 100000000) := by
    rintro m k rfl hk
    have h2 := HLq.out _ rfl
    have h3 := length_digits_add (a.natAbs / b.natAbs) k
    have h4 : (digits k).length ≤ 1 := length_digits_le (by omega)
    rw [val_digits]
    omega
  have hfr : ∀ b ∈ [w.heap.size + 3, w.heap.size + 2], w.heap.size ≤ b := by simp
  cases s1
  · have hann : 0 ≤ a := by simpa using hs1
    have hE := ediv_nonneg_ hann hb0
    rw [← hs1, ← hs2] at hE
    have hE2 : (if s2 = true then -((a.natAbs / b.natAbs : Nat) : Int) else ((a.natAbs / b.natAbs : Nat) : Int)) = a / b ∧ ((a.natAbs % b.natAbs : Nat) : Int) = a % b := by
      refine ⟨?_, hE.2⟩
      rw [← hE.1]; cases s2 <;> rfl
    have HE := Lib.hid hE2
    clear hs1 hs2 hE hE2
    go_enter Tryz.func136, Tryz.ntmps136
    go_wp2_with fail
    refine (div_ok _ ([w.heap.size + 3, w.heap.size + 2] ++ ex) _ _ _ _ _ _ _ _ (hx.2.mono (Kr.fresh (by repeat first | with_reducible exact .refl .. | with_reducible assumption | refine .s ?_ ?_ | refine .m ?_ ?_ | refine .l ?_ ?_ | refine .d ?_ | refine .e ?_ | (simp <;> omega) | omega) hfr)) (hy.2.mono (Kr.fresh (by repeat first | with_reducible exact .refl .. | with_reducible assumption | refine .s ?_ ?_ | refine .m ?_ ?_ | refine .l ?_ ?_ | refine .d ?_ | refine .e ?_ | (simp <;> omega) | omega) hfr)) (by omega) hw (by omega) (by omega) (hexs hex (by first | (simp; done) | (simp; omega) | omega) (by first | (simp; done) | (simp; omega) | omega))).mono ?_; rintro e w' ⟨Aq, mq, cq, Ar, mr, cr, X, D, rfl, rfl, hq, hr⟩
    go_wp2_with fail
    refine (signed_ok _ _ _ _ _ _ _ hq (by have := HLq.out _ hq.len; omega) (hexs hex (by first | (simp; done) | (simp; omega) | omega) (by first | (simp; done) | (simp; omega) | omega))).mono ?_; rintro e w' ⟨s, A, m, c, X2, D2, rfl, rfl, hres⟩
    go_wp2_with fail
    refine (signed_ok _ _ _ _ _ _ _ (hr.mono (by repeat (first | (with_reducible exact Kr.refl _ _) | (with_reducible assumption) | refine Kr.setCell ?_ _ (by simp) | refine Kr.more ?_ _ _ | refine Kr.alloc_ ?_ _ | refine Kr.drew ?_ | refine Kr.drewN ?_ _))) (by have := HLr.out _ hr.len; omega) (hexs hex (by first | (simp; done) | (simp; omega) | omega) (by first | (simp; done) | (simp; omega) | omega))).mono ?_; rintro e w' ⟨s', A', m', c', X3, D3, rfl, rfl, hres'⟩
    go_wp2_with fail
    refine bodyPost_ret (v := .tuple #[.agg #[.bool s, .slice A m c], .agg #[.bool s', .slice A' m' c'], .int .i64 0]) (by simp [results, Tryz.results136, go_sem, ↓IntWalk.iteOmega]) rfl (RetIIE.mk rfl (by repeat first | with_reducible exact .refl .. | with_reducible assumption | refine .s ?_ ?_ | refine .m ?_ ?_ | refine .l ?_ ?_ | refine .d ?_ | refine .e ?_ | (simp <;> omega) | omega) ?_ ?_)
    · rw [val_digits, HE.out.1] at hres
      exact hres.mono (Kr.down (by repeat (first | (with_reducible exact Kr.refl _ _) | (with_reducible assumption) | refine Kr.setCell ?_ _ (by simp) | refine Kr.more ?_ _ _ | refine Kr.alloc_ ?_ _ | refine Kr.drew ?_ | refine Kr.drewN ?_ _)) (by first | (intro b hb; simp [hb]; done) | (intro b hb; exact hb) | (intro b hb; simp at hb ⊢; grind)))
    · rw [val_digits, if_neg (by simp), HE.out.2] at hres'
      exact hres'.mono (Kr.down (by repeat (first | (with_reducible exact Kr.refl _ _) | (with_reducible assumption) | refine Kr.setCell ?_ _ (by simp) | refine Kr.more ?_ _ _ | refine Kr.alloc_ ?_ _ | refine Kr.drew ?_ | refine Kr.drewN ?_ _)) (by first | (intro b hb; simp [hb]; done) | (intro b hb; exact hb) | (intro b hb; simp at hb ⊢; grind)))
  · have hann : a < 0 := by simpa using hs1
    by_cases hr0 : a.natAbs % b.natAbs = 0
    · have hE := ediv_neg0 hann hb0 hr0
      rw [← hs1, ← hs2] at hE
      have hE2 : (if (!s2) = true then -((a.natAbs / b.natAbs : Nat) : Int) else ((a.natAbs / b.natAbs : Nat) : Int)) = a / b ∧ (0 : Int) = a % b := by
        refine ⟨?_, hE.2⟩
        rw [← hE.1]; cases s2 <;> rfl
      have HE := Lib.hid hE2
      clear hE2
      have HR0 : Hid (digits (a.natAbs % b.natAbs) = []) := by show _ = _; rw [hr0]; rfl
      clear hs1 hs2 hE hr0
      go_enter Tryz.func136, Tryz.ntmps136
      go_wp2_with fail
      refine (div_ok _ ([w.heap.size + 3, w.heap.size + 2] ++ ex) _ _ _ _ _ _ _ _ (hx.2.mono (Kr.fresh (by repeat first | with_reducible exact .refl .. | with_reducible assumption | refine .s ?_ ?_ | refine .m ?_ ?_ | refine .l ?_ ?_ | refine .d ?_ | refine .e ?_ | (simp <;> omega) | omega) hfr)) (hy.2.mono (Kr.fresh (by repeat first | with_reducible exact .refl .. | with_reducible assumption | refine .s ?_ ?_ | refine .m ?_ ?_ | refine .l ?_ ?_ | refine .d ?_ | refine .e ?_ | (simp <;> omega) | omega) hfr)) (by omega) hw (by omega) (by omega) (hexs hex (by first | (simp; done) | (simp; omega) | omega) (by first | (simp; done) | (simp; omega) | omega))).mono ?_; rintro e w' ⟨Aq, mq, cq, Ar, mr, cr, X, D, rfl, rfl, hq, hr⟩
      rw [HR0.out] at hr
      obtain rfl : mr = 0 := by simpa using hr.len
      go_wp2_with fail
      refine (signed_ok _ _ _ _ _ _ _ hq (by have := HLq.out _ hq.len; omega) (hexs hex (by first | (simp; done) | (simp; omega) | omega) (by first | (simp; done) | (simp; omega) | omega))).mono ?_; rintro e w' ⟨s, A, m, c, X2, D2, rfl, rfl, hres⟩
      go_wp2_with fail
      refine (signed_ok _ _ _ _ _ _ _ (hr.mono (by repeat (first | (with_reducible exact Kr.refl _ _) | (with_reducible assumption) | refine Kr.setCell ?_ _ (by simp) | refine Kr.more ?_ _ _ | refine Kr.alloc_ ?_ _ | refine Kr.drew ?_ | refine Kr.drewN ?_ _))) (by omega) (hexs hex (by first | (simp; done) | (simp; omega) | omega) (by first | (simp; done) | (simp; omega) | omega))).mono ?_; rintro e w' ⟨s', A', m', c', X3, D3, rfl, rfl, hres'⟩
      go_wp2_with fail
      refine bodyPost_ret (v := .tuple #[.agg #[.bool s, .slice A m c], .agg #[.bool s', .slice A' m' c'], .int .i64 0]) (by simp [results, Tryz.results136, go_sem, ↓IntWalk.iteOmega]) rfl (RetIIE.mk rfl (by repeat first | with_reducible exact .refl .. | with_reducible assumption | refine .s ?_ ?_ | refine .m ?_ ?_ | refine .l ?_ ?_ | refine .d ?_ | refine .e ?_ | (simp <;> omega) | omega) ?_ ?_)
      · rw [val_digits, HE.out.1] at hres
        exact hres.mono (Kr.down (by repeat (first | (with_reducible exact Kr.refl _ _) | (with_reducible assumption) | refine Kr.setCell ?_ _ (by simp) | refine Kr.more ?_ _ _ | refine Kr.alloc_ ?_ _ | refine Kr.drew ?_ | refine Kr.drewN ?_ _)) (by first | (intro b hb; simp [hb]; done) | (intro b hb; exact hb) | (intro b hb; simp at hb ⊢; grind)))
      · rw [if_neg (by simp), show ((val [] : Nat) : Int) = 0 from rfl, HE.out.2] at hres'
        exact hres'.mono (Kr.down (by repeat (first | (with_reducible exact Kr.refl _ _) | (with_reducible assumption) | refine Kr.setCell ?_ _ (by simp) | refine Kr.more ?_ _ _ | refine Kr.alloc_ ?_ _ | refine Kr.drew ?_ | refine Kr.drewN ?_ _)) (by first | (intro b hb; simp [hb]; done) | (intro b hb; exact hb) | (intro b hb; simp at hb ⊢; grind)))
    · have hE := ediv_neg1 hann hb0 (by omega)
      rw [← hs1, ← hs2] at hE
      have hE2 : (if (!s2) = true then -((a.natAbs / b.natAbs + 1 : Nat) : Int) else ((a.natAbs / b.natAbs + 1 : Nat) : Int)) = a / b ∧ ((b.natAbs - a.natAbs % b.natAbs : Nat) : Int) = a % b := by
        refine ⟨?_, hE.2⟩
        rw [← hE.1]; cases s2 <;> rfl
      have HE := Lib.hid hE2
      clear hE2
      have HR0 : Hid (0 < (digits (a.natAbs % b.natAbs)).length) := by
        show 0 < _
        rw [List.length_pos_iff]
        exact fun h => hr0 (digits_eq_nil.1 h)
      have hrb : a.natAbs % b.natAbs ≤ b.natAbs := Nat.le_of_lt (Nat.mod_lt _ (by omega))
      clear hs1 hs2 hE hr0
      go_enter Tryz.func136, Tryz.ntmps136
      go_wp2_with fail
      refine (div_ok _ ([w.heap.size + 3, w.heap.size + 2] ++ ex) _ _ _ _ _ _ _ _ (hx.2.mono (Kr.fresh (by repeat first | with_reducible exact .refl .. | with_reducible assumption | refine .s ?_ ?_ | refine .m ?_ ?_ | refine .l ?_ ?_ | refine .d ?_ | refine .e ?_ | (simp <;> omega) | omega) hfr)) (hy.2.mono (Kr.fresh (by repeat first | with_reducible exact .refl .. | with_reducible assumption | refine .s ?_ ?_ | refine .m ?_ ?_ | refine .l ?_ ?_ | refine .d ?_ | refine .e ?_ | (simp <;> omega) | omega) hfr)) (by omega) hw (by omega) (by omega) (hexs hex (by first | (simp; done) | (simp; omega) | omega) (by first | (simp; done) | (simp; omega) | omega))).mono ?_; rintro e w' ⟨Aq, mq, cq, Ar, mr, cr, X, D, rfl, rfl, hq, hr⟩
      have hmr : 0 < mr := by rw [hr.len]; exact HR0.out
      go_wp2_with fail
      refine (natural_ok _ ([w.heap.size + 3, w.heap.size + 2] ++ ex) 1 (by omega) (hexs hex (by first | (simp; done) | (simp; omega) | omega) (by first | (simp; done) | (simp; omega) | omega))).mono ?_; rintro e w' ⟨Ao, mo, co, X1, D1, rfl, rfl, ho⟩
      go_wp2_with fail
      refine (add_ok _ _ _ _ _ _ _ _ _ _ (hq.mono (by repeat (first | (with_reducible exact Kr.refl _ _) | (with_reducible assumption) | refine Kr.setCell ?_ _ (by simp) | refine Kr.more ?_ _ _ | refine Kr.alloc_ ?_ _ | refine Kr.drew ?_ | refine Kr.drewN ?_ _))) ho (by have := HLq.out _ hq.len; omega) (by have := ho.len; have := length_digits_le (n := 1) (k := 1) (by omega); omega) (hexs hex (by first | (simp; done) | (simp; omega) | omega) (by first | (simp; done) | (simp; omega) | omega))).mono ?_; rintro e w' ⟨Ap, mp, cp, X2, D2, rfl, rfl, hp⟩
      go_wp2_with fail
      refine (sub_ok _ ([w.heap.size + 3, w.heap.size + 2] ++ ex) _ _ _ _ _ _ _ _ (hy.2.mono (Kr.fresh (by repeat first | with_reducible exact .refl .. | with_reducible assumption | refine .s ?_ ?_ | refine .m ?_ ?_ | refine .l ?_ ?_ | refine .d ?_ | refine .e ?_ | (simp <;> omega) | omega) hfr)) (hr.mono (by repeat (first | (with_reducible exact Kr.refl _ _) | (with_reducible assumption) | refine Kr.setCell ?_ _ (by simp) | refine Kr.more ?_ _ _ | refine Kr.alloc_ ?_ _ | refine Kr.drew ?_ | refine Kr.drewN ?_ _))) hrb (by omega) (hexs hex (by first | (simp; done) | (simp; omega) | omega) (by first | (simp; done) | (simp; omega) | omega))).mono ?_; rintro e w' ⟨Ad, md, cd, X3, D3, rfl, rfl, hd⟩
      go_wp2_with fail
      refine (signed_ok _ _ _ _ _ _ _ (hp.mono (by repeat (first | (with_reducible exact Kr.refl _ _) | (with_reducible assumption) | refine Kr.setCell ?_ _ (by simp) | refine Kr.more ?_ _ _ | refine Kr.alloc_ ?_ _ | refine Kr.drew ?_ | refine Kr.drewN ?_ _))) (by have := HLq1.out _ _ hp.len (by rw [val_digits]; omega); omega) (hexs hex (by first | (simp; done) | (simp; omega) | omega) (by first | (simp; done) | (simp; omega) | omega))).mono ?_; rintro e w' ⟨s, A, m, c, X4, D4, rfl, rfl, hres⟩
      go_wp2_with fail
      refine (signed_ok _ _ _ _ _ _ _ (hd.mono (by repeat (first | (with_reducible exact Kr.refl _ _) | (with_reducible assumption) | refine Kr.setCell ?_ _ (by simp) | refine Kr.more ?_ _ _ | refine Kr.alloc_ ?_ _ | refine Kr.drew ?_ | refine Kr.drewN ?_ _))) (by have := HLd.out _ _ hd.len; omega) (hexs hex (by first | (simp; done) | (simp; omega) | omega) (by first | (simp; done) | (simp; omega) | omega))).mono ?_; rintro e w' ⟨s', A', m', c', X5, D5, rfl, rfl, hres'⟩
      go_wp2_with fail
      refine bodyPost_ret (v := .tuple #[.agg #[.bool s, .slice A m c], .agg #[.bool s', .slice A' m' c'], .int .i64 0]) (by simp [results, Tryz.results136, go_sem, ↓IntWalk.iteOmega]) rfl (RetIIE.mk rfl (by repeat first | with_reducible exact .refl .. | with_reducible assumption | refine .s ?_ ?_ | refine .m ?_ ?_ | refine .l ?_ ?_ | refine .d ?_ | refine .e ?_ | (simp <;> omega) | omega) ?_ ?_)
      · rw [val_digits, val_digits, val_digits, HE.out.1] at hres
        exact hres.mono (Kr.down (by repeat (first | (with_reducible exact Kr.refl _ _) | (with_reducible assumption) | refine Kr.setCell ?_ _ (by simp) | refine Kr.more ?_ _ _ | refine Kr.alloc_ ?_ _ | refine Kr.drew ?_ | refine Kr.drewN ?_ _)) (by first | (intro b hb; simp [hb]; done) | (intro b hb; exact hb) | (intro b hb; simp at hb ⊢; grind)))
      · rw [val_digits, if_neg (by simp), HE.out.2] at hres'
        exact hres'.mono (Kr.down (by repeat (first | (with_reducible exact Kr.refl _ _) | (with_reducible assumption) | refine Kr.setCell ?_ _ (by simp) | refine Kr.more ?_ _ _ | refine Kr.alloc_ ?_ _ | refine Kr.drew ?_ | refine Kr.drewN ?_ _)) (by first | (intro b hb; simp [hb]; done) | (intro b hb; exact hb) | (intro b hb; simp at hb ⊢; grind)))

end Go.Proofs.YthhdleppkggepaaGreat

/-
  The walk of integer.Gcd, where the second number has one word ('Wee').
-/
namespace Go.Proofs.YthhdleppkggepaaGreat
open Go.RowKit Go.Deep
set_option maxRecDepth 100000

theorem World.drewN_more (w : World) (n : Nat) : w.drewN n = w.more #[] n := by simp [World.more, World.drewN]

set_option maxHeartbeats 1000000 in
theorem gcd_ok (w : World) (ex : List Nat) (s1 : Bool) (A1 : Option Addr) (n1 c1 : Nat) (a : Int) (s2 : Bool) (A2 : Option Addr) (n2 c2 : Nat) (b : Int)
    (hx : RI w ex s1 A1 n1 c1 a) (hy : RI w ex s2 A2 n2 c2 b) (hw : Wee b.natAbs) (hn1 : n1 ≤ 10000000) (hn2 : n2 ≤ 10000000) (hex : ∀ b ∈ ex, b < w.heap.size) :
    Calls Tryz.prog 138 #[.agg #[.bool s1, .slice A1 n1 c1], .agg #[.bool s2, .slice A2 n2 c2]] w (RetI w ex (Int.gcd a b : Int)) := by
  have hx0 := hx.2.mono (Kr.fresh (l := [w.heap.size + 2]) (w' := ((w.alloc (.cells #[.bool s1, .slice A1 n1 c1] 57)).alloc (.cells #[.bool s2, .slice A2 n2 c2] 57)).alloc (.cells #[.bool false, .slice none 0 0] 57)) (by repeat first | with_reducible exact .refl .. | with_reducible assumption | refine .s ?_ ?_ | refine .m ?_ ?_ | refine .l ?_ ?_ | refine .d ?_ | refine .e ?_ | (simp <;> omega) | omega) (by simp))
  have hy0 := hy.2.mono (Kr.fresh (l := [w.heap.size + 2]) (w' := ((w.alloc (.cells #[.bool s1, .slice A1 n1 c1] 57)).alloc (.cells #[.bool s2, .slice A2 n2 c2] 57)).alloc (.cells #[.bool false, .slice none 0 0] 57)) (by repeat first | with_reducible exact .refl .. | with_reducible assumption | refine .s ?_ ?_ | refine .m ?_ ?_ | refine .l ?_ ?_ | refine .d ?_ | refine .e ?_ | (simp <;> omega) | omega) (by simp))
  go_enter Tryz.func138, Tryz.ntmps138
  go_wp2_with fail
  go_quiet (fail)
  go_wp2_with fail
  go_loopg [5, 6] b.natAbs (fun k u v wr => ∃ (X : Array Obj) (D : Nat) (A : Option Addr) (m c p : Nat) (A' : Option Addr) (m' c' : Nat), u = .slice A m c ∧ v = .slice A' m' c' ∧ m ≤ 10000000 ∧ m' ≤ 10000000 ∧
      wr = (((w.alloc (.cells #[.bool s1, .slice A1 n1 c1] 57)).alloc (.cells #[.bool s2, .slice A2 n2 c2] 57)).alloc (.cells #[.bool false, .slice none 0 0] 57)).more X D ∧
      RW wr ([w.heap.size + 2] ++ ex) A m c (digits p) ∧ RW wr ([w.heap.size + 2] ++ ex) A' m' c' (digits k) ∧ Wee k ∧ Hid (Nat.gcd p k = Int.gcd a b))
  case atStart =>
    refine ⟨#[], _, _, _, _, a.natAbs, _, _, _, rfl, rfl, hn1, hn2, World.drewN_more _ _, hx0.mono (by repeat (first | (with_reducible exact Kr.refl _ _) | (with_reducible assumption) | refine Kr.setCell ?_ _ (by simp) | refine Kr.more ?_ _ _ | refine Kr.alloc_ ?_ _ | refine Kr.drew ?_ | refine Kr.drewN ?_ _)), hy0.mono (by repeat (first | (with_reducible exact Kr.refl _ _) | (with_reducible assumption) | refine Kr.setCell ?_ _ (by simp) | refine Kr.more ?_ _ _ | refine Kr.alloc_ ?_ _ | refine Kr.drew ?_ | refine Kr.drewN ?_ _)), hw, rfl⟩
  case round =>
    obtain ⟨X, D, A, m, c, p, A', m', c', rfl, rfl, hm, hm', rfl, hp, hq, hwk, HG⟩ := hrel
    have hm0 : m' = 0 ↔ gk = 0 := by rw [hq.len, List.length_eq_zero_iff, digits_eq_nil]
    by_cases hk : gk = 0
    · obtain rfl : m' = 0 := hm0.2 hk
      have HK := Lib.hid hk
      clear hm0 hk
      go_wp2_with fail
      refine (signed_ok _ _ _ _ _ _ _ hp (by omega) (hexs hex (by first | (simp; done) | (simp; omega) | omega) (by first | (simp; done) | (simp; omega) | omega))).mono ?_; rintro e w' ⟨s, Az, mz, cz, X3, D3, rfl, rfl, hres⟩
      go_wp2_with fail
      refine bodyPost_ret (v := .agg #[.bool s, .slice Az mz cz]) (by simp [results, Tryz.results138, go_sem, ↓IntWalk.iteOmega]) rfl (RetI.mk rfl (by repeat first | with_reducible exact .refl .. | with_reducible assumption | refine .s ?_ ?_ | refine .m ?_ ?_ | refine .l ?_ ?_ | refine .d ?_ | refine .e ?_ | (simp <;> omega) | omega) ?_)
      have h := HG.out
      rw [HK.out, Nat.gcd_zero_right] at h
      rw [val_digits, if_neg (by simp), h] at hres
      exact hres.mono (Kr.down (by repeat (first | (with_reducible exact Kr.refl _ _) | (with_reducible assumption) | refine Kr.setCell ?_ _ (by simp) | refine Kr.more ?_ _ _ | refine Kr.alloc_ ?_ _ | refine Kr.drew ?_ | refine Kr.drewN ?_ _)) (by first | (intro b hb; simp [hb]; done) | (intro b hb; exact hb) | (intro b hb; simp at hb ⊢; grind)))
    · have hmp : 0 < m' := by omega
      have hk0 : 0 < gk := by omega
      have hml : (digits (p % gk)).length ≤ 10000000 := by
        have := hq.len
        have := length_digits_mono (Nat.le_of_lt (Nat.mod_lt p hk0))
        omega
      have hmd := Nat.mod_lt p hk0
      have HK := Lib.hid hk
      clear hm0 hk
      go_wp2_with fail
      refine (div_ok _ ([w.heap.size + 2] ++ ex) _ _ _ _ _ _ _ _ hp hq hk0 hwk (by omega) (by omega) (hexs hex (by first | (simp; done) | (simp; omega) | omega) (by first | (simp; done) | (simp; omega) | omega))).mono ?_; rintro e w' ⟨Aq, mq, cq, Ar, mr, cr, X2, D2, rfl, rfl, hq2, hr2⟩
      go_wp2_with fail
      go_roundg (p % gk)
      case measure => exact hmd
      case rel =>
        refine ⟨X ++ X2, D + D2, _, _, _, gk, _, _, _, rfl, rfl, hm', by rw [hr2.len]; exact hml, World.more_more_ _ _ _ _ _, hq.mono (by repeat (first | (with_reducible exact Kr.refl _ _) | (with_reducible assumption) | refine Kr.setCell ?_ _ (by simp) | refine Kr.more ?_ _ _ | refine Kr.alloc_ ?_ _ | refine Kr.drew ?_ | refine Kr.drewN ?_ _)), hr2, hwk.mod hk0, ?_⟩
        show _ = _
        rw [← HG.out, Nat.gcd_comm gk, ← Nat.gcd_rec, Nat.gcd_comm]

end Go.Proofs.YthhdleppkggepaaGreat

/-
  Rational numbers: how they are read; the law of reduction.
-/
namespace Go.Proofs.YthhdleppkggepaaGreat
open Go.RowKit Go.Deep
set_option maxRecDepth 100000

theorem lowest_pos {a d : Int} (hd : 0 < d) : a / (Int.gcd a d : Int) = (Rat.divInt a d).num ∧ d / (Int.gcd a d : Int) = ((Rat.divInt a d).den : Int) := by
  rw [Rat.num_divInt, Rat.den_divInt, if_neg (by omega), Int.sign_eq_one_of_pos hd, Int.one_mul, Int.gcd_comm a d]
  refine ⟨rfl, ?_⟩
  obtain ⟨n, rfl⟩ := Int.eq_ofNat_of_zero_le (Int.le_of_lt hd)
  simp
theorem lowest_neg {a d : Int} (hd : d < 0) : a / -(Int.gcd a d : Int) = (Rat.divInt a d).num ∧ d / -(Int.gcd a d : Int) = ((Rat.divInt a d).den : Int) := by
  rw [Rat.num_divInt, Rat.den_divInt, if_neg (by omega), Int.sign_eq_neg_one_of_neg hd, Int.ediv_neg, Int.ediv_neg, Int.gcd_comm a d]
  refine ⟨?_, ?_⟩
  · rw [Int.neg_one_mul, Int.neg_ediv_of_dvd]
    exact Int.gcd_dvd_right ..
  · obtain ⟨n, hn⟩ : ∃ n : Nat, d = -(n : Int) := ⟨d.natAbs, by omega⟩
    subst hn
    rw [Int.neg_ediv_of_dvd, Int.neg_neg]
    · simp
    · have := Int.gcd_dvd_left (-(n:Int)) a
      rwa [Int.dvd_neg] at this

/-- A rational number: two integers. -/
structure RQ (w : World) (ex : List Nat) (s1 : Bool) (A1 : Option Addr) (n1 c1 : Nat) (s2 : Bool) (A2 : Option Addr) (n2 c2 : Nat) (q : Rat) : Prop where
  num : RI w ex s1 A1 n1 c1 q.num
  den : RI w ex s2 A2 n2 c2 (q.den : Int)
theorem RQ.mono {w w' : World} {ex ex' : List Nat} {s1 : Bool} {A1 : Option Addr} {n1 c1 : Nat} {s2 : Bool} {A2 : Option Addr} {n2 c2 : Nat} {q : Rat}
    (h : RQ w ex s1 A1 n1 c1 s2 A2 n2 c2 q) (k : Kr w ex w' ex') : RQ w' ex' s1 A1 n1 c1 s2 A2 n2 c2 q := ⟨h.num.mono k, h.den.mono k⟩
def RetQ (w : World) (ex : List Nat) (q : Rat) (e : Ending) (w' : World) : Prop :=
  ∃ s1 A1 n1 c1 s2 A2 n2 c2 X D, e = .returned (.agg #[.bool s1, .slice A1 n1 c1, .bool s2, .slice A2 n2 c2]) ∧ w' = w.more X D ∧ RQ (w.more X D) ex s1 A1 n1 c1 s2 A2 n2 c2 q
theorem RetQ.mk {w w' : World} {ex : List Nat} {q : Rat} {s1 : Bool} {A1 : Option Addr} {n1 c1 : Nat} {s2 : Bool} {A2 : Option Addr} {n2 c2 : Nat} {e : Ending}
    (he : e = .returned (.agg #[.bool s1, .slice A1 n1 c1, .bool s2, .slice A2 n2 c2])) (hb : Below w.heap.size w w') (hr : RI w' ex s1 A1 n1 c1 q.num) (hr2 : RI w' ex s2 A2 n2 c2 (q.den : Int)) : RetQ w ex q e w' := by
  obtain ⟨X, D, rfl⟩ := World.more_of_below hb
  exact ⟨s1, A1, n1, c1, s2, A2, n2, c2, X, D, he, rfl, hr, hr2⟩

theorem Kr.add {w w' : World} {ex ex' l : List Nat} (k : Kr w ex w' ex') (hl : ∀ b ∈ l, w.heap.size ≤ b) : Kr w ex w' (l ++ ex') :=
  ⟨k.size, fun b hb hx hh => by
    rcases List.mem_append.1 hh with h1 | h1
    · have := hl b h1; omega
    · exact k.out b hb hx h1, k.same⟩

/-- How many words a result has at most. -/
theorem wl_gcd_le (a d : Int) : wl (Int.gcd a d : Int) ≤ max (wl a) (wl d) := by
  by_cases ha : a = 0
  · subst ha; rw [Int.gcd_zero_left]; have : wl ((d.natAbs : Nat) : Int) = wl d := by unfold wl; rw [Int.natAbs_natCast]
    omega
  · have : wl (Int.gcd a d : Int) ≤ wl a := wl_le_of_natAbs (by
      rw [Int.natAbs_natCast]; exact Nat.le_of_dvd (by omega) (Int.gcd_dvd_natAbs_left a d))
    omega
theorem gcd_natAbs_le {a d : Int} (hd : d ≠ 0) : Int.gcd a d ≤ d.natAbs := Nat.le_of_dvd (by omega) (Int.gcd_dvd_natAbs_right a d)
theorem gcd_ne {a d : Int} (hd : d ≠ 0) : (Int.gcd a d : Int) ≠ 0 := by
  intro h
  have : Int.gcd a d = 0 := by omega
  exact hd (Int.gcd_eq_zero_iff.1 this).2

end Go.Proofs.YthhdleppkggepaaGreat

/-
  The walks of package monomial and of its reference: validity and degree of eight exponents.
-/
namespace Go.Proofs.YthhdleppkggepaaGreat
open Go.RowKit Go.Deep
set_option maxRecDepth 100000

theorem idx8 (e0 e1 e2 e3 e4 e5 e6 e7 : Int) (k : Nat) (hk : k < 8) (w : World) :
    (Instr.index 68 (.agg #[.int .i64 e0, .int .i64 e1, .int .i64 e2, .int .i64 e3, .int .i64 e4, .int .i64 e5, .int .i64 e6, .int .i64 e7]) (.int .i64 k)).run Tryz.prog w = .ok (.int .i64 ([e0, e1, e2, e3, e4, e5, e6, e7].getD k 0)) w := by
  have hs : (Tryz.prog.info? 3).map (fun i => i.size) = some 1 := by kernel_rfl
  obtain ⟨i, hi, hsz⟩ := Option.map_eq_some_iff.1 hs
  have h0 : (0 : Int) ≤ k ∧ (k : Int) < 8 := by omega
  obtain rfl | rfl | rfl | rfl | rfl | rfl | rfl | rfl : k = 0 ∨ k = 1 ∨ k = 2 ∨ k = 3 ∨ k = 4 ∨ k = 5 ∨ k = 6 ∨ k = 7 := by omega
  all_goals
    simp [Instr.index, run_underlying Tryz.underlying68, asIntOf, go_sem, sizeOf, typeInfo, hi, hsz]
theorem cell8 (w : World) (t : TypeId) (e0 e1 e2 e3 e4 e5 e6 e7 : Int) (k : Nat) (hk : k < 8) :
    (w.alloc (.cells #[.int .i64 e0, .int .i64 e1, .int .i64 e2, .int .i64 e3, .int .i64 e4, .int .i64 e5, .int .i64 e6, .int .i64 e7] t)).cell? ⟨w.heap.size, k, none⟩ = some (.int .i64 ([e0, e1, e2, e3, e4, e5, e6, e7].getD k 0)) := by
  rw [World.cell?_alloc_new]
  obtain rfl | rfl | rfl | rfl | rfl | rfl | rfl | rfl : k = 0 ∨ k = 1 ∨ k = 2 ∨ k = 3 ∨ k = 4 ∨ k = 5 ∨ k = 6 ∨ k = 7 := by omega
  all_goals rfl
/-- Exponents in their range. -/
def Exps (m : List Int) : Prop := ∀ k, 0 ≤ m.getD k 0 ∧ m.getD k 0 ≤ 65535
theorem sum_take_succ (l : List Int) (k : Nat) : (l.take (k + 1)).sum = (l.take k).sum + l.getD k 0 := by
  induction l generalizing k with
  | nil => simp
  | cons a r ih =>
    cases k with
    | zero => simp
    | succ k => simp only [List.take_succ_cons, List.sum_cons, ih, List.getD_cons_succ]; omega
theorem sum_bound {m : List Int} (hm : Exps m) (k : Nat) : 0 ≤ (m.take k).sum ∧ (m.take k).sum ≤ 65535 * k := by
  induction k with
  | zero => simp
  | succ k ih => rw [sum_take_succ]; have := hm k; omega

set_option maxHeartbeats 1000000 in
theorem mvalid_ok (w : World) (e0 e1 e2 e3 e4 e5 e6 e7 : Int) (hm : Exps [e0, e1, e2, e3, e4, e5, e6, e7]) :
    Calls Tryz.prog 130 #[.agg #[.int .i64 e0, .int .i64 e1, .int .i64 e2, .int .i64 e3, .int .i64 e4, .int .i64 e5, .int .i64 e6, .int .i64 e7]] w (RetV w (.bool true)) := by
  have HM := Lib.hid hm; clear hm
  go_enter Tryz.func130, Tryz.ntmps130
  go_wp2_with fail
  go_loopw [6] (fun i wr => ∃ k : Nat, k ≤ 8 ∧ i = .int .i64 k ∧ wr = w.alloc (.cells #[.int .i64 e0, .int .i64 e1, .int .i64 e2, .int .i64 e3, .int .i64 e4, .int .i64 e5, .int .i64 e6, .int .i64 e7] 68)) (fun i _ => 8 - (intOf i).toNat)
  case atStart => exact ⟨0, Nat.zero_le _, rfl, rfl⟩
  case round =>
    obtain ⟨k, hk, rfl, rfl⟩ := hrel
    by_cases hlt : k < 8
    · have hidx := idx8 e0 e1 e2 e3 e4 e5 e6 e7 k hlt
      have hb := HM.out k
      obtain ⟨x, hx⟩ : ∃ x : Int, [e0, e1, e2, e3, e4, e5, e6, e7].getD k 0 = x := ⟨_, rfl⟩
      rw [hx] at hb hidx
      obtain ⟨hb1, hb2⟩ := hb
      have HX := Lib.hid hx; clear hx
      go_wp2_with fail
      go_roundw
      case rel => exact ⟨k + 1, by omega, by go_num, by trivial⟩
      case measure => simp [intOf]; omega
    · go_wp2_with fail
      go_ret
      exact RetV.mk rfl (by repeat first | with_reducible exact .refl .. | with_reducible assumption | refine .s ?_ ?_ | refine .m ?_ ?_ | refine .l ?_ ?_ | refine .d ?_ | refine .e ?_ | (simp <;> omega) | omega)

set_option maxHeartbeats 1000000 in
theorem r4valid_ok (w : World) (e0 e1 e2 e3 e4 e5 e6 e7 : Int) (hm : Exps [e0, e1, e2, e3, e4, e5, e6, e7]) :
    Calls Tryz.prog 121 #[.agg #[.int .i64 e0, .int .i64 e1, .int .i64 e2, .int .i64 e3, .int .i64 e4, .int .i64 e5, .int .i64 e6, .int .i64 e7]] w (RetV w (.bool true)) := by
  have HM := Lib.hid hm; clear hm
  go_enter Tryz.func121, Tryz.ntmps121
  go_wp2_with fail
  go_loopw [3] (fun i wr => ∃ k : Nat, k ≤ 8 ∧ i = .int .i64 k ∧ wr = w.alloc (.cells #[.int .i64 e0, .int .i64 e1, .int .i64 e2, .int .i64 e3, .int .i64 e4, .int .i64 e5, .int .i64 e6, .int .i64 e7] 68)) (fun i _ => 8 - (intOf i).toNat)
  case atStart => exact ⟨0, Nat.zero_le _, rfl, rfl⟩
  case round =>
    obtain ⟨k, hk, rfl, rfl⟩ := hrel
    by_cases hlt : k < 8
    · have hcell := cell8 w 68 e0 e1 e2 e3 e4 e5 e6 e7 k hlt
      have hb := HM.out k
      obtain ⟨x, hx⟩ : ∃ x : Int, [e0, e1, e2, e3, e4, e5, e6, e7].getD k 0 = x := ⟨_, rfl⟩
      rw [hx] at hb hcell
      obtain ⟨hb1, hb2⟩ := hb
      have HX := Lib.hid hx; clear hx
      go_wp2_with fail
      go_roundw
      case rel => exact ⟨k + 1, by omega, by go_num, by trivial⟩
      case measure => simp [intOf]; omega
    · go_wp2_with fail
      go_ret
      exact RetV.mk rfl (by repeat first | with_reducible exact .refl .. | with_reducible assumption | refine .s ?_ ?_ | refine .m ?_ ?_ | refine .l ?_ ?_ | refine .d ?_ | refine .e ?_ | (simp <;> omega) | omega)

set_option maxHeartbeats 1000000 in
theorem mdegree_ok (w : World) (e0 e1 e2 e3 e4 e5 e6 e7 : Int) (hm : Exps [e0, e1, e2, e3, e4, e5, e6, e7]) :
    Calls Tryz.prog 91 #[.agg #[.int .i64 e0, .int .i64 e1, .int .i64 e2, .int .i64 e3, .int .i64 e4, .int .i64 e5, .int .i64 e6, .int .i64 e7]] w (RetV w (.int .i64 [e0, e1, e2, e3, e4, e5, e6, e7].sum)) := by
  have HM := Lib.hid hm; clear hm
  go_enter Tryz.func91, Tryz.ntmps91
  go_wp2_with fail
  go_loopw [3, 7] (fun n i wr => ∃ k : Nat, k ≤ 8 ∧ i = .int .i64 k ∧ n = .int .i64 ([e0, e1, e2, e3, e4, e5, e6, e7].take k).sum ∧ wr = w.alloc (.cells #[.int .i64 e0, .int .i64 e1, .int .i64 e2, .int .i64 e3, .int .i64 e4, .int .i64 e5, .int .i64 e6, .int .i64 e7] 68)) (fun _ i _ => 8 - (intOf i).toNat)
  case atStart => exact ⟨0, Nat.zero_le _, rfl, rfl, rfl⟩
  case round =>
    obtain ⟨k, hk, rfl, rfl, rfl⟩ := hrel
    obtain ⟨s1, s2⟩ := sum_bound HM.out k
    by_cases hlt : k < 8
    · have hidx := idx8 e0 e1 e2 e3 e4 e5 e6 e7 k hlt
      have hb := HM.out k
      have hstep := sum_take_succ [e0, e1, e2, e3, e4, e5, e6, e7] k
      obtain ⟨x, hx⟩ : ∃ x : Int, [e0, e1, e2, e3, e4, e5, e6, e7].getD k 0 = x := ⟨_, rfl⟩
      obtain ⟨y, hy⟩ : ∃ y : Int, ([e0, e1, e2, e3, e4, e5, e6, e7].take k).sum = y := ⟨_, rfl⟩
      rw [hx] at hb hidx hstep
      rw [hy] at s1 s2 hstep
      rw [hy]
      obtain ⟨hb1, hb2⟩ := hb
      have HX := Lib.hid hx; clear hx
      have HY := Lib.hid hy; clear hy
      have HS := Lib.hid hstep; clear hstep
      go_wp2_with fail
      go_roundw
      case rel => exact ⟨k + 1, by omega, by go_num, by rw [HS.out], by trivial⟩
      case measure => simp [intOf]; omega
    · obtain rfl : k = 8 := by omega
      obtain ⟨y, hy⟩ : ∃ y : Int, ([e0, e1, e2, e3, e4, e5, e6, e7].take 8).sum = y := ⟨_, rfl⟩
      rw [hy]
      have HY := Lib.hid hy; clear hy
      go_wp2_with fail
      go_ret
      exact RetV.mk (by rw [← HY.out]; rfl) (by repeat first | with_reducible exact .refl .. | with_reducible assumption | refine .s ?_ ?_ | refine .m ?_ ?_ | refine .l ?_ ?_ | refine .d ?_ | refine .e ?_ | (simp <;> omega) | omega)

set_option maxHeartbeats 1000000 in
theorem r4degree_ok (w : World) (e0 e1 e2 e3 e4 e5 e6 e7 : Int) (hm : Exps [e0, e1, e2, e3, e4, e5, e6, e7]) :
    Calls Tryz.prog 153 #[.agg #[.int .i64 e0, .int .i64 e1, .int .i64 e2, .int .i64 e3, .int .i64 e4, .int .i64 e5, .int .i64 e6, .int .i64 e7]] w (RetV w (.int .i64 [e0, e1, e2, e3, e4, e5, e6, e7].sum)) := by
  have HM := Lib.hid hm; clear hm
  go_enter Tryz.func153, Tryz.ntmps153
  go_wp2_with fail
  go_loopw [3, 4] (fun n i wr => ∃ k : Nat, k ≤ 8 ∧ i = .int .i64 k ∧ n = .int .i64 ([e0, e1, e2, e3, e4, e5, e6, e7].take k).sum ∧ wr = w.alloc (.cells #[.int .i64 e0, .int .i64 e1, .int .i64 e2, .int .i64 e3, .int .i64 e4, .int .i64 e5, .int .i64 e6, .int .i64 e7] 68)) (fun _ i _ => 8 - (intOf i).toNat)
  case atStart => exact ⟨0, Nat.zero_le _, rfl, rfl, rfl⟩
  case round =>
    obtain ⟨k, hk, rfl, rfl, rfl⟩ := hrel
    obtain ⟨s1, s2⟩ := sum_bound HM.out k
    by_cases hlt : k < 8
    · have hcell := cell8 w 68 e0 e1 e2 e3 e4 e5 e6 e7 k hlt
      have hb := HM.out k
      have hstep := sum_take_succ [e0, e1, e2, e3, e4, e5, e6, e7] k
      obtain ⟨x, hx⟩ : ∃ x : Int, [e0, e1, e2, e3, e4, e5, e6, e7].getD k 0 = x := ⟨_, rfl⟩
      obtain ⟨y, hy⟩ : ∃ y : Int, ([e0, e1, e2, e3, e4, e5, e6, e7].take k).sum = y := ⟨_, rfl⟩
      rw [hx] at hb hcell hstep
      rw [hy] at s1 s2 hstep
      rw [hy]
      obtain ⟨hb1, hb2⟩ := hb
      have HX := Lib.hid hx; clear hx
      have HY := Lib.hid hy; clear hy
      have HS := Lib.hid hstep; clear hstep
      go_wp2_with fail
      go_roundw
      case rel => exact ⟨k + 1, by omega, by go_num, by rw [HS.out], by trivial⟩
      case measure => simp [intOf]; omega
    · obtain rfl : k = 8 := by omega
      obtain ⟨y, hy⟩ : ∃ y : Int, ([e0, e1, e2, e3, e4, e5, e6, e7].take 8).sum = y := ⟨_, rfl⟩
      rw [hy]
      have HY := Lib.hid hy; clear hy
      go_wp2_with fail
      go_ret
      exact RetV.mk (by rw [← HY.out]; rfl) (by repeat first | with_reducible exact .refl .. | with_reducible assumption | refine .s ?_ ?_ | refine .m ?_ ?_ | refine .l ?_ ?_ | refine .d ?_ | refine .e ?_ | (simp <;> omega) | omega)

end Go.Proofs.YthhdleppkggepaaGreat
