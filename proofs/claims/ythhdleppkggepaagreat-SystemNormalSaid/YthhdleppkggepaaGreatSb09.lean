/-
  The walks of the reference of package integer: order, division by one word, greatest common divisors of words.
-/
import Derived.Test.YthhdleppkggepaaGreatSb08

set_option linter.unusedSimpArgs false
set_option linter.unusedVariables false
set_option linter.unusedSectionVars false

namespace Go.Proofs.YthhdleppkggepaaGreat
open Go.RowKit Go.Deep
set_option maxRecDepth 100000

/-- A slice of words and a number of 64 bits. -/
def RetWM (w : World) (ex : List Nat) (ws : List Nat) (k : Nat) (e : Ending) (w' : World) : Prop :=
  ∃ A m c X D, e = .returned (.tuple #[.slice A m c, .int .u64 k]) ∧ w' = w.more X D ∧ RW (w.more X D) ex A m c ws
theorem RetWM.mk {w w' : World} {ex ws : List Nat} {k : Nat} {A : Option Addr} {m c : Nat} {e : Ending} (he : e = .returned (.tuple #[.slice A m c, .int .u64 k])) (hb : Below w.heap.size w w') (hr : RW w' ex A m c ws) : RetWM w ex ws k e w' := by
  obtain ⟨X, D, rfl⟩ := World.more_of_below hb
  exact ⟨A, m, c, X, D, he, rfl, hr⟩

set_option maxHeartbeats 1000000 in
theorem r1shortly_ok (w : World) (ex : List Nat) (A : Option Addr) (n c : Nat) (xs : List Nat) (d : Nat) (hx : RW w ex A n c xs) (hd : 0 < d) (hdl : d < 4294967296) (hn : n ≤ 1000000000) (hex : ∀ b ∈ ex, b < w.heap.size) :
    Calls Tryz.prog 220 #[.slice A n c, .int .u64 d] w (RetWM w ex (digits (val xs / d)) (val xs % d)) := by
  have HX := Lib.hid hx.len
  have HEX := Lib.hid hex
  clear hex
  have hmk := makeU32 (n : Int) n rfl (by omega)
  have hd0 : ((d : Int) != 0) = true := by simp; omega
  have hd1 : ((d : Int) == 0) = false := by simp; omega
  go_enter Tryz.func220, Tryz.ntmps220
  go_wp2_with fail
  go_loopw [7, 8] (fun rs i wr => ∃ (j r : Nat) (os : List Nat), j ≤ n ∧ i = .int .i64 ((n : Int) - 1 - j) ∧ rs = .int .u64 r ∧ r < d ∧ Buf 192 wr w.heap.size os ∧ Hid (os.length = n) ∧ Wd os ∧
      Hid (val (xs.drop (n - j)) = val (os.drop (n - j)) * d + r) ∧ Below w.heap.size w wr) (fun _ i _ => ((intOf i) + 1).toNat)
  case atStart =>
    refine ⟨0, 0, _, Nat.zero_le _, by simp, rfl, hd, Buf.new _ _ _, List.length_replicate, wd_replicate _, ?_, (Below.refl _ _).alloc (Nat.le_refl _) _⟩
    show _ = _
    rw [Nat.sub_zero, List.drop_of_length_le (by have := HX.out; omega), List.drop_of_length_le (by simp)]; simp [val]
  case round =>
    clear hmk
    obtain ⟨j, r, os, hj, rfl, rfl, hr, hbuf, HO, hwd, HV, hb⟩ := hrel
    have hxw := hx.mono (Kr.of_below hb ex)
    by_cases hlt : j < n
    · obtain ⟨K, hK⟩ : ∃ K : Nat, (n : Int) - 1 - (j : Int) = (K : Int) := ⟨n - 1 - j, by omega⟩
      rw [hK]
      have hKn : K < n := by omega
      have hko : K < os.length := by have := HO.out; omega
      have hkx : K < xs.length := by have := HX.out; omega
      have hcell := hbuf.cell hko
      have hfroz := hbuf.frozen K
      obtain ⟨bx, ox, rfl, hbx, hcx⟩ := hxw.at_ (by omega)
      have hcellx := hcx K hkx
      have HCX := Lib.hid hcx; clear hcx
      have hbl := hx.lt (by omega)
      obtain ⟨x, hX⟩ : ∃ x : Nat, xs[K] = x := ⟨_, rfl⟩
      have hxl : x < 4294967296 := by rw [← hX]; exact hx.wd _ (List.getElem_mem hkx)
      rw [hX] at hcellx
      have HXj := Lib.hid hX; clear hX
      have HV2 : Hid (val (xs.drop (K + 1)) = val (os.drop (K + 1)) * d + r) := by
        rw [show K + 1 = n - j from by omega]; exact HV
      have hql : (r * 4294967296 + x) / d < 4294967296 := by
        rw [Nat.div_lt_iff_lt_mul hd]
        have := Nat.mul_le_mul_left 4294967296 (show r + 1 ≤ d from hr)
        omega
      have hrl : (r * 4294967296 + x) % d < d := Nat.mod_lt _ hd
      obtain ⟨T, hT⟩ : ∃ T : Nat, r * 4294967296 + x = T := ⟨_, rfl⟩
      have hTi : (r : Int) * 4294967296 + (x : Int) = (T : Int) := by omega
      rw [hT] at hql hrl
      obtain ⟨q, hq⟩ : ∃ q : Nat, T / d = q := ⟨_, rfl⟩
      obtain ⟨m, hm⟩ : ∃ m : Nat, T % d = m := ⟨_, rfl⟩
      rw [hq] at hql
      rw [hm] at hrl
      have hqi : (T : Int) / (d : Int) = (q : Int) := by rw [← hq]; rfl
      have hmi : (T : Int) % (d : Int) = (m : Int) := by rw [← hm]; rfl
      have hqw : (q : Int) % 4294967296 = (q : Int) := by omega
      have hTl : T ≤ 18446744073709551615 := by omega
      have HQ : Hid ((r * 4294967296 + x) / d = q) := by rw [hT]; exact hq
      have HM : Hid ((r * 4294967296 + x) % d = m) := by rw [hT]; exact hm
      have HKj := Lib.hid hK
      clear hT hq hm hK
      go_wp2_with fail
      go_roundw
      case rel =>
        refine ⟨j + 1, m, os.set K q, by omega, (by have := HKj.out; go_num), (by first | rfl | rw [hmi]), hrl, (hbuf.set K q).of rfl, by simpa using HO, hwd.set _ hql, ?_, hb.setCell (p := ⟨w.heap.size, K, none⟩) (Nat.le_refl _) (.int .u32 (q : Int))⟩
        show _ = _
        rw [show n - (j + 1) = K from by have := HKj.out; omega, ← HQ.out, ← HM.out]
        exact word_step hkx hko HXj.out HV2.out
      case measure => have := HKj.out; simp [intOf]
    · obtain rfl : n = j := by omega
      go_wp2_with fail
      have hrw : RW wr ex (some ⟨w.heap.size, 0, none⟩) n n os := hbuf.rw_ (fun h => absurd (HEX.out _ h) (by omega)) hwd (by have := HO.out; omega) (Nat.le_refl _)
      refine (r1trim_ok _ ex _ _ _ _ hrw (by omega)).mono ?_; rintro e w1 ⟨m, rfl, rfl, hres⟩
      go_wp2_with fail
      go_ret2
      have hv := HV.out
      rw [Nat.sub_self, List.drop_zero, List.drop_zero] at hv
      have h1 : val xs / d = val os := by rw [hv, Nat.mul_comm, Nat.mul_add_div hd, Nat.div_eq_of_lt hr]; simp
      have h2 : val xs % d = r := by rw [hv, Nat.mul_comm, Nat.mul_add_mod, Nat.mod_eq_of_lt hr]
      rw [h1, h2]
      exact RetWM.mk rfl hb hres

theorem val_number {ws : List Nat} (h : ws.length ≤ 2) : ws.getD 1 0 * 4294967296 + ws.getD 0 0 = val ws := by
  match ws, h with
  | [], _ => rfl
  | [a], _ => simp [val]
  | [a, b], _ => simp only [List.getD_cons_succ, List.getD_cons_zero, val]; omega

set_option maxHeartbeats 400000 in
theorem r1number_ok (w : World) (ex : List Nat) (A : Option Addr) (n c : Nat) (ws : List Nat) (hx : RW w ex A n c ws) (hn : n ≤ 2) :
    Calls Tryz.prog 200 #[.slice A n c] w fun e w' => e = .returned (.int .u64 (val ws : Nat)) ∧ w' = w := by
  have HV : Hid (ws.getD 1 0 * 4294967296 + ws.getD 0 0 = val ws) := val_number (by have := hx.len; omega)
  have h0 := getD_lt hx.wd 0
  have h1 := getD_lt hx.wd 1
  obtain ⟨x, hx0⟩ : ∃ x : Nat, ws.getD 0 0 = x := ⟨_, rfl⟩
  obtain ⟨y, hx1⟩ : ∃ y : Nat, ws.getD 1 0 = y := ⟨_, rfl⟩
  rw [hx0] at h0 HV
  rw [hx1] at h1 HV
  have HX0 := Lib.hid hx0
  have HX1 := Lib.hid hx1
  clear hx0 hx1
  go_enter Tryz.func200, Tryz.ntmps200
  go_wp2_with fail
  refine (r1word_ok w ex _ _ _ ws hx _ (by omega)).mono ?_; rintro e w1 ⟨rfl, rfl⟩
  rw [show (1 : Int).toNat = 1 from rfl, HX1.out]
  go_wp2_with fail
  refine (r1word_ok _ ex _ _ _ ws hx _ (by omega)).mono ?_; rintro e w1 ⟨rfl, rfl⟩
  rw [show (0 : Int).toNat = 0 from rfl, HX0.out]
  go_wp2_with fail
  go_ret
  exact ⟨by rw [← HV.out]; simp, rfl⟩

set_option maxHeartbeats 400000 in
theorem r1euclid_ok (w : World) (a b : Nat) (ha : a < 18446744073709551616) (hb : b < 18446744073709551616) :
    Calls Tryz.prog 199 #[.int .u64 a, .int .u64 b] w fun e w' => e = .returned (.int .u64 (Nat.gcd a b : Nat)) ∧ w' = w := by
  go_enter Tryz.func199, Tryz.ntmps199
  go_wp2_with fail
  go_loopg [0, 1] b (fun k u v wr => ∃ p : Nat, u = .int .u64 p ∧ v = .int .u64 k ∧ p < 18446744073709551616 ∧ k < 18446744073709551616 ∧ Hid (Nat.gcd p k = Nat.gcd a b) ∧ wr = w)
  case atStart => exact ⟨a, rfl, rfl, ha, hb, rfl, rfl⟩
  case round =>
    obtain ⟨p, rfl, rfl, hp, hk, HG, rfl⟩ := hrel
    by_cases hk0 : gk = 0
    · subst hk0
      have hz : ((0 : Nat) : Int) = 0 := rfl
      go_wp2_with fail
      go_ret
      have h := HG.out
      rw [Nat.gcd_zero_right] at h
      exact ⟨by rw [h]; rfl, rfl⟩
    · have hkp : 0 < gk := by omega
      obtain ⟨m, hm⟩ : ∃ m : Nat, p % gk = m := ⟨_, rfl⟩
      have hml := Nat.mod_lt p hkp
      rw [hm] at hml
      have hmi : (p : Int) % (gk : Int) = (m : Int) := by rw [← hm]; rfl
      have hd0 : ((gk : Int) != 0) = true := by simp; omega
      have hd1 : ((gk : Int) == 0) = false := by simp; omega
      have HM := Lib.hid hm; clear hm hk0
      go_wp2_with fail
      go_roundg m
      case measure => exact hml
      case rel =>
        refine ⟨gk, rfl, (by first | rfl | rw [hmi]), hk, by omega, ?_, rfl⟩
        show _ = _
        rw [← HG.out, ← HM.out, Nat.gcd_comm gk, ← Nat.gcd_rec, Nat.gcd_comm]


end Go.Proofs.YthhdleppkggepaaGreat

/-
  The walks of the reference of package integer: order, division by one word, greatest common divisors of words.
-/
namespace Go.Proofs.YthhdleppkggepaaGreat
open Go.RowKit Go.Deep
set_option maxRecDepth 100000

theorem RW.one {w : World} {ex : List Nat} {g : Nat} {x : Nat} (hex : ∀ b ∈ ex, b < g) (hx : x < 4294967296) (hc : w.cell? ⟨g, 0, none⟩ = some (.int .u32 (x : Int))) : RW w ex (some ⟨g, 0, none⟩) 1 1 [x] := by
  refine ⟨rfl, Nat.le_refl _, fun _ => ⟨_, _, rfl, fun h => absurd (hex _ h) (by omega), fun i u hu => ?_⟩, fun y hy => ?_⟩
  · rcases i with _ | i
    · simp [u32s] at hu; subst hu; exact hc
    · simp [u32s] at hu
  · simp at hy; subst hy; exact hx

set_option maxHeartbeats 1000000 in
theorem r1divided_ok (w : World) (ex : List Nat) (A1 : Option Addr) (n1 c1 : Nat) (a : Nat) (A2 : Option Addr) (n2 c2 : Nat) (b : Nat)
    (hx : RW w ex A1 n1 c1 (digits a)) (hy : RW w ex A2 n2 c2 (digits b)) (hb0 : 0 < b) (hw : Wee b) (hn1 : n1 ≤ 100000000) (hn2 : n2 ≤ 100000000) (hex : ∀ b ∈ ex, b < w.heap.size) :
    Calls Tryz.prog 190 #[.slice A1 n1 c1, .slice A2 n2 c2] w (RetWW w ex (digits (a / b)) (digits (a % b))) := by
  by_cases hlt : a < b
  · have hc := cmpN_neg hlt
    have HQ : Hid (a / b = 0 ∧ a % b = a) := ⟨Nat.div_eq_of_lt hlt, Nat.mod_eq_of_lt hlt⟩
    rw [HQ.out.1, HQ.out.2]
    go_enter Tryz.func190, Tryz.ntmps190
    go_wp2_with fail
    refine (r1compared_ok _ _ _ _ _ _ _ _ _ _ hx hy (by omega) (by omega)).mono ?_; rintro e w' ⟨rfl, D0, rfl⟩
    go_wp2_with fail
    go_ret2
    exact RetWW.mk rfl (by repeat first | with_reducible exact .refl .. | with_reducible assumption | refine .s ?_ ?_ | refine .m ?_ ?_ | refine .l ?_ ?_ | refine .d ?_ | refine .e ?_ | (simp <;> omega) | omega) (RW.nil _ _ _ _) (hx.mono (by repeat (first | (with_reducible exact Kr.refl _ _) | (with_reducible assumption) | refine Kr.setCell ?_ _ (by simp) | refine Kr.more ?_ _ _ | refine Kr.alloc_ ?_ _ | refine Kr.drew ?_ | refine Kr.drewN ?_ _)))
  · obtain ⟨v, hc, hv⟩ := cmpN_nonneg hlt
    have hdig : digits b = [b] := digits_small (by omega) hw
    have hn21 : n2 = 1 := by rw [hy.len, hdig]; rfl
    subst hn21
    obtain ⟨by_, oy, rfl, hby, hcy⟩ := hy.at_ (by omega)
    have hcelly : w.cell? ⟨by_, oy, none⟩ = some (.int .u32 (b : Int)) := by
      have := hcy 0 (by rw [hdig]; simp)
      simpa [hdig] using this
    have hbyl := hy.lt (by omega)
    have hbl : b < 4294967296 := hw
    clear hcy hdig
    go_enter Tryz.func190, Tryz.ntmps190
    go_wp2_with fail
    refine (r1compared_ok _ _ _ _ _ _ _ _ _ _ hx hy (by omega) (by omega)).mono ?_; rintro e w' ⟨rfl, D0, rfl⟩
    go_wp2_with fail
    refine (r1shortly_ok _ ex _ _ _ _ _ (hx.mono (by repeat (first | (with_reducible exact Kr.refl _ _) | (with_reducible assumption) | refine Kr.setCell ?_ _ (by simp) | refine Kr.more ?_ _ _ | refine Kr.alloc_ ?_ _ | refine Kr.drew ?_ | refine Kr.drewN ?_ _))) hb0 hbl (by omega) (hex0 hex (by first | (simp; done) | (simp; omega) | omega))).mono ?_; rintro e w' ⟨Aq, mq, cq, X, D, rfl, rfl, hq⟩
    rw [val_digits] at hq
    rw [val_digits]
    obtain ⟨r, hr⟩ : ∃ r : Nat, a % b = r := ⟨_, rfl⟩
    rw [hr]
    have hrl : r < 4294967296 := by rw [← hr]; exact Nat.lt_trans (Nat.mod_lt _ hb0) hbl
    have HR := Lib.hid hr
    clear hr
    go_wp2_with fail
    refine (r1words_ok _ ex r (by omega) (hex0 hex (by first | (simp; done) | (simp; omega) | omega))).mono ?_; rintro e w' ⟨Ar, mr, cr, X2, D2, rfl, rfl, hres⟩
    go_wp2_with fail
    go_ret2
    rw [HR.out]
    exact RetWW.mk rfl (by repeat first | with_reducible exact .refl .. | with_reducible assumption | refine .s ?_ ?_ | refine .m ?_ ?_ | refine .l ?_ ?_ | refine .d ?_ | refine .e ?_ | (simp <;> omega) | omega) (hq.mono (by repeat (first | (with_reducible exact Kr.refl _ _) | (with_reducible assumption) | refine Kr.setCell ?_ _ (by simp) | refine Kr.more ?_ _ _ | refine Kr.alloc_ ?_ _ | refine Kr.drew ?_ | refine Kr.drewN ?_ _))) hres


end Go.Proofs.YthhdleppkggepaaGreat

/-
  The walks of the reference of package integer: order, division by one word, greatest common divisors of words.
-/
namespace Go.Proofs.YthhdleppkggepaaGreat
open Go.RowKit Go.Deep
set_option maxRecDepth 100000

theorem gcd_lt_ {a b n : Nat} (ha : a < n) (hb : b < n) : Nat.gcd a b < n := by
  rcases Nat.eq_zero_or_pos a with h | h
  · subst h; rw [Nat.gcd_zero_left]; exact hb
  · exact Nat.lt_of_le_of_lt (Nat.gcd_le_left b h) ha
theorem two_words {a : Nat} (h : (digits a).length ≤ 2) : a < 18446744073709551616 := by
  have h1 := lt_pow_length a
  have h2 : 4294967296 ^ (digits a).length ≤ 4294967296 ^ 2 := Nat.pow_le_pow_right (by decide) h
  have h3 : 4294967296 ^ 2 = 18446744073709551616 := by decide
  omega

set_option maxHeartbeats 4000000 in
theorem r1common_ok (w : World) (ex : List Nat) (A1 : Option Addr) (n1 c1 : Nat) (a : Nat) (A2 : Option Addr) (n2 c2 : Nat) (b : Nat)
    (hx : RW w ex A1 n1 c1 (digits a)) (hy : RW w ex A2 n2 c2 (digits b)) (hw : Wee b) (hn1 : n1 ≤ 10000000) (hn2 : n2 ≤ 10000000) (hex : ∀ b ∈ ex, b < w.heap.size) :
    Calls Tryz.prog 163 #[.slice A1 n1 c1, .slice A2 n2 c2] w (RetW w ex (digits (Nat.gcd a b))) := by
  go_enter Tryz.func163, Tryz.ntmps163
  go_wp2_with fail
  go_loopg [0, 1] b (fun k u v wr => ∃ (X : Array Obj) (D : Nat) (A : Option Addr) (m c p : Nat) (A' : Option Addr) (m' c' : Nat), u = .slice A m c ∧ v = .slice A' m' c' ∧ m ≤ 10000000 ∧ m' ≤ 10000000 ∧
      wr = w.more X D ∧ RW wr ex A m c (digits p) ∧ RW wr ex A' m' c' (digits k) ∧ Wee k ∧ Hid (Nat.gcd p k = Nat.gcd a b))
  case atStart =>
    refine ⟨#[], _, _, _, _, a, _, _, _, rfl, rfl, hn1, hn2, World.more_self _, hx, hy, hw, rfl⟩
  case round =>
    obtain ⟨X, D, A, m, c, p, A', m', c', rfl, rfl, hm, hm', rfl, hp, hq, hwk, HG⟩ := hrel
    have hm0 : m' = 0 ↔ gk = 0 := by rw [hq.len, List.length_eq_zero_iff, digits_eq_nil]
    by_cases hk : gk = 0
    · obtain rfl : m' = 0 := hm0.2 hk
      have HK := Lib.hid hk
      clear hm0 hk
      go_wp2_with fail
      go_ret
      have h := HG.out
      rw [HK.out, Nat.gcd_zero_right] at h
      rw [h] at hp
      exact RetW.mk rfl (by repeat first | with_reducible exact .refl .. | with_reducible assumption | refine .s ?_ ?_ | refine .m ?_ ?_ | refine .l ?_ ?_ | refine .d ?_ | refine .e ?_ | (simp <;> omega) | omega) hp
    · have hmp : 0 < m' := by omega
      have hk0 : 0 < gk := by omega
      have hml : (digits (p % gk)).length ≤ 10000000 := by
        have := hq.len
        have := length_digits_mono (Nat.le_of_lt (Nat.mod_lt p hk0))
        omega
      have hmd := Nat.mod_lt p hk0
      have HK := Lib.hid hk
      clear hm0 hk
      by_cases hsm : m ≤ 2 ∧ m' ≤ 2
      · obtain ⟨hs1, hs2⟩ := hsm
        have hpl : p < 18446744073709551616 := two_words (by have := hp.len; omega)
        have hkl : gk < 18446744073709551616 := two_words (by have := hq.len; omega)
        go_wp2_with fail
        refine (r1number_ok _ _ _ _ _ _ hp hs1).mono ?_; rintro e w1 ⟨rfl, rfl⟩
        rw [val_digits]
        go_wp2_with fail
        refine (r1number_ok _ _ _ _ _ _ hq hs2).mono ?_; rintro e w1 ⟨rfl, rfl⟩
        rw [val_digits]
        go_wp2_with fail
        refine (r1euclid_ok _ _ _ hpl hkl).mono ?_; rintro e w1 ⟨rfl, rfl⟩
        rw [HG.out]
        go_wp2_with fail
        refine (r1words_ok _ ex _ (by rw [← HG.out]; exact gcd_lt_ hpl hkl) (hex0 hex (by first | (simp; done) | (simp; omega) | omega))).mono ?_; rintro e w' ⟨Ar, mr, cr, X2, D2, rfl, rfl, hres⟩
        go_wp2_with fail
        go_ret
        exact RetW.mk rfl (by repeat first | with_reducible exact .refl .. | with_reducible assumption | refine .s ?_ ?_ | refine .m ?_ ?_ | refine .l ?_ ?_ | refine .d ?_ | refine .e ?_ | (simp <;> omega) | omega) hres
      · have hsm1 : 2 < m ∨ 2 < m' := by omega
        have hdig : digits gk = [gk] := digits_small (Nat.ne_of_gt hk0) hwk
        have hm1 : m' = 1 := by rw [hq.len, hdig]; rfl
        have hsm2 : 2 < m := by omega
        clear hsm hsm1 hdig
        subst hm1
        go_wp2_with fail
        refine (r1divided_ok _ ex _ _ _ _ _ _ _ _ hp hq hk0 hwk (by omega) (by omega) (hex0 hex (by first | (simp; done) | (simp; omega) | omega))).mono ?_; rintro e w' ⟨Aq, mq, cq, Ar, mr, cr, X2, D2, rfl, rfl, hq2, hr2⟩
        go_wp2_with fail
        go_roundg (p % gk)
        case measure => exact hmd
        case rel =>
          refine ⟨X ++ X2, D + D2, _, _, _, gk, _, _, _, rfl, rfl, hm', by rw [hr2.len]; exact hml, World.more_more_ _ _ _ _ _, hq.mono (by repeat (first | (with_reducible exact Kr.refl _ _) | (with_reducible assumption) | refine Kr.setCell ?_ _ (by simp) | refine Kr.more ?_ _ _ | refine Kr.alloc_ ?_ _ | refine Kr.drew ?_ | refine Kr.drewN ?_ _)), hr2, hwk.mod hk0, ?_⟩
          show _ = _
          rw [← HG.out, Nat.gcd_comm gk, ← Nat.gcd_rec, Nat.gcd_comm]

end Go.Proofs.YthhdleppkggepaaGreat

/-
  The walks of the reference of package integer: integers.
-/
namespace Go.Proofs.YthhdleppkggepaaGreat
open Go.RowKit Go.Deep
set_option maxRecDepth 100000

set_option maxHeartbeats 2000000 in
theorem r1divmod_ok (w : World) (ex : List Nat) (s1 : Bool) (A1 : Option Addr) (n1 c1 : Nat) (a : Int) (s2 : Bool) (A2 : Option Addr) (n2 c2 : Nat) (b : Int)
    (hx : RI w ex s1 A1 n1 c1 a) (hy : RI w ex s2 A2 n2 c2 b) (hb0 : b ≠ 0) (hw : Wee b.natAbs) (hn1 : n1 ≤ 10000000) (hn2 : n2 ≤ 10000000) (hex : ∀ b ∈ ex, b < w.heap.size) :
    Calls Tryz.prog 149 #[.agg #[.bool s1, .slice A1 n1 c1], .agg #[.bool s2, .slice A2 n2 c2]] w (RetIIE w ex (a / b) (a % b) 0) := by
  have hs1 := hx.sign
  have hs2 := hy.sign
  have hn0 : ¬ n2 = 0 := fun h => hb0 (hy.n0.1 h)
  have hn0i : ((n2 : Int) == 0) = false := by simp; omega
  have HLq : Hid (∀ m, m = (digits (a.natAbs / b.natAbs)).length → m ≤ 10000000) := by
    rintro m rfl
    have h1 := hx.len
    have := length_digits_mono (Nat.div_le_self a.natAbs b.natAbs)
    unfold wl at h1
    omega
  have HLr : Hid (∀ m, m = (digits (a.natAbs % b.natAbs)).length → m ≤ 10000000) := by
    rintro m rfl
    have h1 := hy.len
    have := length_digits_mono (Nat.le_of_lt (Nat.mod_lt a.natAbs (show 0 < b.natAbs by omega)))
    unfold wl at h1
    omega
  have HLd : Hid (∀ m k, m = (digits (b.natAbs - k)).length → m ≤ 100000000) := by
    rintro m k rfl
    have h1 := hy.len
    have := length_digits_mono (show b.natAbs - k ≤ b.natAbs by omega)
    unfold wl at h1
    omega
  have HLq1 : Hid (∀ m k, m = (digits (val (digits (a.natAbs / b.natAbs)) + k)).length → k ≤ 1 → m ≤ 100000000) := by
    rintro m k rfl hk
    have h2 := HLq.out _ rfl
    have h3 := length_digits_add (a.natAbs / b.natAbs) k
    have h4 : (digits k).length ≤ 1 := length_digits_le (by omega)
    rw [val_digits]
    omega
  have hfr : ∀ b ∈ [w.heap.size + 3, w.heap.size + 2], w.heap.size ≤ b := by simp
  cases s1
  · have hann : 0 ≤ a := by simpa using hs1
    have hE := ediv_nonneg_ hann hb0
    rw [← hs1, ← hs2] at hE
    have hE2 : (if s2 = true then -((a.natAbs / b.natAbs : Nat) : Int) else ((a.natAbs / b.natAbs : Nat) : Int)) = a / b ∧ ((a.natAbs % b.natAbs : Nat) : Int) = a % b := by
      refine ⟨?_, hE.2⟩
      rw [← hE.1]; cases s2 <;> rfl
    have HE := Lib.hid hE2
    clear hs1 hs2 hE hE2
    go_enter Tryz.func149, Tryz.ntmps149
    go_wp2_with fail
    refine (r1divided_ok _ ([w.heap.size + 3, w.heap.size + 2] ++ ex) _ _ _ _ _ _ _ _ (hx.2.mono (Kr.fresh (by repeat first | with_reducible exact .refl .. | with_reducible assumption | refine .s ?_ ?_ | refine .m ?_ ?_ | refine .l ?_ ?_ | refine .d ?_ | refine .e ?_ | (simp <;> omega) | omega) hfr)) (hy.2.mono (Kr.fresh (by repeat first | with_reducible exact .refl .. | with_reducible assumption | refine .s ?_ ?_ | refine .m ?_ ?_ | refine .l ?_ ?_ | refine .d ?_ | refine .e ?_ | (simp <;> omega) | omega) hfr)) (by omega) hw (by omega) (by omega) (hexs hex (by first | (simp; done) | (simp; omega) | omega) (by first | (simp; done) | (simp; omega) | omega))).mono ?_; rintro e w' ⟨Aq, mq, cq, Ar, mr, cr, X, D, rfl, rfl, hq, hr⟩
    go_wp2_with fail
    refine (r1made_ok _ ([w.heap.size + 3, w.heap.size + 2] ++ ex) _ _ _ _ _ hq (by have := HLq.out _ hq.len; omega)).mono ?_; rintro e w' ⟨s, A, m, c, X2, D2, rfl, rfl, hres⟩
    go_wp2_with fail
    refine (r1made_ok _ ([w.heap.size + 3, w.heap.size + 2] ++ ex) _ _ _ _ _ (hr.mono (by repeat (first | (with_reducible exact Kr.refl _ _) | (with_reducible assumption) | refine Kr.setCell ?_ _ (by simp) | refine Kr.more ?_ _ _ | refine Kr.alloc_ ?_ _ | refine Kr.drew ?_ | refine Kr.drewN ?_ _))) (by have := HLr.out _ hr.len; omega)).mono ?_; rintro e w' ⟨s', A', m', c', X3, D3, rfl, rfl, hres'⟩
    go_wp2_with fail
    refine bodyPost_ret (v := .tuple #[.agg #[.bool s, .slice A m c], .agg #[.bool s', .slice A' m' c'], .int .i64 0]) (by simp [results, Tryz.results149, go_sem, ↓IntWalk.iteOmega]) rfl (RetIIE.mk rfl (by repeat first | with_reducible exact .refl .. | with_reducible assumption | refine .s ?_ ?_ | refine .m ?_ ?_ | refine .l ?_ ?_ | refine .d ?_ | refine .e ?_ | (simp <;> omega) | omega) ?_ ?_)
    · rw [val_digits, HE.out.1] at hres
      exact hres.mono (Kr.down (by repeat (first | (with_reducible exact Kr.refl _ _) | (with_reducible assumption) | refine Kr.setCell ?_ _ (by simp) | refine Kr.more ?_ _ _ | refine Kr.alloc_ ?_ _ | refine Kr.drew ?_ | refine Kr.drewN ?_ _)) (by first | (intro b hb; simp [hb]; done) | (intro b hb; exact hb) | (intro b hb; simp at hb ⊢; grind)))
    · rw [val_digits, if_neg (by simp), HE.out.2] at hres'
      exact hres'.mono (Kr.down (by repeat (first | (with_reducible exact Kr.refl _ _) | (with_reducible assumption) | refine Kr.setCell ?_ _ (by simp) | refine Kr.more ?_ _ _ | refine Kr.alloc_ ?_ _ | refine Kr.drew ?_ | refine Kr.drewN ?_ _)) (by first | (intro b hb; simp [hb]; done) | (intro b hb; exact hb) | (intro b hb; simp at hb ⊢; grind)))
  · have hann : a < 0 := by simpa using hs1
    by_cases hr0 : a.natAbs % b.natAbs = 0
    · have hE := ediv_neg0 hann hb0 hr0
      rw [← hs1, ← hs2] at hE
      have hE2 : (if (!s2) = true then -((a.natAbs / b.natAbs : Nat) : Int) else ((a.natAbs / b.natAbs : Nat) : Int)) = a / b ∧ (0 : Int) = a % b := by
        refine ⟨?_, hE.2⟩
        rw [← hE.1]; cases s2 <;> rfl
      have HE := Lib.hid hE2
      clear hE2
      have HR0 : Hid (digits (a.natAbs % b.natAbs) = []) := by show _ = _; rw [hr0]; rfl
      clear hs1 hs2 hE hr0
      go_enter Tryz.func149, Tryz.ntmps149
      go_wp2_with fail
      refine (r1divided_ok _ ([w.heap.size + 3, w.heap.size + 2] ++ ex) _ _ _ _ _ _ _ _ (hx.2.mono (Kr.fresh (by repeat first | with_reducible exact .refl .. | with_reducible assumption | refine .s ?_ ?_ | refine .m ?_ ?_ | refine .l ?_ ?_ | refine .d ?_ | refine .e ?_ | (simp <;> omega) | omega) hfr)) (hy.2.mono (Kr.fresh (by repeat first | with_reducible exact .refl .. | with_reducible assumption | refine .s ?_ ?_ | refine .m ?_ ?_ | refine .l ?_ ?_ | refine .d ?_ | refine .e ?_ | (simp <;> omega) | omega) hfr)) (by omega) hw (by omega) (by omega) (hexs hex (by first | (simp; done) | (simp; omega) | omega) (by first | (simp; done) | (simp; omega) | omega))).mono ?_; rintro e w' ⟨Aq, mq, cq, Ar, mr, cr, X, D, rfl, rfl, hq, hr⟩
      rw [HR0.out] at hr
      obtain rfl : mr = 0 := by simpa using hr.len
      go_wp2_with fail
      refine (r1made_ok _ ([w.heap.size + 3, w.heap.size + 2] ++ ex) _ _ _ _ _ hq (by have := HLq.out _ hq.len; omega)).mono ?_; rintro e w' ⟨s, A, m, c, X2, D2, rfl, rfl, hres⟩
      go_wp2_with fail
      refine (r1made_ok _ ([w.heap.size + 3, w.heap.size + 2] ++ ex) _ _ _ _ _ (hr.mono (by repeat (first | (with_reducible exact Kr.refl _ _) | (with_reducible assumption) | refine Kr.setCell ?_ _ (by simp) | refine Kr.more ?_ _ _ | refine Kr.alloc_ ?_ _ | refine Kr.drew ?_ | refine Kr.drewN ?_ _))) (by omega)).mono ?_; rintro e w' ⟨s', A', m', c', X3, D3, rfl, rfl, hres'⟩
      go_wp2_with fail
      refine bodyPost_ret (v := .tuple #[.agg #[.bool s, .slice A m c], .agg #[.bool s', .slice A' m' c'], .int .i64 0]) (by simp [results, Tryz.results149, go_sem, ↓IntWalk.iteOmega]) rfl (RetIIE.mk rfl (by repeat first | with_reducible exact .refl .. | with_reducible assumption | refine .s ?_ ?_ | refine .m ?_ ?_ | refine .l ?_ ?_ | refine .d ?_ | refine .e ?_ | (simp <;> omega) | omega) ?_ ?_)
      · rw [val_digits, HE.out.1] at hres
        exact hres.mono (Kr.down (by repeat (first | (with_reducible exact Kr.refl _ _) | (with_reducible assumption) | refine Kr.setCell ?_ _ (by simp) | refine Kr.more ?_ _ _ | refine Kr.alloc_ ?_ _ | refine Kr.drew ?_ | refine Kr.drewN ?_ _)) (by first | (intro b hb; simp [hb]; done) | (intro b hb; exact hb) | (intro b hb; simp at hb ⊢; grind)))
      · rw [if_neg (by simp), show ((val [] : Nat) : Int) = 0 from rfl, HE.out.2] at hres'
        exact hres'.mono (Kr.down (by repeat (first | (with_reducible exact Kr.refl _ _) | (with_reducible assumption) | refine Kr.setCell ?_ _ (by simp) | refine Kr.more ?_ _ _ | refine Kr.alloc_ ?_ _ | refine Kr.drew ?_ | refine Kr.drewN ?_ _)) (by first | (intro b hb; simp [hb]; done) | (intro b hb; exact hb) | (intro b hb; simp at hb ⊢; grind)))
    · have hE := ediv_neg1 hann hb0 (by omega)
      rw [← hs1, ← hs2] at hE
      have hE2 : (if (!s2) = true then -((a.natAbs / b.natAbs + 1 : Nat) : Int) else ((a.natAbs / b.natAbs + 1 : Nat) : Int)) = a / b ∧ ((b.natAbs - a.natAbs % b.natAbs : Nat) : Int) = a % b := by
        refine ⟨?_, hE.2⟩
        rw [← hE.1]; cases s2 <;> rfl
      have HE := Lib.hid hE2
      clear hE2
      have HR0 : Hid (0 < (digits (a.natAbs % b.natAbs)).length) := by
        show 0 < _
        rw [List.length_pos_iff]
        exact fun h => hr0 (digits_eq_nil.1 h)
      have hrb : a.natAbs % b.natAbs ≤ b.natAbs := Nat.le_of_lt (Nat.mod_lt _ (by omega))
      clear hs1 hs2 hE hr0
      go_enter Tryz.func149, Tryz.ntmps149
      go_wp2_with fail
      refine (r1divided_ok _ ([w.heap.size + 3, w.heap.size + 2] ++ ex) _ _ _ _ _ _ _ _ (hx.2.mono (Kr.fresh (by repeat first | with_reducible exact .refl .. | with_reducible assumption | refine .s ?_ ?_ | refine .m ?_ ?_ | refine .l ?_ ?_ | refine .d ?_ | refine .e ?_ | (simp <;> omega) | omega) hfr)) (hy.2.mono (Kr.fresh (by repeat first | with_reducible exact .refl .. | with_reducible assumption | refine .s ?_ ?_ | refine .m ?_ ?_ | refine .l ?_ ?_ | refine .d ?_ | refine .e ?_ | (simp <;> omega) | omega) hfr)) (by omega) hw (by omega) (by omega) (hexs hex (by first | (simp; done) | (simp; omega) | omega) (by first | (simp; done) | (simp; omega) | omega))).mono ?_; rintro e w' ⟨Aq, mq, cq, Ar, mr, cr, X, D, rfl, rfl, hq, hr⟩
      have hmr : 0 < mr := by rw [hr.len]; exact HR0.out
      go_wp2_with fail
      refine (r1added_ok _ ([w.heap.size + 3, w.heap.size + 2] ++ ex) _ _ _ _ _ _ _ _ (hq.mono (by repeat (first | (with_reducible exact Kr.refl _ _) | (with_reducible assumption) | refine Kr.setCell ?_ _ (by simp) | refine Kr.more ?_ _ _ | refine Kr.alloc_ ?_ _ | refine Kr.drew ?_ | refine Kr.drewN ?_ _))) (RW.one (x := 1) (by intro b hb; simp only [List.cons_append, List.nil_append, List.mem_cons] at hb; rcases hb with rfl | rfl | hb <;> first | omega | (have := hex _ hb; omega)) (by decide) (by simp [go_sem, ↓IntWalk.iteOmega])) (by have := HLq.out _ hq.len; omega) (by omega) (hexs hex (by first | (simp; done) | (simp; omega) | omega) (by first | (simp; done) | (simp; omega) | omega))).mono ?_; rintro e w' ⟨Ap, mp, cp, X2, D2, rfl, rfl, hp⟩
      go_wp2_with fail
      refine (r1taken_ok _ ([w.heap.size + 3, w.heap.size + 2] ++ ex) _ _ _ _ _ _ _ _ (hy.2.mono (Kr.fresh (by repeat first | with_reducible exact .refl .. | with_reducible assumption | refine .s ?_ ?_ | refine .m ?_ ?_ | refine .l ?_ ?_ | refine .d ?_ | refine .e ?_ | (simp <;> omega) | omega) hfr)) (hr.mono (by repeat (first | (with_reducible exact Kr.refl _ _) | (with_reducible assumption) | refine Kr.setCell ?_ _ (by simp) | refine Kr.more ?_ _ _ | refine Kr.alloc_ ?_ _ | refine Kr.drew ?_ | refine Kr.drewN ?_ _))) hrb (by omega) (hexs hex (by first | (simp; done) | (simp; omega) | omega) (by first | (simp; done) | (simp; omega) | omega))).mono ?_; rintro e w' ⟨Ad, md, cd, X3, D3, rfl, rfl, hd⟩
      go_wp2_with fail
      refine (r1made_ok _ ([w.heap.size + 3, w.heap.size + 2] ++ ex) _ _ _ _ _ (hp.mono (by repeat (first | (with_reducible exact Kr.refl _ _) | (with_reducible assumption) | refine Kr.setCell ?_ _ (by simp) | refine Kr.more ?_ _ _ | refine Kr.alloc_ ?_ _ | refine Kr.drew ?_ | refine Kr.drewN ?_ _))) (by have := HLq1.out _ _ hp.len (by decide); omega)).mono ?_; rintro e w' ⟨s, A, m, c, X4, D4, rfl, rfl, hres⟩
      go_wp2_with fail
      refine (r1made_ok _ ([w.heap.size + 3, w.heap.size + 2] ++ ex) _ _ _ _ _ (hd.mono (by repeat (first | (with_reducible exact Kr.refl _ _) | (with_reducible assumption) | refine Kr.setCell ?_ _ (by simp) | refine Kr.more ?_ _ _ | refine Kr.alloc_ ?_ _ | refine Kr.drew ?_ | refine Kr.drewN ?_ _))) (by have := HLd.out _ _ hd.len; omega)).mono ?_; rintro e w' ⟨s', A', m', c', X5, D5, rfl, rfl, hres'⟩
      go_wp2_with fail
      refine bodyPost_ret (v := .tuple #[.agg #[.bool s, .slice A m c], .agg #[.bool s', .slice A' m' c'], .int .i64 0]) (by simp [results, Tryz.results149, go_sem, ↓IntWalk.iteOmega]) rfl (RetIIE.mk rfl (by repeat first | with_reducible exact .refl .. | with_reducible assumption | refine .s ?_ ?_ | refine .m ?_ ?_ | refine .l ?_ ?_ | refine .d ?_ | refine .e ?_ | (simp <;> omega) | omega) ?_ ?_)
      · rw [val_digits, val_digits, show val [1] = 1 from rfl, HE.out.1] at hres
        exact hres.mono (Kr.down (by repeat (first | (with_reducible exact Kr.refl _ _) | (with_reducible assumption) | refine Kr.setCell ?_ _ (by simp) | refine Kr.more ?_ _ _ | refine Kr.alloc_ ?_ _ | refine Kr.drew ?_ | refine Kr.drewN ?_ _)) (by first | (intro b hb; simp [hb]; done) | (intro b hb; exact hb) | (intro b hb; simp at hb ⊢; grind)))
      · rw [val_digits, if_neg (by simp), HE.out.2] at hres'
        exact hres'.mono (Kr.down (by repeat (first | (with_reducible exact Kr.refl _ _) | (with_reducible assumption) | refine Kr.setCell ?_ _ (by simp) | refine Kr.more ?_ _ _ | refine Kr.alloc_ ?_ _ | refine Kr.drew ?_ | refine Kr.drewN ?_ _)) (by first | (intro b hb; simp [hb]; done) | (intro b hb; exact hb) | (intro b hb; simp at hb ⊢; grind)))


end Go.Proofs.YthhdleppkggepaaGreat
