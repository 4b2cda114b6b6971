/-
  The walks of package integer: what has a sign.
-/
import Derived.Test.YthhdleppkggepaaGreatSn02
import Derived.Test.YthhdleppkggepaaGreatSn04

set_option linter.unusedSimpArgs false
set_option linter.unusedVariables false
set_option linter.unusedSectionVars false

namespace Go.Proofs.YthhdleppkggepaaGreat
open Go.RowKit Go.Deep
set_option maxRecDepth 100000

theorem u32s_one (ws : List Nat) : ∀ u ∈ u32s ws, u.oneCell' = true := by
  intro u hu
  obtain ⟨x, _, rfl⟩ := List.mem_map.1 hu
  rfl
theorem length_u32s (ws : List Nat) : (u32s ws).length = ws.length := by simp [u32s]

set_option maxHeartbeats 400000 in
theorem clone_ok (w : World) (ex : List Nat) (A : Option Addr) (n c : Nat) (ws : List Nat) (h : RW w ex A n c ws) (hn : n ≤ 1000000000) (hex : ∀ b ∈ ex, b < w.heap.size) :
    Calls Tryz.prog 173 #[.slice A n c] w fun e w' => ∃ A m c X D, e = .returned (.slice A m c) ∧ w' = w.more X D ∧ RW (w.more X D) ex A m c ws := by
  have hnil := fun wx => Lib.run_eql_slice_nil (P := Tryz.prog) wx 169 192 A n c 0 0 Tryz.underlying169
  cases A with
  | none =>
    have hnil' : ∀ wx, (binOp .eql 169 (.slice none n c) (.slice none 0 0)).run Tryz.prog wx = .ok (.bool true) wx := hnil
    clear hnil
    go_enter Tryz.func173, Tryz.ntmps173
    go_wp2_with fail
    go_ret
    have hws : ws = [] := by
      have h0 : n = 0 := by
        rcases Nat.eq_zero_or_pos n with h0 | h0
        · exact h0
        · obtain ⟨b, o, e, _⟩ := h.at_ h0; cases e
      exact List.eq_nil_of_length_eq_zero (by rw [← h.len, h0])
    subst hws
    obtain ⟨X, D, h1, h2⟩ := grew (R := fun w' => RW w' ex none 0 0 []) (Below.refl w.heap.size w) (RW.nil _ _ _ _)
    exact ⟨_, _, _, X, D, rfl, h1, h2⟩
  | some ad =>
    have hnil' : ∀ wx, (binOp .eql 169 (.slice (some ad) n c) (.slice none 0 0)).run Tryz.prog wx = .ok (.bool false) wx := hnil
    clear hnil
    obtain ⟨i0, hi0, hz0, hz1, hz2⟩ := info_parts infoU32
    have HL := Lib.hid h.len
    go_enter Tryz.func173, Tryz.ntmps173
    go_wp2_with (at_builtin; refine wpList_append_mine _ rfl _ _ _ rfl w.heap.size 192 i0 _ 1 4 Tryz.underlying169 hi0 hz0 hz1 hz2 rfl (by decide) (.slice (some ⟨w.heap.size, 0, none⟩) 0 0) 0 [] rfl (World.ownsRow_made w #[] 0 (Nat.le_refl _) (by decide) rfl) ex (some ad) n c (u32s ws) rfl (by rw [length_u32s, Nat.mul_one]; exact HL.out.symm) (h.row.mono ((Kr.refl _ _).alloc_ _)) (u32s_one ws) (by simp only [maxLen]; omega) (by omega) (by simp) ?_; intro v' w1 hown hg hd hat)
    go_ret
    obtain ⟨A', c', rfl, hc'⟩ := own_form hown
    have hb : Below w.heap.size w w1 := ((Below.refl _ _).alloc (Nat.le_refl _) _).grown hg hd (by simp) (fun k hk => by simp [Value.ownBlock] at hk; omega)
    have hrow : Row w1 ex A' ([] ++ u32s ws) := Row.of_own hown hex
    obtain ⟨X, D, h1, h2⟩ := grew (R := fun w' => RW w' ex A' (0 + n) c' ws) hb ⟨by rw [Nat.zero_add]; exact HL.out, by omega, hrow, h.wd⟩
    exact ⟨_, _, _, X, D, rfl, h1, h2⟩

theorem RI.mk {w : World} {ex : List Nat} {A : Option Addr} {n c : Nat} {z : Int} (h : RW w ex A n c (digits z.natAbs)) : RI w ex (decide (z < 0)) A n c z := ⟨rfl, h⟩

set_option maxHeartbeats 400000 in
theorem signed_ok (w : World) (ex : List Nat) (A : Option Addr) (n c : Nat) (ws : List Nat) (neg : Bool) (hx : RW w ex A n c ws) (hn : n ≤ 1000000000) (hex : ∀ b ∈ ex, b < w.heap.size) :
    Calls Tryz.prog 135 #[.slice A n c, .bool neg] w (RetI w ex (if neg then -(val ws : Int) else val ws)) := by
  have h0 := hx.mono (Kr.fresh (l := [w.heap.size]) (w' := w.alloc (.cells #[.bool false, .slice none 0 0] 57)) (by repeat (first | (with_reducible exact Below.refl _ _) | (with_reducible assumption) | refine Below.setCell ?_ (by first | (simp; done) | (simp; omega) | omega) _ | refine Below.more ?_ (by first | (simp; done) | (simp; omega) | omega) _ _ | refine Below.alloc ?_ (by first | (simp; done) | (simp; omega) | omega) _ | refine Below.drew ?_ | refine Below.drewN ?_ _)) (by simp))
  cases neg
  · go_enter Tryz.func135, Tryz.ntmps135
    go_wp2_with fail
    refine (norm_ok _ _ _ _ _ _ h0 hn).mono ?_; rintro e w1 ⟨m, rfl, rfl, hres⟩
    have hm : m ≤ n := by rw [hres.len, hx.len]; exact length_digits_le (val_lt hx.wd)
    go_wp2_with fail
    refine (clone_ok _ _ _ _ _ _ hres (by omega) (hexs hex (by simp) (by simp))).mono ?_; rintro e w1 ⟨A', m', c', X, D, rfl, rfl, hres'⟩
    go_wp2_with fail
    refine bodyPost_ret (v := .agg #[.bool false, .slice A' m' c']) (by simp [results, Tryz.results135, go_sem, ↓IntWalk.iteOmega]) rfl (RetI.mk rfl (by repeat (first | (with_reducible exact Below.refl _ _) | (with_reducible assumption) | refine Below.setCell ?_ (by first | (simp; done) | (simp; omega) | omega) _ | refine Below.more ?_ (by first | (simp; done) | (simp; omega) | omega) _ _ | refine Below.alloc ?_ (by first | (simp; done) | (simp; omega) | omega) _ | refine Below.drew ?_ | refine Below.drewN ?_ _)) ?_)
    refine ⟨by simp, ?_⟩
    rw [Int.natAbs_natCast]
    exact hres'.mono (Kr.down (by repeat (first | (with_reducible exact Kr.refl _ _) | (with_reducible assumption) | refine Kr.setCell ?_ _ (by simp) | refine Kr.more ?_ _ _ | refine Kr.alloc_ ?_ _ | refine Kr.drew ?_ | refine Kr.drewN ?_ _)) (by first | (intro b hb; simp [hb]; done) | (intro b hb; exact hb) | (intro b hb; simp at hb ⊢; grind)))
  · go_enter Tryz.func135, Tryz.ntmps135
    go_wp2_with fail
    refine (norm_ok _ _ _ _ _ _ h0 hn).mono ?_; rintro e w1 ⟨m, rfl, rfl, hres⟩
    have hm : m ≤ n := by rw [hres.len, hx.len]; exact length_digits_le (val_lt hx.wd)
    have HM : Hid (0 < m ↔ 0 < val ws) := by
      have h2 := hres.len
      have h3 : digits (val ws) = [] ↔ val ws = 0 := digits_eq_nil
      rw [← List.length_eq_zero_iff] at h3
      show _ ↔ _
      omega
    by_cases hz : 0 < m
    · go_wp2_with fail
      refine (clone_ok _ _ _ _ _ _ hres (by omega) (hexs hex (by simp) (by simp))).mono ?_; rintro e w1 ⟨A', m', c', X, D, rfl, rfl, hres'⟩
      go_wp2_with fail
      refine bodyPost_ret (v := .agg #[.bool true, .slice A' m' c']) (by simp [results, Tryz.results135, go_sem, ↓IntWalk.iteOmega]) rfl (RetI.mk rfl (by repeat (first | (with_reducible exact Below.refl _ _) | (with_reducible assumption) | refine Below.setCell ?_ (by first | (simp; done) | (simp; omega) | omega) _ | refine Below.more ?_ (by first | (simp; done) | (simp; omega) | omega) _ _ | refine Below.alloc ?_ (by first | (simp; done) | (simp; omega) | omega) _ | refine Below.drew ?_ | refine Below.drewN ?_ _)) ?_)
      have h4 := HM.out.1 hz
      refine ⟨by simp; omega, ?_⟩
      rw [Int.natAbs_neg, Int.natAbs_natCast]
      exact hres'.mono (Kr.down (by repeat (first | (with_reducible exact Kr.refl _ _) | (with_reducible assumption) | refine Kr.setCell ?_ _ (by simp) | refine Kr.more ?_ _ _ | refine Kr.alloc_ ?_ _ | refine Kr.drew ?_ | refine Kr.drewN ?_ _)) (by first | (intro b hb; simp [hb]; done) | (intro b hb; exact hb) | (intro b hb; simp at hb ⊢; grind)))
    · go_wp2_with fail
      refine (clone_ok _ _ _ _ _ _ hres (by omega) (hexs hex (by simp) (by simp))).mono ?_; rintro e w1 ⟨A', m', c', X, D, rfl, rfl, hres'⟩
      go_wp2_with fail
      refine bodyPost_ret (v := .agg #[.bool false, .slice A' m' c']) (by simp [results, Tryz.results135, go_sem, ↓IntWalk.iteOmega]) rfl (RetI.mk rfl (by repeat (first | (with_reducible exact Below.refl _ _) | (with_reducible assumption) | refine Below.setCell ?_ (by first | (simp; done) | (simp; omega) | omega) _ | refine Below.more ?_ (by first | (simp; done) | (simp; omega) | omega) _ _ | refine Below.alloc ?_ (by first | (simp; done) | (simp; omega) | omega) _ | refine Below.drew ?_ | refine Below.drewN ?_ _)) ?_)
      have h4 : val ws = 0 := by have := HM.out; omega
      refine ⟨by simp [h4], ?_⟩
      rw [Int.natAbs_neg, Int.natAbs_natCast]
      exact hres'.mono (Kr.down (by repeat (first | (with_reducible exact Kr.refl _ _) | (with_reducible assumption) | refine Kr.setCell ?_ _ (by simp) | refine Kr.more ?_ _ _ | refine Kr.alloc_ ?_ _ | refine Kr.drew ?_ | refine Kr.drewN ?_ _)) (by first | (intro b hb; simp [hb]; done) | (intro b hb; exact hb) | (intro b hb; simp at hb ⊢; grind)))

set_option maxHeartbeats 400000 in
theorem natural_ok (w : World) (ex : List Nat) (n : Nat) (hn : n < 18446744073709551616) (hex : ∀ b ∈ ex, b < w.heap.size) :
    Calls Tryz.prog 134 #[.int .u64 n] w (RetW w ex (digits n)) := by
  obtain ⟨a, ha⟩ : ∃ a : Nat, (n : Int) % 4294967296 = (a : Int) := ⟨n % 4294967296, by omega⟩
  obtain ⟨b, hb⟩ : ∃ b : Nat, (n : Int) / 4294967296 = (b : Int) := ⟨n / 4294967296, by omega⟩
  have hal : a < 4294967296 := by omega
  have hbl : b < 4294967296 := by omega
  have hbm : (b : Int) % 4294967296 = (b : Int) := by omega
  have HV : Hid (val [a, b] = n) := by show _ = _; simp [val]; omega
  have hn0 : (0 : Int) ≤ n := by omega
  have hrow : RW (w.alloc (.cells #[.int .u32 a, .int .u32 b] 192)) ex (some ⟨w.heap.size, 0, none⟩) 2 2 [a, b] := by
    refine ⟨rfl, Nat.le_refl _, fun _ => ⟨_, _, rfl, fun h => absurd (hex _ h) (by omega), fun i u hu => ?_⟩, fun x hx => ?_⟩
    · rw [Nat.zero_add, World.cell?_alloc_new]; simpa [u32s] using hu
    · simp at hx; rcases hx with rfl | rfl <;> assumption
  go_enter Tryz.func134, Tryz.ntmps134
  go_wp2_with fail
  refine (norm_ok _ _ _ _ _ _ hrow (by omega)).mono ?_; rintro e w1 ⟨m, rfl, rfl, hres⟩
  go_wp2_with fail
  go_ret
  rw [HV.out] at hres
  exact RetW.mk rfl (by repeat (first | (with_reducible exact Below.refl _ _) | (with_reducible assumption) | refine Below.setCell ?_ (by first | (simp; done) | (simp; omega) | omega) _ | refine Below.more ?_ (by first | (simp; done) | (simp; omega) | omega) _ _ | refine Below.alloc ?_ (by first | (simp; done) | (simp; omega) | omega) _ | refine Below.drew ?_ | refine Below.drewN ?_ _)) hres

set_option maxHeartbeats 400000 in
theorem of_ok (w : World) (ex : List Nat) (z : Int) (hz1 : -9223372036854775808 ≤ z) (hz2 : z ≤ 9223372036854775807) (hex : ∀ b ∈ ex, b < w.heap.size) :
    Calls Tryz.prog 94 #[.int .i64 z] w (RetI w ex z) := by
  by_cases hz : z < 0
  · obtain ⟨m, hm⟩ : ∃ m : Nat, z = -(m : Int) := ⟨z.natAbs, by omega⟩
    subst hm
    have hu : IntKind.u64.wrap (-(m : Int)) = 18446744073709551616 - (m : Int) := by simp [IntKind.wrap, IntKind.bits, IntKind.signed]; omega
    have hu2 : IntKind.u64.wrap (-(18446744073709551616 - (m : Int))) = (m : Int) := by simp [IntKind.wrap, IntKind.bits, IntKind.signed]; omega
    go_enter Tryz.func94, Tryz.ntmps94
    go_wp2_with fail
    refine (natural_ok _ (w.heap.size :: ex) m (by omega) (hexs (l := [w.heap.size]) hex (by simp) (by simp))).mono ?_; rintro e w1 ⟨A', m', c', X, D, rfl, rfl, hres⟩
    go_wp2_with fail
    refine (signed_ok _ (w.heap.size :: ex) _ _ _ _ _ hres (by have := hres.len; have := length_digits_le (n := m) (k := 2) (by omega); omega) (hexs (l := [w.heap.size]) hex (by first | (simp; done) | (simp; omega) | omega) (by first | (simp; done) | (simp; omega) | omega))).mono ?_; rintro e w1 ⟨s2, A2, m2, c2, X2, D2, rfl, rfl, hres2⟩
    go_wp2_with fail
    refine bodyPost_ret (v := .agg #[.bool s2, .slice A2 m2 c2]) (by simp [results, Tryz.results94, go_sem, ↓IntWalk.iteOmega]) rfl (RetI.mk rfl (by repeat (first | (with_reducible exact Below.refl _ _) | (with_reducible assumption) | refine Below.setCell ?_ (by first | (simp; done) | (simp; omega) | omega) _ | refine Below.more ?_ (by first | (simp; done) | (simp; omega) | omega) _ _ | refine Below.alloc ?_ (by first | (simp; done) | (simp; omega) | omega) _ | refine Below.drew ?_ | refine Below.drewN ?_ _)) ?_)
    rw [val_digits] at hres2
    exact hres2.mono (Kr.down (by repeat (first | (with_reducible exact Kr.refl _ _) | (with_reducible assumption) | refine Kr.setCell ?_ _ (by simp) | refine Kr.more ?_ _ _ | refine Kr.alloc_ ?_ _ | refine Kr.drew ?_ | refine Kr.drewN ?_ _)) (by first | (intro b hb; simp [hb]; done) | (intro b hb; exact hb) | (intro b hb; simp at hb ⊢; grind)))
  · obtain ⟨m, rfl⟩ := Int.eq_ofNat_of_zero_le (show 0 ≤ z by omega)
    go_enter Tryz.func94, Tryz.ntmps94
    go_wp2_with fail
    refine (natural_ok _ (w.heap.size :: ex) m (by omega) (hexs (l := [w.heap.size]) hex (by simp) (by simp))).mono ?_; rintro e w1 ⟨A', m', c', X, D, rfl, rfl, hres⟩
    go_wp2_with fail
    refine (signed_ok _ (w.heap.size :: ex) _ _ _ _ _ hres (by have := hres.len; have := length_digits_le (n := m) (k := 2) (by omega); omega) (hexs (l := [w.heap.size]) hex (by first | (simp; done) | (simp; omega) | omega) (by first | (simp; done) | (simp; omega) | omega))).mono ?_; rintro e w1 ⟨s2, A2, m2, c2, X2, D2, rfl, rfl, hres2⟩
    go_wp2_with fail
    refine bodyPost_ret (v := .agg #[.bool s2, .slice A2 m2 c2]) (by simp [results, Tryz.results94, go_sem, ↓IntWalk.iteOmega]) rfl (RetI.mk rfl (by repeat (first | (with_reducible exact Below.refl _ _) | (with_reducible assumption) | refine Below.setCell ?_ (by first | (simp; done) | (simp; omega) | omega) _ | refine Below.more ?_ (by first | (simp; done) | (simp; omega) | omega) _ _ | refine Below.alloc ?_ (by first | (simp; done) | (simp; omega) | omega) _ | refine Below.drew ?_ | refine Below.drewN ?_ _)) ?_)
    rw [val_digits] at hres2
    exact hres2.mono (Kr.down (by repeat (first | (with_reducible exact Kr.refl _ _) | (with_reducible assumption) | refine Kr.setCell ?_ _ (by simp) | refine Kr.more ?_ _ _ | refine Kr.alloc_ ?_ _ | refine Kr.drew ?_ | refine Kr.drewN ?_ _)) (by first | (intro b hb; simp [hb]; done) | (intro b hb; exact hb) | (intro b hb; simp at hb ⊢; grind)))

theorem RI.sign {w : World} {ex : List Nat} {s : Bool} {A : Option Addr} {n c : Nat} {z : Int} (h : RI w ex s A n c z) : s = decide (z < 0) := h.1
theorem RI.n0 {w : World} {ex : List Nat} {s : Bool} {A : Option Addr} {n c : Nat} {z : Int} (h : RI w ex s A n c z) : n = 0 ↔ z = 0 := by
  rw [h.len]; exact wl_eq_zero

set_option maxHeartbeats 400000 in
theorem sign_ok (w : World) (ex : List Nat) (s : Bool) (A : Option Addr) (n c : Nat) (z : Int) (hx : RI w ex s A n c z) :
    Calls Tryz.prog 133 #[.agg #[.bool s, .slice A n c]] w (RetV w (.int .i64 z.sign)) := by
  have hs := hx.sign
  have h0 := hx.n0
  cases s
  · have hz : ¬ z < 0 := by simpa using hs
    have HZ : Hid (z.sign = if n = 0 then 0 else 1) := by
      show _ = _
      by_cases hn : n = 0
      · rw [if_pos hn, h0.1 hn]; rfl
      · rw [if_neg hn]; exact Int.sign_eq_one_of_pos (by omega)
    clear hs h0
    go_enter Tryz.func133, Tryz.ntmps133
    go_wp2
    · go_ret
      refine RetV.mk ?_ (by repeat (first | (with_reducible exact Below.refl _ _) | (with_reducible assumption) | refine Below.setCell ?_ (by first | (simp; done) | (simp; omega) | omega) _ | refine Below.more ?_ (by first | (simp; done) | (simp; omega) | omega) _ _ | refine Below.alloc ?_ (by first | (simp; done) | (simp; omega) | omega) _ | refine Below.drew ?_ | refine Below.drewN ?_ _))
      rw [HZ.out, if_neg (by omega)]; rfl
    · go_ret
      refine RetV.mk ?_ (by repeat (first | (with_reducible exact Below.refl _ _) | (with_reducible assumption) | refine Below.setCell ?_ (by first | (simp; done) | (simp; omega) | omega) _ | refine Below.more ?_ (by first | (simp; done) | (simp; omega) | omega) _ _ | refine Below.alloc ?_ (by first | (simp; done) | (simp; omega) | omega) _ | refine Below.drew ?_ | refine Below.drewN ?_ _))
      rw [HZ.out]
      by_cases hn : n = 0
      · subst hn; rfl
      · obtain rfl : n = 1 := by omega
        rfl
  · have hz : z < 0 := by simpa using hs
    have HZ : Hid (z.sign = -1) := Int.sign_eq_neg_one_of_neg hz
    clear hs h0
    go_enter Tryz.func133, Tryz.ntmps133
    go_wp2
    go_ret
    refine RetV.mk ?_ (by repeat (first | (with_reducible exact Below.refl _ _) | (with_reducible assumption) | refine Below.setCell ?_ (by first | (simp; done) | (simp; omega) | omega) _ | refine Below.more ?_ (by first | (simp; done) | (simp; omega) | omega) _ _ | refine Below.alloc ?_ (by first | (simp; done) | (simp; omega) | omega) _ | refine Below.drew ?_ | refine Below.drewN ?_ _))
    rw [HZ.out]; rfl

set_option maxHeartbeats 400000 in
theorem ineg_ok (w : World) (ex : List Nat) (s : Bool) (A : Option Addr) (n c : Nat) (z : Int) (hx : RI w ex s A n c z) (hn : n ≤ 1000000000) (hex : ∀ b ∈ ex, b < w.heap.size) :
    Calls Tryz.prog 139 #[.agg #[.bool s, .slice A n c]] w (RetI w ex (-z)) := by
  have HZ : Hid ((if !s then -(val (digits z.natAbs) : Int) else val (digits z.natAbs)) = -z) := by
    show _ = _
    rw [val_digits, hx.sign]
    by_cases hz : z < 0
    · simp [hz]; omega
    · simp [hz]; omega
  have h0 := hx.2.mono (Kr.fresh (l := [w.heap.size + 1]) (w' := (w.alloc (.cells #[.bool s, .slice A n c] 57)).alloc (.cells #[.bool false, .slice none 0 0] 57)) (by repeat (first | (with_reducible exact Below.refl _ _) | (with_reducible assumption) | refine Below.setCell ?_ (by first | (simp; done) | (simp; omega) | omega) _ | refine Below.more ?_ (by first | (simp; done) | (simp; omega) | omega) _ _ | refine Below.alloc ?_ (by first | (simp; done) | (simp; omega) | omega) _ | refine Below.drew ?_ | refine Below.drewN ?_ _)) (by simp))
  go_enter Tryz.func139, Tryz.ntmps139
  go_wp2_with fail
  refine (signed_ok _ _ _ _ _ _ _ h0 hn (hexs hex (by first | (simp; done) | (simp; omega) | omega) (by first | (simp; done) | (simp; omega) | omega))).mono ?_; rintro e w1 ⟨s2, A2, m2, c2, X2, D2, rfl, rfl, hres2⟩
  rw [HZ.out] at hres2
  go_wp2_with fail
  refine bodyPost_ret (v := .agg #[.bool s2, .slice A2 m2 c2]) (by simp [results, Tryz.results139, go_sem, ↓IntWalk.iteOmega]) rfl (RetI.mk rfl (by repeat (first | (with_reducible exact Below.refl _ _) | (with_reducible assumption) | refine Below.setCell ?_ (by first | (simp; done) | (simp; omega) | omega) _ | refine Below.more ?_ (by first | (simp; done) | (simp; omega) | omega) _ _ | refine Below.alloc ?_ (by first | (simp; done) | (simp; omega) | omega) _ | refine Below.drew ?_ | refine Below.drewN ?_ _)) ?_)
  exact hres2.mono (Kr.down (by repeat (first | (with_reducible exact Kr.refl _ _) | (with_reducible assumption) | refine Kr.setCell ?_ _ (by simp) | refine Kr.more ?_ _ _ | refine Kr.alloc_ ?_ _ | refine Kr.drew ?_ | refine Kr.drewN ?_ _)) (by first | (intro b hb; simp [hb]; done) | (intro b hb; exact hb) | (intro b hb; simp at hb ⊢; grind)))

end Go.Proofs.YthhdleppkggepaaGreat
