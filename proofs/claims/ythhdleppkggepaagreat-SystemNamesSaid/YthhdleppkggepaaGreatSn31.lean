/-
  The walk of sum.poly: the terms that are left, sorted.
-/
import Derived.Test.YthhdleppkggepaaGreatSn04
import Derived.Test.YthhdleppkggepaaGreatSn26
import Derived.Test.YthhdleppkggepaaGreatSn30

set_option linter.unusedSimpArgs false
set_option linter.unusedVariables false
set_option linter.unusedSectionVars false

namespace Go.Proofs.YthhdleppkggepaaGreat
open Go.RowKit Go.Deep
set_option maxRecDepth 100000

theorem mem_swap3 {a b c : List Nat} {x : Nat} : x ∈ a ++ (b ++ c) ↔ x ∈ b ++ (a ++ c) := by
  simp only [List.mem_append]
  constructor
  · rintro (h | h | h) <;> simp [h]
  · rintro (h | h | h) <;> simp [h]
theorem mem_wk {o ex : List Nat} {b r : Nat} : ∀ x, x ∈ o ++ ([r] ++ ex) → x ∈ [b, r] ++ (o ++ ex) := by
  intro x
  simp only [List.mem_append, List.mem_cons, List.not_mem_nil, or_false]
  rintro (h | h | h) <;> simp [h]
def nzT (t : Rat × List Int) : Bool := decide (t.1 ≠ 0)
theorem RQ.sub {w : World} {ex ex' : List Nat} {s1 : Bool} {A1 : Option Addr} {n1 c1 : Nat} {s2 : Bool} {A2 : Option Addr} {n2 c2 : Nat} {q : Rat} (h : RQ w ex s1 A1 n1 c1 s2 A2 n2 c2 q) (hs : ∀ b, b ∈ ex' → b ∈ ex) : RQ w ex' s1 A1 n1 c1 s2 A2 n2 c2 q := h.mono ((Kr.refl w ex).sub hs)
theorem OwnL.mono_ex {w : World} {base r : Nat} {ex : List Nat} {v : Value} {l : List (Rat × List Int)} (h : OwnL tmE w base ([r] ++ ex) v l) : OwnL tmE w base ex v l := by
  obtain ⟨cs, h1, h2⟩ := h
  exact ⟨cs, h1, h2.mono ((Kr.refl w _).sub (by intro b hb; rcases List.mem_append.1 hb with hb | hb <;> simp [hb]))⟩
theorem OwnL.cap_le {w : World} {base g n c : Nat} {ex : List Nat} {l : List (Rat × List Int)} (h : OwnL tmE w base ex (.slice (some ⟨g, 0, none⟩) n c) l) : l.length ≤ c := by
  obtain ⟨cs, h1, _⟩ := h
  obtain ⟨A', c', e, hc⟩ := own_form h1
  injection e with e1 e2 e3
  subst e3; exact hc
/-- An own slice of terms as a row that may be written. -/
theorem OwnL.trow {w : World} {base : Nat} {ex : List Nat} {g n c : Nat} {l : List (Rat × List Int)} (h : OwnL tmE w base ex (.slice (some ⟨g, 0, none⟩) n c) l) : TRow w ex g l := by
  obtain ⟨cs, h1, h2⟩ := h
  intro k hk
  obtain ⟨vs, hr, hc⟩ := h2.get k hk
  have hn : n = l.length := by
    obtain ⟨A', c'', e, _⟩ := own_form h1
    injection e
  refine ⟨vs, hr, fun j u hu => ⟨?_, ?_⟩⟩
  · have := h1.cells (g := g) rfl (k * 12 + j) _ (hc j u hu)
    rw [Addr.add_lit] at this
    simpa using this
  · exact World.ownsRow.frozenAt (g := g) (n := l.length) (cap := c) (by rw [← hn]; rw [hn] at h1; rw [hn]; exact h1) (k * 12 + j)
/-- .. and back. -/
theorem TRow.rp {w : World} {ex : List Nat} {g c : Nat} {l : List (Rat × List Int)} (h : TRow w ex g l) (hg : g ∉ ex) (hlt : g < w.heap.size) (hc : l.length ≤ c) : RP w ex (some ⟨g, 0, none⟩) l.length c l := by
  refine RP.of_rl ⟨rfl, hc, fun _ => ⟨g, 0, rfl, hg, hlt, fun i hi => ?_⟩⟩
  obtain ⟨vs, h1, h2⟩ := h i hi
  refine ⟨vs, tmE.mono ((Kr.refl w ([g] ++ ex)).sub (fun b hb => by simp [hb])) h1, fun j u hu => ?_⟩
  rw [Nat.zero_add]
  exact (h2 j u hu).1

theorem own_some_of {w : World} {base : Nat} {ex : List Nat} {v : Value} {l : List (Rat × List Int)} (h : OwnL tmE w base ex v l) (hl : 0 < l.length) : ∃ g c, v = .slice (some ⟨g, 0, none⟩) l.length c := by
  obtain ⟨cs, h1, _⟩ := h
  rcases h1.2 with ⟨_, h3⟩ | ⟨g, cap, cur, hv, _⟩
  · omega
  · exact ⟨g, cap, hv⟩
theorem left_less {a a' n : Nat} {done : List (Rat × List Int)} {x : Rat × List Int} (h1 : done.length + a = n) (h2 : (done ++ [x]).length + a' = n) : a' < a := by
  rw [List.length_append, List.length_singleton] at h2; omega
theorem filter_snoc_in {done : List (Rat × List Int)} {x : Rat × List Int} (h : x.1 ≠ 0) : (done ++ [x]).filter nzT = done.filter nzT ++ [x] := by
  rw [List.filter_append]; simp [nzT, h]
theorem filter_snoc_out {done : List (Rat × List Int)} {x : Rat × List Int} (h : x.1 = 0) : (done ++ [x]).filter nzT = done.filter nzT := by
  rw [List.filter_append]; simp [nzT, h]
theorem sp_of_sorted {l : List (Rat × List Int)} (h8 : Len8 l) (hn : (l.map (·.2)).Nodup) (hs : l.Pairwise (fun s t => ¬ cmpL s.2 t.2 < 0)) : SP l := by
  unfold List.Nodup at hn
  rw [List.pairwise_map] at hn
  have := List.Pairwise.and hs hn
  refine List.Pairwise.imp_of_mem ?_ this
  intro a b ha hb hab
  rcases cmpL_cases a.2 b.2 with e | e | e
  · omega
  · exact absurd (cmpL_zero (by rw [h8 a ha, h8 b hb]) e) hab.2
  · show 0 < cmpL a.2 b.2; omega

set_option maxHeartbeats 4000000 in
theorem sumpoly_ok (w : World) (ex : List Nat) (b : Nat) (L : List (Rat × List Int)) (hm : MapR w ex b L) (hlen : L.length ≤ 1000000) (hex : ∀ b ∈ ex, b < w.heap.size) (h8 : Len8 L) (hn : (L.map (·.2)).Nodup) :
    Calls Tryz.prog 155 #[.map (some b)] w (fun e w' => ∃ L', L'.Perm (L.filter nzT) ∧ SP L' ∧ RetP w ex L' e w') := by
  have hlt := hm.lt
  have HM := Lib.hid hm
  have HL := Lib.hid hlen
  have H8 := Lib.hid h8
  have HN := Lib.hid hn
  clear hm h8 hn
  go_enter Tryz.func155, Tryz.ntmps155
  have hm0 : MapR (w.alloc (.cells #[] 118)) ([w.heap.size] ++ ex) b L := HM.out.mono (((Kr.refl w ([b] ++ ex)).alloc _).sub (by intro x hx; simp at hx ⊢; grind)) (Below.heap_alloc _ _ _ hlt)
  go_wp2_with (first | (at_range; refine wpList_mono_range _ rfl _ rfl rfl hm0 ?_; intro W0 hrg0 hb0 hs0) | fail)
  go_frame
  rw [World.size_alloc] at hrg0 ⊢
  have hbel0 : Below w.heap.size w W0 := ((Below.refl w.heap.size w).alloc (Nat.le_refl _) _).trans (hb0.mono (by simp))
  have hown0 : OwnL tmE W0 w.heap.size ([w.heap.size + 1] ++ ex) (.slice (some ⟨w.heap.size, 0, none⟩) 0 0) [] := (OwnL.empty (E := tmE) w w.heap.size _ (Nat.le_refl _)).keep hb0
  have hsz0 : W0.heap.size = w.heap.size + 2 := by rw [hs0]; simp
  go_loopw [3] (fun v wr => ∃ done y, y = v ∧ RgR wr (own y ++ ex) b (w.heap.size + 1) L done ∧ OwnL tmE wr w.heap.size ([w.heap.size + 1] ++ ex) y (done.filter nzT) ∧ Below w.heap.size w wr ∧ w.heap.size + 2 ≤ wr.heap.size ∧ w.heap.size + 1 ∉ own y ∧ ∃ g c, y = .slice (some ⟨g, 0, none⟩) (done.filter nzT).length c) (fun _ wr => wr.rangeLeft b (w.heap.size + 1))
  case atStart => exact ⟨[], _, rfl, hrg0, hown0, hbel0, by omega, by simp [own, Value.ownBlock], _, _, rfl⟩
  case round =>
    obtain ⟨done, y, rfl, hrg, hown, hbw, hsz, hry, hform⟩ := hrel
    have hleft := hrg.left
    go_wp2_with (first | (at_next; refine wpList_mono_next _ rfl _ rfl rfl hrg (fun hperm => ?_) (fun q e0 e1 e2 e3 e4 e5 e6 e7 s1 A1 n1 c1 s2 A2 n2 c2 w1 hmem hq hrg1 hg1 hs1 hd1 hen => ?_)) | fail)
    · obtain ⟨g, c, rfl⟩ := hform
      have hg := hown.le g (by simp [own, Value.ownBlock])
      have hown2 : OwnL tmE wr w.heap.size ex (.slice (some ⟨g, 0, none⟩) (done.filter nzT).length c) (done.filter nzT) := hown.mono_ex
      have hcap := hown2.cap_le
      have htr := hown2.trow
      have hge : g ∉ ex := fun hh => by have := hex g hh; omega
      have hflen : (done.filter nzT).length ≤ 1000000 := Nat.le_trans (List.length_filter_le _ _) (by rw [← hperm.length_eq]; exact HL.out)
      have HF : Hid ((done.filter nzT).Perm (L.filter nzT)) := Lib.hid ((hperm.symm).filter _)
      have HS := Lib.hid (sortT_ok wr ex g c (done.filter nzT) htr hg.2 (by omega))
      generalize done.filter nzT = Q at *
      clear hrg hown hperm htr hown2 hleft
      go_wp2_with fail
      refine HS.out.mono ?_; rintro e w1 ⟨rfl, L', hp, hso, hg1, hd1, htr1⟩
      have hsz1 := hg1.size
      have hbe : Below w.heap.size w w1 := hbw.turned hg1 hd1 (by omega) hg.1
      go_wp2_with fail
      go_ret
      have hpl := hp.trans HF.out
      refine ⟨L', hpl, ?_, ?_⟩
      · refine sp_of_sorted (fun t ht => H8.out t ((List.mem_filter.1 (hpl.mem_iff.1 ht)).1)) ?_ (List.Pairwise.imp (fun h => by omega) hso)
        exact ((hpl.map (·.2)).nodup_iff).2 (HN.out.sublist (List.filter_sublist.map _))
      · rw [hp.length_eq.symm]
        exact RetP.mk rfl hbe (htr1.rp hge (Nat.lt_of_lt_of_le hg.2 hsz1) (by rw [hp.length_eq]; exact hcap))
    · have hyle := hown.le
      have hkw : Kr wr (own y ++ ([w.heap.size + 1] ++ ex)) w1 (own y ++ ([w.heap.size + 1] ++ ex)) := (Kr.refl _ _).turned hg1 (by simp)
      have hown1 : OwnL tmE w1 w.heap.size ([w.heap.size + 1] ++ ex) y (done.filter nzT) := hown.keepR hkw (fun b hb => hg1.block b (hyle b hb).2 (by intro e; cases e; exact hry hb))
      have hb1 : Below w.heap.size w w1 := hbw.turned hg1 hd1 (by omega) (by omega)
      have hflen : (done.filter nzT).length < 1000000 := by
        have h1 := List.length_filter_le nzT done
        have h2 := hrg1.left
        rw [List.length_append, List.length_singleton] at h2
        have := HL.out; omega
      have hlt1 : b < w1.heap.size := hrg1.lt.1
      have HLeft := Lib.hid hleft
      clear hrg hown hbw hkw hleft hg1
      by_cases h0 : q = 0
      · have hs := sign_eq_zero h0
        have HF : Hid ((done ++ [(q, [e0, e1, e2, e3, e4, e5, e6, e7])]).filter nzT = done.filter nzT) := Lib.hid (filter_snoc_out h0)
        clear h0
        go_wp2_with fail
        refine (ratsign_ok _ ([b, w.heap.size + 1] ++ (own y ++ ex)) s1 A1 n1 c1 s2 A2 n2 c2 q (hq.mono (Kr.of_below (by repeat (first | (with_reducible exact Below.refl _ _) | (with_reducible assumption) | refine Below.setCell ?_ (by first | (simp; done) | (simp; omega) | omega) _ | refine Below.more ?_ (by first | (simp; done) | (simp; omega) | omega) _ _ | refine Below.alloc ?_ (by first | (simp; done) | (simp; omega) | omega) _ | refine Below.drew ?_ | refine Below.drewN ?_ _)) _))).mono ?_; rintro e w2 ⟨X, D, rfl, rfl⟩
        go_wp2_with fail
        go_roundw
        case rel => exact ⟨_, y, rfl, hrg1.keep (by repeat (first | (with_reducible exact Below.refl _ _) | (with_reducible assumption) | refine Below.setCell ?_ (by first | (simp; done) | (simp; omega) | omega) _ | refine Below.more ?_ (by first | (simp; done) | (simp; omega) | omega) _ _ | refine Below.alloc ?_ (by first | (simp; done) | (simp; omega) | omega) _ | refine Below.drew ?_ | refine Below.drewN ?_ _)), by rw [HF.out]; exact hown1.keep (by repeat (first | (with_reducible exact Below.refl _ _) | (with_reducible assumption) | refine Below.setCell ?_ (by first | (simp; done) | (simp; omega) | omega) _ | refine Below.more ?_ (by first | (simp; done) | (simp; omega) | omega) _ _ | refine Below.alloc ?_ (by first | (simp; done) | (simp; omega) | omega) _ | refine Below.drew ?_ | refine Below.drewN ?_ _)), (by repeat (first | (with_reducible exact Below.refl _ _) | (with_reducible assumption) | refine Below.setCell ?_ (by first | (simp; done) | (simp; omega) | omega) _ | refine Below.more ?_ (by first | (simp; done) | (simp; omega) | omega) _ _ | refine Below.alloc ?_ (by first | (simp; done) | (simp; omega) | omega) _ | refine Below.drew ?_ | refine Below.drewN ?_ _)), by simp; omega, hry, by rw [HF.out]; exact hform⟩
        case measure => exact left_less HLeft.out (hrg1.keep (by repeat (first | (with_reducible exact Below.refl _ _) | (with_reducible assumption) | refine Below.setCell ?_ (by first | (simp; done) | (simp; omega) | omega) _ | refine Below.more ?_ (by first | (simp; done) | (simp; omega) | omega) _ _ | refine Below.alloc ?_ (by first | (simp; done) | (simp; omega) | omega) _ | refine Below.drew ?_ | refine Below.drewN ?_ _))).left
      · have hs := sign_ne_zero h0
        have HF : Hid ((done ++ [(q, [e0, e1, e2, e3, e4, e5, e6, e7])]).filter nzT = done.filter nzT ++ [(q, [e0, e1, e2, e3, e4, e5, e6, e7])]) := Lib.hid (filter_snoc_in h0)
        clear h0
        go_wp2_with fail
        refine (ratsign_ok _ ([b, w.heap.size + 1] ++ (own y ++ ex)) s1 A1 n1 c1 s2 A2 n2 c2 q (hq.mono (Kr.of_below (by repeat (first | (with_reducible exact Below.refl _ _) | (with_reducible assumption) | refine Below.setCell ?_ (by first | (simp; done) | (simp; omega) | omega) _ | refine Below.more ?_ (by first | (simp; done) | (simp; omega) | omega) _ _ | refine Below.alloc ?_ (by first | (simp; done) | (simp; omega) | omega) _ | refine Below.drew ?_ | refine Below.drewN ?_ _)) _))).mono ?_; rintro e w2 ⟨X, D, rfl, rfl⟩
        go_wp2_with (at_builtin; go_loud (refine wpList_append_elt2 tmE _ rfl _ _ 65 rfl Tryz.underlying65 w.heap.size ([w.heap.size + 1] ++ ex) y (done.filter nzT) rfl (hown1.keep (by repeat (first | (with_reducible exact Below.refl _ _) | (with_reducible assumption) | refine Below.setCell ?_ (by first | (simp; done) | (simp; omega) | omega) _ | refine Below.more ?_ (by first | (simp; done) | (simp; omega) | omega) _ _ | refine Below.alloc ?_ (by first | (simp; done) | (simp; omega) | omega) _ | refine Below.drew ?_ | refine Below.drewN ?_ _))) _ _ rfl (q, [e0, e1, e2, e3, e4, e5, e6, e7]) [.bool s1, .slice A1 n1 c1, .bool s2, .slice A2 n2 c2, .int .i64 e0, .int .i64 e1, .int .i64 e2, .int .i64 e3, .int .i64 e4, .int .i64 e5, .int .i64 e6, .int .i64 e7] (cell_new _ _ _ _ (by first | (simp; done) | (simp; omega) | omega)) (by intro hh; rcases List.mem_append.1 hh with hh | hh; (have := (hyle _ hh).2; first | omega | (simp at this; omega)); (rcases List.mem_append.1 hh with hh | hh; (simp at hh; omega); (have := hex _ hh; omega))) ⟨s1, A1, n1, c1, s2, A2, n2, c2, _, _, _, _, _, _, _, _, rfl, (hq.sub mem_wk).mono (Kr.of_below (by repeat (first | (with_reducible exact Below.refl _ _) | (with_reducible assumption) | refine Below.setCell ?_ (by first | (simp; done) | (simp; omega) | omega) _ | refine Below.more ?_ (by first | (simp; done) | (simp; omega) | omega) _ _ | refine Below.alloc ?_ (by first | (simp; done) | (simp; omega) | omega) _ | refine Below.drew ?_ | refine Below.drewN ?_ _)) _), rfl⟩ (by omega) (by simp; omega) ?_; intro v2 w3 ho3 hk3 hin3 hbl3; have hb3 := hbl3 _ _ (show Below w.heap.size w _ from (by repeat (first | (with_reducible exact Below.refl _ _) | (with_reducible assumption) | refine Below.setCell ?_ (by first | (simp; done) | (simp; omega) | omega) _ | refine Below.more ?_ (by first | (simp; done) | (simp; omega) | omega) _ _ | refine Below.alloc ?_ (by first | (simp; done) | (simp; omega) | omega) _ | refine Below.drew ?_ | refine Below.drewN ?_ _))) (Nat.le_refl _); have hsz3 := (hk3 []).size; have hbs3 := (hk3 []).same b (by first | (simp; done) | (simp; omega) | omega) (by intro hh; rw [List.append_nil] at hh; have := (hyle _ hh).1; omega); have hrs3 := (hk3 []).same (w.heap.size + 1) (by first | (simp; done) | (simp; omega) | omega) (by intro hh; rw [List.append_nil] at hh; exact hry hh); have hrg3 := RgR.mono (hrg1.keep (by repeat (first | (with_reducible exact Below.refl _ _) | (with_reducible assumption) | refine Below.setCell ?_ (by first | (simp; done) | (simp; omega) | omega) _ | refine Below.more ?_ (by first | (simp; done) | (simp; omega) | omega) _ _ | refine Below.alloc ?_ (by first | (simp; done) | (simp; omega) | omega) _ | refine Below.drew ?_ | refine Below.drewN ?_ _))) (((hk3 ([b, w.heap.size + 1] ++ ex)).src (fun _ hh => mem_swap3.1 hh)).sub (fun _ hh => mem_swap3.1 hh)) hbs3 hrs3))
        go_wp2_with fail
        go_roundw
        case rel => exact ⟨_, v2, rfl, hrg3, by rw [HF.out]; exact ho3, hb3, by simp at hsz3; omega, (by intro hh; rcases hin3 _ hh with hh | hh; exact hry hh; simp at hh; omega), by rw [HF.out]; exact own_some_of ho3 (by simp)⟩
        case measure => exact left_less HLeft.out hrg3.left

end Go.Proofs.YthhdleppkggepaaGreat

/-
  Plain laws: what exchanging variables keeps of a polynomial: its range, its degree, its variables, its normal multiple's range.
-/
namespace Go.Proofs.YthhdleppkggepaaGreat

theorem pdeg_le {p : List Tm} {d : Int} : pdeg p ≤ d ↔ -1 ≤ d ∧ ∀ t ∈ p, t.2.sum ≤ d := by
  unfold pdeg
  have : ∀ (l : List Tm) (x : Int), l.foldl (fun d t => max d t.2.sum) x ≤ d ↔ x ≤ d ∧ ∀ t ∈ l, t.2.sum ≤ d := by
    intro l
    induction l with
    | nil => intro x; simp
    | cons a l ih =>
      intro x
      rw [List.foldl_cons, ih]
      simp only [List.mem_cons, forall_eq_or_imp]
      constructor
      · rintro ⟨h1, h2⟩; exact ⟨by omega, by omega, h2⟩
      · rintro ⟨h1, h2, h3⟩; exact ⟨by omega, h3⟩
  exact this p (-1)
theorem usesN_lt_iff {p : List Tm} {n : Nat} : usesN p < 2 ^ n ↔ ∀ t ∈ p, suppN t.2 < 2 ^ n := by
  unfold usesN
  have : ∀ (l : List Tm) (u : Nat), l.foldl (fun u t => u ||| suppN t.2) u < 2 ^ n ↔ u < 2 ^ n ∧ ∀ t ∈ l, suppN t.2 < 2 ^ n := by
    intro l
    induction l with
    | nil => intro u; simp
    | cons a l ih =>
      intro u
      rw [List.foldl_cons, ih]
      simp only [List.mem_cons, forall_eq_or_imp]
      constructor
      · rintro ⟨h1, h2⟩
        exact ⟨Nat.lt_of_le_of_lt Nat.left_le_or h1, Nat.lt_of_le_of_lt Nat.right_le_or h1, h2⟩
      · rintro ⟨h1, h2, h3⟩; exact ⟨Nat.or_lt_two_pow h1 h2, h3⟩
  have := this p 0
  rw [this]
  constructor
  · exact fun h => h.2
  · exact fun h => ⟨Nat.pow_pos (by decide), h⟩
theorem suppN_lt_iff : ∀ {m : List Int} {n : Nat}, suppN m < 2 ^ n ↔ ∀ i, n ≤ i → m.getD i 0 ≤ 0
  | [], n => by simp [suppN, Nat.pow_pos]
  | a :: m, 0 => by
    have ih := @suppN_lt_iff m 0
    simp only [suppN, Nat.pow_zero] at ih ⊢
    constructor
    · intro h i _
      have ha : ¬ 0 < a := by intro h1; rw [if_pos h1] at h; omega
      rw [if_neg ha] at h
      cases i with
      | zero => simpa using (show a ≤ 0 by omega)
      | succ i => simpa using ih.1 (by omega) i (Nat.zero_le _)
    · intro h
      have h0 := h 0 (Nat.le_refl _)
      have h1 : suppN m < 1 := ih.2 (fun i _ => by simpa using h (i + 1) (Nat.zero_le _))
      rw [if_neg (by simpa using h0)]; omega
  | a :: m, n + 1 => by
    have ih := @suppN_lt_iff m n
    simp only [suppN, Nat.pow_succ]
    constructor
    · intro h i hi
      cases i with
      | zero => omega
      | succ i => simpa using ih.1 (by split at h <;> omega) i (by omega)
    · intro h
      have h1 := ih.2 (fun i hi => by simpa using h (i + 1) (by omega))
      split <;> omega
section
variable {perm : List Nat} (hp : Perm8 perm)
include hp
theorem pmE_getD {m : List Int} (hm : m.length = 8) (k : Nat) : (∃ i, i < 8 ∧ perm[i]? = some k ∧ (pmE perm m).getD k 0 = m.getD i 0) ∨ (8 ≤ k ∧ (pmE perm m).getD k 0 = 0) := by
  by_cases hk : k < 8
  · obtain ⟨i, hi, e1, e2⟩ := pmE_at hp hm hk
    refine .inl ⟨i, hi, ?_, ?_⟩
    · rw [List.getElem?_eq_getElem (by rw [hp.len]; exact hi), e1]
    · rw [List.getD_eq_getElem?_getD, e2, List.getD_eq_getElem?_getD, List.getElem?_eq_getElem (by rw [hm]; exact hi)]
  · refine .inr ⟨by omega, ?_⟩
    rw [List.getD_eq_getElem?_getD, List.getElem?_eq_none (by rw [pmE_len]; omega)]; rfl
theorem pmE_exps {m : List Int} (hm : m.length = 8) (h : Exps m) : Exps (pmE perm m) := by
  intro k
  rcases pmE_getD hp hm k with ⟨i, _, _, e⟩ | ⟨_, e⟩
  · rw [e]; exact h i
  · rw [e]; omega
theorem sum_perm {a b : List Int} (h : a.Perm b) : a.sum = b.sum := by
  induction h with
  | nil => rfl
  | cons x _ ih => simp [ih]
  | swap x y l => simp only [List.sum_cons]; omega
  | trans _ _ h1 h2 => rw [h1, h2]
theorem pmE_sum {m : List Int} (hm : m.length = 8) : (pmE perm m).sum = m.sum := sum_perm hp (pmE_perm hp hm)
theorem pmE_supp {n : Nat} (hf : ∀ i, n ≤ i → i < 8 → perm[i]? = some i) {m : List Int} (hm : m.length = 8) (h : suppN m < 2 ^ n) : suppN (pmE perm m) < 2 ^ n := by
  rw [suppN_lt_iff] at h ⊢
  intro k hk
  rcases pmE_getD hp hm k with ⟨i, hi, e1, e2⟩ | ⟨_, e⟩
  · rw [e2]
    by_cases hin : n ≤ i
    · exact h i hin
    · have hk8 : k < 8 := hp.lt k (List.mem_of_getElem? e1)
      have e3 := hf k hk hk8
      have hik : i = k := (List.getElem?_inj (by rw [hp.len]; exact hi) hp.nodup).1 (e1.trans e3.symm)
      omega
  · rw [e]; omega
variable {p : List Tm} (h8 : Len8 p) (hv : validB p = true)
include h8 hv
theorem permP_forall {Q : Tm → Prop} (h : ∀ t ∈ p, Q (pmT perm t)) : ∀ x ∈ permP perm p, Q x := by
  intro x hx
  obtain ⟨t, ht, rfl⟩ := List.mem_map.1 ((permP_mem hp h8 (SP.of_valid hv h8).nodup x).1 hx)
  exact h t ht
theorem permP_nz : ∀ x ∈ permP perm p, x.1 ≠ 0 := permP_forall hp h8 hv (fun t ht => valid_nz hv t ht)
theorem permP_valid : validB (permP perm p) = true := (permP_sp hp h8 (SP.of_valid hv h8).nodup).valid (permP_nz hp h8 hv)
theorem permP_gp (h : GP p) : GP (permP perm p) where
  exps := permP_forall hp h8 hv (fun t ht => pmE_exps hp (h8 t ht) (h.exps t ht))
  ty := permP_forall hp h8 hv (fun t ht => h.ty t ht)
  len := by rw [permP_length hp h8 (SP.of_valid hv h8).nodup]; exact h.len
theorem permP_pdeg_le {d : Int} : pdeg (permP perm p) ≤ d ↔ pdeg p ≤ d := by
  rw [pdeg_le, pdeg_le]
  constructor
  · rintro ⟨h1, h2⟩
    refine ⟨h1, fun t ht => ?_⟩
    have := h2 (pmT perm t) ((permP_mem hp h8 (SP.of_valid hv h8).nodup _).2 (List.mem_map_of_mem ht))
    rwa [show (pmT perm t).2.sum = t.2.sum from pmE_sum hp (h8 t ht)] at this
  · rintro ⟨h1, h2⟩
    exact ⟨h1, permP_forall hp h8 hv (fun t ht => by rw [show (pmT perm t).2.sum = t.2.sum from pmE_sum hp (h8 t ht)]; exact h2 t ht)⟩
theorem permP_pdeg : pdeg (permP perm p) = pdeg p := by
  have h1 := (permP_pdeg_le hp h8 hv (d := pdeg p)).2 (Int.le_refl _)
  have h2 := (permP_pdeg_le hp h8 hv (d := pdeg (permP perm p))).1 (Int.le_refl _)
  omega
theorem permP_within {n : Nat} (hf : ∀ i, n ≤ i → i < 8 → perm[i]? = some i) (h : withinB p n = true) : withinB (permP perm p) n = true := by
  unfold withinB at h ⊢
  simp only [Bool.and_eq_true, decide_eq_true_eq] at h ⊢
  refine ⟨⟨permP_valid hp h8 hv, by rw [permP_pdeg hp h8 hv]; exact h.1.2⟩, ?_⟩
  rw [usesN_lt_iff] at h ⊢
  exact permP_forall hp h8 hv (fun t ht => pmE_supp hp hf (h8 t ht) (h.2 t ht))
end

/-! ### the normal multiple -/
theorem foldl_perm {α β : Type} (f : β → α → β) (hf : ∀ b x y, f (f b x) y = f (f b y) x) {l m : List α} (h : l.Perm m) : ∀ b, l.foldl f b = m.foldl f b := by
  induction h with
  | nil => intro b; rfl
  | cons x _ ih => intro b; exact ih _
  | swap x y l => intro b; simp only [List.foldl_cons]; rw [hf]
  | trans _ _ h1 h2 => intro b; rw [h1, h2]
theorem numG_perm {l m : List Tm} (h : l.Perm m) : numG l = numG m := by
  refine foldl_perm _ (fun b x y => ?_) h 0
  simp only [Int.gcd, Int.natAbs_natCast]
  rw [Nat.gcd_assoc, Nat.gcd_comm x.1.num.natAbs, ← Nat.gcd_assoc]
def denN (p : List Tm) : Nat := p.foldl (fun d t => Nat.lcm d t.1.den) 1
theorem denL_nat (p : List Tm) : denL p = (denN p : Int) := by
  unfold denL denN
  have : ∀ (l : List Tm) (d : Nat), l.foldl (fun d t => d * (t.1.den : Int) / (Int.gcd d (t.1.den : Int) : Int)) (d : Int) = ((l.foldl (fun d t => Nat.lcm d t.1.den) d : Nat) : Int) := by
    intro l
    induction l with
    | nil => intro d; rfl
    | cons a l ih =>
      intro d
      rw [List.foldl_cons, List.foldl_cons, ← ih]
      congr 1
  exact this p 1
theorem denN_perm {l m : List Tm} (h : l.Perm m) : denN l = denN m := by
  refine foldl_perm _ (fun b x y => ?_) h 1
  rw [Nat.lcm_assoc, Nat.lcm_comm x.1.den, ← Nat.lcm_assoc]
theorem numG_pmT (perm : List Nat) (p : List Tm) : numG (p.map (pmT perm)) = numG p := by unfold numG; rw [List.foldl_map]; rfl
theorem denL_pmT (perm : List Nat) (p : List Tm) : denL (p.map (pmT perm)) = denL p := by unfold denL; rw [List.foldl_map]; rfl
theorem divInt_neg' (a b : Int) : Rat.divInt a (-b) = -Rat.divInt a b := by rw [Rat.divInt_neg', Rat.neg_divInt]
/-- The number by which the permuted polynomial is multiplied: the same one, but for its sign. -/
theorem normC_perm {p q : List Tm} (h1 : numG p = numG q) (h2 : denL p = denL q) : normC p = normC q ∨ normC p = -normC q := by
  unfold normC
  rw [h1, h2]
  split <;> split
  · exact .inl rfl
  · exact .inr (divInt_neg' _ _)
  · right; rw [divInt_neg', Rat.neg_neg]
  · exact .inl rfl
theorem Ty.neg' {q : Rat} (h : Ty q) : Ty (-q) := ⟨by have := h.1; simpa using this, by have := h.2; simpa using this⟩
theorem gp_nil : GP [] where
  exps := fun _ h => by cases h
  ty := fun _ h => by cases h
  len := by simp
theorem normP_gp_of {p q : List Tm} (hl : q.length ≤ 1000000) (hq : ∀ x ∈ q, Exps x.2 ∧ ∃ t ∈ p, x.1 = t.1) (h8 : Len8 q) (h8p : Len8 p) (h1 : numG q = numG p) (h2 : denL q = denL p) (hne : p ≠ []) (h : GP (normP p)) : GP (normP q) := by
  by_cases hq0 : q = []
  · subst hq0
    exact gp_nil
  have hcp : normC q = normC p ∨ normC q = -normC p := normC_perm h1 h2
  unfold normP at h ⊢
  rw [if_neg hne] at h
  rw [if_neg hq0]
  unfold timesP at h ⊢
  by_cases h0 : normC p = 0
  · rw [if_pos (by rcases hcp with e | e <;> rw [e, h0]; rfl)]
    exact gp_nil
  · rw [if_neg h0] at h
    rw [if_neg (by rcases hcp with e | e <;> rw [e]; exact h0; intro e2; apply h0; have := congrArg (fun x => -x) e2; simpa using this)]
    refine ⟨fun x hx => ?_, fun x hx => ?_, by rw [List.length_map]; exact hl⟩
    · obtain ⟨t, ht, rfl⟩ := List.mem_map.1 hx
      show Exps (addE mono0 t.2)
      rw [addE_zero (h8 t ht)]; exact (hq t ht).1
    · obtain ⟨t, ht, rfl⟩ := List.mem_map.1 hx
      obtain ⟨_, u, hu, e⟩ := hq t ht
      have hty : Ty (normC p * u.1) := h.ty (normC p * u.1, addE mono0 u.2) (List.mem_map.2 ⟨u, hu, rfl⟩)
      show Ty (normC q * t.1)
      rw [e]
      rcases hcp with e2 | e2 <;> rw [e2]
      · exact hty
      · rw [Rat.neg_mul]; exact hty.neg'
theorem permP_np {perm : List Nat} (hp : Perm8 perm) {p : List Tm} (h8 : Len8 p) (hv : validB p = true) {M : Int} (h : NP M p) : NP M (permP perm p) := by
  have hn := (SP.of_valid hv h8).nodup
  have hpm := permP_perm hp h8 hn
  have h1 : numG (permP perm p) = numG p := (numG_perm hpm).trans (numG_pmT perm p)
  have h2 : denL (permP perm p) = denL p := by rw [denL_nat, denN_perm hpm, ← denL_nat, denL_pmT]
  have hg := permP_gp hp h8 hv h.gp
  refine ⟨hg, permP_nz hp h8 hv, permP_forall hp h8 hv (fun t ht => h.dv t ht), ?_⟩
  by_cases hne : p = []
  · subst hne; exact h.res
  · exact normP_gp_of hg.len (fun x hx => ⟨hg.exps x hx, by
      obtain ⟨t, ht, rfl⟩ := List.mem_map.1 ((permP_mem hp h8 hn x).1 hx)
      exact ⟨t, ht, rfl⟩⟩) (permP_len8 hp h8 hn) h8 h1 h2 hne h.res

end Go.Proofs.YthhdleppkggepaaGreat
