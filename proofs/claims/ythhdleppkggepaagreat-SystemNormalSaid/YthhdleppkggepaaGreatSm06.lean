/-
  The walks of the reference of package system: which polynomials fit, and the normalized core.
-/
import Derived.Test.YthhdleppkggepaaGreatSb28
import Derived.Test.YthhdleppkggepaaGreatSm05

set_option linter.unusedSimpArgs false
set_option linter.unusedVariables false
set_option linter.unusedSectionVars false

namespace Go.Proofs.YthhdleppkggepaaGreat
open Go.RowKit Go.Deep
set_option maxRecDepth 100000

theorem Kr.fresh' {w w' : World} {ex ex' : List Nat} (h : Below w.heap.size w w') (hl : ∀ b ∈ ex', b ∈ ex ∨ w.heap.size ≤ b) : Kr w ex w' ex' :=
  ⟨h.size, fun b hb hx hh => by
    rcases hl b hh with h1 | h1
    · exact hx h1
    · omega, fun b hb _ => h.block b hb⟩

set_option maxHeartbeats 2000000 in
theorem r32within_ok (w : World) (ex : List Nat) (A : Option Addr) (m c : Nat) (p : List (Rat × List Int)) (n : Nat) (hx : RP w ex A m c p) (hg : GP p) (hn : n ≤ 4) :
    Calls Tryz.prog 99 #[.slice A m c, .int .i64 n] w (RetV w (.bool (withinB p n))) := by
  have hm : m ≤ 1000000000 := by rw [hx.len]; have := hg.len; omega
  have h1 := r6valid_ok w ex A m c p hx hg.exps hg.ty hm
  have HW : Hid (withinB p n = (validB p && decide (pdeg p ≤ 12) && decide (usesN p < 2 ^ n))) := rfl
  have HX := Lib.hid hx
  have HG := Lib.hid hg
  clear hx hg
  obtain ⟨v, hv⟩ : ∃ v, validB p = v := ⟨_, rfl⟩
  rw [hv] at h1 HW
  clear hv
  cases v
  · have HE : Hid (withinB p n = false) := Lib.hid (by rw [HW.out]; rfl)
    go_enter Tryz.func99, Tryz.ntmps99
    go_wp2_with fail
    refine h1.mono ?_; rintro e w1 ⟨X, D, rfl, rfl⟩
    go_wp2_with fail
    go_ret
    rw [HE.out]
    exact RetV.mk rfl (by repeat first | with_reducible exact .refl .. | with_reducible assumption | refine .s ?_ ?_ | refine .m ?_ ?_ | refine .l ?_ ?_ | refine .d ?_ | refine .e ?_ | (simp <;> omega) | omega)
  · obtain ⟨d, hd⟩ : ∃ d, pdeg p = d := ⟨_, rfl⟩
    have HD := Lib.hid hd
    rw [hd] at HW
    clear hd
    by_cases h12 : d ≤ 12
    · obtain ⟨u, hu⟩ : ∃ u, usesN p = u := ⟨_, rfl⟩
      have hu8 : usesN p < 256 := usesN_lt (suppN_lt8 HX.out.len8)
      have HU := Lib.hid hu
      have HE : Hid (withinB p n = decide (u < 2 ^ n)) := Lib.hid (by rw [HW.out, hu]; simp [h12])
      rw [hu] at hu8
      clear hu
      obtain rfl | rfl | rfl | rfl | rfl : n = 0 ∨ n = 1 ∨ n = 2 ∨ n = 3 ∨ n = 4 := by omega
      all_goals
        go_enter Tryz.func99, Tryz.ntmps99
        go_wp2_with fail
        refine h1.mono ?_; rintro e w1 ⟨X, D, rfl, rfl⟩
        go_wp2_with fail
        refine (r6degree_ok _ ex A m c p (HX.out.mono (Kr.of_below (by repeat first | with_reducible exact .refl .. | with_reducible assumption | refine .s ?_ ?_ | refine .m ?_ ?_ | refine .l ?_ ?_ | refine .d ?_ | refine .e ?_ | (simp <;> omega) | omega) _)) HG.out.exps hm).mono ?_; rintro e w1 ⟨X2, D2, rfl, rfl⟩
        rw [HD.out]
        go_wp2_with fail
        refine (r6uses_ok _ ex A m c p (HX.out.mono (Kr.of_below (by repeat first | with_reducible exact .refl .. | with_reducible assumption | refine .s ?_ ?_ | refine .m ?_ ?_ | refine .l ?_ ?_ | refine .d ?_ | refine .e ?_ | (simp <;> omega) | omega) _)) HG.out.exps hm).mono ?_; rintro e w1 ⟨X3, D3, rfl, rfl⟩
        rw [HU.out]
        go_wp2_with fail
        go_ret
        rw [HE.out]
        exact RetV.mk (by simp; try omega) (by repeat first | with_reducible exact .refl .. | with_reducible assumption | refine .s ?_ ?_ | refine .m ?_ ?_ | refine .l ?_ ?_ | refine .d ?_ | refine .e ?_ | (simp <;> omega) | omega)
    · have HE : Hid (withinB p n = false) := Lib.hid (by rw [HW.out]; simp [h12])
      go_enter Tryz.func99, Tryz.ntmps99
      go_wp2_with fail
      refine h1.mono ?_; rintro e w1 ⟨X, D, rfl, rfl⟩
      go_wp2_with fail
      refine (r6degree_ok _ ex A m c p (HX.out.mono (Kr.of_below (by repeat first | with_reducible exact .refl .. | with_reducible assumption | refine .s ?_ ?_ | refine .m ?_ ?_ | refine .l ?_ ?_ | refine .d ?_ | refine .e ?_ | (simp <;> omega) | omega) _)) HG.out.exps hm).mono ?_; rintro e w1 ⟨X2, D2, rfl, rfl⟩
      rw [HD.out]
      go_wp2_with fail
      go_ret
      rw [HE.out]
      exact RetV.mk rfl (by repeat first | with_reducible exact .refl .. | with_reducible assumption | refine .s ?_ ?_ | refine .m ?_ ?_ | refine .l ?_ ?_ | refine .d ?_ | refine .e ?_ | (simp <;> omega) | omega)

theorem all_take {l : List Pol} {f : Pol → Bool} {k : Nat} (hk : k < l.length) (h : (l.take k).all f = true) (hf : f l[k] = true) : (l.take (k + 1)).all f = true := by
  rw [List.take_succ_eq_append_getElem hk, List.all_append, h]; simp [hf]
theorem all_not {l : List Pol} {f : Pol → Bool} {k : Nat} (hk : k < l.length) (hf : f l[k] = false) : l.all f = false := by
  rw [Bool.eq_false_iff]
  intro h
  rw [List.all_eq_true.1 h _ (List.getElem_mem hk)] at hf; cases hf

set_option maxHeartbeats 2000000 in
theorem r32all_ok (w : World) (ex : List Nat) (A : Option Addr) (n c : Nat) (l : List Pol) (N : Nat) (hx : RL poE w ex A n c l) (hg : ∀ p ∈ l, GP p) (hN : N ≤ 4) (hn : n ≤ 1000000) :
    Calls Tryz.prog 50 #[.slice A n c, .int .i64 N] w (RetV w (.bool (l.all fun p => withinB p N))) := by
  have HL := Lib.hid hx.len
  have hcap := hx.cap
  have HX := Lib.hid hx
  have HG := Lib.hid hg
  clear hx hg
  go_enter Tryz.func50, Tryz.ntmps50
  go_wp2_with fail
  go_loopw [5] (fun i wr => ∃ k : Nat, k ≤ n ∧ i = .int .i64 k ∧ Hid ((l.take k).all (fun p => withinB p N) = true) ∧ Below w.heap.size w wr) (fun i _ => n - (intOf i).toNat)
  case atStart => exact ⟨0, Nat.zero_le _, rfl, Lib.hid rfl, (by repeat first | with_reducible exact .refl .. | with_reducible assumption | refine .s ?_ ?_ | refine .m ?_ ?_ | refine .l ?_ ?_ | refine .d ?_ | refine .e ?_ | (simp <;> omega) | omega)⟩
  case round =>
    obtain ⟨k, hk, rfl, HA, hb⟩ := hrel
    have hsz := hb.size
    by_cases hlt : k < n
    · have hxw := HX.out.mono (Kr.of_below hb ex)
      have hkl : k < l.length := by rw [← HL.out]; exact hlt
      obtain ⟨b2, o2, rfl, hbx, hbl⟩ := hxw.some_ (by omega)
      obtain ⟨A1, m1, c1, hcell, hp1⟩ := hxw.poly hkl
      have HGk := Lib.hid (HG.out _ (List.getElem_mem hkl))
      have hi1 : (k : Int) < (n : Int) := by omega
      obtain ⟨v, hv⟩ : ∃ v, withinB l[k] N = v := ⟨_, rfl⟩
      have HV := Lib.hid hv
      clear hv hxw
      cases v
      · have HE := Lib.hid (all_not (f := fun p => withinB p N) hkl HV.out)
        go_wp2_with fail
        refine (r32within_ok _ ex A1 m1 c1 l[k] N (hp1.mono (Kr.of_below (by repeat first | with_reducible exact .refl .. | with_reducible assumption | refine .s ?_ ?_ | refine .m ?_ ?_ | refine .l ?_ ?_ | refine .d ?_ | refine .e ?_ | (simp <;> omega) | omega) _)) HGk.out hN).mono ?_; rintro e w1 ⟨X, D, rfl, rfl⟩
        rw [HV.out]
        go_wp2_with fail
        go_ret
        rw [HE.out]
        exact RetV.mk rfl (by repeat first | with_reducible exact .refl .. | with_reducible assumption | refine .s ?_ ?_ | refine .m ?_ ?_ | refine .l ?_ ?_ | refine .d ?_ | refine .e ?_ | (simp <;> omega) | omega)
      · have HE := Lib.hid (all_take (f := fun p => withinB p N) hkl HA.out HV.out)
        go_wp2_with fail
        refine (r32within_ok _ ex A1 m1 c1 l[k] N (hp1.mono (Kr.of_below (by repeat first | with_reducible exact .refl .. | with_reducible assumption | refine .s ?_ ?_ | refine .m ?_ ?_ | refine .l ?_ ?_ | refine .d ?_ | refine .e ?_ | (simp <;> omega) | omega) _)) HGk.out hN).mono ?_; rintro e w1 ⟨X, D, rfl, rfl⟩
        rw [HV.out]
        go_wp2_with fail
        go_roundw
        case rel => exact ⟨k + 1, by omega, by go_num, HE, (by repeat first | with_reducible exact .refl .. | with_reducible assumption | refine .s ?_ ?_ | refine .m ?_ ?_ | refine .l ?_ ?_ | refine .d ?_ | refine .e ?_ | (simp <;> omega) | omega)⟩
        case measure => simp [intOf]; omega
    · obtain rfl : k = n := by omega
      have HE : Hid (l.all (fun p => withinB p N) = true) := Lib.hid (by have := HA.out; rwa [List.take_of_length_le (by rw [← HL.out]; exact Nat.le_refl _)] at this)
      go_wp2_with fail
      go_ret
      rw [HE.out]
      exact RetV.mk rfl (by repeat first | with_reducible exact .refl .. | with_reducible assumption | refine .s ?_ ?_ | refine .m ?_ ?_ | refine .l ?_ ?_ | refine .d ?_ | refine .e ?_ | (simp <;> omega) | omega)

set_option maxHeartbeats 1000000 in
theorem r32normal_num (w : World) (ex : List Nat) (n : Int) (hn : n < 1 ∨ 4 < n) (A1 : Option Addr) (n1 c1 : Nat) (A2 : Option Addr) (n2 c2 : Nat) :
    Calls Tryz.prog 13 #[.int .i64 n, .slice A1 n1 c1, .slice A2 n2 c2] w (RetC w ex 0 [] [] 1) := by
  rcases hn with hn | hn
  · go_enter Tryz.func13, Tryz.ntmps13
    go_wp2_with fail
    refine bodyPost_ret (v := .tuple #[.agg #[.int .i64 0, .slice none 0 0, .slice none 0 0], .int .i64 1]) (by simp [results, Tryz.results13, go_sem, ↓IntWalk.iteOmega]) rfl ?_
    exact RetC.mk rfl (by repeat first | with_reducible exact .refl .. | with_reducible assumption | refine .s ?_ ?_ | refine .m ?_ ?_ | refine .l ?_ ?_ | refine .d ?_ | refine .e ?_ | (simp <;> omega) | omega) (RL.nil _ _ _ _) (RL.nil _ _ _ _)
  · have h1 : ¬ n < 1 := by omega
    go_enter Tryz.func13, Tryz.ntmps13
    go_wp2_with fail
    refine bodyPost_ret (v := .tuple #[.agg #[.int .i64 0, .slice none 0 0, .slice none 0 0], .int .i64 1]) (by simp [results, Tryz.results13, go_sem, ↓IntWalk.iteOmega]) rfl ?_
    exact RetC.mk rfl (by repeat first | with_reducible exact .refl .. | with_reducible assumption | refine .s ?_ ?_ | refine .m ?_ ?_ | refine .l ?_ ?_ | refine .d ?_ | refine .e ?_ | (simp <;> omega) | omega) (RL.nil _ _ _ _) (RL.nil _ _ _ _)

set_option maxHeartbeats 2000000 in
theorem r32normal_odd (w : World) (ex : List Nat) (n : Nat) (A1 : Option Addr) (n1 c1 : Nat) (eqs : List Pol) (A2 : Option Addr) (n2 c2 : Nat) (neqs : List Pol) (hx : RL poE w ex A1 n1 c1 eqs) (hy : RL poE w ex A2 n2 c2 neqs) (hn1 : 1 ≤ n) (hn4 : n ≤ 4)
    (hg1 : ∀ p ∈ eqs, GP p) (hg2 : ∀ p ∈ neqs, GP p) (hodd : (eqs.all (fun p => withinB p n) && neqs.all (fun p => withinB p n)) = false) (hl1 : n1 ≤ 100000) (hl2 : n2 ≤ 100000) :
    Calls Tryz.prog 13 #[.int .i64 n, .slice A1 n1 c1, .slice A2 n2 c2] w (RetC w ex 0 [] [] 1) := by
  have HX := Lib.hid hx
  have HY := Lib.hid hy
  have HG1 := Lib.hid hg1
  have HG2 := Lib.hid hg2
  have hh1 : ¬ (n : Int) < 1 := by omega
  have hh2 : ¬ 4 < (n : Int) := by omega
  obtain ⟨v1, hv1⟩ : ∃ v, eqs.all (fun p => withinB p n) = v := ⟨_, rfl⟩
  obtain ⟨v2, hv2⟩ : ∃ v, neqs.all (fun p => withinB p n) = v := ⟨_, rfl⟩
  rw [hv1, hv2] at hodd
  have HV1 := Lib.hid hv1
  have HV2 := Lib.hid hv2
  clear hv1 hv2 hx hy hg1 hg2
  cases v1
  · clear hodd
    go_enter Tryz.func13, Tryz.ntmps13
    go_wp2_with fail
    refine (r32all_ok _ ex A1 n1 c1 eqs n (HX.out.mono (Kr.of_below (by repeat first | with_reducible exact .refl .. | with_reducible assumption | refine .s ?_ ?_ | refine .m ?_ ?_ | refine .l ?_ ?_ | refine .d ?_ | refine .e ?_ | (simp <;> omega) | omega) _)) HG1.out hn4 (by omega)).mono ?_; rintro e w1 ⟨X, D, rfl, rfl⟩
    rw [HV1.out]
    go_wp2_with fail
    refine bodyPost_ret (v := .tuple #[.agg #[.int .i64 0, .slice none 0 0, .slice none 0 0], .int .i64 1]) (by simp [results, Tryz.results13, go_sem, ↓IntWalk.iteOmega]) rfl ?_
    exact RetC.mk rfl (by repeat first | with_reducible exact .refl .. | with_reducible assumption | refine .s ?_ ?_ | refine .m ?_ ?_ | refine .l ?_ ?_ | refine .d ?_ | refine .e ?_ | (simp <;> omega) | omega) (RL.nil _ _ _ _) (RL.nil _ _ _ _)
  · obtain rfl : v2 = false := by simpa using hodd
    clear hodd
    go_enter Tryz.func13, Tryz.ntmps13
    go_wp2_with fail
    refine (r32all_ok _ ex A1 n1 c1 eqs n (HX.out.mono (Kr.of_below (by repeat first | with_reducible exact .refl .. | with_reducible assumption | refine .s ?_ ?_ | refine .m ?_ ?_ | refine .l ?_ ?_ | refine .d ?_ | refine .e ?_ | (simp <;> omega) | omega) _)) HG1.out hn4 (by omega)).mono ?_; rintro e w1 ⟨X, D, rfl, rfl⟩
    rw [HV1.out]
    go_wp2_with fail
    refine (r32all_ok _ ex A2 n2 c2 neqs n (HY.out.mono (Kr.of_below (by repeat first | with_reducible exact .refl .. | with_reducible assumption | refine .s ?_ ?_ | refine .m ?_ ?_ | refine .l ?_ ?_ | refine .d ?_ | refine .e ?_ | (simp <;> omega) | omega) _)) HG2.out hn4 (by omega)).mono ?_; rintro e w1 ⟨X2, D2, rfl, rfl⟩
    rw [HV2.out]
    go_wp2_with fail
    refine bodyPost_ret (v := .tuple #[.agg #[.int .i64 0, .slice none 0 0, .slice none 0 0], .int .i64 1]) (by simp [results, Tryz.results13, go_sem, ↓IntWalk.iteOmega]) rfl ?_
    exact RetC.mk rfl (by repeat first | with_reducible exact .refl .. | with_reducible assumption | refine .s ?_ ?_ | refine .m ?_ ?_ | refine .l ?_ ?_ | refine .d ?_ | refine .e ?_ | (simp <;> omega) | omega) (RL.nil _ _ _ _) (RL.nil _ _ _ _)

theorem onesL_skip {l : List Pol} {k : Nat} (hk : k < l.length) (h : l[k] ≠ []) : onesL (l.take (k + 1)) = onesL (l.take k) := by
  unfold onesL
  have e : l[k].isEmpty = false := by rw [Bool.eq_false_iff]; exact fun hh => h (List.isEmpty_iff.1 hh)
  rw [List.take_succ_eq_append_getElem hk, List.filter_append]; simp [e]
theorem onesL_more {l : List Pol} {k : Nat} (hk : k < l.length) (h : l[k] = []) : onesL (l.take (k + 1)) = onesL (l.take k) ++ [oneP] := by
  unfold onesL
  rw [List.take_succ_eq_append_getElem hk, List.filter_append]; simp [h]
theorem onesL_len (l : List Pol) (k : Nat) : (onesL (l.take k)).length ≤ k := by
  unfold onesL
  rw [List.length_map]
  exact Nat.le_trans (List.length_filter_le _ _) (by rw [List.length_take]; omega)

theorem OwnL.empty_at {α : Type} {E : Elt α} (w : World) (base : Nat) (ex : List Nat) (g : Nat) (hg : g = w.heap.size) (hb : base ≤ w.heap.size) : OwnL E (w.alloc (.cells #[] E.ty)) base ex (.slice (some ⟨g, 0, none⟩) 0 0) [] := by subst hg; exact OwnL.empty w base ex hb
theorem own_new {w : World} {ex ex1 : List Nat} (he : ex1 = [w.heap.size] ++ ex) {g n c : Nat} (hg : w.heap.size ≤ g) : ∀ b ∈ own (.slice (some ⟨g, 0, none⟩) n c) ++ ex1, b ∈ ex ∨ w.heap.size ≤ b := by
  intro b hb
  rw [he, own_some] at hb
  rcases List.mem_append.1 hb with hb | hb
  · rw [List.mem_singleton.1 hb]; exact .inr hg
  · rcases List.mem_append.1 hb with hb | hb
    · rw [List.mem_singleton.1 hb]; exact .inr (Nat.le_refl _)
    · exact .inl hb

set_option maxHeartbeats 8000000 in
theorem r32normal_ok (w : World) (ex : List Nat) (n : Nat) (A1 : Option Addr) (n1 c1 : Nat) (eqs : List Pol) (A2 : Option Addr) (n2 c2 : Nat) (neqs : List Pol) (hx : RL poE w ex A1 n1 c1 eqs) (hy : RL poE w ex A2 n2 c2 neqs) (hn1 : 1 ≤ n) (hn4 : n ≤ 4)
    (hz1 : ∀ p ∈ eqs, ZP p) (hz2 : ∀ p ∈ neqs, ZP p) (hw1 : eqs.all (fun p => withinB p n) = true) (hw2 : neqs.all (fun p => withinB p n) = true) (hl1 : n1 ≤ 100000) (hl2 : n2 ≤ 100000) (hex : ∀ b ∈ ex, b < w.heap.size) :
    Calls Tryz.prog 13 #[.int .i64 n, .slice A1 n1 c1, .slice A2 n2 c2] w (RetN w ex n (sortedK false (eqs ++ onesL neqs)) (sortedK true neqs)) := by
  have HL1 := Lib.hid hx.len
  have HL2 := Lib.hid hy.len
  have hcap1 := hx.cap
  have hcap2 := hy.cap
  have HX := Lib.hid hx
  have HY := Lib.hid hy
  have HZ1 := Lib.hid hz1
  have HZ2 := Lib.hid hz2
  have HW1 := Lib.hid hw1
  have HW2 := Lib.hid hw2
  have hh1 : ¬ (n : Int) < 1 := by omega
  have hh2 : ¬ 4 < (n : Int) := by omega
  obtain ⟨ex1, hE1⟩ : ∃ e, e = [w.heap.size] ++ ex := ⟨_, rfl⟩
  have HE0 := Lib.hid hE1
  obtain ⟨news, hEl, hRo⟩ := hx.row
  have HEl := Lib.hid hEl
  have HRo := Lib.hid hRo
  clear hx hy hz1 hz2 hw1 hw2 hE1 hEl hRo
  go_enter Tryz.func13, Tryz.ntmps13
  go_wp2_with fail
  refine (r32all_ok _ ex A1 n1 c1 eqs n (HX.out.mono (Kr.of_below (by repeat first | with_reducible exact .refl .. | with_reducible assumption | refine .s ?_ ?_ | refine .m ?_ ?_ | refine .l ?_ ?_ | refine .d ?_ | refine .e ?_ | (simp <;> omega) | omega) _)) (fun p hp => (HZ1.out p hp).gp) hn4 (by omega)).mono ?_; rintro e w1 ⟨X, D, rfl, rfl⟩
  rw [HW1.out]
  go_wp2_with fail
  refine (r32all_ok _ ex A2 n2 c2 neqs n (HY.out.mono (Kr.of_below (by repeat first | with_reducible exact .refl .. | with_reducible assumption | refine .s ?_ ?_ | refine .m ?_ ?_ | refine .l ?_ ?_ | refine .d ?_ | refine .e ?_ | (simp <;> omega) | omega) _)) (fun p hp => (HZ2.out p hp).gp) hn4 (by omega)).mono ?_; rintro e w1 ⟨X2, D2, rfl, rfl⟩
  rw [HW2.out]
  go_wp2_with (at_builtin; refine wpList_append_elts2 poE _ rfl _ _ 25 rfl Tryz.underlying25 (w.heap.size + 1) ex1 _ [] rfl (OwnL.empty_at _ _ _ _ (by first | (simp; done) | (simp; omega) | omega) (by first | (simp; done) | (simp; omega) | omega)) A1 n1 c1 eqs rfl HL1.out news (HRo.out.mono (Kr.fresh' (by repeat first | with_reducible exact .refl .. | with_reducible assumption | refine .s ?_ ?_ | refine .m ?_ ?_ | refine .l ?_ ?_ | refine .d ?_ | refine .e ?_ | (simp <;> omega) | omega) (own_new HE0.out (by first | (simp; done) | (simp; omega) | omega)))) (HEl.out.mono (Kr.fresh' (by repeat first | with_reducible exact .refl .. | with_reducible assumption | refine .s ?_ ?_ | refine .m ?_ ?_ | refine .l ?_ ?_ | refine .d ?_ | refine .e ?_ | (simp <;> omega) | omega) (own_new HE0.out (by first | (simp; done) | (simp; omega) | omega)))) (by simp; omega) (by first | (simp; done) | (simp; omega) | omega) ?_; intro v' w1 hown1 hkr1 hown2 hbl1; have hbx1 := hbl1 _ _ (show Below (w.heap.size + 1) (w.alloc (.cells #[.int .i64 0, .slice none 0 0, .slice none 0 0] 28)) _ from (by repeat first | with_reducible exact .refl .. | with_reducible assumption | refine .s ?_ ?_ | refine .m ?_ ?_ | refine .l ?_ ?_ | refine .d ?_ | refine .e ?_ | (simp <;> omega) | omega)) (Nat.le_refl _))
  rw [List.nil_append] at hown1
  go_wp2_with fail
  obtain ⟨W0, hW0⟩ : ∃ W, W = w.alloc (.cells #[.int .i64 0, .slice none 0 0, .slice none 0 0] 28) := ⟨_, rfl⟩
  have x0 : W0.cell? ⟨w.heap.size, 0, none⟩ = some (.int .i64 0) := by rw [hW0]; simp [go_sem, ↓IntWalk.iteOmega]
  have x1 : W0.cell? ⟨w.heap.size, 1, none⟩ = some (.slice none 0 0) := by rw [hW0]; simp [go_sem, ↓IntWalk.iteOmega]
  have x2 : W0.cell? ⟨w.heap.size, 2, none⟩ = some (.slice none 0 0) := by rw [hW0]; simp [go_sem, ↓IntWalk.iteOmega]
  have y0 : W0.frozen? ⟨w.heap.size, 0, none⟩ = false := by rw [hW0]; simp [go_sem, ↓IntWalk.iteOmega]
  have y1 : W0.frozen? ⟨w.heap.size, 1, none⟩ = false := by rw [hW0]; simp [go_sem, ↓IntWalk.iteOmega]
  have y2 : W0.frozen? ⟨w.heap.size, 2, none⟩ = false := by rw [hW0]; simp [go_sem, ↓IntWalk.iteOmega]
  have hS0 : W0.heap.size = w.heap.size + 1 := by rw [hW0]; simp
  have hB0 : Below w.heap.size w W0 := by rw [hW0]; exact (by repeat first | with_reducible exact .refl .. | with_reducible assumption | refine .s ?_ ?_ | refine .m ?_ ?_ | refine .l ?_ ?_ | refine .d ?_ | refine .e ?_ | (simp <;> omega) | omega)
  rw [← hW0] at hbx1
  clear hW0 hkr1 hown2 hbl1
  obtain ⟨B, hBe⟩ : ∃ B, B = w.heap.size + 1 := ⟨_, rfl⟩
  rw [← hBe] at hown1 hbx1 hS0
  have HY1 := Lib.hid (HY.out.mono (show Kr w ex W0 ex1 by rw [HE0.out]; exact Kr.fresh hB0 (by simp)))
  have hex1 : ∀ b ∈ ex1, b < B := by
    rw [HE0.out, hBe]; intro b hb
    rcases List.mem_append.1 hb with hb | hb
    · simp at hb; omega
    · have := hex b hb; omega
  clear HX HY HEl HRo
  refine wp_abs (fun W1 => OwnL poE W1 B ex1 v' eqs ∧ Below B W0 W1) ⟨hown1, hbx1⟩ ?_
  rintro W1 ⟨hown1, hbx1⟩
  go_loopw [8, 9] (fun v i wr => ∃ k : Nat, k ≤ n2 ∧ i = .int .i64 k ∧ OwnL poE wr B ex1 v (eqs ++ onesL (neqs.take k)) ∧ Below B W0 wr) (fun _ i _ => n2 - (intOf i).toNat)
  case atStart => exact ⟨0, Nat.zero_le _, rfl, by rw [show eqs ++ onesL (neqs.take 0) = eqs from List.append_nil _]; exact hown1, hbx1⟩
  case round =>
    clear hown1 hbx1
    obtain ⟨k, hk, rfl, hown, hb⟩ := hrel
    have hsz := hb.size
    have hvle := hown.le
    have hbw : Below w.heap.size w wr := hB0.trans (hb.mono (by omega))
    have hlen : (eqs ++ onesL (neqs.take k)).length ≤ 200000 := by
      have h1 := onesL_len neqs k
      have h2 := HL1.out
      rw [List.length_append]; omega
    obtain ⟨vA, vc, rfl, hvc⟩ := hown.form rfl
    by_cases hlt : k < n2
    · have hxw := HY1.out.mono (Kr.fresh (l := own (.slice vA (eqs ++ onesL (neqs.take k)).length vc)) (hS0 ▸ hb) (fun b hb => by have := (hvle b hb).1; omega))
      have hkl : k < neqs.length := by rw [← HL2.out]; exact hlt
      obtain ⟨b, o, rfl, hbx, hbl⟩ := hxw.some_ (by omega)
      obtain ⟨A3, m3, c3, hcell, hp3⟩ := hxw.poly hkl
      have hm3 := hp3.len
      have hskip := fun h => Lib.hid (congrArg (eqs ++ ·) (onesL_skip hkl h))
      have hmore := fun h => Lib.hid (congrArg (eqs ++ ·) (onesL_more hkl h))
      simp only [← List.append_assoc] at hmore
      generalize hPt : eqs ++ onesL (neqs.take k) = P at *
      clear hPt
      have hi1 : (k : Int) < (n2 : Int) := by omega
      have hexi : ∀ b ∈ own (.slice vA P.length vc) ++ ex1, b < wr.heap.size := by
        intro b hb
        rcases List.mem_append.1 hb with hb | hb
        · exact (hvle b hb).2
        · have := hex1 b hb; omega
      clear hxw
      by_cases h0 : m3 = 0
      · subst h0
        have HE := hmore (List.eq_nil_of_length_eq_zero hm3.symm)
        clear hm3 hskip hmore
        go_wp2_with fail
        refine (r2whole_ok _ (own (.slice vA P.length vc) ++ ex1) 1 (by omega) (by omega) (fun b hb => Nat.lt_of_lt_of_le (hexi b hb) (by first | (simp; done) | (simp; omega) | omega))).mono ?_; rintro e w1 ⟨s5, A5, n5, c5, s6, A6, n6, c6, X6, D6, rfl, rfl, h6⟩
        go_wp2_with fail
        refine (r6constant_ok _ (own (.slice vA P.length vc) ++ ex1) s5 A5 n5 c5 s6 A6 n6 c6 _ h6 (fun b hb => Nat.lt_of_lt_of_le (hexi b hb) (by first | (simp; done) | (simp; omega) | omega))).mono ?_; rintro e w1 ⟨A7, n7, c7, X7, D7, rfl, rfl, h7⟩
        have h7' : RP _ _ A7 n7 c7 oneP := h7
        go_wp2_with (at_builtin; refine wpList_append_elt poE _ rfl _ _ 25 rfl Tryz.underlying25 B ex1 (.slice vA P.length vc) P rfl (hown.keep (by repeat first | with_reducible exact .refl .. | with_reducible assumption | refine .s ?_ ?_ | refine .m ?_ ?_ | refine .l ?_ ?_ | refine .d ?_ | refine .e ?_ | (simp <;> omega) | omega)) _ _ rfl oneP [.slice A7 n7 c7] (cell_new _ _ _ _ (by simp)) (by intro hh; have := hexi _ hh; omega) ⟨A7, n7, c7, rfl, h7'.mono (Kr.of_below (by repeat first | with_reducible exact .refl .. | with_reducible assumption | refine .s ?_ ?_ | refine .m ?_ ?_ | refine .l ?_ ?_ | refine .d ?_ | refine .e ?_ | (simp <;> omega) | omega) _)⟩ (by omega) (by simp; omega) ?_; intro v' w1 hown1 hkr1 hbl1; have hbx1 := hbl1 _ _ (show Below B W0 _ from (by repeat first | with_reducible exact .refl .. | with_reducible assumption | refine .s ?_ ?_ | refine .m ?_ ?_ | refine .l ?_ ?_ | refine .d ?_ | refine .e ?_ | (simp <;> omega) | omega)) (Nat.le_refl _))
        go_wp2_with fail
        go_roundw
        case rel => exact ⟨k + 1, by omega, by go_num, by rw [HE.out]; exact hown1, hbx1⟩
        case measure => simp [intOf]; omega
      · have HE := hskip (fun e => h0 (by rw [hm3, e]; rfl))
        have hm0 : ((m3 : Int) == 0) = false := by simpa using h0
        clear hm3 hskip hmore h0
        go_wp2_with fail
        go_roundw
        case rel => exact ⟨k + 1, by omega, by go_num, by rw [HE.out]; exact hown, hb⟩
        case measure => simp [intOf]; omega
    · obtain rfl : k = n2 := by omega
      rw [List.take_of_length_le (by rw [← HL2.out]; exact Nat.le_refl _)] at hown hvle hvc hlen ⊢
      clear hlt hk
      have HQz : Hid (∀ p ∈ eqs ++ onesL neqs, ZP p) := Lib.hid (fun p hp => by
        rcases List.mem_append.1 hp with hp | hp
        · exact HZ1.out p hp
        · obtain ⟨q, _, rfl⟩ := List.mem_map.1 hp; exact zp_one)
      generalize eqs ++ onesL neqs = Q1 at *
      have hr1 := hown.read (fun b hb => hex1 b hb)
      have f0 := (Below.at0 hb (show w.heap.size < B by omega) 0).trans x0
      have f1 := (Below.at0 hb (show w.heap.size < B by omega) 1).trans x1
      have f2 := (Below.at0 hb (show w.heap.size < B by omega) 2).trans x2
      have k0 := (hb.frozen (p := ⟨w.heap.size, 0, none⟩) (show w.heap.size < B by omega)).trans y0
      have k1 := (hb.frozen (p := ⟨w.heap.size, 1, none⟩) (show w.heap.size < B by omega)).trans y1
      have k2 := (hb.frozen (p := ⟨w.heap.size, 2, none⟩) (show w.heap.size < B by omega)).trans y2
      have hr2 := HY1.out.mono (Kr.of_below (hS0 ▸ hb) _)
      have hexr : ∀ b ∈ ex1, b < wr.heap.size := fun b hb => by have := hex1 b hb; omega
      have hltw : w.heap.size < wr.heap.size := by omega
      clear hown hvle x0 x1 x2 y0 y1 y2
      go_wp2_with fail
      refine (sorted_ok _ ex1 vA Q1.length vc Q1 false (hr1.mono (Kr.of_below (by repeat first | with_reducible exact .refl .. | with_reducible assumption | refine .s ?_ ?_ | refine .m ?_ ?_ | refine .l ?_ ?_ | refine .d ?_ | refine .e ?_ | (simp <;> omega) | omega) _)) HQz.out (by omega) hexr).mono ?_; rintro e w' ⟨A5, n5, c5, X5, D5, rfl, rfl, h5⟩
      go_wp2_with fail
      refine (sorted_ok _ ex1 A2 k c2 neqs true (hr2.mono (Kr.of_below (by repeat first | with_reducible exact .refl .. | with_reducible assumption | refine .s ?_ ?_ | refine .m ?_ ?_ | refine .l ?_ ?_ | refine .d ?_ | refine .e ?_ | (simp <;> omega) | omega) _)) HZ2.out (by omega) (fun b hb => Nat.lt_of_lt_of_le (hexr b hb) (by first | (simp; done) | (simp; omega) | omega))).mono ?_; rintro e w' ⟨A6, n6, c6, X6, D6, rfl, rfl, h6⟩
      have L1 := Lib.hid h5.len
      have L2 := Lib.hid h6.len
      have l1 := h5.mono (Kr.of_below (show Below (wr.more X5 D5).heap.size (wr.more X5 D5) ((wr.more X5 D5).more X6 D6) from (by repeat first | with_reducible exact .refl .. | with_reducible assumption | refine .s ?_ ?_ | refine .m ?_ ?_ | refine .l ?_ ?_ | refine .d ?_ | refine .e ?_ | (simp <;> omega) | omega)) _)
      clear hr1 hr2
      by_cases h12 : 12 < n5
      · have h12' : (12 : Int) < (n5 : Int) := by omega
        go_wp2_with fail
        refine bodyPost_ret (v := .tuple #[.agg #[.int .i64 0, .slice none 0 0, .slice none 0 0], .int .i64 2]) (by simp [results, Tryz.results13, f0, f1, f2, k0, k1, k2, go_sem, ↓IntWalk.iteOmega]) rfl ?_
        refine RetN.big (Or.inl (by rw [← L1.out]; exact h12)) ?_
        exact RetC.mk rfl (by repeat first | with_reducible exact .refl .. | with_reducible assumption | refine .s ?_ ?_ | refine .m ?_ ?_ | refine .l ?_ ?_ | refine .d ?_ | refine .e ?_ | (simp <;> omega) | omega) (RL.nil _ _ _ _) (RL.nil _ _ _ _)
      · have h12' : ¬ (12 : Int) < (n5 : Int) := by omega
        by_cases h13 : 12 < n6
        · have h13' : (12 : Int) < (n6 : Int) := by omega
          go_wp2_with fail
          refine bodyPost_ret (v := .tuple #[.agg #[.int .i64 0, .slice none 0 0, .slice none 0 0], .int .i64 2]) (by simp [results, Tryz.results13, f0, f1, f2, k0, k1, k2, go_sem, ↓IntWalk.iteOmega]) rfl ?_
          refine RetN.big (Or.inr (by rw [← L2.out]; exact h13)) ?_
          exact RetC.mk rfl (by repeat first | with_reducible exact .refl .. | with_reducible assumption | refine .s ?_ ?_ | refine .m ?_ ?_ | refine .l ?_ ?_ | refine .d ?_ | refine .e ?_ | (simp <;> omega) | omega) (RL.nil _ _ _ _) (RL.nil _ _ _ _)
        · have h13' : ¬ (12 : Int) < (n6 : Int) := by omega
          go_wp2_with fail
          refine bodyPost_ret (v := .tuple #[.agg #[.int .i64 n, .slice A5 n5 c5, .slice A6 n6 c6], .int .i64 0]) (by simp [results, Tryz.results13, f0, f1, f2, k0, k1, k2, go_sem, ↓IntWalk.iteOmega]) rfl ?_
          refine RetN.ok (by rw [← L1.out, ← L2.out]; omega) ?_
          refine RetC.mk rfl (by repeat first | with_reducible exact .refl .. | with_reducible assumption | refine .s ?_ ?_ | refine .m ?_ ?_ | refine .l ?_ ?_ | refine .d ?_ | refine .e ?_ | (simp <;> omega) | omega) (l1.mono ?_) (h6.mono ?_)
          · rw [HE0.out]; exact Kr.down (by repeat (first | (with_reducible exact Kr.refl _ _) | (with_reducible assumption) | refine Kr.setCell ?_ _ (by simp) | refine Kr.more ?_ _ _ | refine Kr.alloc_ ?_ _ | refine Kr.drew ?_ | refine Kr.drewN ?_ _)) (by first | (intro b hb; simp [hb]; done) | (intro b hb; exact hb) | (intro b hb; simp at hb ⊢; grind))
          · rw [HE0.out]; exact Kr.down (by repeat (first | (with_reducible exact Kr.refl _ _) | (with_reducible assumption) | refine Kr.setCell ?_ _ (by simp) | refine Kr.more ?_ _ _ | refine Kr.alloc_ ?_ _ | refine Kr.drew ?_ | refine Kr.drewN ?_ _)) (by first | (intro b hb; simp [hb]; done) | (intro b hb; exact hb) | (intro b hb; simp at hb ⊢; grind))

end Go.Proofs.YthhdleppkggepaaGreat
