/-
  The walk of system.permuted.
-/
import Derived.Laws.IdiomCopy
import Derived.Test.YthhdleppkggepaaGreatSb19
import Derived.Test.YthhdleppkggepaaGreatSb23
import Derived.Test.YthhdleppkggepaaGreatSb24

set_option linter.unusedSimpArgs false
set_option linter.unusedVariables false
set_option linter.unusedSectionVars false

namespace Go.Proofs.YthhdleppkggepaaGreat
open Go.RowKit Go.Deep
set_option maxRecDepth 100000

/-- A permutation's numbers, as they lie in a block. -/
def PCell (w : World) (g : Nat) (l : List Int) : Prop := ∀ j, j < 8 → w.cell? ⟨g, j, none⟩ = some (.int .i64 (l.getD j 0))
theorem PCell.below {w w' : World} {b B : Nat} {l : List Int} (h : PCell w b l) (hb : Below B w w') (hlt : b < B) : PCell w' b l :=
  fun j hj => (hb.cell hlt).trans (h j hj)

set_option maxHeartbeats 2000000 in
theorem peach_ok (w : World) (ex : List Nat) (A : Option Addr) (n c : Nat) (l : List Pol) (g : Nat) (d0 d1 d2 d3 d4 d5 d6 d7 : Int) (perm : List Nat) (hd : [d0, d1, d2, d3, d4, d5, d6, d7] = perm.map fun x : Nat => (x : Int)) (hp : Perm8 perm) (hg : PCell w g [d0, d1, d2, d3, d4, d5, d6, d7]) (hlt : g < w.heap.size) (hx : RL poE w ex A n c l) (hv : ∀ p ∈ l, validB p = true ∧ GP p) (hn : n ≤ 1000000) (hex : ∀ b ∈ ex, b < w.heap.size) :
    Calls Tryz.prog 104 #[.slice A n c, .pointer (some ⟨g, 0, none⟩)] w (RetL poE w ex (l.map (permP perm))) := by
  have HL := Lib.hid hx.len
  have hcap := hx.cap
  have HX := Lib.hid hx
  have HV := Lib.hid hv
  have HP := Lib.hid hp
  have HD := Lib.hid hd
  clear hv hx hp hd
  go_enter Tryz.func104, Tryz.ntmps104
  go_wp2_with fail
  go_loopw [4, 11] (fun v i wr => ∃ k : Nat, k ≤ n ∧ i = .int .i64 k ∧ OwnL poE wr w.heap.size ex v ((l.map (permP perm)).take k) ∧ Below w.heap.size w wr) (fun _ i _ => n - (intOf i).toNat)
  case atStart => exact ⟨0, Nat.zero_le _, rfl, OwnL.nil _ _ _, Below.refl _ _⟩
  case round =>
    obtain ⟨k, hk, rfl, hown, hb⟩ := hrel
    have hsz := hb.size
    have hvle := hown.le
    have hlen : ((l.map (permP perm)).take k).length = k := by rw [List.length_take, List.length_map, ← HL.out]; omega
    obtain ⟨vA, vc, rfl, hvc⟩ := hown.form hlen
    by_cases hlk : k < n
    · have hxw := HX.out.mono (Kr.fresh (l := own (.slice vA k vc)) hb (fun b hb => (hvle b hb).1))
      have hkl : k < l.length := by rw [← HL.out]; exact hlk
      obtain ⟨b, o, rfl, hbx, hbl⟩ := hxw.some_ (by omega)
      obtain ⟨A1, m1, c1, hcell, hp1⟩ := hxw.poly hkl
      have hvk := HV.out _ (List.getElem_mem hkl)
      have HN : Hid ((l.map (permP perm)).take (k + 1) = (l.map (permP perm)).take k ++ [permP perm l[k]]) := Lib.hid (by rw [List.take_succ_eq_append_getElem (by simpa using hkl)]; simp)
      have hgw := hg.below hb hlt
      have d0_ : wr.cell? ⟨g, 0, none⟩ = some (.int .i64 d0) := hgw 0 (by omega)
      have d1_ : wr.cell? ⟨g, 1, none⟩ = some (.int .i64 d1) := hgw 1 (by omega)
      have d2_ : wr.cell? ⟨g, 2, none⟩ = some (.int .i64 d2) := hgw 2 (by omega)
      have d3_ : wr.cell? ⟨g, 3, none⟩ = some (.int .i64 d3) := hgw 3 (by omega)
      have d4_ : wr.cell? ⟨g, 4, none⟩ = some (.int .i64 d4) := hgw 4 (by omega)
      have d5_ : wr.cell? ⟨g, 5, none⟩ = some (.int .i64 d5) := hgw 5 (by omega)
      have d6_ : wr.cell? ⟨g, 6, none⟩ = some (.int .i64 d6) := hgw 6 (by omega)
      have d7_ : wr.cell? ⟨g, 7, none⟩ = some (.int .i64 d7) := hgw 7 (by omega)
      have HC := Lib.hid (permute_ok wr (own (.slice vA k vc) ++ ex) A1 m1 c1 l[k] d0 d1 d2 d3 d4 d5 d6 d7 perm HD.out HP.out hp1 hvk.1 hvk.2.len (hexs hex hsz (fun b hb => (hvle b hb).2)))
      generalize hPt : (l.map (permP perm)).take k = P at *
      have HPt := Lib.hid hPt; clear hPt
      have hi1 : (k : Int) < (n : Int) := by omega
      clear hxw hgw
      go_wp2_with fail
      refine HC.out.mono ?_; rintro e w1 ⟨A2, m2, c2, X1, D1, rfl, rfl, h2⟩
      go_wp2_with (at_builtin; refine wpList_append_elt poE _ rfl _ _ 25 rfl Tryz.underlying25 w.heap.size ex (.slice vA k vc) P rfl (hown.keep (by repeat first | with_reducible exact .refl .. | with_reducible assumption | refine .s ?_ ?_ | refine .m ?_ ?_ | refine .l ?_ ?_ | refine .d ?_ | refine .e ?_ | (simp <;> omega) | omega)) _ _ rfl (permP perm l[k]) [.slice A2 m2 c2] (cell_new _ _ _ _ (by simp)) (by intro hh; rcases List.mem_append.1 hh with hh | hh; (have := (hvle _ hh).2; omega); (have := hex _ hh; omega)) ⟨A2, m2, c2, rfl, h2.mono (Kr.of_below (by repeat first | with_reducible exact .refl .. | with_reducible assumption | refine .s ?_ ?_ | refine .m ?_ ?_ | refine .l ?_ ?_ | refine .d ?_ | refine .e ?_ | (simp <;> omega) | omega) _)⟩ (by rw [hlen]; omega) (by simp; omega) ?_; intro v' w1 hown1 hkr1 hbl1; have hbx1 := hbl1 _ _ (show Below w.heap.size w _ from (by repeat first | with_reducible exact .refl .. | with_reducible assumption | refine .s ?_ ?_ | refine .m ?_ ?_ | refine .l ?_ ?_ | refine .d ?_ | refine .e ?_ | (simp <;> omega) | omega)) (Nat.le_refl _))
      go_wp2_with fail
      go_roundw
      case rel => exact ⟨k + 1, by omega, by go_num, by rw [HN.out]; exact hown1, hbx1⟩
      case measure => simp [intOf]; omega
    · obtain rfl : k = n := by omega
      rw [List.take_of_length_le (by rw [List.length_map, ← HL.out]; exact Nat.le_refl _)] at hown hlen
      go_wp2_with fail
      go_ret
      exact RetL.mk rfl hb (hown.read (fun b hb => hex b hb))

/-- A call that returns a core. -/
def RetK (w : World) (ex : List Nat) (N : Int) (l1 l2 : List Pol) (e : Ending) (w' : World) : Prop :=
  ∃ A n c A' n' c' X D, e = .returned (.agg #[.int .i64 N, .slice A n c, .slice A' n' c']) ∧ w' = w.more X D ∧ RL poE (w.more X D) ex A n c l1 ∧ RL poE (w.more X D) ex A' n' c' l2
theorem RetK.mk {w w' : World} {ex : List Nat} {N : Int} {l1 l2 : List Pol} {A : Option Addr} {n c : Nat} {A' : Option Addr} {n' c' : Nat} {e : Ending} (he : e = .returned (.agg #[.int .i64 N, .slice A n c, .slice A' n' c']))
    (hb : Below w.heap.size w w') (hr : RL poE w' ex A n c l1) (hr2 : RL poE w' ex A' n' c' l2) : RetK w ex N l1 l2 e w' := by
  obtain ⟨X, D, rfl⟩ := World.more_of_below hb
  exact ⟨A, n, c, A', n', c', X, D, he, rfl, hr, hr2⟩
theorem clr_new {w w' : World} {F ex : List Nat} {B : Nat} (hb : Below w.heap.size w w') (hB : w.heap.size ≤ B) : Kr w (F ++ ex) w' ([B] ++ ex) :=
  (Kr.fresh (ex := F ++ ex) (l := [B]) hb (by intro b h; simp at h; omega)).sub (by intro b h; simp at h ⊢; rcases h with h | h <;> simp [h])
theorem clr_old {w w' W : World} {lo B : Nat} {ex : List Nat} (hb : Below w.heap.size w w') (h1 : lo ≤ B) (h2 : B < W.heap.size) : Kr w (FrW lo W ++ ex) w' ([B] ++ ex) :=
  ((Kr.refl w (FrW lo W ++ ex)).sub (by
    intro b h
    rcases List.mem_append.1 h with h | h
    · simp at h; subst h; exact List.mem_append_left _ (mem_FrW.2 ⟨h1, h2⟩)
    · exact List.mem_append_right _ h)).trans (Kr.of_below hb _)
theorem clr_none {w w' : World} {F ex : List Nat} (hb : Below w.heap.size w w') : Kr w (F ++ ex) w' ex :=
  ((Kr.refl w (F ++ ex)).sub (by intro b h; exact List.mem_append_right _ h)).trans (Kr.of_below hb _)
theorem RL.drop1 {w w' : World} {B : Nat} {ex : List Nat} {A : Option Addr} {n c : Nat} {l : List Pol} (h : RL poE w ([B] ++ ex) A n c l) (k : Kr w ([B] ++ ex) w' ([B] ++ ex)) : RL poE w' ex A n c l :=
  (h.mono k).mono ((Kr.refl _ _).sub (by intro b hb; simp [hb]))
def permL (perm : List Nat) (l : List Pol) : List Pol := l.map (permP perm)
/-- What system.permuted asks of a list. -/
structure PermOk (n : Nat) (M : Int) (perm : List Nat) (l1 l2 : List Pol) : Prop where
  v1 : ∀ p ∈ l1, validB p = true ∧ GP p
  v2 : ∀ p ∈ l2, validB p = true ∧ GP p
  w1 : ∀ p ∈ permL perm l1, withinB p n = true ∧ GP p
  w2 : ∀ p ∈ permL perm l2, withinB p n = true ∧ GP p
  yes : ∀ p ∈ yesL (permL perm l1) (permL perm l2), NP M p
  no : ∀ p ∈ noL (permL perm l2), NP M p
  len1 : l1.length ≤ 100000
  len2 : l2.length ≤ 100000
  few : ¬ (12 < (tidyP (yesL (permL perm l1) (permL perm l2))).length ∨ 12 < (tidyP (noL (permL perm l2))).length)

set_option maxHeartbeats 4000000 in
theorem permuted_ok (w : World) (ex : List Nat) (N : Nat) (A1 : Option Addr) (n1 c1 : Nat) (l1 : List Pol) (A2 : Option Addr) (n2 c2 : Nat) (l2 : List Pol) (d0 d1 d2 d3 d4 d5 d6 d7 : Int) (perm : List Nat) (hd : [d0, d1, d2, d3, d4, d5, d6, d7] = perm.map fun x : Nat => (x : Int)) (hp : Perm8 perm) (hx : RL poE w ex A1 n1 c1 l1) (hy : RL poE w ex A2 n2 c2 l2) (hN1 : 1 ≤ N) (hN4 : N ≤ 4) (M : Int) (hM : 0 < M) (hM2 : M < 65536) (hok : PermOk N M perm l1 l2) (hex : ∀ b ∈ ex, b < w.heap.size) :
    Calls Tryz.prog 56 #[.agg #[.int .i64 N, .slice A1 n1 c1, .slice A2 n2 c2], .agg #[.int .i64 d0, .int .i64 d1, .int .i64 d2, .int .i64 d3, .int .i64 d4, .int .i64 d5, .int .i64 d6, .int .i64 d7]] w (RetK w ex N (tidyP (yesL (permL perm l1) (permL perm l2))) (tidyP (noL (permL perm l2)))) := by
  have HX := Lib.hid hx
  have HY := Lib.hid hy
  have HD := Lib.hid hd
  have HP := Lib.hid hp
  have HV1 := Lib.hid hok.v1
  have HV2 := Lib.hid hok.v2
  have HG1 : Hid (∀ p ∈ l1.map (permP perm), GP p) := Lib.hid (fun p h => (hok.w1 p h).2)
  have HG2 : Hid (∀ p ∈ l2.map (permP perm), GP p) := Lib.hid (fun p h => (hok.w2 p h).2)
  have HW1 : Hid (∀ p ∈ l1.map (permP perm), withinB p N = true) := Lib.hid (fun p h => (hok.w1 p h).1)
  have HW2 : Hid (∀ p ∈ l2.map (permP perm), withinB p N = true) := Lib.hid (fun p h => (hok.w2 p h).1)
  have HY1 : Hid (∀ p ∈ yesL (l1.map (permP perm)) (l2.map (permP perm)), NP M p) := Lib.hid hok.yes
  have HY2 : Hid (∀ p ∈ noL (l2.map (permP perm)), NP M p) := Lib.hid hok.no
  have HS : Hid (¬ (12 < (tidyP (yesL (l1.map (permP perm)) (l2.map (permP perm)))).length ∨ 12 < (tidyP (noL (l2.map (permP perm)))).length)) := Lib.hid hok.few
  have hl1 : n1 ≤ 100000 := by rw [hx.len]; exact hok.len1
  have hl2 : n2 ≤ 100000 := by rw [hy.len]; exact hok.len2
  have HL3 : Hid (∀ {n : Nat}, n = (l1.map (permP perm)).length → n ≤ 100000) := Lib.hid (fun h => by rw [h, List.length_map]; exact hok.len1)
  have HL4 : Hid (∀ {n : Nat}, n = (l2.map (permP perm)).length → n ≤ 100000) := Lib.hid (fun h => by rw [h, List.length_map]; exact hok.len2)
  unfold permL
  clear hx hy hd hp hok
  go_enter Tryz.func56, Tryz.ntmps56
  go_wp2_with fail
  refine wp_abs (fun W1 => Below w.heap.size w W1 ∧ w.heap.size + 3 ≤ W1.heap.size ∧ W1.cell? ⟨w.heap.size, 0, none⟩ = some (.int .i64 N) ∧ W1.cell? ⟨w.heap.size, 1, none⟩ = some (.slice A1 n1 c1) ∧ W1.cell? ⟨w.heap.size, 2, none⟩ = some (.slice A2 n2 c2) ∧ PCell W1 (w.heap.size + 1) [d0, d1, d2, d3, d4, d5, d6, d7] ∧
      W1.cell? ⟨w.heap.size + 2, 0, none⟩ = some (.int .i64 0) ∧ W1.cell? ⟨w.heap.size + 2, 1, none⟩ = some (.slice none 0 0) ∧ W1.cell? ⟨w.heap.size + 2, 2, none⟩ = some (.slice none 0 0) ∧ W1.frozen? ⟨w.heap.size + 2, 0, none⟩ = false ∧ W1.frozen? ⟨w.heap.size + 2, 1, none⟩ = false ∧ W1.frozen? ⟨w.heap.size + 2, 2, none⟩ = false)
    ⟨(by repeat first | with_reducible exact .refl .. | with_reducible assumption | refine .s ?_ ?_ | refine .m ?_ ?_ | refine .l ?_ ?_ | refine .d ?_ | refine .e ?_ | (simp <;> omega) | omega), by simp, by simp [go_sem, ↓IntWalk.iteOmega], by simp [go_sem, ↓IntWalk.iteOmega], by simp [go_sem, ↓IntWalk.iteOmega], ?_, by simp [go_sem, ↓IntWalk.iteOmega], by simp [go_sem, ↓IntWalk.iteOmega], by simp [go_sem, ↓IntWalk.iteOmega], by simp [go_sem, ↓IntWalk.iteOmega], by simp [go_sem, ↓IntWalk.iteOmega], by simp [go_sem, ↓IntWalk.iteOmega]⟩ ?_
  · have h0 : PCell ((w.alloc (.cells #[.int .i64 N, .slice A1 n1 c1, .slice A2 n2 c2] 28)).alloc (.cells #[.int .i64 d0, .int .i64 d1, .int .i64 d2, .int .i64 d3, .int .i64 d4, .int .i64 d5, .int .i64 d6, .int .i64 d7] 44)) (w.heap.size + 1) [d0, d1, d2, d3, d4, d5, d6, d7] := by
      intro j hj
      have := cell8 (w.alloc (.cells #[.int .i64 N, .slice A1 n1 c1, .slice A2 n2 c2] 28)) 44 d0 d1 d2 d3 d4 d5 d6 d7 j hj
      rw [World.size_alloc] at this; exact this
    exact h0.below (B := w.heap.size + 2) ((Below.refl _ _).alloc (by simp) _) (by omega)
  rintro W1 ⟨hB1, hS1, b0, b1, b2, hpc, z0, z1, z2, f0, f1, f2⟩
  have HPC := Lib.hid hpc
  clear hpc
  obtain ⟨ex1, he1⟩ : ∃ ex1, ex1 = [w.heap.size + 2] ++ ex := ⟨_, rfl⟩
  have X1 : Hid (RL poE W1 ex1 A1 n1 c1 l1) := Lib.hid (by rw [he1]; exact HX.out.mono (Kr.fresh (l := [w.heap.size + 2]) hB1 (by simp)))
  have Y1 : Hid (RL poE W1 ex1 A2 n2 c2 l2) := Lib.hid (by rw [he1]; exact HY.out.mono (Kr.fresh (l := [w.heap.size + 2]) hB1 (by simp)))
  have hex1 : ∀ b ∈ ex1, b < W1.heap.size := by
    intro b hb; rw [he1] at hb
    rcases List.mem_append.1 hb with hb | hb
    · simp at hb; omega
    · have := hex b hb; omega
  have HMem : Hid (w.heap.size + 2 ∈ ex1) := Lib.hid (by rw [he1]; simp)
  have HSub : Hid (∀ b, b ∈ ex → b ∈ ex1) := Lib.hid (by intro b hb; rw [he1]; simp [hb])
  clear he1
  go_cut [6] (fun v6 w' => ∃ b6 A n c A' n' c', v6 = .pointer (some ⟨b6, 0, none⟩) ∧ Below W1.heap.size W1 w' ∧ W1.heap.size ≤ b6 ∧ b6 < w'.heap.size ∧ w'.cell? ⟨b6, 0, none⟩ = some (.int .i64 N) ∧ w'.cell? ⟨b6, 1, none⟩ = some (.slice A n c) ∧ w'.cell? ⟨b6, 2, none⟩ = some (.slice A' n' c') ∧ RL poE w' ex1 A n c (tidyP (yesL (l1.map (permP perm)) (l2.map (permP perm)))) ∧ RL poE w' ex1 A' n' c' (tidyP (noL (l2.map (permP perm)))))
  case first =>
    go_region_held3 (fun w' => w'.cell? ⟨w.heap.size, 0, none⟩ = some (.int .i64 N) ∧ w'.cell? ⟨w.heap.size, 0 + 1, none⟩ = some (.slice A1 n1 c1) ∧ w'.cell? ⟨w.heap.size, 0 + 2, none⟩ = some (.slice A2 n2 c2))
      ((repeat' apply And.intro) <;> first | (simp [*, go_sem, ↓IntWalk.iteOmega]; done) | (refine got_of ?_; simp [*, go_sem, ↓IntWalk.iteOmega]; done))
      (first | (go_at_call_of 104 A1; refine (peach_ok _ (FrW W1.heap.size _ ++ ex1) A1 n1 c1 l1 (w.heap.size + 1) d0 d1 d2 d3 d4 d5 d6 d7 perm HD.out HP.out (HPC.out.below (B := W1.heap.size) (by repeat first | with_reducible exact .refl .. | with_reducible assumption | refine .s ?_ ?_ | refine .m ?_ ?_ | refine .l ?_ ?_ | refine .d ?_ | refine .e ?_ | (simp <;> omega) | omega) (by omega)) (by first | (simp; done) | (simp; omega) | omega) (X1.out.mono (FrW.kr (by repeat first | with_reducible exact .refl .. | with_reducible assumption | refine .s ?_ ?_ | refine .m ?_ ?_ | refine .l ?_ ?_ | refine .d ?_ | refine .e ?_ | (simp <;> omega) | omega))) HV1.out (by omega) (FrW.hex hex1 (by first | (simp; done) | (simp; omega) | omega))).mono ?_; rintro e w' ⟨A3, n3, c3, X3, D3, rfl, rfl, h3⟩) | (go_at_call_of 104 A2; refine (peach_ok _ (FrW W1.heap.size _ ++ ex1) A2 n2 c2 l2 (w.heap.size + 1) d0 d1 d2 d3 d4 d5 d6 d7 perm HD.out HP.out (HPC.out.below (B := W1.heap.size) (by repeat first | with_reducible exact .refl .. | with_reducible assumption | refine .s ?_ ?_ | refine .m ?_ ?_ | refine .l ?_ ?_ | refine .d ?_ | refine .e ?_ | (simp <;> omega) | omega) (by omega)) (by first | (simp; done) | (simp; omega) | omega) (Y1.out.mono (FrW.kr (by repeat first | with_reducible exact .refl .. | with_reducible assumption | refine .s ?_ ?_ | refine .m ?_ ?_ | refine .l ?_ ?_ | refine .d ?_ | refine .e ?_ | (simp <;> omega) | omega))) HV2.out (by omega) (FrW.hex hex1 (by first | (simp; done) | (simp; omega) | omega))).mono ?_; rintro e w' ⟨A4, n4, c4, X4, D4, rfl, rfl, h4⟩) | ((first | (go_at_call 12; refine (normal_ok _ ([W1.heap.size] ++ ex1) N A3 n3 c3 (l1.map (permP perm)) A4 n4 c4 (l2.map (permP perm)) (h3.mono (by first | exact clr_new (by repeat first | with_reducible exact .refl .. | with_reducible assumption | refine .s ?_ ?_ | refine .m ?_ ?_ | refine .l ?_ ?_ | refine .d ?_ | refine .e ?_ | (simp <;> omega) | omega) (by first | (simp; done) | (simp; omega) | omega) | exact clr_old (by repeat first | with_reducible exact .refl .. | with_reducible assumption | refine .s ?_ ?_ | refine .m ?_ ?_ | refine .l ?_ ?_ | refine .d ?_ | refine .e ?_ | (simp <;> omega) | omega) (by first | (simp; done) | (simp; omega) | omega) (by first | (simp; done) | (simp; omega) | omega))) (h4.mono (by first | exact clr_new (by repeat first | with_reducible exact .refl .. | with_reducible assumption | refine .s ?_ ?_ | refine .m ?_ ?_ | refine .l ?_ ?_ | refine .d ?_ | refine .e ?_ | (simp <;> omega) | omega) (by first | (simp; done) | (simp; omega) | omega) | exact clr_old (by repeat first | with_reducible exact .refl .. | with_reducible assumption | refine .s ?_ ?_ | refine .m ?_ ?_ | refine .l ?_ ?_ | refine .d ?_ | refine .e ?_ | (simp <;> omega) | omega) (by first | (simp; done) | (simp; omega) | omega) (by first | (simp; done) | (simp; omega) | omega))) hN1 hN4 HG1.out HG2.out HW1.out HW2.out M hM hM2 HY1.out HY2.out (by have := HL3.out h3.len; omega) (by have := HL4.out h4.len; omega) (by intro x hx; rcases List.mem_append.1 hx with hx | hx; (simp at hx; simp; omega); (have := hex1 x hx; simp; omega))).mono ?_) | fail); rintro e w' hret; unfold RetN at hret; rw [if_neg HS.out] at hret; obtain ⟨A5, n5, c5, A6, n6, c6, X5, D5, rfl, rfl, h5, h6⟩ := hret) | ((first | (go_at_call 12; refine (normal_ok _ ([W1.heap.size + X3.size] ++ ex1) N A3 n3 c3 (l1.map (permP perm)) A4 n4 c4 (l2.map (permP perm)) (h3.mono (by first | exact clr_new (by repeat first | with_reducible exact .refl .. | with_reducible assumption | refine .s ?_ ?_ | refine .m ?_ ?_ | refine .l ?_ ?_ | refine .d ?_ | refine .e ?_ | (simp <;> omega) | omega) (by first | (simp; done) | (simp; omega) | omega) | exact clr_old (by repeat first | with_reducible exact .refl .. | with_reducible assumption | refine .s ?_ ?_ | refine .m ?_ ?_ | refine .l ?_ ?_ | refine .d ?_ | refine .e ?_ | (simp <;> omega) | omega) (by first | (simp; done) | (simp; omega) | omega) (by first | (simp; done) | (simp; omega) | omega))) (h4.mono (by first | exact clr_new (by repeat first | with_reducible exact .refl .. | with_reducible assumption | refine .s ?_ ?_ | refine .m ?_ ?_ | refine .l ?_ ?_ | refine .d ?_ | refine .e ?_ | (simp <;> omega) | omega) (by first | (simp; done) | (simp; omega) | omega) | exact clr_old (by repeat first | with_reducible exact .refl .. | with_reducible assumption | refine .s ?_ ?_ | refine .m ?_ ?_ | refine .l ?_ ?_ | refine .d ?_ | refine .e ?_ | (simp <;> omega) | omega) (by first | (simp; done) | (simp; omega) | omega) (by first | (simp; done) | (simp; omega) | omega))) hN1 hN4 HG1.out HG2.out HW1.out HW2.out M hM hM2 HY1.out HY2.out (by have := HL3.out h3.len; omega) (by have := HL4.out h4.len; omega) (by intro x hx; rcases List.mem_append.1 hx with hx | hx; (simp at hx; simp; omega); (have := hex1 x hx; simp; omega))).mono ?_) | fail); rintro e w' hret; unfold RetN at hret; rw [if_neg HS.out] at hret; obtain ⟨A5, n5, c5, A6, n6, c6, X5, D5, rfl, rfl, h5, h6⟩ := hret) | ((first | (go_at_call 12; refine (normal_ok _ ([W1.heap.size + X3.size + X4.size] ++ ex1) N A3 n3 c3 (l1.map (permP perm)) A4 n4 c4 (l2.map (permP perm)) (h3.mono (by first | exact clr_new (by repeat first | with_reducible exact .refl .. | with_reducible assumption | refine .s ?_ ?_ | refine .m ?_ ?_ | refine .l ?_ ?_ | refine .d ?_ | refine .e ?_ | (simp <;> omega) | omega) (by first | (simp; done) | (simp; omega) | omega) | exact clr_old (by repeat first | with_reducible exact .refl .. | with_reducible assumption | refine .s ?_ ?_ | refine .m ?_ ?_ | refine .l ?_ ?_ | refine .d ?_ | refine .e ?_ | (simp <;> omega) | omega) (by first | (simp; done) | (simp; omega) | omega) (by first | (simp; done) | (simp; omega) | omega))) (h4.mono (by first | exact clr_new (by repeat first | with_reducible exact .refl .. | with_reducible assumption | refine .s ?_ ?_ | refine .m ?_ ?_ | refine .l ?_ ?_ | refine .d ?_ | refine .e ?_ | (simp <;> omega) | omega) (by first | (simp; done) | (simp; omega) | omega) | exact clr_old (by repeat first | with_reducible exact .refl .. | with_reducible assumption | refine .s ?_ ?_ | refine .m ?_ ?_ | refine .l ?_ ?_ | refine .d ?_ | refine .e ?_ | (simp <;> omega) | omega) (by first | (simp; done) | (simp; omega) | omega) (by first | (simp; done) | (simp; omega) | omega))) hN1 hN4 HG1.out HG2.out HW1.out HW2.out M hM hM2 HY1.out HY2.out (by have := HL3.out h3.len; omega) (by have := HL4.out h4.len; omega) (by intro x hx; rcases List.mem_append.1 hx with hx | hx; (simp at hx; simp; omega); (have := hex1 x hx; simp; omega))).mono ?_) | fail); rintro e w' hret; unfold RetN at hret; rw [if_neg HS.out] at hret; obtain ⟨A5, n5, c5, A6, n6, c6, X5, D5, rfl, rfl, h5, h6⟩ := hret) | ((first | (go_at_call 12; refine (normal_ok _ ex1 N A3 n3 c3 (l1.map (permP perm)) A4 n4 c4 (l2.map (permP perm)) (h3.mono (clr_none (by repeat first | with_reducible exact .refl .. | with_reducible assumption | refine .s ?_ ?_ | refine .m ?_ ?_ | refine .l ?_ ?_ | refine .d ?_ | refine .e ?_ | (simp <;> omega) | omega))) (h4.mono (clr_none (by repeat first | with_reducible exact .refl .. | with_reducible assumption | refine .s ?_ ?_ | refine .m ?_ ?_ | refine .l ?_ ?_ | refine .d ?_ | refine .e ?_ | (simp <;> omega) | omega))) hN1 hN4 HG1.out HG2.out HW1.out HW2.out M hM hM2 HY1.out HY2.out (by have := HL3.out h3.len; omega) (by have := HL4.out h4.len; omega) (by intro x hx; have := hex1 x hx; simp; omega)).mono ?_) | fail); rintro e w' hret; unfold RetN at hret; rw [if_neg HS.out] at hret; obtain ⟨A5, n5, c5, A6, n6, c6, X5, D5, rfl, rfl, h5, h6⟩ := hret))
    all_goals (rename_i hHeldZ; clear hHeldZ)
    all_goals
      go_wp2_with fail
      go_meet
      case rel =>
        refine ⟨_, A5, n5, c5, A6, n6, c6, rfl, (by repeat first | with_reducible exact .refl .. | with_reducible assumption | refine .s ?_ ?_ | refine .m ?_ ?_ | refine .l ?_ ?_ | refine .d ?_ | refine .e ?_ | (simp <;> omega) | omega), (by first | (simp; done) | (simp; omega) | omega), (by first | (simp; done) | (simp; omega) | omega), by simp [go_sem, ↓IntWalk.iteOmega], by simp [go_sem, ↓IntWalk.iteOmega], by simp [go_sem, ↓IntWalk.iteOmega], ?_, ?_⟩
        · first | exact RL.drop1 h5 (by repeat (first | (with_reducible exact Kr.refl _ _) | (with_reducible assumption) | refine Kr.setCell ?_ _ (by simp) | refine Kr.more ?_ _ _ | refine Kr.alloc_ ?_ _ | refine Kr.drew ?_ | refine Kr.drewN ?_ _)) | exact RL.drop1 h5 (Kr.of_below (by repeat first | with_reducible exact .refl .. | with_reducible assumption | refine .s ?_ ?_ | refine .m ?_ ?_ | refine .l ?_ ?_ | refine .d ?_ | refine .e ?_ | (simp <;> omega) | omega) _) | exact RL.mono h5 (Kr.of_below (by repeat first | with_reducible exact .refl .. | with_reducible assumption | refine .s ?_ ?_ | refine .m ?_ ?_ | refine .l ?_ ?_ | refine .d ?_ | refine .e ?_ | (simp <;> omega) | omega) _)
        · first | exact RL.drop1 h6 (by repeat (first | (with_reducible exact Kr.refl _ _) | (with_reducible assumption) | refine Kr.setCell ?_ _ (by simp) | refine Kr.more ?_ _ _ | refine Kr.alloc_ ?_ _ | refine Kr.drew ?_ | refine Kr.drewN ?_ _)) | exact RL.drop1 h6 (Kr.of_below (by repeat first | with_reducible exact .refl .. | with_reducible assumption | refine .s ?_ ?_ | refine .m ?_ ?_ | refine .l ?_ ?_ | refine .d ?_ | refine .e ?_ | (simp <;> omega) | omega) _) | exact RL.mono h6 (Kr.of_below (by repeat first | with_reducible exact .refl .. | with_reducible assumption | refine .s ?_ ?_ | refine .m ?_ ?_ | refine .l ?_ ?_ | refine .d ?_ | refine .e ?_ | (simp <;> omega) | omega) _)
  case rest =>
    obtain ⟨b6, A, n, c, A', n', c', rfl, hB2, hb1, hb2, j0, j1, j2, r1, r2⟩ := hcut
    have p0 := (Below.at0 hB2 (show w.heap.size + 2 < W1.heap.size by omega) 0).trans z0
    have p1 := (Below.at0 hB2 (show w.heap.size + 2 < W1.heap.size by omega) 1).trans z1
    have p2 := (Below.at0 hB2 (show w.heap.size + 2 < W1.heap.size by omega) 2).trans z2
    have q0 := (hB2.frozen (p := ⟨w.heap.size + 2, 0, none⟩) (show w.heap.size + 2 < W1.heap.size by omega)).trans f0
    have q1 := (hB2.frozen (p := ⟨w.heap.size + 2, 1, none⟩) (show w.heap.size + 2 < W1.heap.size by omega)).trans f1
    have q2 := (hB2.frozen (p := ⟨w.heap.size + 2, 2, none⟩) (show w.heap.size + 2 < W1.heap.size by omega)).trans f2
    have hbz : Below w.heap.size w wc := hB1.trans (hB2.mono (by omega))
    have hne : b6 ≠ w.heap.size + 2 := by omega
    have hne' : w.heap.size + 2 ≠ b6 := by omega
    clear z0 z1 z2 f0 f1 f2 b0 b1 b2
    go_wp2_with fail
    refine bodyPost_ret (v := .agg #[.int .i64 N, .slice A n c, .slice A' n' c']) (by simp [results, Tryz.results56, p0, p1, p2, go_sem, ↓IntWalk.iteOmega]) rfl ?_
    have hkr := fun (u0 u1 u2 : Value) => ((((Kr.refl wc ex1).setCell (p := ⟨w.heap.size + 2, 0, none⟩) u0 HMem.out).setCell (p := ⟨w.heap.size + 2, 1, none⟩) u1 HMem.out).setCell (p := ⟨w.heap.size + 2, 2, none⟩) u2 HMem.out).sub HSub.out
    exact RetK.mk rfl (by repeat first | with_reducible exact .refl .. | with_reducible assumption | refine .s ?_ ?_ | refine .m ?_ ?_ | refine .l ?_ ?_ | refine .d ?_ | refine .e ?_ | (simp <;> omega) | omega) (r1.mono (hkr _ _ _)) (r2.mono (hkr _ _ _))

end Go.Proofs.YthhdleppkggepaaGreat

/-
  Permutations, one after the other: a number is taken to the front of those behind a place; copying into eight numbers.
-/
namespace Go.Proofs.YthhdleppkggepaaGreat
open Go.RowKit Go.Deep
set_option maxRecDepth 100000

/-- Number j of the list comes to place i; those between go one place on. -/
def rot (i j : Nat) (π : List Nat) : List Nat := π.take i ++ π.getD j 0 :: ((π.drop i).take (j - i) ++ π.drop (j + 1))
theorem rot_perm {i j : Nat} {π : List Nat} (hij : i ≤ j) (hj : j < π.length) : (rot i j π).Perm π := by
  have h1 : π = π.take i ++ ((π.drop i).take (j - i) ++ π.getD j 0 :: π.drop (j + 1)) := by
    have e1 : (π.drop i).take (j - i) ++ π.drop j = π.drop i := by
      have := List.take_append_drop (j - i) (π.drop i)
      rwa [List.drop_drop, show i + (j - i) = j by omega] at this
    have e2 : π.drop j = π.getD j 0 :: π.drop (j + 1) := by
      rw [List.drop_eq_getElem_cons hj, List.getD_eq_getElem?_getD, List.getElem?_eq_getElem hj]; rfl
    rw [← e2, e1, List.take_append_drop]
  unfold rot
  conv => rhs; rw [h1]
  exact List.Perm.append_left _ List.perm_middle.symm
theorem rot_len {i j : Nat} {π : List Nat} (hij : i ≤ j) (hj : j < π.length) : (rot i j π).length = π.length := (rot_perm hij hj).length_eq
theorem rot_perm8 {i j : Nat} {π : List Nat} (hp : Perm8 π) (hij : i ≤ j) (hj : j < 8) : Perm8 (rot i j π) := (rot_perm hij (by rw [hp.len]; exact hj)).trans hp
theorem rot_fix {i j n : Nat} {π : List Nat} (hl : π.length = 8) (hij : i ≤ j) (hj : j < n) (hn : n ≤ 8) (hf : ∀ k, n ≤ k → k < 8 → π[k]? = some k) : ∀ k, n ≤ k → k < 8 → (rot i j π)[k]? = some k := by
  intro k hk hk8
  unfold rot
  rw [List.getElem?_append_right (by rw [List.length_take]; omega), List.length_take, Nat.min_eq_left (by omega)]
  rw [show k - i = (k - i - 1) + 1 by omega, List.getElem?_cons_succ, List.getElem?_append_right (by rw [List.length_take, List.length_drop]; omega), List.length_take, List.length_drop, Nat.min_eq_left (by omega), List.getElem?_drop]
  rw [show j + 1 + (k - i - 1 - (j - i)) = k by omega]
  exact hf k hk hk8
/-- The permutations that come from moving the numbers from place i on (m of them). -/
def enumP (N : Nat) : Nat → Nat → List Nat → List (List Nat)
  | 0, _, π => [π]
  | m + 1, i, π => (List.range' i (N - i)).flatMap fun j => enumP N m (i + 1) (rot i j π)

/-! ### eight numbers, and copying into them -/
def intsN (π : List Nat) : List Int := π.map fun x : Nat => (x : Int)
theorem intsN_len (π : List Nat) : (intsN π).length = π.length := by simp [intsN]
theorem getD_app_l {a b : List Int} {j : Nat} (h : j < a.length) : (a ++ b).getD j 0 = a.getD j 0 := by
  simp only [List.getD_eq_getElem?_getD, List.getElem?_append_left h]
theorem getD_app_r {a b : List Int} {j : Nat} (h : a.length ≤ j) : (a ++ b).getD j 0 = b.getD (j - a.length) 0 := by
  simp only [List.getD_eq_getElem?_getD, List.getElem?_append_right h]
theorem Cells8.copy {w : World} {b : Nat} {l : List Int} (h : Cells8 w b l) (hl : l.length = 8) (o : Nat) (cs : List Int) (ho : o + cs.length ≤ 8) :
    Cells8 (w.setCells b o (cs.map fun x => Value.int .i64 x)) b (l.take o ++ cs ++ l.drop (o + cs.length)) := by
  intro j hj
  refine ⟨?_, by rw [World.frozen?_setCells]; exact (h j hj).2⟩
  by_cases h1 : j < o
  · rw [World.cell?_setCells_out _ _ _ _ _ (fun _ _ => Or.inl h1), (h j hj).1, List.append_assoc, getD_app_l (by rw [List.length_take]; omega)]
    simp [List.getD_eq_getElem?_getD, List.getElem?_take, h1]
  · by_cases h2 : j < o + cs.length
    · have := World.cell?_setCells_in b (cs.map fun x => Value.int .i64 x) o w (fun i hi => by rw [List.length_map] at hi; rw [(h (o + i) (by omega)).1]; rfl) (j - o) (by rw [List.length_map]; omega)
      rw [show o + (j - o) = j by omega] at this
      rw [this, getD_app_l (by rw [List.length_append, List.length_take]; omega), getD_app_r (by rw [List.length_take]; omega), List.length_take, Nat.min_eq_left (by omega)]
      simp [List.getD_eq_getElem?_getD, List.getElem?_eq_getElem (show j - o < cs.length by omega)]
    · rw [World.cell?_setCells_out _ _ _ _ _ (fun _ _ => Or.inr (by simp; omega)), (h j hj).1, getD_app_r (by rw [List.length_append, List.length_take]; omega), List.length_append, List.length_take, Nat.min_eq_left (by omega)]
      simp only [List.getD_eq_getElem?_getD, List.getElem?_drop]
      rw [show o + cs.length + (j - (o + cs.length)) = j by omega]
theorem setCells_grown (b : Nat) : ∀ (vs : List Value) (o : Nat) (w : World), w.grownBy (w.setCells b o vs) (some b) ∧ (w.setCells b o vs).heap.size = w.heap.size ∧ (w.setCells b o vs).drawn = w.drawn
  | [], _, w => ⟨⟨rfl, rfl, rfl, Nat.le_refl _, fun _ _ _ => rfl⟩, rfl, rfl⟩
  | v :: r, o, w => by
    obtain ⟨h1, h2, h3⟩ := setCells_grown b r (o + 1) (w.setCell ⟨b, o, none⟩ v)
    rw [World.setCells]
    refine ⟨⟨h1.os, h1.tape, h1.output, by rw [h2]; simp, fun k hk hne => ?_⟩, by rw [h2]; simp, by rw [h3]; rfl⟩
    rw [h1.block k (by simpa using hk) hne]
    exact Below.heap_setCell _ _ _ _ (fun e => hne (by rw [e]))
theorem run_copy8 {w : World} {b s : Nat} {l m : List Int} (hb : Cells8 w b l) (hs : Cells8 w s m) (hm : m.length = 8) {od os n cd cs : Nat} (h1 : od + n ≤ 8) (h2 : os + n ≤ 8) (ty : TypeId) :
    (Builtin.copy_ #[107, 107] ty #[.slice (some ⟨b, od, none⟩) n cd, .slice (some ⟨s, os, none⟩) n cs]).run Tryz.prog w = .ok (.int .i64 n) (w.setCells b od (((m.drop os).take n).map fun x => Value.int .i64 x)) := by
  have hlen : (((m.drop os).take n).map fun x => Value.int .i64 x).length = n := by rw [List.length_map, List.length_take, List.length_drop]; omega
  have := run_copy_cells (P := Tryz.prog) w 107 107 ty 3 b od n cd ⟨s, os, none⟩ n cs (((m.drop os).take n).map fun x => Value.int .i64 x) Tryz.underlying107 (by kernel_rfl) (by rw [hlen]; simp) (fun j v hv => by
    have hj : j < n := by rw [← hlen]; exact (List.getElem?_eq_some_iff.1 hv).1
    rw [Addr.add_lit, (hs (os + j) (by omega)).1]
    rw [List.getElem?_map, List.getElem?_take, if_pos hj, List.getElem?_drop, List.getElem?_eq_getElem (by omega)] at hv
    simp only [Option.map_some, Option.some.injEq] at hv
    rw [← hv, List.getD_eq_getElem?_getD, List.getElem?_eq_getElem (by omega)]; rfl)
    (fun j hj => by rw [hlen] at hj; rw [(hb (od + j) (by omega)).1]; rfl) (fun j hj => by rw [hlen] at hj; exact (hb (od + j) (by omega)).2) (fun v hv => by obtain ⟨x, _, rfl⟩ := List.mem_map.1 hv; rfl)
  rw [hlen] at this
  exact this
theorem step_copy8 {ops : Array Oper} {K : Act → World → Prop} {F : Prop} {Q : Exit → Act → World → Prop} {o : Oper} {a : Act} {w : World} (hgd : o.guard = none) (d s : Operand)
    (ho : o.op = .call { callee := .builtin .copy, args := #[d, s], argTypes := #[107, 107] }) {b sv : Nat} {l m : List Int} (hb : Cells8 w b l) (hl : l.length = 8) (hs : Cells8 w sv m) (hm : m.length = 8) {od os n n' cd cs : Nat} (hd : a.eval d = .slice (some ⟨b, od, none⟩) n cd) (hse : a.eval s = .slice (some ⟨sv, os, none⟩) n' cs) (hnn : n = n') (h1 : od + n ≤ 8) (h2 : os + n ≤ 8)
    (h : ∀ w', Cells8 w' b (l.take od ++ (m.drop os).take n ++ l.drop (od + n)) → w.grownBy w' (some b) → w'.heap.size = w.heap.size → w'.drawn = w.drawn → K (a.put o.dst (.int .i64 n)) w') :
    if Region.wanted o (yielded ops a.tmps) = true then Oper.wp Tryz.prog o a w K Q else F := by
  subst hnn
  have hw : Region.wanted o (yielded ops a.tmps) = true := by simp [Region.wanted, hgd]
  rw [if_pos hw]
  obtain ⟨g1, g2, g3⟩ := setCells_grown b (((m.drop os).take n).map fun x => Value.int .i64 x) od w
  have hlen : ((m.drop os).take n).length = n := by rw [List.length_take, List.length_drop]; omega
  have hc := hb.copy hl od ((m.drop os).take n) (by omega)
  rw [hlen] at hc
  have hrun := run_copy8 hb hs hm (cd := cd) (cs := cs) h1 h2 o.type
  unfold Oper.wp
  simp [execOp, ho, resolve, invoke, builtin, hd, hse, hrun, Result.andThen]
  simp only [List.map_take, List.map_drop] at hc g1 g2 g3
  exact h _ hc g1 g2 g3

end Go.Proofs.YthhdleppkggepaaGreat
