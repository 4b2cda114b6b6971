/-
  The walk of the reference's SameCore: two cores are equal if their bytes are.
-/
import Derived.Test.YthhdleppkggepaaGreatSb15
import Derived.Test.YthhdleppkggepaaGreatSb19

set_option linter.unusedSimpArgs false
set_option linter.unusedVariables false
set_option linter.unusedSectionVars false

namespace Go.Proofs.YthhdleppkggepaaGreat
open Go.RowKit Go.Deep
set_option maxRecDepth 100000

/-- Block g is a row of bytes that has no place. -/
def EmpAt (w : World) (g : Nat) : Prop := w.heap[g]? = some (.cells #[] 5 (0, 0))
section
variable {w w' : World} {g : Nat}
theorem EmpAt.new (w : World) {g : Nat} (h : g = w.heap.size) : EmpAt (w.alloc (.cells #[] 5)) g := by subst h; exact (MapKept.heap_alloc w _).1
theorem EmpAt.lt (h : EmpAt w g) : g < w.heap.size := (Array.getElem?_eq_some_iff.1 h).1
theorem EmpAt.alloc (h : EmpAt w g) (o : Obj) : EmpAt (w.alloc o) g := ((MapKept.heap_alloc w o).2 g h.lt).trans h
theorem EmpAt.drew (h : EmpAt w g) : EmpAt w.drew g := h
theorem EmpAt.drewN (h : EmpAt w g) (n : Nat) : EmpAt (w.drewN n) g := h
theorem EmpAt.kr {ex ex' : List Nat} (h : EmpAt w g) (k : Kr w ex w' ex') (hg : g ∉ ex) : EmpAt w' g := (k.same g h.lt hg).trans h
theorem EmpAt.own (h : EmpAt w g) {base : Nat} (hb : base ≤ g) : OwnL byE w base [] (.slice (some ⟨g, 0, none⟩) 0 0) [] :=
  ⟨[], ⟨by simp, .inr ⟨g, 0, #[], rfl, hb, h, Nat.le_refl _, by decide, by simp, rfl⟩⟩, rfl⟩
end
theorem elts_by {w w' : World} {ex ex' : List Nat} : ∀ {l : List Nat} {cs : List Value}, Elts byE w ex l cs → Elts byE w' ex' l cs
  | [], _, h => h
  | _ :: _, _, ⟨vs, r, e, h1, h2⟩ => ⟨vs, r, e, h1, elts_by h2⟩
/-- The bytes stay what they are while another row of bytes is built. -/
theorem OwnL.aside {w W w' : World} {base : Nat} {v v0 v2 : Value} {bs : List Nat} (h : OwnL byE w base [] v bs) (hb : Below w.heap.size w W) (k : ∀ ex, Kr W (own v0 ++ ex) w' (own v2 ++ ex)) (hg : ∀ x ∈ own v0, x ∉ own v) : OwnL byE w' base [] v bs := by
  have hW := h.keep hb
  have hle := hW.le
  obtain ⟨cs, h1, h2⟩ := hW
  refine ⟨cs, ⟨h1.1, ?_⟩, elts_by h2⟩
  rcases h1.2 with h3 | ⟨g, cap, cur, hv, hg', hc, h4⟩
  · exact .inl h3
  · refine .inr ⟨g, cap, cur, hv, hg', ?_, h4⟩
    have hgo : g ∈ own v := by simp [hv, own, Value.ownBlock]
    rw [(k []).same g (hle g hgo).2 (by rw [List.append_nil]; exact fun hh => hg g hh hgo)]
    exact hc

theorem conv_at {w W : World} {base : Nat} {v : Value} {bs : List Nat} (h : OwnL byE w base [] v bs) (hb : Bytes bs) (hne : bs ≠ []) {S : ByteArray} (hS : strB bs = S) (hW : Below w.heap.size w W) : (convert 35 9 v).run Tryz.prog W = .ok (.string S) W := by
  rw [← hS]; exact conv_own (h.keep hW) hb hne
theorem step_conv_own {ops : Array Oper} {K : Act → World → Prop} {F : Prop} {Q : Exit → Act → World → Prop} {o : Oper} {a : Act} {w : World} (hgd : o.guard = none) (x : Operand) (ho : o.op = .convert 35 9 x) {base : Nat} {v : Value} {bs : List Nat} (hx : a.eval x = v) (hown : OwnL byE w base [] v bs) (hb : Bytes bs) (hne : bs ≠ []) {S : ByteArray} (hS : strB bs = S)
    (h : K (a.put o.dst (.string S)) w) : if Region.wanted o (yielded ops a.tmps) = true then Oper.wp Tryz.prog o a w K Q else F := by
  have hw : Region.wanted o (yielded ops a.tmps) = true := by simp [Region.wanted, hgd]
  rw [if_pos hw]
  have hrun := conv_own hown hb hne
  rw [hS] at hrun
  unfold Oper.wp
  simp [execOp, ho, hx, hrun, Result.andThen]
  exact h

def RetB (w : World) (b : Bool) (e : Ending) (w' : World) : Prop := ∃ X D, e = .returned (.bool b) ∧ w' = w.more X D
theorem RetB.mk {w w' : World} {b : Bool} {e : Ending} (he : e = .returned (.bool b)) (hb : Below w.heap.size w w') : RetB w b e w' := by
  obtain ⟨X, D, rfl⟩ := World.more_of_below hb
  exact ⟨X, D, he, rfl⟩

set_option maxHeartbeats 2000000 in
theorem samecore_ok (w : World) (ex : List Nat) (N : Nat) (A1 : Option Addr) (n1 c1 : Nat) (A2 : Option Addr) (n2 c2 : Nat) (l1 l2 : List (List (Rat × List Int))) (N' : Nat) (A3 : Option Addr) (n3 c3 : Nat) (A4 : Option Addr) (n4 c4 : Nat) (l3 l4 : List (List (Rat × List Int)))
    (h1 : RL poE w ex A1 n1 c1 l1) (h2 : RL poE w ex A2 n2 c2 l2) (h3 : RL poE w ex A3 n3 c3 l3) (h4 : RL poE w ex A4 n4 c4 l4) (g1 : ∀ p ∈ l1, GP p) (g2 : ∀ p ∈ l2, GP p) (g3 : ∀ p ∈ l3, GP p) (g4 : ∀ p ∈ l4, GP p) (hN : N < 4294967296) (hN' : N' < 4294967296)
    (m1 : n1 ≤ 1000000000) (m2 : n2 ≤ 1000000000) (m3 : n3 ≤ 1000000000) (m4 : n4 ≤ 1000000000) (hl : (coreB N l1 l2).length ≤ 10000000000) (hl' : (coreB N' l3 l4).length ≤ 10000000000) :
    Calls Tryz.prog 20 #[.agg #[.int .i64 N, .slice A1 n1 c1, .slice A2 n2 c2], .agg #[.int .i64 N', .slice A3 n3 c3, .slice A4 n4 c4]] w (RetB w ((strB (coreB N l1 l2)).toList == (strB (coreB N' l3 l4)).toList)) := by
  have H1 := Lib.hid h1
  have H2 := Lib.hid h2
  have H3 := Lib.hid h3
  have H4 := Lib.hid h4
  have G1 := Lib.hid g1
  have G2 := Lib.hid g2
  have G3 := Lib.hid g3
  have G4 := Lib.hid g4
  have HL := Lib.hid hl
  have HL' := Lib.hid hl'
  clear h1 h2 h3 h4 g1 g2 g3 g4 hl hl'
  go_enter Tryz.func20, Tryz.ntmps20
  go_wp2_with fail
  refine wp_abs (fun W1 => Below w.heap.size w W1 ∧ w.heap.size + 2 ≤ W1.heap.size ∧ W1.cell? ⟨w.heap.size, 0, none⟩ = some (.int .i64 N) ∧ W1.cell? ⟨w.heap.size, 1, none⟩ = some (.slice A1 n1 c1) ∧ W1.cell? ⟨w.heap.size, 2, none⟩ = some (.slice A2 n2 c2) ∧ W1.cell? ⟨w.heap.size + 1, 0, none⟩ = some (.int .i64 N') ∧ W1.cell? ⟨w.heap.size + 1, 1, none⟩ = some (.slice A3 n3 c3) ∧ W1.cell? ⟨w.heap.size + 1, 2, none⟩ = some (.slice A4 n4 c4))
    ⟨(by repeat first | with_reducible exact .refl .. | with_reducible assumption | refine .s ?_ ?_ | refine .m ?_ ?_ | refine .l ?_ ?_ | refine .d ?_ | refine .e ?_ | (simp <;> omega) | omega), by simp, by simp [go_sem, ↓IntWalk.iteOmega], by simp [go_sem, ↓IntWalk.iteOmega], by simp [go_sem, ↓IntWalk.iteOmega], by simp [go_sem, ↓IntWalk.iteOmega], by simp [go_sem, ↓IntWalk.iteOmega], by simp [go_sem, ↓IntWalk.iteOmega]⟩ ?_
  rintro W1 ⟨hB1, hSz, a0, a1, a2, b0, b1, b2⟩
  obtain ⟨S1, hS1⟩ : ∃ S, strB (coreB N l1 l2) = S := ⟨_, rfl⟩
  obtain ⟨S2, hS2⟩ : ∃ S, strB (coreB N' l3 l4) = S := ⟨_, rfl⟩
  rw [hS1, hS2]
  refine wp_region_held_drew (S := (fun w' => w'.cell? ⟨w.heap.size, 0, none⟩ = some (.int .i64 N) ∧ w'.cell? ⟨w.heap.size, 0 + 1, none⟩ = some (.slice A1 n1 c1) ∧ w'.cell? ⟨w.heap.size, 0 + 2, none⟩ = some (.slice A2 n2 c2) ∧ w'.cell? ⟨w.heap.size + 1, 0, none⟩ = some (.int .i64 N') ∧ w'.cell? ⟨w.heap.size + 1, 0 + 1, none⟩ = some (.slice A3 n3 c3) ∧ w'.cell? ⟨w.heap.size + 1, 0 + 2, none⟩ = some (.slice A4 n4 c4))) (by kernel_rfl) (by (try dsimp only); ((repeat' apply And.intro) <;> first | (simp [*, go_sem, ↓IntWalk.iteOmega]; done))) (fun hHeld => ?_)
  refine wpAnyH_take (i := 1) (oi := { dst := _, op := _, type := _, pos := _, after := _, guard := _ }) (v := ?_) rfl (by kernel_rfl) (by kernel_rfl) (by kernel_rfl) (fun _ _ _ h => h) (Or.inl ⟨by rfl, ?_⟩) (by assumption) ?_
  rotate_left 1
  · intro w hSw; (try dsimp only at hSw); go_simp; with_reducible rfl
  try simp only [Act.put, List.setIfInBounds_toArray, List.set_cons_zero, List.set_cons_succ]
  refine wpAnyH_take (i := 5) (oi := { dst := _, op := _, type := _, pos := _, after := _, guard := _ }) (v := ?_) rfl (by kernel_rfl) (by kernel_rfl) (by kernel_rfl) (fun _ _ _ h => h) (Or.inl ⟨by rfl, ?_⟩) (by assumption) ?_
  rotate_left 1
  · intro w hSw; (try dsimp only at hSw); go_simp; with_reducible rfl
  try simp only [Act.put, List.setIfInBounds_toArray, List.set_cons_zero, List.set_cons_succ]
  refine wpAnyH_ready (rs := [0, 4]) (by kernel_rfl) (by simp) (AllReadyH.cons (o := { dst := _, op := _, type := _, pos := _, after := _, guard := _ }) rfl (fun K hK => ?_) (AllReadyH.cons (o := { dst := _, op := _, type := _, pos := _, after := _, guard := _ }) rfl (fun K hK => ?_) AllReadyH.nil))
  · go_simp
    have hOldS := hHeld
    clear hHeld
    refine hK.out _ _ (by (try dsimp only); ((repeat' apply And.intro) <;> first | (simp [*, go_sem, ↓IntWalk.iteOmega]; done))) (fun hHeld => ?_)
    clear hK K hOldS
    try simp only [Act.put, List.setIfInBounds_toArray, List.set_cons_zero, List.set_cons_succ]
    refine wpAnyH_ready (rs := [2, 4]) (by kernel_rfl) (by simp) (AllReadyH.cons (o := { dst := _, op := _, type := _, pos := _, after := _, guard := _ }) rfl (fun K hK => ?_) (AllReadyH.cons (o := { dst := _, op := _, type := _, pos := _, after := _, guard := _ }) rfl (fun K hK => ?_) AllReadyH.nil))
    · go_simp
      (first | (go_at_call_of 59 A1; refine (rcore_ok _ W1.heap.size (.slice (some ⟨_, 0, none⟩) 0 0) [] ex N A1 n1 c1 A2 n2 c2 l1 l2 (EmpAt.own (by repeat (first | (with_reducible refine EmpAt.new _ ?_; first | (simp; done) | (simp; omega) | omega) | with_reducible refine EmpAt.drew ?_ | with_reducible refine EmpAt.drewN ?_ _ | with_reducible refine EmpAt.alloc ?_ _ | refine EmpAt.kr ?_ (hk1 []) (by simp [own, Value.ownBlock] <;> omega))) (by first | (simp; done) | (simp; omega) | omega)) (by first | (simp; done) | (simp; omega) | omega) (H1.out.mono ((Kr.of_below hB1 _).trans (Kr.fresh (l := own (.slice (some ⟨_, 0, none⟩) 0 0)) (by repeat first | with_reducible exact .refl .. | with_reducible assumption | refine .s ?_ ?_ | refine .m ?_ ?_ | refine .l ?_ ?_ | refine .d ?_ | refine .e ?_ | (simp <;> omega) | omega) (by simp [own, Value.ownBlock]; try omega)))) (H2.out.mono ((Kr.of_below hB1 _).trans (Kr.fresh (l := own (.slice (some ⟨_, 0, none⟩) 0 0)) (by repeat first | with_reducible exact .refl .. | with_reducible assumption | refine .s ?_ ?_ | refine .m ?_ ?_ | refine .l ?_ ?_ | refine .d ?_ | refine .e ?_ | (simp <;> omega) | omega) (by simp [own, Value.ownBlock]; try omega)))) G1.out G2.out hN m1 m2 (by have := HL.out; simpa using this)).mono ?_) | fail); rintro e w1 ⟨v1, rfl, hw1, hk1, hb1, hbs1⟩; rw [List.nil_append] at hw1; have hbW1 := (show Below W1.heap.size W1 _ from (by repeat first | with_reducible exact .refl .. | with_reducible assumption | refine .s ?_ ?_ | refine .m ?_ ?_ | refine .l ?_ ?_ | refine .d ?_ | refine .e ?_ | (simp <;> omega) | omega)).trans hb1; have fA := fun o => hbW1.at0 (b := w.heap.size) (by first | (simp; done) | (simp; omega) | omega) o; have fB := fun o => hbW1.at0 (b := w.heap.size + 1) (by first | (simp; done) | (simp; omega) | omega) o; have hsz1 := hbW1.size; have ea0 := conv_at (W := w1) hw1 (coreB_bytes _ _ _) (coreB_ne _ _ _) hS1 (by repeat first | with_reducible exact .refl .. | with_reducible assumption | refine .s ?_ ?_ | refine .m ?_ ?_ | refine .l ?_ ?_ | refine .d ?_ | refine .e ?_ | (simp <;> omega) | omega); have ea1 := conv_at (W := w1.drew) hw1 (coreB_bytes _ _ _) (coreB_ne _ _ _) hS1 (by repeat first | with_reducible exact .refl .. | with_reducible assumption | refine .s ?_ ?_ | refine .m ?_ ?_ | refine .l ?_ ?_ | refine .d ?_ | refine .e ?_ | (simp <;> omega) | omega); have ea2 := conv_at (W := (w1.alloc (.cells #[] 5))) hw1 (coreB_bytes _ _ _) (coreB_ne _ _ _) hS1 (by repeat first | with_reducible exact .refl .. | with_reducible assumption | refine .s ?_ ?_ | refine .m ?_ ?_ | refine .l ?_ ?_ | refine .d ?_ | refine .e ?_ | (simp <;> omega) | omega); have ea3 := conv_at (W := (w1.alloc (.cells #[] 5)).drew) hw1 (coreB_bytes _ _ _) (coreB_ne _ _ _) hS1 (by repeat first | with_reducible exact .refl .. | with_reducible assumption | refine .s ?_ ?_ | refine .m ?_ ?_ | refine .l ?_ ?_ | refine .d ?_ | refine .e ?_ | (simp <;> omega) | omega); have ea4 := conv_at (W := (w1.drew.alloc (.cells #[] 5))) hw1 (coreB_bytes _ _ _) (coreB_ne _ _ _) hS1 (by repeat first | with_reducible exact .refl .. | with_reducible assumption | refine .s ?_ ?_ | refine .m ?_ ?_ | refine .l ?_ ?_ | refine .d ?_ | refine .e ?_ | (simp <;> omega) | omega); have ea5 := conv_at (W := (w1.drew.alloc (.cells #[] 5)).drew) hw1 (coreB_bytes _ _ _) (coreB_ne _ _ _) hS1 (by repeat first | with_reducible exact .refl .. | with_reducible assumption | refine .s ?_ ?_ | refine .m ?_ ?_ | refine .l ?_ ?_ | refine .d ?_ | refine .e ?_ | (simp <;> omega) | omega)
      go_wp2_with fail
      have hOldS := hHeld
      clear hHeld
      refine hK.out _ _ (by (try dsimp only); ((repeat' apply And.intro) <;> first | (simp [*, go_sem, ↓IntWalk.iteOmega]; done))) (fun hHeld => ?_)
      clear hK K hOldS
      try simp only [Act.put, List.setIfInBounds_toArray, List.set_cons_zero, List.set_cons_succ]
      refine wpAnyH_ready (rs := [3, 4]) (by kernel_rfl) (by simp) (AllReadyH.cons (o := { dst := _, op := _, type := _, pos := _, after := _, guard := _ }) rfl (fun K hK => ?_) (AllReadyH.cons (o := { dst := _, op := _, type := _, pos := _, after := _, guard := _ }) rfl (fun K hK => ?_) AllReadyH.nil))
      · go_simp
        have hOldS := hHeld
        clear hHeld
        refine hK.out _ _ (by (try dsimp only); ((repeat' apply And.intro) <;> first | (simp [*, go_sem, ↓IntWalk.iteOmega]; done))) (fun hHeld => ?_)
        clear hK K hOldS
        try simp only [Act.put, List.setIfInBounds_toArray, List.set_cons_zero, List.set_cons_succ]
        refine wpAnyH_ready (rs := [4]) (by kernel_rfl) (by simp) (AllReadyH.cons (o := { dst := _, op := _, type := _, pos := _, after := _, guard := _ }) rfl (fun K hK => ?_) AllReadyH.nil)
        go_simp
        have hOldS := hHeld
        clear hHeld
        refine hK.out _ _ (by (try dsimp only); ((repeat' apply And.intro) <;> first | (simp [*, go_sem, ↓IntWalk.iteOmega]; done))) (fun hHeld => ?_)
        clear hK K hOldS
        try simp only [Act.put, List.setIfInBounds_toArray, List.set_cons_zero, List.set_cons_succ]
        refine wpAnyH_ready (rs := [6]) (by kernel_rfl) (by simp) (AllReadyH.cons (o := { dst := _, op := _, type := _, pos := _, after := _, guard := _ }) rfl (fun K hK => ?_) AllReadyH.nil)
        go_simp
        (first | (go_at_call_of 59 A3; refine (rcore_ok _ W1.heap.size (.slice (some ⟨_, 0, none⟩) 0 0) [] ex N' A3 n3 c3 A4 n4 c4 l3 l4 (EmpAt.own (by repeat (first | (with_reducible refine EmpAt.new _ ?_; first | (simp; done) | (simp; omega) | omega) | with_reducible refine EmpAt.drew ?_ | with_reducible refine EmpAt.drewN ?_ _ | with_reducible refine EmpAt.alloc ?_ _ | refine EmpAt.kr ?_ (hk1 []) (by simp [own, Value.ownBlock] <;> omega))) (by first | (simp; done) | (simp; omega) | omega)) (by first | (simp; done) | (simp; omega) | omega) (H3.out.mono ((Kr.of_below hB1 _).trans (Kr.fresh (l := own (.slice (some ⟨_, 0, none⟩) 0 0)) (by repeat first | with_reducible exact .refl .. | with_reducible assumption | refine .s ?_ ?_ | refine .m ?_ ?_ | refine .l ?_ ?_ | refine .d ?_ | refine .e ?_ | (simp <;> omega) | omega) (by simp [own, Value.ownBlock]; try omega)))) (H4.out.mono ((Kr.of_below hB1 _).trans (Kr.fresh (l := own (.slice (some ⟨_, 0, none⟩) 0 0)) (by repeat first | with_reducible exact .refl .. | with_reducible assumption | refine .s ?_ ?_ | refine .m ?_ ?_ | refine .l ?_ ?_ | refine .d ?_ | refine .e ?_ | (simp <;> omega) | omega) (by simp [own, Value.ownBlock]; try omega)))) G3.out G4.out hN' m3 m4 (by have := HL'.out; simpa using this)).mono ?_) | fail); rintro e w2 ⟨v2, rfl, hw2, hk2, hb2, hbs2⟩; rw [List.nil_append] at hw2; have hbW2 := (show Below W1.heap.size W1 _ from (by repeat first | with_reducible exact .refl .. | with_reducible assumption | refine .s ?_ ?_ | refine .m ?_ ?_ | refine .l ?_ ?_ | refine .d ?_ | refine .e ?_ | (simp <;> omega) | omega)).trans hb2; have fA2 := fun o => hbW2.at0 (b := w.heap.size) (by first | (simp; done) | (simp; omega) | omega) o; have fB2 := fun o => hbW2.at0 (b := w.heap.size + 1) (by first | (simp; done) | (simp; omega) | omega) o; have hw1 := OwnL.aside hw1 (by repeat first | with_reducible exact .refl .. | with_reducible assumption | refine .s ?_ ?_ | refine .m ?_ ?_ | refine .l ?_ ?_ | refine .d ?_ | refine .e ?_ | (simp <;> omega) | omega) hk2 (by intro x hx hh; simp [own, Value.ownBlock] at hx; first | (have := (hw1.le x hh).2; omega) | exact (hk1 []).out x (by simp; omega) (by simp [own, Value.ownBlock]; omega) (by rw [List.append_nil]; exact hh)); have eb0 := conv_at (W := w2) hw2 (coreB_bytes _ _ _) (coreB_ne _ _ _) hS2 (by repeat first | with_reducible exact .refl .. | with_reducible assumption | refine .s ?_ ?_ | refine .m ?_ ?_ | refine .l ?_ ?_ | refine .d ?_ | refine .e ?_ | (simp <;> omega) | omega); have eb1 := conv_at (W := w2.drew) hw2 (coreB_bytes _ _ _) (coreB_ne _ _ _) hS2 (by repeat first | with_reducible exact .refl .. | with_reducible assumption | refine .s ?_ ?_ | refine .m ?_ ?_ | refine .l ?_ ?_ | refine .d ?_ | refine .e ?_ | (simp <;> omega) | omega); have ec0 := conv_at (W := w2) hw1 (coreB_bytes _ _ _) (coreB_ne _ _ _) hS1 (by repeat first | with_reducible exact .refl .. | with_reducible assumption | refine .s ?_ ?_ | refine .m ?_ ?_ | refine .l ?_ ?_ | refine .d ?_ | refine .e ?_ | (simp <;> omega) | omega); have ec1 := conv_at (W := w2.drew) hw1 (coreB_bytes _ _ _) (coreB_ne _ _ _) hS1 (by repeat first | with_reducible exact .refl .. | with_reducible assumption | refine .s ?_ ?_ | refine .m ?_ ?_ | refine .l ?_ ?_ | refine .d ?_ | refine .e ?_ | (simp <;> omega) | omega)
        go_wp2_with fail
        have hOldS := hHeld
        clear hHeld
        refine hK.out _ _ (by (try dsimp only); ((repeat' apply And.intro) <;> first | (simp [*, go_sem, ↓IntWalk.iteOmega]; done))) (fun hHeld => ?_)
        clear hK K hOldS
        try simp only [Act.put, List.setIfInBounds_toArray, List.set_cons_zero, List.set_cons_succ]
        refine wpAnyH_ready (rs := [7]) (by kernel_rfl) (by simp) (AllReadyH.cons (o := { dst := _, op := _, type := _, pos := _, after := _, guard := _ }) rfl (fun K hK => ?_) AllReadyH.nil)
        go_simp
        have hOldS := hHeld
        clear hHeld
        refine hK.out _ _ (by (try dsimp only); ((repeat' apply And.intro) <;> first | (simp [*, go_sem, ↓IntWalk.iteOmega]; done))) (fun hHeld => ?_)
        clear hK K hOldS
        try simp only [Act.put, List.setIfInBounds_toArray, List.set_cons_zero, List.set_cons_succ]
        refine wpAnyH_ready (rs := [8]) (by kernel_rfl) (by simp) (AllReadyH.cons (o := { dst := _, op := _, type := _, pos := _, after := _, guard := _ }) rfl (fun K hK => ?_) AllReadyH.nil)
        go_simp
        have hOldS := hHeld
        clear hHeld
        refine hK.out _ _ (by (try dsimp only); ((repeat' apply And.intro) <;> first | (simp [*, go_sem, ↓IntWalk.iteOmega]; done))) (fun hHeld => ?_)
        clear hK K hOldS
        try simp only [Act.put, List.setIfInBounds_toArray, List.set_cons_zero, List.set_cons_succ]
        refine wpAnyH_ready (rs := [9]) (by kernel_rfl) (by simp) (AllReadyH.cons (o := { dst := _, op := _, type := _, pos := _, after := _, guard := _ }) rfl (fun K hK => ?_) AllReadyH.nil)
        go_simp
        have hOldS := hHeld
        clear hHeld
        refine hK.out _ _ (by (try dsimp only); ((repeat' apply And.intro) <;> first | (simp [*, go_sem, ↓IntWalk.iteOmega]; done))) (fun hHeld => ?_)
        clear hK K hOldS
        try simp only [Act.put, List.setIfInBounds_toArray, List.set_cons_zero, List.set_cons_succ]
        refine wpAnyH_done (by kernel_rfl) ?_ _
        clear hHeld
        go_wp2_with fail
        go_ret
        exact RetB.mk (by rw [hS1, hS2]; rfl) (hB1.trans ((show Below W1.heap.size W1 _ from (by repeat first | with_reducible exact .refl .. | with_reducible assumption | refine .s ?_ ?_ | refine .m ?_ ?_ | refine .l ?_ ?_ | refine .d ?_ | refine .e ?_ | (simp <;> omega) | omega)).mono (by omega)))
      · go_simp
        have hOldS := hHeld
        clear hHeld
        refine hK.out _ _ (by (try dsimp only); ((repeat' apply And.intro) <;> first | (simp [*, go_sem, ↓IntWalk.iteOmega]; done))) (fun hHeld => ?_)
        clear hK K hOldS
        try simp only [Act.put, List.setIfInBounds_toArray, List.set_cons_zero, List.set_cons_succ]
        refine wpAnyH_ready (rs := [3, 6]) (by kernel_rfl) (by simp) (AllReadyH.cons (o := { dst := _, op := _, type := _, pos := _, after := _, guard := _ }) rfl (fun K hK => ?_) (AllReadyH.cons (o := { dst := _, op := _, type := _, pos := _, after := _, guard := _ }) rfl (fun K hK => ?_) AllReadyH.nil))
        · go_simp
          have hOldS := hHeld
          clear hHeld
          refine hK.out _ _ (by (try dsimp only); ((repeat' apply And.intro) <;> first | (simp [*, go_sem, ↓IntWalk.iteOmega]; done))) (fun hHeld => ?_)
          clear hK K hOldS
          try simp only [Act.put, List.setIfInBounds_toArray, List.set_cons_zero, List.set_cons_succ]
          refine wpAnyH_ready (rs := [6]) (by kernel_rfl) (by simp) (AllReadyH.cons (o := { dst := _, op := _, type := _, pos := _, after := _, guard := _ }) rfl (fun K hK => ?_) AllReadyH.nil)
          go_simp
          (first | (go_at_call_of 59 A3; refine (rcore_ok _ W1.heap.size (.slice (some ⟨_, 0, none⟩) 0 0) [] ex N' A3 n3 c3 A4 n4 c4 l3 l4 (EmpAt.own (by repeat (first | (with_reducible refine EmpAt.new _ ?_; first | (simp; done) | (simp; omega) | omega) | with_reducible refine EmpAt.drew ?_ | with_reducible refine EmpAt.drewN ?_ _ | with_reducible refine EmpAt.alloc ?_ _ | refine EmpAt.kr ?_ (hk1 []) (by simp [own, Value.ownBlock] <;> omega))) (by first | (simp; done) | (simp; omega) | omega)) (by first | (simp; done) | (simp; omega) | omega) (H3.out.mono ((Kr.of_below hB1 _).trans (Kr.fresh (l := own (.slice (some ⟨_, 0, none⟩) 0 0)) (by repeat first | with_reducible exact .refl .. | with_reducible assumption | refine .s ?_ ?_ | refine .m ?_ ?_ | refine .l ?_ ?_ | refine .d ?_ | refine .e ?_ | (simp <;> omega) | omega) (by simp [own, Value.ownBlock]; try omega)))) (H4.out.mono ((Kr.of_below hB1 _).trans (Kr.fresh (l := own (.slice (some ⟨_, 0, none⟩) 0 0)) (by repeat first | with_reducible exact .refl .. | with_reducible assumption | refine .s ?_ ?_ | refine .m ?_ ?_ | refine .l ?_ ?_ | refine .d ?_ | refine .e ?_ | (simp <;> omega) | omega) (by simp [own, Value.ownBlock]; try omega)))) G3.out G4.out hN' m3 m4 (by have := HL'.out; simpa using this)).mono ?_) | fail); rintro e w2 ⟨v2, rfl, hw2, hk2, hb2, hbs2⟩; rw [List.nil_append] at hw2; have hbW2 := (show Below W1.heap.size W1 _ from (by repeat first | with_reducible exact .refl .. | with_reducible assumption | refine .s ?_ ?_ | refine .m ?_ ?_ | refine .l ?_ ?_ | refine .d ?_ | refine .e ?_ | (simp <;> omega) | omega)).trans hb2; have fA2 := fun o => hbW2.at0 (b := w.heap.size) (by first | (simp; done) | (simp; omega) | omega) o; have fB2 := fun o => hbW2.at0 (b := w.heap.size + 1) (by first | (simp; done) | (simp; omega) | omega) o; have hw1 := OwnL.aside hw1 (by repeat first | with_reducible exact .refl .. | with_reducible assumption | refine .s ?_ ?_ | refine .m ?_ ?_ | refine .l ?_ ?_ | refine .d ?_ | refine .e ?_ | (simp <;> omega) | omega) hk2 (by intro x hx hh; simp [own, Value.ownBlock] at hx; first | (have := (hw1.le x hh).2; omega) | exact (hk1 []).out x (by simp; omega) (by simp [own, Value.ownBlock]; omega) (by rw [List.append_nil]; exact hh)); have eb0 := conv_at (W := w2) hw2 (coreB_bytes _ _ _) (coreB_ne _ _ _) hS2 (by repeat first | with_reducible exact .refl .. | with_reducible assumption | refine .s ?_ ?_ | refine .m ?_ ?_ | refine .l ?_ ?_ | refine .d ?_ | refine .e ?_ | (simp <;> omega) | omega); have eb1 := conv_at (W := w2.drew) hw2 (coreB_bytes _ _ _) (coreB_ne _ _ _) hS2 (by repeat first | with_reducible exact .refl .. | with_reducible assumption | refine .s ?_ ?_ | refine .m ?_ ?_ | refine .l ?_ ?_ | refine .d ?_ | refine .e ?_ | (simp <;> omega) | omega); have ec0 := conv_at (W := w2) hw1 (coreB_bytes _ _ _) (coreB_ne _ _ _) hS1 (by repeat first | with_reducible exact .refl .. | with_reducible assumption | refine .s ?_ ?_ | refine .m ?_ ?_ | refine .l ?_ ?_ | refine .d ?_ | refine .e ?_ | (simp <;> omega) | omega); have ec1 := conv_at (W := w2.drew) hw1 (coreB_bytes _ _ _) (coreB_ne _ _ _) hS1 (by repeat first | with_reducible exact .refl .. | with_reducible assumption | refine .s ?_ ?_ | refine .m ?_ ?_ | refine .l ?_ ?_ | refine .d ?_ | refine .e ?_ | (simp <;> omega) | omega)
          go_wp2_with fail
          have hOldS := hHeld
          clear hHeld
          refine hK.out _ _ (by (try dsimp only); ((repeat' apply And.intro) <;> first | (simp [*, go_sem, ↓IntWalk.iteOmega]; done))) (fun hHeld => ?_)
          clear hK K hOldS
          try simp only [Act.put, List.setIfInBounds_toArray, List.set_cons_zero, List.set_cons_succ]
          refine wpAnyH_ready (rs := [7]) (by kernel_rfl) (by simp) (AllReadyH.cons (o := { dst := _, op := _, type := _, pos := _, after := _, guard := _ }) rfl (fun K hK => ?_) AllReadyH.nil)
          go_simp
          have hOldS := hHeld
          clear hHeld
          refine hK.out _ _ (by (try dsimp only); ((repeat' apply And.intro) <;> first | (simp [*, go_sem, ↓IntWalk.iteOmega]; done))) (fun hHeld => ?_)
          clear hK K hOldS
          try simp only [Act.put, List.setIfInBounds_toArray, List.set_cons_zero, List.set_cons_succ]
          refine wpAnyH_ready (rs := [8]) (by kernel_rfl) (by simp) (AllReadyH.cons (o := { dst := _, op := _, type := _, pos := _, after := _, guard := _ }) rfl (fun K hK => ?_) AllReadyH.nil)
          go_simp
          have hOldS := hHeld
          clear hHeld
          refine hK.out _ _ (by (try dsimp only); ((repeat' apply And.intro) <;> first | (simp [*, go_sem, ↓IntWalk.iteOmega]; done))) (fun hHeld => ?_)
          clear hK K hOldS
          try simp only [Act.put, List.setIfInBounds_toArray, List.set_cons_zero, List.set_cons_succ]
          refine wpAnyH_ready (rs := [9]) (by kernel_rfl) (by simp) (AllReadyH.cons (o := { dst := _, op := _, type := _, pos := _, after := _, guard := _ }) rfl (fun K hK => ?_) AllReadyH.nil)
          go_simp
          have hOldS := hHeld
          clear hHeld
          refine hK.out _ _ (by (try dsimp only); ((repeat' apply And.intro) <;> first | (simp [*, go_sem, ↓IntWalk.iteOmega]; done))) (fun hHeld => ?_)
          clear hK K hOldS
          try simp only [Act.put, List.setIfInBounds_toArray, List.set_cons_zero, List.set_cons_succ]
          refine wpAnyH_done (by kernel_rfl) ?_ _
          clear hHeld
          go_wp2_with fail
          go_ret
          exact RetB.mk (by rw [hS1, hS2]; rfl) (hB1.trans ((show Below W1.heap.size W1 _ from (by repeat first | with_reducible exact .refl .. | with_reducible assumption | refine .s ?_ ?_ | refine .m ?_ ?_ | refine .l ?_ ?_ | refine .d ?_ | refine .e ?_ | (simp <;> omega) | omega)).mono (by omega)))
        · go_simp
          (first | (go_at_call_of 59 A3; refine (rcore_ok _ W1.heap.size (.slice (some ⟨_, 0, none⟩) 0 0) [] ex N' A3 n3 c3 A4 n4 c4 l3 l4 (EmpAt.own (by repeat (first | (with_reducible refine EmpAt.new _ ?_; first | (simp; done) | (simp; omega) | omega) | with_reducible refine EmpAt.drew ?_ | with_reducible refine EmpAt.drewN ?_ _ | with_reducible refine EmpAt.alloc ?_ _ | refine EmpAt.kr ?_ (hk1 []) (by simp [own, Value.ownBlock] <;> omega))) (by first | (simp; done) | (simp; omega) | omega)) (by first | (simp; done) | (simp; omega) | omega) (H3.out.mono ((Kr.of_below hB1 _).trans (Kr.fresh (l := own (.slice (some ⟨_, 0, none⟩) 0 0)) (by repeat first | with_reducible exact .refl .. | with_reducible assumption | refine .s ?_ ?_ | refine .m ?_ ?_ | refine .l ?_ ?_ | refine .d ?_ | refine .e ?_ | (simp <;> omega) | omega) (by simp [own, Value.ownBlock]; try omega)))) (H4.out.mono ((Kr.of_below hB1 _).trans (Kr.fresh (l := own (.slice (some ⟨_, 0, none⟩) 0 0)) (by repeat first | with_reducible exact .refl .. | with_reducible assumption | refine .s ?_ ?_ | refine .m ?_ ?_ | refine .l ?_ ?_ | refine .d ?_ | refine .e ?_ | (simp <;> omega) | omega) (by simp [own, Value.ownBlock]; try omega)))) G3.out G4.out hN' m3 m4 (by have := HL'.out; simpa using this)).mono ?_) | fail); rintro e w2 ⟨v2, rfl, hw2, hk2, hb2, hbs2⟩; rw [List.nil_append] at hw2; have hbW2 := (show Below W1.heap.size W1 _ from (by repeat first | with_reducible exact .refl .. | with_reducible assumption | refine .s ?_ ?_ | refine .m ?_ ?_ | refine .l ?_ ?_ | refine .d ?_ | refine .e ?_ | (simp <;> omega) | omega)).trans hb2; have fA2 := fun o => hbW2.at0 (b := w.heap.size) (by first | (simp; done) | (simp; omega) | omega) o; have fB2 := fun o => hbW2.at0 (b := w.heap.size + 1) (by first | (simp; done) | (simp; omega) | omega) o; have hw1 := OwnL.aside hw1 (by repeat first | with_reducible exact .refl .. | with_reducible assumption | refine .s ?_ ?_ | refine .m ?_ ?_ | refine .l ?_ ?_ | refine .d ?_ | refine .e ?_ | (simp <;> omega) | omega) hk2 (by intro x hx hh; simp [own, Value.ownBlock] at hx; first | (have := (hw1.le x hh).2; omega) | exact (hk1 []).out x (by simp; omega) (by simp [own, Value.ownBlock]; omega) (by rw [List.append_nil]; exact hh)); have eb0 := conv_at (W := w2) hw2 (coreB_bytes _ _ _) (coreB_ne _ _ _) hS2 (by repeat first | with_reducible exact .refl .. | with_reducible assumption | refine .s ?_ ?_ | refine .m ?_ ?_ | refine .l ?_ ?_ | refine .d ?_ | refine .e ?_ | (simp <;> omega) | omega); have eb1 := conv_at (W := w2.drew) hw2 (coreB_bytes _ _ _) (coreB_ne _ _ _) hS2 (by repeat first | with_reducible exact .refl .. | with_reducible assumption | refine .s ?_ ?_ | refine .m ?_ ?_ | refine .l ?_ ?_ | refine .d ?_ | refine .e ?_ | (simp <;> omega) | omega); have ec0 := conv_at (W := w2) hw1 (coreB_bytes _ _ _) (coreB_ne _ _ _) hS1 (by repeat first | with_reducible exact .refl .. | with_reducible assumption | refine .s ?_ ?_ | refine .m ?_ ?_ | refine .l ?_ ?_ | refine .d ?_ | refine .e ?_ | (simp <;> omega) | omega); have ec1 := conv_at (W := w2.drew) hw1 (coreB_bytes _ _ _) (coreB_ne _ _ _) hS1 (by repeat first | with_reducible exact .refl .. | with_reducible assumption | refine .s ?_ ?_ | refine .m ?_ ?_ | refine .l ?_ ?_ | refine .d ?_ | refine .e ?_ | (simp <;> omega) | omega)
          go_wp2_with fail
          have hOldS := hHeld
          clear hHeld
          refine hK.out _ _ (by (try dsimp only); ((repeat' apply And.intro) <;> first | (simp [*, go_sem, ↓IntWalk.iteOmega]; done))) (fun hHeld => ?_)
          clear hK K hOldS
          try simp only [Act.put, List.setIfInBounds_toArray, List.set_cons_zero, List.set_cons_succ]
          refine wpAnyH_ready (rs := [3, 7]) (by kernel_rfl) (by simp) (AllReadyH.cons (o := { dst := _, op := _, type := _, pos := _, after := _, guard := _ }) rfl (fun K hK => ?_) (AllReadyH.cons (o := { dst := _, op := _, type := _, pos := _, after := _, guard := _ }) rfl (fun K hK => ?_) AllReadyH.nil))
          · go_simp
            have hOldS := hHeld
            clear hHeld
            refine hK.out _ _ (by (try dsimp only); ((repeat' apply And.intro) <;> first | (simp [*, go_sem, ↓IntWalk.iteOmega]; done))) (fun hHeld => ?_)
            clear hK K hOldS
            try simp only [Act.put, List.setIfInBounds_toArray, List.set_cons_zero, List.set_cons_succ]
            refine wpAnyH_ready (rs := [7]) (by kernel_rfl) (by simp) (AllReadyH.cons (o := { dst := _, op := _, type := _, pos := _, after := _, guard := _ }) rfl (fun K hK => ?_) AllReadyH.nil)
            go_simp
            have hOldS := hHeld
            clear hHeld
            refine hK.out _ _ (by (try dsimp only); ((repeat' apply And.intro) <;> first | (simp [*, go_sem, ↓IntWalk.iteOmega]; done))) (fun hHeld => ?_)
            clear hK K hOldS
            try simp only [Act.put, List.setIfInBounds_toArray, List.set_cons_zero, List.set_cons_succ]
            refine wpAnyH_ready (rs := [8]) (by kernel_rfl) (by simp) (AllReadyH.cons (o := { dst := _, op := _, type := _, pos := _, after := _, guard := _ }) rfl (fun K hK => ?_) AllReadyH.nil)
            go_simp
            have hOldS := hHeld
            clear hHeld
            refine hK.out _ _ (by (try dsimp only); ((repeat' apply And.intro) <;> first | (simp [*, go_sem, ↓IntWalk.iteOmega]; done))) (fun hHeld => ?_)
            clear hK K hOldS
            try simp only [Act.put, List.setIfInBounds_toArray, List.set_cons_zero, List.set_cons_succ]
            refine wpAnyH_ready (rs := [9]) (by kernel_rfl) (by simp) (AllReadyH.cons (o := { dst := _, op := _, type := _, pos := _, after := _, guard := _ }) rfl (fun K hK => ?_) AllReadyH.nil)
            go_simp
            have hOldS := hHeld
            clear hHeld
            refine hK.out _ _ (by (try dsimp only); ((repeat' apply And.intro) <;> first | (simp [*, go_sem, ↓IntWalk.iteOmega]; done))) (fun hHeld => ?_)
            clear hK K hOldS
            try simp only [Act.put, List.setIfInBounds_toArray, List.set_cons_zero, List.set_cons_succ]
            refine wpAnyH_done (by kernel_rfl) ?_ _
            clear hHeld
            go_wp2_with fail
            go_ret
            exact RetB.mk (by rw [hS1, hS2]; rfl) (hB1.trans ((show Below W1.heap.size W1 _ from (by repeat first | with_reducible exact .refl .. | with_reducible assumption | refine .s ?_ ?_ | refine .m ?_ ?_ | refine .l ?_ ?_ | refine .d ?_ | refine .e ?_ | (simp <;> omega) | omega)).mono (by omega)))
          · go_simp
            have hOldS := hHeld
            clear hHeld
            refine hK.out _ _ (by (try dsimp only); ((repeat' apply And.intro) <;> first | (simp [*, go_sem, ↓IntWalk.iteOmega]; done))) (fun hHeld => ?_)
            clear hK K hOldS
            try simp only [Act.put, List.setIfInBounds_toArray, List.set_cons_zero, List.set_cons_succ]
            refine wpAnyH_ready (rs := [3]) (by kernel_rfl) (by simp) (AllReadyH.cons (o := { dst := _, op := _, type := _, pos := _, after := _, guard := _ }) rfl (fun K hK => ?_) AllReadyH.nil)
            go_simp
            have hOldS := hHeld
            clear hHeld
            refine hK.out _ _ (by (try dsimp only); ((repeat' apply And.intro) <;> first | (simp [*, go_sem, ↓IntWalk.iteOmega]; done))) (fun hHeld => ?_)
            clear hK K hOldS
            try simp only [Act.put, List.setIfInBounds_toArray, List.set_cons_zero, List.set_cons_succ]
            refine wpAnyH_ready (rs := [8]) (by kernel_rfl) (by simp) (AllReadyH.cons (o := { dst := _, op := _, type := _, pos := _, after := _, guard := _ }) rfl (fun K hK => ?_) AllReadyH.nil)
            go_simp
            have hOldS := hHeld
            clear hHeld
            refine hK.out _ _ (by (try dsimp only); ((repeat' apply And.intro) <;> first | (simp [*, go_sem, ↓IntWalk.iteOmega]; done))) (fun hHeld => ?_)
            clear hK K hOldS
            try simp only [Act.put, List.setIfInBounds_toArray, List.set_cons_zero, List.set_cons_succ]
            refine wpAnyH_ready (rs := [9]) (by kernel_rfl) (by simp) (AllReadyH.cons (o := { dst := _, op := _, type := _, pos := _, after := _, guard := _ }) rfl (fun K hK => ?_) AllReadyH.nil)
            go_simp
            have hOldS := hHeld
            clear hHeld
            refine hK.out _ _ (by (try dsimp only); ((repeat' apply And.intro) <;> first | (simp [*, go_sem, ↓IntWalk.iteOmega]; done))) (fun hHeld => ?_)
            clear hK K hOldS
            try simp only [Act.put, List.setIfInBounds_toArray, List.set_cons_zero, List.set_cons_succ]
            refine wpAnyH_done (by kernel_rfl) ?_ _
            clear hHeld
            go_wp2_with fail
            go_ret
            exact RetB.mk (by rw [hS1, hS2]; rfl) (hB1.trans ((show Below W1.heap.size W1 _ from (by repeat first | with_reducible exact .refl .. | with_reducible assumption | refine .s ?_ ?_ | refine .m ?_ ?_ | refine .l ?_ ?_ | refine .d ?_ | refine .e ?_ | (simp <;> omega) | omega)).mono (by omega)))
    · go_simp
      have hOldS := hHeld
      clear hHeld
      refine hK.out _ _ (by (try dsimp only); ((repeat' apply And.intro) <;> first | (simp [*, go_sem, ↓IntWalk.iteOmega]; done))) (fun hHeld => ?_)
      clear hK K hOldS
      try simp only [Act.put, List.setIfInBounds_toArray, List.set_cons_zero, List.set_cons_succ]
      refine wpAnyH_ready (rs := [2]) (by kernel_rfl) (by simp) (AllReadyH.cons (o := { dst := _, op := _, type := _, pos := _, after := _, guard := _ }) rfl (fun K hK => ?_) AllReadyH.nil)
      go_simp
      (first | (go_at_call_of 59 A1; refine (rcore_ok _ W1.heap.size (.slice (some ⟨_, 0, none⟩) 0 0) [] ex N A1 n1 c1 A2 n2 c2 l1 l2 (EmpAt.own (by repeat (first | (with_reducible refine EmpAt.new _ ?_; first | (simp; done) | (simp; omega) | omega) | with_reducible refine EmpAt.drew ?_ | with_reducible refine EmpAt.drewN ?_ _ | with_reducible refine EmpAt.alloc ?_ _ | refine EmpAt.kr ?_ (hk1 []) (by simp [own, Value.ownBlock] <;> omega))) (by first | (simp; done) | (simp; omega) | omega)) (by first | (simp; done) | (simp; omega) | omega) (H1.out.mono ((Kr.of_below hB1 _).trans (Kr.fresh (l := own (.slice (some ⟨_, 0, none⟩) 0 0)) (by repeat first | with_reducible exact .refl .. | with_reducible assumption | refine .s ?_ ?_ | refine .m ?_ ?_ | refine .l ?_ ?_ | refine .d ?_ | refine .e ?_ | (simp <;> omega) | omega) (by simp [own, Value.ownBlock]; try omega)))) (H2.out.mono ((Kr.of_below hB1 _).trans (Kr.fresh (l := own (.slice (some ⟨_, 0, none⟩) 0 0)) (by repeat first | with_reducible exact .refl .. | with_reducible assumption | refine .s ?_ ?_ | refine .m ?_ ?_ | refine .l ?_ ?_ | refine .d ?_ | refine .e ?_ | (simp <;> omega) | omega) (by simp [own, Value.ownBlock]; try omega)))) G1.out G2.out hN m1 m2 (by have := HL.out; simpa using this)).mono ?_) | fail); rintro e w1 ⟨v1, rfl, hw1, hk1, hb1, hbs1⟩; rw [List.nil_append] at hw1; have hbW1 := (show Below W1.heap.size W1 _ from (by repeat first | with_reducible exact .refl .. | with_reducible assumption | refine .s ?_ ?_ | refine .m ?_ ?_ | refine .l ?_ ?_ | refine .d ?_ | refine .e ?_ | (simp <;> omega) | omega)).trans hb1; have fA := fun o => hbW1.at0 (b := w.heap.size) (by first | (simp; done) | (simp; omega) | omega) o; have fB := fun o => hbW1.at0 (b := w.heap.size + 1) (by first | (simp; done) | (simp; omega) | omega) o; have hsz1 := hbW1.size; have ea0 := conv_at (W := w1) hw1 (coreB_bytes _ _ _) (coreB_ne _ _ _) hS1 (by repeat first | with_reducible exact .refl .. | with_reducible assumption | refine .s ?_ ?_ | refine .m ?_ ?_ | refine .l ?_ ?_ | refine .d ?_ | refine .e ?_ | (simp <;> omega) | omega); have ea1 := conv_at (W := w1.drew) hw1 (coreB_bytes _ _ _) (coreB_ne _ _ _) hS1 (by repeat first | with_reducible exact .refl .. | with_reducible assumption | refine .s ?_ ?_ | refine .m ?_ ?_ | refine .l ?_ ?_ | refine .d ?_ | refine .e ?_ | (simp <;> omega) | omega); have ea2 := conv_at (W := (w1.alloc (.cells #[] 5))) hw1 (coreB_bytes _ _ _) (coreB_ne _ _ _) hS1 (by repeat first | with_reducible exact .refl .. | with_reducible assumption | refine .s ?_ ?_ | refine .m ?_ ?_ | refine .l ?_ ?_ | refine .d ?_ | refine .e ?_ | (simp <;> omega) | omega); have ea3 := conv_at (W := (w1.alloc (.cells #[] 5)).drew) hw1 (coreB_bytes _ _ _) (coreB_ne _ _ _) hS1 (by repeat first | with_reducible exact .refl .. | with_reducible assumption | refine .s ?_ ?_ | refine .m ?_ ?_ | refine .l ?_ ?_ | refine .d ?_ | refine .e ?_ | (simp <;> omega) | omega); have ea4 := conv_at (W := (w1.drew.alloc (.cells #[] 5))) hw1 (coreB_bytes _ _ _) (coreB_ne _ _ _) hS1 (by repeat first | with_reducible exact .refl .. | with_reducible assumption | refine .s ?_ ?_ | refine .m ?_ ?_ | refine .l ?_ ?_ | refine .d ?_ | refine .e ?_ | (simp <;> omega) | omega); have ea5 := conv_at (W := (w1.drew.alloc (.cells #[] 5)).drew) hw1 (coreB_bytes _ _ _) (coreB_ne _ _ _) hS1 (by repeat first | with_reducible exact .refl .. | with_reducible assumption | refine .s ?_ ?_ | refine .m ?_ ?_ | refine .l ?_ ?_ | refine .d ?_ | refine .e ?_ | (simp <;> omega) | omega)
      go_wp2_with fail
      have hOldS := hHeld
      clear hHeld
      refine hK.out _ _ (by (try dsimp only); ((repeat' apply And.intro) <;> first | (simp [*, go_sem, ↓IntWalk.iteOmega]; done))) (fun hHeld => ?_)
      clear hK K hOldS
      try simp only [Act.put, List.setIfInBounds_toArray, List.set_cons_zero, List.set_cons_succ]
      refine wpAnyH_ready (rs := [3, 6]) (by kernel_rfl) (by simp) (AllReadyH.cons (o := { dst := _, op := _, type := _, pos := _, after := _, guard := _ }) rfl (fun K hK => ?_) (AllReadyH.cons (o := { dst := _, op := _, type := _, pos := _, after := _, guard := _ }) rfl (fun K hK => ?_) AllReadyH.nil))
      · go_simp
        have hOldS := hHeld
        clear hHeld
        refine hK.out _ _ (by (try dsimp only); ((repeat' apply And.intro) <;> first | (simp [*, go_sem, ↓IntWalk.iteOmega]; done))) (fun hHeld => ?_)
        clear hK K hOldS
        try simp only [Act.put, List.setIfInBounds_toArray, List.set_cons_zero, List.set_cons_succ]
        refine wpAnyH_ready (rs := [6]) (by kernel_rfl) (by simp) (AllReadyH.cons (o := { dst := _, op := _, type := _, pos := _, after := _, guard := _ }) rfl (fun K hK => ?_) AllReadyH.nil)
        go_simp
        (first | (go_at_call_of 59 A3; refine (rcore_ok _ W1.heap.size (.slice (some ⟨_, 0, none⟩) 0 0) [] ex N' A3 n3 c3 A4 n4 c4 l3 l4 (EmpAt.own (by repeat (first | (with_reducible refine EmpAt.new _ ?_; first | (simp; done) | (simp; omega) | omega) | with_reducible refine EmpAt.drew ?_ | with_reducible refine EmpAt.drewN ?_ _ | with_reducible refine EmpAt.alloc ?_ _ | refine EmpAt.kr ?_ (hk1 []) (by simp [own, Value.ownBlock] <;> omega))) (by first | (simp; done) | (simp; omega) | omega)) (by first | (simp; done) | (simp; omega) | omega) (H3.out.mono ((Kr.of_below hB1 _).trans (Kr.fresh (l := own (.slice (some ⟨_, 0, none⟩) 0 0)) (by repeat first | with_reducible exact .refl .. | with_reducible assumption | refine .s ?_ ?_ | refine .m ?_ ?_ | refine .l ?_ ?_ | refine .d ?_ | refine .e ?_ | (simp <;> omega) | omega) (by simp [own, Value.ownBlock]; try omega)))) (H4.out.mono ((Kr.of_below hB1 _).trans (Kr.fresh (l := own (.slice (some ⟨_, 0, none⟩) 0 0)) (by repeat first | with_reducible exact .refl .. | with_reducible assumption | refine .s ?_ ?_ | refine .m ?_ ?_ | refine .l ?_ ?_ | refine .d ?_ | refine .e ?_ | (simp <;> omega) | omega) (by simp [own, Value.ownBlock]; try omega)))) G3.out G4.out hN' m3 m4 (by have := HL'.out; simpa using this)).mono ?_) | fail); rintro e w2 ⟨v2, rfl, hw2, hk2, hb2, hbs2⟩; rw [List.nil_append] at hw2; have hbW2 := (show Below W1.heap.size W1 _ from (by repeat first | with_reducible exact .refl .. | with_reducible assumption | refine .s ?_ ?_ | refine .m ?_ ?_ | refine .l ?_ ?_ | refine .d ?_ | refine .e ?_ | (simp <;> omega) | omega)).trans hb2; have fA2 := fun o => hbW2.at0 (b := w.heap.size) (by first | (simp; done) | (simp; omega) | omega) o; have fB2 := fun o => hbW2.at0 (b := w.heap.size + 1) (by first | (simp; done) | (simp; omega) | omega) o; have hw1 := OwnL.aside hw1 (by repeat first | with_reducible exact .refl .. | with_reducible assumption | refine .s ?_ ?_ | refine .m ?_ ?_ | refine .l ?_ ?_ | refine .d ?_ | refine .e ?_ | (simp <;> omega) | omega) hk2 (by intro x hx hh; simp [own, Value.ownBlock] at hx; first | (have := (hw1.le x hh).2; omega) | exact (hk1 []).out x (by simp; omega) (by simp [own, Value.ownBlock]; omega) (by rw [List.append_nil]; exact hh)); have eb0 := conv_at (W := w2) hw2 (coreB_bytes _ _ _) (coreB_ne _ _ _) hS2 (by repeat first | with_reducible exact .refl .. | with_reducible assumption | refine .s ?_ ?_ | refine .m ?_ ?_ | refine .l ?_ ?_ | refine .d ?_ | refine .e ?_ | (simp <;> omega) | omega); have eb1 := conv_at (W := w2.drew) hw2 (coreB_bytes _ _ _) (coreB_ne _ _ _) hS2 (by repeat first | with_reducible exact .refl .. | with_reducible assumption | refine .s ?_ ?_ | refine .m ?_ ?_ | refine .l ?_ ?_ | refine .d ?_ | refine .e ?_ | (simp <;> omega) | omega); have ec0 := conv_at (W := w2) hw1 (coreB_bytes _ _ _) (coreB_ne _ _ _) hS1 (by repeat first | with_reducible exact .refl .. | with_reducible assumption | refine .s ?_ ?_ | refine .m ?_ ?_ | refine .l ?_ ?_ | refine .d ?_ | refine .e ?_ | (simp <;> omega) | omega); have ec1 := conv_at (W := w2.drew) hw1 (coreB_bytes _ _ _) (coreB_ne _ _ _) hS1 (by repeat first | with_reducible exact .refl .. | with_reducible assumption | refine .s ?_ ?_ | refine .m ?_ ?_ | refine .l ?_ ?_ | refine .d ?_ | refine .e ?_ | (simp <;> omega) | omega)
        go_wp2_with fail
        have hOldS := hHeld
        clear hHeld
        refine hK.out _ _ (by (try dsimp only); ((repeat' apply And.intro) <;> first | (simp [*, go_sem, ↓IntWalk.iteOmega]; done))) (fun hHeld => ?_)
        clear hK K hOldS
        try simp only [Act.put, List.setIfInBounds_toArray, List.set_cons_zero, List.set_cons_succ]
        refine wpAnyH_ready (rs := [7]) (by kernel_rfl) (by simp) (AllReadyH.cons (o := { dst := _, op := _, type := _, pos := _, after := _, guard := _ }) rfl (fun K hK => ?_) AllReadyH.nil)
        go_simp
        have hOldS := hHeld
        clear hHeld
        refine hK.out _ _ (by (try dsimp only); ((repeat' apply And.intro) <;> first | (simp [*, go_sem, ↓IntWalk.iteOmega]; done))) (fun hHeld => ?_)
        clear hK K hOldS
        try simp only [Act.put, List.setIfInBounds_toArray, List.set_cons_zero, List.set_cons_succ]
        refine wpAnyH_ready (rs := [8]) (by kernel_rfl) (by simp) (AllReadyH.cons (o := { dst := _, op := _, type := _, pos := _, after := _, guard := _ }) rfl (fun K hK => ?_) AllReadyH.nil)
        go_simp
        have hOldS := hHeld
        clear hHeld
        refine hK.out _ _ (by (try dsimp only); ((repeat' apply And.intro) <;> first | (simp [*, go_sem, ↓IntWalk.iteOmega]; done))) (fun hHeld => ?_)
        clear hK K hOldS
        try simp only [Act.put, List.setIfInBounds_toArray, List.set_cons_zero, List.set_cons_succ]
        refine wpAnyH_ready (rs := [9]) (by kernel_rfl) (by simp) (AllReadyH.cons (o := { dst := _, op := _, type := _, pos := _, after := _, guard := _ }) rfl (fun K hK => ?_) AllReadyH.nil)
        go_simp
        have hOldS := hHeld
        clear hHeld
        refine hK.out _ _ (by (try dsimp only); ((repeat' apply And.intro) <;> first | (simp [*, go_sem, ↓IntWalk.iteOmega]; done))) (fun hHeld => ?_)
        clear hK K hOldS
        try simp only [Act.put, List.setIfInBounds_toArray, List.set_cons_zero, List.set_cons_succ]
        refine wpAnyH_done (by kernel_rfl) ?_ _
        clear hHeld
        go_wp2_with fail
        go_ret
        exact RetB.mk (by rw [hS1, hS2]; rfl) (hB1.trans ((show Below W1.heap.size W1 _ from (by repeat first | with_reducible exact .refl .. | with_reducible assumption | refine .s ?_ ?_ | refine .m ?_ ?_ | refine .l ?_ ?_ | refine .d ?_ | refine .e ?_ | (simp <;> omega) | omega)).mono (by omega)))
      · go_simp
        (first | (go_at_call_of 59 A3; refine (rcore_ok _ W1.heap.size (.slice (some ⟨_, 0, none⟩) 0 0) [] ex N' A3 n3 c3 A4 n4 c4 l3 l4 (EmpAt.own (by repeat (first | (with_reducible refine EmpAt.new _ ?_; first | (simp; done) | (simp; omega) | omega) | with_reducible refine EmpAt.drew ?_ | with_reducible refine EmpAt.drewN ?_ _ | with_reducible refine EmpAt.alloc ?_ _ | refine EmpAt.kr ?_ (hk1 []) (by simp [own, Value.ownBlock] <;> omega))) (by first | (simp; done) | (simp; omega) | omega)) (by first | (simp; done) | (simp; omega) | omega) (H3.out.mono ((Kr.of_below hB1 _).trans (Kr.fresh (l := own (.slice (some ⟨_, 0, none⟩) 0 0)) (by repeat first | with_reducible exact .refl .. | with_reducible assumption | refine .s ?_ ?_ | refine .m ?_ ?_ | refine .l ?_ ?_ | refine .d ?_ | refine .e ?_ | (simp <;> omega) | omega) (by simp [own, Value.ownBlock]; try omega)))) (H4.out.mono ((Kr.of_below hB1 _).trans (Kr.fresh (l := own (.slice (some ⟨_, 0, none⟩) 0 0)) (by repeat first | with_reducible exact .refl .. | with_reducible assumption | refine .s ?_ ?_ | refine .m ?_ ?_ | refine .l ?_ ?_ | refine .d ?_ | refine .e ?_ | (simp <;> omega) | omega) (by simp [own, Value.ownBlock]; try omega)))) G3.out G4.out hN' m3 m4 (by have := HL'.out; simpa using this)).mono ?_) | fail); rintro e w2 ⟨v2, rfl, hw2, hk2, hb2, hbs2⟩; rw [List.nil_append] at hw2; have hbW2 := (show Below W1.heap.size W1 _ from (by repeat first | with_reducible exact .refl .. | with_reducible assumption | refine .s ?_ ?_ | refine .m ?_ ?_ | refine .l ?_ ?_ | refine .d ?_ | refine .e ?_ | (simp <;> omega) | omega)).trans hb2; have fA2 := fun o => hbW2.at0 (b := w.heap.size) (by first | (simp; done) | (simp; omega) | omega) o; have fB2 := fun o => hbW2.at0 (b := w.heap.size + 1) (by first | (simp; done) | (simp; omega) | omega) o; have hw1 := OwnL.aside hw1 (by repeat first | with_reducible exact .refl .. | with_reducible assumption | refine .s ?_ ?_ | refine .m ?_ ?_ | refine .l ?_ ?_ | refine .d ?_ | refine .e ?_ | (simp <;> omega) | omega) hk2 (by intro x hx hh; simp [own, Value.ownBlock] at hx; first | (have := (hw1.le x hh).2; omega) | exact (hk1 []).out x (by simp; omega) (by simp [own, Value.ownBlock]; omega) (by rw [List.append_nil]; exact hh)); have eb0 := conv_at (W := w2) hw2 (coreB_bytes _ _ _) (coreB_ne _ _ _) hS2 (by repeat first | with_reducible exact .refl .. | with_reducible assumption | refine .s ?_ ?_ | refine .m ?_ ?_ | refine .l ?_ ?_ | refine .d ?_ | refine .e ?_ | (simp <;> omega) | omega); have eb1 := conv_at (W := w2.drew) hw2 (coreB_bytes _ _ _) (coreB_ne _ _ _) hS2 (by repeat first | with_reducible exact .refl .. | with_reducible assumption | refine .s ?_ ?_ | refine .m ?_ ?_ | refine .l ?_ ?_ | refine .d ?_ | refine .e ?_ | (simp <;> omega) | omega); have ec0 := conv_at (W := w2) hw1 (coreB_bytes _ _ _) (coreB_ne _ _ _) hS1 (by repeat first | with_reducible exact .refl .. | with_reducible assumption | refine .s ?_ ?_ | refine .m ?_ ?_ | refine .l ?_ ?_ | refine .d ?_ | refine .e ?_ | (simp <;> omega) | omega); have ec1 := conv_at (W := w2.drew) hw1 (coreB_bytes _ _ _) (coreB_ne _ _ _) hS1 (by repeat first | with_reducible exact .refl .. | with_reducible assumption | refine .s ?_ ?_ | refine .m ?_ ?_ | refine .l ?_ ?_ | refine .d ?_ | refine .e ?_ | (simp <;> omega) | omega)
        go_wp2_with fail
        have hOldS := hHeld
        clear hHeld
        refine hK.out _ _ (by (try dsimp only); ((repeat' apply And.intro) <;> first | (simp [*, go_sem, ↓IntWalk.iteOmega]; done))) (fun hHeld => ?_)
        clear hK K hOldS
        try simp only [Act.put, List.setIfInBounds_toArray, List.set_cons_zero, List.set_cons_succ]
        refine wpAnyH_ready (rs := [3, 7]) (by kernel_rfl) (by simp) (AllReadyH.cons (o := { dst := _, op := _, type := _, pos := _, after := _, guard := _ }) rfl (fun K hK => ?_) (AllReadyH.cons (o := { dst := _, op := _, type := _, pos := _, after := _, guard := _ }) rfl (fun K hK => ?_) AllReadyH.nil))
        · go_simp
          have hOldS := hHeld
          clear hHeld
          refine hK.out _ _ (by (try dsimp only); ((repeat' apply And.intro) <;> first | (simp [*, go_sem, ↓IntWalk.iteOmega]; done))) (fun hHeld => ?_)
          clear hK K hOldS
          try simp only [Act.put, List.setIfInBounds_toArray, List.set_cons_zero, List.set_cons_succ]
          refine wpAnyH_ready (rs := [7]) (by kernel_rfl) (by simp) (AllReadyH.cons (o := { dst := _, op := _, type := _, pos := _, after := _, guard := _ }) rfl (fun K hK => ?_) AllReadyH.nil)
          go_simp
          have hOldS := hHeld
          clear hHeld
          refine hK.out _ _ (by (try dsimp only); ((repeat' apply And.intro) <;> first | (simp [*, go_sem, ↓IntWalk.iteOmega]; done))) (fun hHeld => ?_)
          clear hK K hOldS
          try simp only [Act.put, List.setIfInBounds_toArray, List.set_cons_zero, List.set_cons_succ]
          refine wpAnyH_ready (rs := [8]) (by kernel_rfl) (by simp) (AllReadyH.cons (o := { dst := _, op := _, type := _, pos := _, after := _, guard := _ }) rfl (fun K hK => ?_) AllReadyH.nil)
          go_simp
          have hOldS := hHeld
          clear hHeld
          refine hK.out _ _ (by (try dsimp only); ((repeat' apply And.intro) <;> first | (simp [*, go_sem, ↓IntWalk.iteOmega]; done))) (fun hHeld => ?_)
          clear hK K hOldS
          try simp only [Act.put, List.setIfInBounds_toArray, List.set_cons_zero, List.set_cons_succ]
          refine wpAnyH_ready (rs := [9]) (by kernel_rfl) (by simp) (AllReadyH.cons (o := { dst := _, op := _, type := _, pos := _, after := _, guard := _ }) rfl (fun K hK => ?_) AllReadyH.nil)
          go_simp
          have hOldS := hHeld
          clear hHeld
          refine hK.out _ _ (by (try dsimp only); ((repeat' apply And.intro) <;> first | (simp [*, go_sem, ↓IntWalk.iteOmega]; done))) (fun hHeld => ?_)
          clear hK K hOldS
          try simp only [Act.put, List.setIfInBounds_toArray, List.set_cons_zero, List.set_cons_succ]
          refine wpAnyH_done (by kernel_rfl) ?_ _
          clear hHeld
          go_wp2_with fail
          go_ret
          exact RetB.mk (by rw [hS1, hS2]; rfl) (hB1.trans ((show Below W1.heap.size W1 _ from (by repeat first | with_reducible exact .refl .. | with_reducible assumption | refine .s ?_ ?_ | refine .m ?_ ?_ | refine .l ?_ ?_ | refine .d ?_ | refine .e ?_ | (simp <;> omega) | omega)).mono (by omega)))
        · go_simp
          have hOldS := hHeld
          clear hHeld
          refine hK.out _ _ (by (try dsimp only); ((repeat' apply And.intro) <;> first | (simp [*, go_sem, ↓IntWalk.iteOmega]; done))) (fun hHeld => ?_)
          clear hK K hOldS
          try simp only [Act.put, List.setIfInBounds_toArray, List.set_cons_zero, List.set_cons_succ]
          refine wpAnyH_ready (rs := [3]) (by kernel_rfl) (by simp) (AllReadyH.cons (o := { dst := _, op := _, type := _, pos := _, after := _, guard := _ }) rfl (fun K hK => ?_) AllReadyH.nil)
          go_simp
          have hOldS := hHeld
          clear hHeld
          refine hK.out _ _ (by (try dsimp only); ((repeat' apply And.intro) <;> first | (simp [*, go_sem, ↓IntWalk.iteOmega]; done))) (fun hHeld => ?_)
          clear hK K hOldS
          try simp only [Act.put, List.setIfInBounds_toArray, List.set_cons_zero, List.set_cons_succ]
          refine wpAnyH_ready (rs := [8]) (by kernel_rfl) (by simp) (AllReadyH.cons (o := { dst := _, op := _, type := _, pos := _, after := _, guard := _ }) rfl (fun K hK => ?_) AllReadyH.nil)
          go_simp
          have hOldS := hHeld
          clear hHeld
          refine hK.out _ _ (by (try dsimp only); ((repeat' apply And.intro) <;> first | (simp [*, go_sem, ↓IntWalk.iteOmega]; done))) (fun hHeld => ?_)
          clear hK K hOldS
          try simp only [Act.put, List.setIfInBounds_toArray, List.set_cons_zero, List.set_cons_succ]
          refine wpAnyH_ready (rs := [9]) (by kernel_rfl) (by simp) (AllReadyH.cons (o := { dst := _, op := _, type := _, pos := _, after := _, guard := _ }) rfl (fun K hK => ?_) AllReadyH.nil)
          go_simp
          have hOldS := hHeld
          clear hHeld
          refine hK.out _ _ (by (try dsimp only); ((repeat' apply And.intro) <;> first | (simp [*, go_sem, ↓IntWalk.iteOmega]; done))) (fun hHeld => ?_)
          clear hK K hOldS
          try simp only [Act.put, List.setIfInBounds_toArray, List.set_cons_zero, List.set_cons_succ]
          refine wpAnyH_done (by kernel_rfl) ?_ _
          clear hHeld
          go_wp2_with fail
          go_ret
          exact RetB.mk (by rw [hS1, hS2]; rfl) (hB1.trans ((show Below W1.heap.size W1 _ from (by repeat first | with_reducible exact .refl .. | with_reducible assumption | refine .s ?_ ?_ | refine .m ?_ ?_ | refine .l ?_ ?_ | refine .d ?_ | refine .e ?_ | (simp <;> omega) | omega)).mono (by omega)))
  · go_simp
    have hOldS := hHeld
    clear hHeld
    refine hK.out _ _ (by (try dsimp only); ((repeat' apply And.intro) <;> first | (simp [*, go_sem, ↓IntWalk.iteOmega]; done))) (fun hHeld => ?_)
    clear hK K hOldS
    try simp only [Act.put, List.setIfInBounds_toArray, List.set_cons_zero, List.set_cons_succ]
    refine wpAnyH_ready (rs := [0]) (by kernel_rfl) (by simp) (AllReadyH.cons (o := { dst := _, op := _, type := _, pos := _, after := _, guard := _ }) rfl (fun K hK => ?_) AllReadyH.nil)
    go_simp
    have hOldS := hHeld
    clear hHeld
    refine hK.out _ _ (by (try dsimp only); ((repeat' apply And.intro) <;> first | (simp [*, go_sem, ↓IntWalk.iteOmega]; done))) (fun hHeld => ?_)
    clear hK K hOldS
    try simp only [Act.put, List.setIfInBounds_toArray, List.set_cons_zero, List.set_cons_succ]
    refine wpAnyH_ready (rs := [2]) (by kernel_rfl) (by simp) (AllReadyH.cons (o := { dst := _, op := _, type := _, pos := _, after := _, guard := _ }) rfl (fun K hK => ?_) AllReadyH.nil)
    go_simp
    (first | (go_at_call_of 59 A1; refine (rcore_ok _ W1.heap.size (.slice (some ⟨_, 0, none⟩) 0 0) [] ex N A1 n1 c1 A2 n2 c2 l1 l2 (EmpAt.own (by repeat (first | (with_reducible refine EmpAt.new _ ?_; first | (simp; done) | (simp; omega) | omega) | with_reducible refine EmpAt.drew ?_ | with_reducible refine EmpAt.drewN ?_ _ | with_reducible refine EmpAt.alloc ?_ _ | refine EmpAt.kr ?_ (hk1 []) (by simp [own, Value.ownBlock] <;> omega))) (by first | (simp; done) | (simp; omega) | omega)) (by first | (simp; done) | (simp; omega) | omega) (H1.out.mono ((Kr.of_below hB1 _).trans (Kr.fresh (l := own (.slice (some ⟨_, 0, none⟩) 0 0)) (by repeat first | with_reducible exact .refl .. | with_reducible assumption | refine .s ?_ ?_ | refine .m ?_ ?_ | refine .l ?_ ?_ | refine .d ?_ | refine .e ?_ | (simp <;> omega) | omega) (by simp [own, Value.ownBlock]; try omega)))) (H2.out.mono ((Kr.of_below hB1 _).trans (Kr.fresh (l := own (.slice (some ⟨_, 0, none⟩) 0 0)) (by repeat first | with_reducible exact .refl .. | with_reducible assumption | refine .s ?_ ?_ | refine .m ?_ ?_ | refine .l ?_ ?_ | refine .d ?_ | refine .e ?_ | (simp <;> omega) | omega) (by simp [own, Value.ownBlock]; try omega)))) G1.out G2.out hN m1 m2 (by have := HL.out; simpa using this)).mono ?_) | fail); rintro e w1 ⟨v1, rfl, hw1, hk1, hb1, hbs1⟩; rw [List.nil_append] at hw1; have hbW1 := (show Below W1.heap.size W1 _ from (by repeat first | with_reducible exact .refl .. | with_reducible assumption | refine .s ?_ ?_ | refine .m ?_ ?_ | refine .l ?_ ?_ | refine .d ?_ | refine .e ?_ | (simp <;> omega) | omega)).trans hb1; have fA := fun o => hbW1.at0 (b := w.heap.size) (by first | (simp; done) | (simp; omega) | omega) o; have fB := fun o => hbW1.at0 (b := w.heap.size + 1) (by first | (simp; done) | (simp; omega) | omega) o; have hsz1 := hbW1.size; have ea0 := conv_at (W := w1) hw1 (coreB_bytes _ _ _) (coreB_ne _ _ _) hS1 (by repeat first | with_reducible exact .refl .. | with_reducible assumption | refine .s ?_ ?_ | refine .m ?_ ?_ | refine .l ?_ ?_ | refine .d ?_ | refine .e ?_ | (simp <;> omega) | omega); have ea1 := conv_at (W := w1.drew) hw1 (coreB_bytes _ _ _) (coreB_ne _ _ _) hS1 (by repeat first | with_reducible exact .refl .. | with_reducible assumption | refine .s ?_ ?_ | refine .m ?_ ?_ | refine .l ?_ ?_ | refine .d ?_ | refine .e ?_ | (simp <;> omega) | omega); have ea2 := conv_at (W := (w1.alloc (.cells #[] 5))) hw1 (coreB_bytes _ _ _) (coreB_ne _ _ _) hS1 (by repeat first | with_reducible exact .refl .. | with_reducible assumption | refine .s ?_ ?_ | refine .m ?_ ?_ | refine .l ?_ ?_ | refine .d ?_ | refine .e ?_ | (simp <;> omega) | omega); have ea3 := conv_at (W := (w1.alloc (.cells #[] 5)).drew) hw1 (coreB_bytes _ _ _) (coreB_ne _ _ _) hS1 (by repeat first | with_reducible exact .refl .. | with_reducible assumption | refine .s ?_ ?_ | refine .m ?_ ?_ | refine .l ?_ ?_ | refine .d ?_ | refine .e ?_ | (simp <;> omega) | omega); have ea4 := conv_at (W := (w1.drew.alloc (.cells #[] 5))) hw1 (coreB_bytes _ _ _) (coreB_ne _ _ _) hS1 (by repeat first | with_reducible exact .refl .. | with_reducible assumption | refine .s ?_ ?_ | refine .m ?_ ?_ | refine .l ?_ ?_ | refine .d ?_ | refine .e ?_ | (simp <;> omega) | omega); have ea5 := conv_at (W := (w1.drew.alloc (.cells #[] 5)).drew) hw1 (coreB_bytes _ _ _) (coreB_ne _ _ _) hS1 (by repeat first | with_reducible exact .refl .. | with_reducible assumption | refine .s ?_ ?_ | refine .m ?_ ?_ | refine .l ?_ ?_ | refine .d ?_ | refine .e ?_ | (simp <;> omega) | omega)
    go_wp2_with fail
    have hOldS := hHeld
    clear hHeld
    refine hK.out _ _ (by (try dsimp only); ((repeat' apply And.intro) <;> first | (simp [*, go_sem, ↓IntWalk.iteOmega]; done))) (fun hHeld => ?_)
    clear hK K hOldS
    try simp only [Act.put, List.setIfInBounds_toArray, List.set_cons_zero, List.set_cons_succ]
    refine wpAnyH_ready (rs := [3, 6]) (by kernel_rfl) (by simp) (AllReadyH.cons (o := { dst := _, op := _, type := _, pos := _, after := _, guard := _ }) rfl (fun K hK => ?_) (AllReadyH.cons (o := { dst := _, op := _, type := _, pos := _, after := _, guard := _ }) rfl (fun K hK => ?_) AllReadyH.nil))
    · go_simp
      have hOldS := hHeld
      clear hHeld
      refine hK.out _ _ (by (try dsimp only); ((repeat' apply And.intro) <;> first | (simp [*, go_sem, ↓IntWalk.iteOmega]; done))) (fun hHeld => ?_)
      clear hK K hOldS
      try simp only [Act.put, List.setIfInBounds_toArray, List.set_cons_zero, List.set_cons_succ]
      refine wpAnyH_ready (rs := [6]) (by kernel_rfl) (by simp) (AllReadyH.cons (o := { dst := _, op := _, type := _, pos := _, after := _, guard := _ }) rfl (fun K hK => ?_) AllReadyH.nil)
      go_simp
      (first | (go_at_call_of 59 A3; refine (rcore_ok _ W1.heap.size (.slice (some ⟨_, 0, none⟩) 0 0) [] ex N' A3 n3 c3 A4 n4 c4 l3 l4 (EmpAt.own (by repeat (first | (with_reducible refine EmpAt.new _ ?_; first | (simp; done) | (simp; omega) | omega) | with_reducible refine EmpAt.drew ?_ | with_reducible refine EmpAt.drewN ?_ _ | with_reducible refine EmpAt.alloc ?_ _ | refine EmpAt.kr ?_ (hk1 []) (by simp [own, Value.ownBlock] <;> omega))) (by first | (simp; done) | (simp; omega) | omega)) (by first | (simp; done) | (simp; omega) | omega) (H3.out.mono ((Kr.of_below hB1 _).trans (Kr.fresh (l := own (.slice (some ⟨_, 0, none⟩) 0 0)) (by repeat first | with_reducible exact .refl .. | with_reducible assumption | refine .s ?_ ?_ | refine .m ?_ ?_ | refine .l ?_ ?_ | refine .d ?_ | refine .e ?_ | (simp <;> omega) | omega) (by simp [own, Value.ownBlock]; try omega)))) (H4.out.mono ((Kr.of_below hB1 _).trans (Kr.fresh (l := own (.slice (some ⟨_, 0, none⟩) 0 0)) (by repeat first | with_reducible exact .refl .. | with_reducible assumption | refine .s ?_ ?_ | refine .m ?_ ?_ | refine .l ?_ ?_ | refine .d ?_ | refine .e ?_ | (simp <;> omega) | omega) (by simp [own, Value.ownBlock]; try omega)))) G3.out G4.out hN' m3 m4 (by have := HL'.out; simpa using this)).mono ?_) | fail); rintro e w2 ⟨v2, rfl, hw2, hk2, hb2, hbs2⟩; rw [List.nil_append] at hw2; have hbW2 := (show Below W1.heap.size W1 _ from (by repeat first | with_reducible exact .refl .. | with_reducible assumption | refine .s ?_ ?_ | refine .m ?_ ?_ | refine .l ?_ ?_ | refine .d ?_ | refine .e ?_ | (simp <;> omega) | omega)).trans hb2; have fA2 := fun o => hbW2.at0 (b := w.heap.size) (by first | (simp; done) | (simp; omega) | omega) o; have fB2 := fun o => hbW2.at0 (b := w.heap.size + 1) (by first | (simp; done) | (simp; omega) | omega) o; have hw1 := OwnL.aside hw1 (by repeat first | with_reducible exact .refl .. | with_reducible assumption | refine .s ?_ ?_ | refine .m ?_ ?_ | refine .l ?_ ?_ | refine .d ?_ | refine .e ?_ | (simp <;> omega) | omega) hk2 (by intro x hx hh; simp [own, Value.ownBlock] at hx; first | (have := (hw1.le x hh).2; omega) | exact (hk1 []).out x (by simp; omega) (by simp [own, Value.ownBlock]; omega) (by rw [List.append_nil]; exact hh)); have eb0 := conv_at (W := w2) hw2 (coreB_bytes _ _ _) (coreB_ne _ _ _) hS2 (by repeat first | with_reducible exact .refl .. | with_reducible assumption | refine .s ?_ ?_ | refine .m ?_ ?_ | refine .l ?_ ?_ | refine .d ?_ | refine .e ?_ | (simp <;> omega) | omega); have eb1 := conv_at (W := w2.drew) hw2 (coreB_bytes _ _ _) (coreB_ne _ _ _) hS2 (by repeat first | with_reducible exact .refl .. | with_reducible assumption | refine .s ?_ ?_ | refine .m ?_ ?_ | refine .l ?_ ?_ | refine .d ?_ | refine .e ?_ | (simp <;> omega) | omega); have ec0 := conv_at (W := w2) hw1 (coreB_bytes _ _ _) (coreB_ne _ _ _) hS1 (by repeat first | with_reducible exact .refl .. | with_reducible assumption | refine .s ?_ ?_ | refine .m ?_ ?_ | refine .l ?_ ?_ | refine .d ?_ | refine .e ?_ | (simp <;> omega) | omega); have ec1 := conv_at (W := w2.drew) hw1 (coreB_bytes _ _ _) (coreB_ne _ _ _) hS1 (by repeat first | with_reducible exact .refl .. | with_reducible assumption | refine .s ?_ ?_ | refine .m ?_ ?_ | refine .l ?_ ?_ | refine .d ?_ | refine .e ?_ | (simp <;> omega) | omega)
      go_wp2_with fail
      have hOldS := hHeld
      clear hHeld
      refine hK.out _ _ (by (try dsimp only); ((repeat' apply And.intro) <;> first | (simp [*, go_sem, ↓IntWalk.iteOmega]; done))) (fun hHeld => ?_)
      clear hK K hOldS
      try simp only [Act.put, List.setIfInBounds_toArray, List.set_cons_zero, List.set_cons_succ]
      refine wpAnyH_ready (rs := [7]) (by kernel_rfl) (by simp) (AllReadyH.cons (o := { dst := _, op := _, type := _, pos := _, after := _, guard := _ }) rfl (fun K hK => ?_) AllReadyH.nil)
      go_simp
      have hOldS := hHeld
      clear hHeld
      refine hK.out _ _ (by (try dsimp only); ((repeat' apply And.intro) <;> first | (simp [*, go_sem, ↓IntWalk.iteOmega]; done))) (fun hHeld => ?_)
      clear hK K hOldS
      try simp only [Act.put, List.setIfInBounds_toArray, List.set_cons_zero, List.set_cons_succ]
      refine wpAnyH_ready (rs := [8]) (by kernel_rfl) (by simp) (AllReadyH.cons (o := { dst := _, op := _, type := _, pos := _, after := _, guard := _ }) rfl (fun K hK => ?_) AllReadyH.nil)
      go_simp
      have hOldS := hHeld
      clear hHeld
      refine hK.out _ _ (by (try dsimp only); ((repeat' apply And.intro) <;> first | (simp [*, go_sem, ↓IntWalk.iteOmega]; done))) (fun hHeld => ?_)
      clear hK K hOldS
      try simp only [Act.put, List.setIfInBounds_toArray, List.set_cons_zero, List.set_cons_succ]
      refine wpAnyH_ready (rs := [9]) (by kernel_rfl) (by simp) (AllReadyH.cons (o := { dst := _, op := _, type := _, pos := _, after := _, guard := _ }) rfl (fun K hK => ?_) AllReadyH.nil)
      go_simp
      have hOldS := hHeld
      clear hHeld
      refine hK.out _ _ (by (try dsimp only); ((repeat' apply And.intro) <;> first | (simp [*, go_sem, ↓IntWalk.iteOmega]; done))) (fun hHeld => ?_)
      clear hK K hOldS
      try simp only [Act.put, List.setIfInBounds_toArray, List.set_cons_zero, List.set_cons_succ]
      refine wpAnyH_done (by kernel_rfl) ?_ _
      clear hHeld
      go_wp2_with fail
      go_ret
      exact RetB.mk (by rw [hS1, hS2]; rfl) (hB1.trans ((show Below W1.heap.size W1 _ from (by repeat first | with_reducible exact .refl .. | with_reducible assumption | refine .s ?_ ?_ | refine .m ?_ ?_ | refine .l ?_ ?_ | refine .d ?_ | refine .e ?_ | (simp <;> omega) | omega)).mono (by omega)))
    · go_simp
      (first | (go_at_call_of 59 A3; refine (rcore_ok _ W1.heap.size (.slice (some ⟨_, 0, none⟩) 0 0) [] ex N' A3 n3 c3 A4 n4 c4 l3 l4 (EmpAt.own (by repeat (first | (with_reducible refine EmpAt.new _ ?_; first | (simp; done) | (simp; omega) | omega) | with_reducible refine EmpAt.drew ?_ | with_reducible refine EmpAt.drewN ?_ _ | with_reducible refine EmpAt.alloc ?_ _ | refine EmpAt.kr ?_ (hk1 []) (by simp [own, Value.ownBlock] <;> omega))) (by first | (simp; done) | (simp; omega) | omega)) (by first | (simp; done) | (simp; omega) | omega) (H3.out.mono ((Kr.of_below hB1 _).trans (Kr.fresh (l := own (.slice (some ⟨_, 0, none⟩) 0 0)) (by repeat first | with_reducible exact .refl .. | with_reducible assumption | refine .s ?_ ?_ | refine .m ?_ ?_ | refine .l ?_ ?_ | refine .d ?_ | refine .e ?_ | (simp <;> omega) | omega) (by simp [own, Value.ownBlock]; try omega)))) (H4.out.mono ((Kr.of_below hB1 _).trans (Kr.fresh (l := own (.slice (some ⟨_, 0, none⟩) 0 0)) (by repeat first | with_reducible exact .refl .. | with_reducible assumption | refine .s ?_ ?_ | refine .m ?_ ?_ | refine .l ?_ ?_ | refine .d ?_ | refine .e ?_ | (simp <;> omega) | omega) (by simp [own, Value.ownBlock]; try omega)))) G3.out G4.out hN' m3 m4 (by have := HL'.out; simpa using this)).mono ?_) | fail); rintro e w2 ⟨v2, rfl, hw2, hk2, hb2, hbs2⟩; rw [List.nil_append] at hw2; have hbW2 := (show Below W1.heap.size W1 _ from (by repeat first | with_reducible exact .refl .. | with_reducible assumption | refine .s ?_ ?_ | refine .m ?_ ?_ | refine .l ?_ ?_ | refine .d ?_ | refine .e ?_ | (simp <;> omega) | omega)).trans hb2; have fA2 := fun o => hbW2.at0 (b := w.heap.size) (by first | (simp; done) | (simp; omega) | omega) o; have fB2 := fun o => hbW2.at0 (b := w.heap.size + 1) (by first | (simp; done) | (simp; omega) | omega) o; have hw1 := OwnL.aside hw1 (by repeat first | with_reducible exact .refl .. | with_reducible assumption | refine .s ?_ ?_ | refine .m ?_ ?_ | refine .l ?_ ?_ | refine .d ?_ | refine .e ?_ | (simp <;> omega) | omega) hk2 (by intro x hx hh; simp [own, Value.ownBlock] at hx; first | (have := (hw1.le x hh).2; omega) | exact (hk1 []).out x (by simp; omega) (by simp [own, Value.ownBlock]; omega) (by rw [List.append_nil]; exact hh)); have eb0 := conv_at (W := w2) hw2 (coreB_bytes _ _ _) (coreB_ne _ _ _) hS2 (by repeat first | with_reducible exact .refl .. | with_reducible assumption | refine .s ?_ ?_ | refine .m ?_ ?_ | refine .l ?_ ?_ | refine .d ?_ | refine .e ?_ | (simp <;> omega) | omega); have eb1 := conv_at (W := w2.drew) hw2 (coreB_bytes _ _ _) (coreB_ne _ _ _) hS2 (by repeat first | with_reducible exact .refl .. | with_reducible assumption | refine .s ?_ ?_ | refine .m ?_ ?_ | refine .l ?_ ?_ | refine .d ?_ | refine .e ?_ | (simp <;> omega) | omega); have ec0 := conv_at (W := w2) hw1 (coreB_bytes _ _ _) (coreB_ne _ _ _) hS1 (by repeat first | with_reducible exact .refl .. | with_reducible assumption | refine .s ?_ ?_ | refine .m ?_ ?_ | refine .l ?_ ?_ | refine .d ?_ | refine .e ?_ | (simp <;> omega) | omega); have ec1 := conv_at (W := w2.drew) hw1 (coreB_bytes _ _ _) (coreB_ne _ _ _) hS1 (by repeat first | with_reducible exact .refl .. | with_reducible assumption | refine .s ?_ ?_ | refine .m ?_ ?_ | refine .l ?_ ?_ | refine .d ?_ | refine .e ?_ | (simp <;> omega) | omega)
      go_wp2_with fail
      have hOldS := hHeld
      clear hHeld
      refine hK.out _ _ (by (try dsimp only); ((repeat' apply And.intro) <;> first | (simp [*, go_sem, ↓IntWalk.iteOmega]; done))) (fun hHeld => ?_)
      clear hK K hOldS
      try simp only [Act.put, List.setIfInBounds_toArray, List.set_cons_zero, List.set_cons_succ]
      refine wpAnyH_ready (rs := [3, 7]) (by kernel_rfl) (by simp) (AllReadyH.cons (o := { dst := _, op := _, type := _, pos := _, after := _, guard := _ }) rfl (fun K hK => ?_) (AllReadyH.cons (o := { dst := _, op := _, type := _, pos := _, after := _, guard := _ }) rfl (fun K hK => ?_) AllReadyH.nil))
      · go_simp
        have hOldS := hHeld
        clear hHeld
        refine hK.out _ _ (by (try dsimp only); ((repeat' apply And.intro) <;> first | (simp [*, go_sem, ↓IntWalk.iteOmega]; done))) (fun hHeld => ?_)
        clear hK K hOldS
        try simp only [Act.put, List.setIfInBounds_toArray, List.set_cons_zero, List.set_cons_succ]
        refine wpAnyH_ready (rs := [7]) (by kernel_rfl) (by simp) (AllReadyH.cons (o := { dst := _, op := _, type := _, pos := _, after := _, guard := _ }) rfl (fun K hK => ?_) AllReadyH.nil)
        go_simp
        have hOldS := hHeld
        clear hHeld
        refine hK.out _ _ (by (try dsimp only); ((repeat' apply And.intro) <;> first | (simp [*, go_sem, ↓IntWalk.iteOmega]; done))) (fun hHeld => ?_)
        clear hK K hOldS
        try simp only [Act.put, List.setIfInBounds_toArray, List.set_cons_zero, List.set_cons_succ]
        refine wpAnyH_ready (rs := [8]) (by kernel_rfl) (by simp) (AllReadyH.cons (o := { dst := _, op := _, type := _, pos := _, after := _, guard := _ }) rfl (fun K hK => ?_) AllReadyH.nil)
        go_simp
        have hOldS := hHeld
        clear hHeld
        refine hK.out _ _ (by (try dsimp only); ((repeat' apply And.intro) <;> first | (simp [*, go_sem, ↓IntWalk.iteOmega]; done))) (fun hHeld => ?_)
        clear hK K hOldS
        try simp only [Act.put, List.setIfInBounds_toArray, List.set_cons_zero, List.set_cons_succ]
        refine wpAnyH_ready (rs := [9]) (by kernel_rfl) (by simp) (AllReadyH.cons (o := { dst := _, op := _, type := _, pos := _, after := _, guard := _ }) rfl (fun K hK => ?_) AllReadyH.nil)
        go_simp
        have hOldS := hHeld
        clear hHeld
        refine hK.out _ _ (by (try dsimp only); ((repeat' apply And.intro) <;> first | (simp [*, go_sem, ↓IntWalk.iteOmega]; done))) (fun hHeld => ?_)
        clear hK K hOldS
        try simp only [Act.put, List.setIfInBounds_toArray, List.set_cons_zero, List.set_cons_succ]
        refine wpAnyH_done (by kernel_rfl) ?_ _
        clear hHeld
        go_wp2_with fail
        go_ret
        exact RetB.mk (by rw [hS1, hS2]; rfl) (hB1.trans ((show Below W1.heap.size W1 _ from (by repeat first | with_reducible exact .refl .. | with_reducible assumption | refine .s ?_ ?_ | refine .m ?_ ?_ | refine .l ?_ ?_ | refine .d ?_ | refine .e ?_ | (simp <;> omega) | omega)).mono (by omega)))
      · go_simp
        have hOldS := hHeld
        clear hHeld
        refine hK.out _ _ (by (try dsimp only); ((repeat' apply And.intro) <;> first | (simp [*, go_sem, ↓IntWalk.iteOmega]; done))) (fun hHeld => ?_)
        clear hK K hOldS
        try simp only [Act.put, List.setIfInBounds_toArray, List.set_cons_zero, List.set_cons_succ]
        refine wpAnyH_ready (rs := [3]) (by kernel_rfl) (by simp) (AllReadyH.cons (o := { dst := _, op := _, type := _, pos := _, after := _, guard := _ }) rfl (fun K hK => ?_) AllReadyH.nil)
        go_simp
        have hOldS := hHeld
        clear hHeld
        refine hK.out _ _ (by (try dsimp only); ((repeat' apply And.intro) <;> first | (simp [*, go_sem, ↓IntWalk.iteOmega]; done))) (fun hHeld => ?_)
        clear hK K hOldS
        try simp only [Act.put, List.setIfInBounds_toArray, List.set_cons_zero, List.set_cons_succ]
        refine wpAnyH_ready (rs := [8]) (by kernel_rfl) (by simp) (AllReadyH.cons (o := { dst := _, op := _, type := _, pos := _, after := _, guard := _ }) rfl (fun K hK => ?_) AllReadyH.nil)
        go_simp
        have hOldS := hHeld
        clear hHeld
        refine hK.out _ _ (by (try dsimp only); ((repeat' apply And.intro) <;> first | (simp [*, go_sem, ↓IntWalk.iteOmega]; done))) (fun hHeld => ?_)
        clear hK K hOldS
        try simp only [Act.put, List.setIfInBounds_toArray, List.set_cons_zero, List.set_cons_succ]
        refine wpAnyH_ready (rs := [9]) (by kernel_rfl) (by simp) (AllReadyH.cons (o := { dst := _, op := _, type := _, pos := _, after := _, guard := _ }) rfl (fun K hK => ?_) AllReadyH.nil)
        go_simp
        have hOldS := hHeld
        clear hHeld
        refine hK.out _ _ (by (try dsimp only); ((repeat' apply And.intro) <;> first | (simp [*, go_sem, ↓IntWalk.iteOmega]; done))) (fun hHeld => ?_)
        clear hK K hOldS
        try simp only [Act.put, List.setIfInBounds_toArray, List.set_cons_zero, List.set_cons_succ]
        refine wpAnyH_done (by kernel_rfl) ?_ _
        clear hHeld
        go_wp2_with fail
        go_ret
        exact RetB.mk (by rw [hS1, hS2]; rfl) (hB1.trans ((show Below W1.heap.size W1 _ from (by repeat first | with_reducible exact .refl .. | with_reducible assumption | refine .s ?_ ?_ | refine .m ?_ ?_ | refine .l ?_ ?_ | refine .d ?_ | refine .e ?_ | (simp <;> omega) | omega)).mono (by omega)))

end Go.Proofs.YthhdleppkggepaaGreat
