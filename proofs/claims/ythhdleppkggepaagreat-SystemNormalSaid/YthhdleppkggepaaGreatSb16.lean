/-
  The walk of monomial.Mul.
-/
import Derived.Test.YthhdleppkggepaaGreatSb06
import Derived.Test.YthhdleppkggepaaGreatSb12
import Derived.Test.YthhdleppkggepaaGreatSb15

set_option linter.unusedSimpArgs false
set_option linter.unusedVariables false
set_option linter.unusedSectionVars false

namespace Go.Proofs.YthhdleppkggepaaGreat
open Go.RowKit Go.Deep
set_option maxRecDepth 100000

theorem plus_ok (w : World) (x y : Int) (h : IntKind.i64.wrap (x + y) = x + y) : Calls Tryz.prog 203 #[.int .i64 x, .int .i64 y] w fun e w' => e = .returned (.int .i64 (x + y)) ∧ w' = w := by
  go_enter Tryz.func203, Tryz.ntmps203
  go_wp2_with fail
  go_ret
  exact ⟨by simp [*], rfl⟩

set_option maxHeartbeats 2000000 in
theorem each_ok (w : World) (e0 e1 e2 e3 e4 e5 e6 e7 f0 f1 f2 f3 f4 f5 f6 f7 : Int) (he : Exps [e0, e1, e2, e3, e4, e5, e6, e7]) (hf : Exps [f0, f1, f2, f3, f4, f5, f6, f7]) :
    Calls Tryz.prog 202 #[.agg #[.int .i64 e0, .int .i64 e1, .int .i64 e2, .int .i64 e3, .int .i64 e4, .int .i64 e5, .int .i64 e6, .int .i64 e7], .agg #[.int .i64 f0, .int .i64 f1, .int .i64 f2, .int .i64 f3, .int .i64 f4, .int .i64 f5, .int .i64 f6, .int .i64 f7], .func (Fn.func 203) #[] #[]] w (RetV w (.agg #[.int .i64 (e0 + f0), .int .i64 (e1 + f1), .int .i64 (e2 + f2), .int .i64 (e3 + f3), .int .i64 (e4 + f4), .int .i64 (e5 + f5), .int .i64 (e6 + f6), .int .i64 (e7 + f7)])) := by
  have HE := Lib.hid he
  have HF := Lib.hid hf
  clear he hf
  go_enter Tryz.func202, Tryz.ntmps202
  go_wp2_with fail
  go_loopw [8] (fun i wr => ∃ (k : Nat) (os : List Int), k ≤ 8 ∧ i = .int .i64 k ∧ os.length = 8 ∧ Hid (∀ j, os.getD j 0 = if j < k then [e0, e1, e2, e3, e4, e5, e6, e7].getD j 0 + [f0, f1, f2, f3, f4, f5, f6, f7].getD j 0 else [e0, e1, e2, e3, e4, e5, e6, e7].getD j 0) ∧
      IBuf 68 wr w.heap.size os ∧ IBuf 68 wr (w.heap.size + 1) [f0, f1, f2, f3, f4, f5, f6, f7] ∧ IBuf 68 wr (w.heap.size + 2) [0, 0, 0, 0, 0, 0, 0, 0] ∧ Below w.heap.size w wr) (fun i _ => 8 - (intOf i).toNat)
  case atStart =>
    refine ⟨0, [e0, e1, e2, e3, e4, e5, e6, e7], Nat.zero_le _, rfl, rfl, fun j => by rw [if_neg (by omega)], ?_, ?_, ?_, (by repeat first | with_reducible exact .refl .. | with_reducible assumption | refine .s ?_ ?_ | refine .m ?_ ?_ | refine .l ?_ ?_ | refine .d ?_ | refine .e ?_ | (simp <;> omega) | omega)⟩
    · unfold IBuf; rw [Below.heap_alloc _ _ _ (by simp; omega), Below.heap_alloc _ _ _ (by simp), heap_alloc_new]; rfl
    · unfold IBuf; rw [Below.heap_alloc _ _ _ (by simp)]; have hh := heap_alloc_new (w.alloc (.cells #[.int .i64 e0, .int .i64 e1, .int .i64 e2, .int .i64 e3, .int .i64 e4, .int .i64 e5, .int .i64 e6, .int .i64 e7] 68)) (.cells #[.int .i64 f0, .int .i64 f1, .int .i64 f2, .int .i64 f3, .int .i64 f4, .int .i64 f5, .int .i64 f6, .int .i64 f7] 68); rw [World.size_alloc] at hh; exact hh
    · unfold IBuf; have hh := heap_alloc_new ((w.alloc (.cells #[.int .i64 e0, .int .i64 e1, .int .i64 e2, .int .i64 e3, .int .i64 e4, .int .i64 e5, .int .i64 e6, .int .i64 e7] 68)).alloc (.cells #[.int .i64 f0, .int .i64 f1, .int .i64 f2, .int .i64 f3, .int .i64 f4, .int .i64 f5, .int .i64 f6, .int .i64 f7] 68)) (.cells #[.int .i64 0, .int .i64 0, .int .i64 0, .int .i64 0, .int .i64 0, .int .i64 0, .int .i64 0, .int .i64 0] 68); rw [World.size_alloc, World.size_alloc] at hh; exact hh
  case round =>
    obtain ⟨k, os, hk, rfl, hlen, HO, hb0, hb1, hb2, hbel⟩ := hrel
    by_cases hlt : k < 8
    · have hc1 := hb0.cell (i := k) (by omega)
      have hc2 := hb1.cell (i := k) hlt
      have hfz := hb0.frozen k
      have hke := HO.out k
      rw [if_neg (by omega)] at hke
      have hbe := HE.out k
      have hbf := HF.out k
      obtain ⟨x, hx⟩ : ∃ x : Int, [e0, e1, e2, e3, e4, e5, e6, e7].getD k 0 = x := ⟨_, rfl⟩
      obtain ⟨y, hy⟩ : ∃ y : Int, [f0, f1, f2, f3, f4, f5, f6, f7].getD k 0 = y := ⟨_, rfl⟩
      rw [hke, hx] at hc1
      rw [hy] at hc2 hbf
      rw [hx] at hbe
      obtain ⟨p1, p2⟩ := hbe
      obtain ⟨p3, p4⟩ := hbf
      have HX := Lib.hid (And.intro hx hy); clear hx hy hke
      go_wp2_with fail
      have hwr : IntKind.i64.wrap (x + y) = x + y := by simp [IntKind.wrap, IntKind.bits, IntKind.signed]; omega
      go_region_with (go_at_call 203; refine (plus_ok _ _ _ hwr).mono ?_; rintro e w' ⟨rfl, rfl⟩)
      all_goals
        go_wp2_with fail
        go_roundw
        case rel =>
          refine ⟨k + 1, os.set k (x + y), by omega, by go_num, by simpa using hlen, ?_, (hb0.drew.set k (x + y)), hb1.drew.far (by simp) _, hb2.drew.far (by simp) _, hbel.drew.setCell (Nat.le_refl _) _⟩
          intro j
          have h2 := HO.out j
          by_cases hj : j = k
          · subst hj
            rw [if_pos (by omega), HX.out.1, HX.out.2]
            rw [List.getD_eq_getElem?_getD, List.getElem?_set_self (by omega)]; rfl
          · rw [List.getD_eq_getElem?_getD, List.getElem?_set_ne (by omega), ← List.getD_eq_getElem?_getD, h2]
            by_cases hj2 : j < k
            · rw [if_pos hj2, if_pos (by omega)]
            · rw [if_neg hj2, if_neg (by omega)]
        case measure => simp [intOf]; omega
    · obtain rfl : k = 8 := by omega
      clear hb1
      have o0 := hb0.cell (i := 0) (by omega); rw [HO.out 0, if_pos (by decide)] at o0; simp only [List.getD_cons_zero, List.getD_cons_succ] at o0
      have o1 := hb0.cell (i := 1) (by omega); rw [HO.out 1, if_pos (by decide)] at o1; simp only [List.getD_cons_zero, List.getD_cons_succ] at o1
      have o2 := hb0.cell (i := 2) (by omega); rw [HO.out 2, if_pos (by decide)] at o2; simp only [List.getD_cons_zero, List.getD_cons_succ] at o2
      have o3 := hb0.cell (i := 3) (by omega); rw [HO.out 3, if_pos (by decide)] at o3; simp only [List.getD_cons_zero, List.getD_cons_succ] at o3
      have o4 := hb0.cell (i := 4) (by omega); rw [HO.out 4, if_pos (by decide)] at o4; simp only [List.getD_cons_zero, List.getD_cons_succ] at o4
      have o5 := hb0.cell (i := 5) (by omega); rw [HO.out 5, if_pos (by decide)] at o5; simp only [List.getD_cons_zero, List.getD_cons_succ] at o5
      have o6 := hb0.cell (i := 6) (by omega); rw [HO.out 6, if_pos (by decide)] at o6; simp only [List.getD_cons_zero, List.getD_cons_succ] at o6
      have o7 := hb0.cell (i := 7) (by omega); rw [HO.out 7, if_pos (by decide)] at o7; simp only [List.getD_cons_zero, List.getD_cons_succ] at o7
      have z0 : wr.cell? ⟨w.heap.size + 2, 0, none⟩ = some (.int .i64 0) := hb2.cell (i := 0) (by decide)
      have y0 := hb2.frozen 0
      have z1 : wr.cell? ⟨w.heap.size + 2, 1, none⟩ = some (.int .i64 0) := hb2.cell (i := 1) (by decide)
      have y1 := hb2.frozen 1
      have z2 : wr.cell? ⟨w.heap.size + 2, 2, none⟩ = some (.int .i64 0) := hb2.cell (i := 2) (by decide)
      have y2 := hb2.frozen 2
      have z3 : wr.cell? ⟨w.heap.size + 2, 3, none⟩ = some (.int .i64 0) := hb2.cell (i := 3) (by decide)
      have y3 := hb2.frozen 3
      have z4 : wr.cell? ⟨w.heap.size + 2, 4, none⟩ = some (.int .i64 0) := hb2.cell (i := 4) (by decide)
      have y4 := hb2.frozen 4
      have z5 : wr.cell? ⟨w.heap.size + 2, 5, none⟩ = some (.int .i64 0) := hb2.cell (i := 5) (by decide)
      have y5 := hb2.frozen 5
      have z6 : wr.cell? ⟨w.heap.size + 2, 6, none⟩ = some (.int .i64 0) := hb2.cell (i := 6) (by decide)
      have y6 := hb2.frozen 6
      have z7 : wr.cell? ⟨w.heap.size + 2, 7, none⟩ = some (.int .i64 0) := hb2.cell (i := 7) (by decide)
      have y7 := hb2.frozen 7
      clear hb0 hb2
      have hsz := hbel.size
      have HL := Lib.hid hlen; clear hlen
      go_wp2_with fail
      refine bodyPost_ret (v := .agg #[.int .i64 (e0 + f0), .int .i64 (e1 + f1), .int .i64 (e2 + f2), .int .i64 (e3 + f3), .int .i64 (e4 + f4), .int .i64 (e5 + f5), .int .i64 (e6 + f6), .int .i64 (e7 + f7)]) (by simp [results, Tryz.results202, *, go_sem, ↓IntWalk.iteOmega]) rfl (RetV.mk rfl (by repeat first | with_reducible exact .refl .. | with_reducible assumption | refine .s ?_ ?_ | refine .m ?_ ?_ | refine .l ?_ ?_ | refine .d ?_ | refine .e ?_ | (simp <;> omega) | omega))

set_option maxHeartbeats 2000000 in
theorem mmul_ok (w : World) (e0 e1 e2 e3 e4 e5 e6 e7 f0 f1 f2 f3 f4 f5 f6 f7 : Int) (he : Exps [e0, e1, e2, e3, e4, e5, e6, e7]) (hf : Exps [f0, f1, f2, f3, f4, f5, f6, f7]) (hp : Exps [e0 + f0, e1 + f1, e2 + f2, e3 + f3, e4 + f4, e5 + f5, e6 + f6, e7 + f7]) :
    Calls Tryz.prog 167 #[.agg #[.int .i64 e0, .int .i64 e1, .int .i64 e2, .int .i64 e3, .int .i64 e4, .int .i64 e5, .int .i64 e6, .int .i64 e7], .agg #[.int .i64 f0, .int .i64 f1, .int .i64 f2, .int .i64 f3, .int .i64 f4, .int .i64 f5, .int .i64 f6, .int .i64 f7]] w (RetV w (.tuple #[.agg #[.int .i64 (e0 + f0), .int .i64 (e1 + f1), .int .i64 (e2 + f2), .int .i64 (e3 + f3), .int .i64 (e4 + f4), .int .i64 (e5 + f5), .int .i64 (e6 + f6), .int .i64 (e7 + f7)], .int .i64 0])) := by
  go_enter Tryz.func167, Tryz.ntmps167
  go_wp2_with fail
  refine (each_ok _ e0 e1 e2 e3 e4 e5 e6 e7 f0 f1 f2 f3 f4 f5 f6 f7 he hf).mono ?_; rintro e w1 ⟨X, D, rfl, rfl⟩
  have HE := Lib.hid he
  have HF := Lib.hid hf
  clear he hf
  go_wp2_with fail
  refine (mvalid_ok _ _ _ _ _ _ _ _ _ hp).mono ?_; rintro e w1 ⟨X2, D2, rfl, rfl⟩
  go_wp2_with fail
  refine bodyPost_ret (v := .tuple #[.agg #[.int .i64 (e0 + f0), .int .i64 (e1 + f1), .int .i64 (e2 + f2), .int .i64 (e3 + f3), .int .i64 (e4 + f4), .int .i64 (e5 + f5), .int .i64 (e6 + f6), .int .i64 (e7 + f7)], .int .i64 0]) (by simp [results, Tryz.results167, go_sem, ↓IntWalk.iteOmega]) rfl (RetV.mk rfl (by repeat first | with_reducible exact .refl .. | with_reducible assumption | refine .s ?_ ?_ | refine .m ?_ ?_ | refine .l ?_ ?_ | refine .d ?_ | refine .e ?_ | (simp <;> omega) | omega))

end Go.Proofs.YthhdleppkggepaaGreat

/-
  The walk of package polynomial: multiples.
-/
namespace Go.Proofs.YthhdleppkggepaaGreat
open Go.RowKit Go.Deep
set_option maxRecDepth 100000

/-- A block of cells that the call itself has made. -/
def CBuf (t : TypeId) (w : World) (g : Nat) (cs : List Value) : Prop := w.heap[g]? = some (.cells cs.toArray t (0, 0))
section
variable {t : TypeId} {w w' : World} {g : Nat} {cs : List Value}
theorem CBuf.cell (h : CBuf t w g cs) {i : Nat} (hi : i < cs.length) : w.cell? ⟨g, i, none⟩ = some cs[i] := by
  rw [cell_of_row w g i _ t (0, 0) h]; simp [hi]
theorem CBuf.isSome (h : CBuf t w g cs) {i : Nat} (hi : i < cs.length) : w.cell? ⟨g, i, none⟩ = some (World.got w g i) := got_of (by rw [h.cell hi]; rfl)
theorem CBuf.frozen (h : CBuf t w g cs) (i : Nat) : w.frozen? ⟨g, i, none⟩ = false := frozen_of_row w g i _ t h
theorem CBuf.set (h : CBuf t w g cs) (i : Nat) (v : Value) : CBuf t (w.setCell ⟨g, i, none⟩ v) g (cs.set i v) := by
  unfold CBuf at h ⊢
  simp [World.setCell, Array.getElem?_modify, h]
theorem CBuf.lt (h : CBuf t w g cs) : g < w.heap.size := by
  rcases Nat.lt_or_ge g w.heap.size with hlt | hge
  · exact hlt
  · unfold CBuf at h; rw [Array.getElem?_eq_none hge] at h; cases h
theorem CBuf.below (h : CBuf t w g cs) (hb : Below w.heap.size w w') : CBuf t w' g cs := (hb.block g h.lt).trans h
theorem CBuf.new (w : World) (t : TypeId) (cs : Array Value) : CBuf t (w.alloc (.cells cs t)) w.heap.size cs.toList := by
  unfold CBuf; rw [heap_alloc_new]
theorem CBuf.row (h : CBuf t w g cs) {ex : List Nat} (hg : g ∉ ex) : Row w ex (some ⟨g, 0, none⟩) cs := fun _ => ⟨g, 0, rfl, hg, fun i u hu => by
  rw [Nat.zero_add, cell_of_row w g i _ t (0, 0) h]; simpa using hu⟩
end
theorem take_set12 (cs : List Value) (o : Nat) (v0 v1 v2 v3 v4 v5 v6 v7 v8 v9 v10 v11 : Value) (h : o + 12 ≤ cs.length) :
    (((((((((((((cs.set o v0).set (o + 1) v1).set (o + 2) v2).set (o + 3) v3).set (o + 4) v4).set (o + 5) v5).set (o + 6) v6).set (o + 7) v7).set (o + 8) v8).set (o + 9) v9).set (o + 10) v10).set (o + 11) v11).take (o + 12)) =
      cs.take o ++ [v0, v1, v2, v3, v4, v5, v6, v7, v8, v9, v10, v11] := by
  have e1 : ∀ (l : List Value) (j : Nat) (x : Value), j < l.length → (l.set j x).take (j + 1) = l.take j ++ [x] := fun l j x hj => take_set_self l j x hj
  rw [show o + 12 = o + 11 + 1 from rfl, e1 _ (o + 11) _ (by simp; omega)]
  rw [show o + 11 = o + 10 + 1 from rfl, e1 _ (o + 10) _ (by simp; omega)]
  rw [show o + 10 = o + 9 + 1 from rfl, e1 _ (o + 9) _ (by simp; omega)]
  rw [show o + 9 = o + 8 + 1 from rfl, e1 _ (o + 8) _ (by simp; omega)]
  rw [show o + 8 = o + 7 + 1 from rfl, e1 _ (o + 7) _ (by simp; omega)]
  rw [show o + 7 = o + 6 + 1 from rfl, e1 _ (o + 6) _ (by simp; omega)]
  rw [show o + 6 = o + 5 + 1 from rfl, e1 _ (o + 5) _ (by simp; omega)]
  rw [show o + 5 = o + 4 + 1 from rfl, e1 _ (o + 4) _ (by simp; omega)]
  rw [show o + 4 = o + 3 + 1 from rfl, e1 _ (o + 3) _ (by simp; omega)]
  rw [show o + 3 = o + 2 + 1 from rfl, e1 _ (o + 2) _ (by simp; omega)]
  rw [show o + 2 = o + 1 + 1 from rfl, e1 _ (o + 1) _ (by simp; omega)]
  rw [e1 _ o _ (by omega)]
  simp

theorem makeTerms (k : Int) (n : Nat) (hk : k = (n : Int)) (hn : n ≤ 1000000000) (w : World) :
    (Instr.makeSlice 65 (.int .i64 k) (.int .i64 k)).run Tryz.prog w = .ok (.slice (some ⟨w.heap.size, 0, none⟩) n n) (w.alloc (.cells (madeCells #[.bool false, .slice none 0 0, .bool false, .slice none 0 0, .int .i64 0, .int .i64 0, .int .i64 0, .int .i64 0, .int .i64 0, .int .i64 0, .int .i64 0, .int .i64 0] (n * 12)) 118)) := by
  subst hk
  obtain ⟨i, h1, h2, h3, h4⟩ := info_parts infoTerm
  have := run_make (P := Tryz.prog) w 65 118 i _ Tryz.underlying65 h1 h2 .i64 .i64 (n : Int) (n : Int) (by omega) (by omega) (by rw [h4]; omega) (by omega)
  rw [Int.toNat_natCast, h3] at this
  exact this

set_option maxHeartbeats 8000000 in
theorem ptimes_ok (w : World) (ex : List Nat) (s3 : Bool) (A3 : Option Addr) (n3 c3 : Nat) (s4 : Bool) (A4 : Option Addr) (n4 c4 : Nat) (q : Rat) (m0 m1 m2 m3 m4 m5 m6 m7 : Int) (A : Option Addr) (n c : Nat) (p : List (Rat × List Int)) (hcq : RQ w ex s3 A3 n3 c3 s4 A4 n4 c4 q) (hx : RP w ex A n c p) (hm : Exps [m0, m1, m2, m3, m4, m5, m6, m7]) (hp : PExps p) (hok : MulOk [m0, m1, m2, m3, m4, m5, m6, m7] p)
    (hq0 : Few q) (hty : ∀ t ∈ p, Few t.1 ∧ Wee (q.den * t.1.den)) (hn : n ≤ 1000000000) (hex : ∀ b ∈ ex, b < w.heap.size) :
    Calls Tryz.prog 127 #[.agg #[.bool s3, .slice A3 n3 c3, .bool s4, .slice A4 n4 c4], .agg #[.int .i64 m0, .int .i64 m1, .int .i64 m2, .int .i64 m3, .int .i64 m4, .int .i64 m5, .int .i64 m6, .int .i64 m7], .slice A n c] w (RetPE w ex (timesP q [m0, m1, m2, m3, m4, m5, m6, m7] p) 0) := by
  have HL := Lib.hid hx.len
  have hcap := hx.cap
  have HP := Lib.hid hp
  have HT := Lib.hid hty
  have HO := Lib.hid hok
  have HM := Lib.hid hm
  clear hp hty hok hm
  by_cases h0 : q = 0
  · have hs := sign_eq_zero h0
    have HC : Hid (timesP q [m0, m1, m2, m3, m4, m5, m6, m7] p = []) := if_pos h0
    clear h0
    go_enter Tryz.func127, Tryz.ntmps127
    go_wp2_with fail
    refine (ratsign_ok _ ex _ _ _ _ _ _ _ _ _ (hcq.mono (Kr.of_below (by repeat first | with_reducible exact .refl .. | with_reducible assumption | refine .s ?_ ?_ | refine .m ?_ ?_ | refine .l ?_ ?_ | refine .d ?_ | refine .e ?_ | (simp <;> omega) | omega) ex))).mono ?_; rintro e w1 ⟨X, D, rfl, rfl⟩
    go_wp2_with fail
    refine bodyPost_ret (v := .tuple #[.slice none 0 0, .int .i64 0]) (by simp [results, Tryz.results127, go_sem, ↓IntWalk.iteOmega]) rfl ?_
    rw [HC.out]
    exact RetPE.mk rfl (by repeat first | with_reducible exact .refl .. | with_reducible assumption | refine .s ?_ ?_ | refine .m ?_ ?_ | refine .l ?_ ?_ | refine .d ?_ | refine .e ?_ | (simp <;> omega) | omega) (RP.nil _ _ _ _)
  · have hs := sign_ne_zero h0
    have H0 := Lib.hid h0
    have hmk := makeTerms (n : Int) n rfl hn
    clear h0
    go_enter Tryz.func127, Tryz.ntmps127
    go_wp2_with fail
    refine (ratsign_ok _ ex _ _ _ _ _ _ _ _ _ (hcq.mono (Kr.of_below (by repeat first | with_reducible exact .refl .. | with_reducible assumption | refine .s ?_ ?_ | refine .m ?_ ?_ | refine .l ?_ ?_ | refine .d ?_ | refine .e ?_ | (simp <;> omega) | omega) ex))).mono ?_; rintro e w1 ⟨X, D, rfl, rfl⟩
    go_wp2_with fail
    clear hmk
    obtain ⟨g, hg⟩ : ∃ g, g = w.heap.size + 1 + 1 + X.size := ⟨_, rfl⟩
    obtain ⟨cs0, hcs0⟩ : ∃ cs : Array Value, cs = madeCells #[.bool false, .slice none 0 0, .bool false, .slice none 0 0, .int .i64 0, .int .i64 0, .int .i64 0, .int .i64 0, .int .i64 0, .int .i64 0, .int .i64 0, .int .i64 0] (n * 12) := ⟨_, rfl⟩
    have hlen0 : cs0.toList.length = n * 12 := by rw [hcs0, Array.length_toList, size_madeCells]
    rw [← hcs0, ← hg]
    obtain ⟨W0, hW0⟩ : ∃ W0, W0 = ((((w.alloc (.cells #[.bool s3, .slice A3 n3 c3, .bool s4, .slice A4 n4 c4] 59)).alloc (.cells #[.int .i64 m0, .int .i64 m1, .int .i64 m2, .int .i64 m3, .int .i64 m4, .int .i64 m5, .int .i64 m6, .int .i64 m7] 68)).more X D).alloc (.cells cs0 118)) := ⟨_, rfl⟩
    have hsz0 : W0.heap.size = g + 1 := by rw [hW0]; simp; omega
    have hbel0 : Below w.heap.size w W0 := by rw [hW0]; exact (by repeat first | with_reducible exact .refl .. | with_reducible assumption | refine .s ?_ ?_ | refine .m ?_ ?_ | refine .l ?_ ?_ | refine .d ?_ | refine .e ?_ | (simp <;> omega) | omega)
    have hbuf0 : CBuf 118 W0 g cs0.toList := by
      rw [hW0]
      have := CBuf.new (((w.alloc (.cells #[.bool s3, .slice A3 n3 c3, .bool s4, .slice A4 n4 c4] 59)).alloc (.cells #[.int .i64 m0, .int .i64 m1, .int .i64 m2, .int .i64 m3, .int .i64 m4, .int .i64 m5, .int .i64 m6, .int .i64 m7] 68)).more X D) 118 cs0
      rw [World.size_more, World.size_alloc, World.size_alloc, ← hg] at this
      exact this
    have b0 : W0.cell? ⟨w.heap.size, 0, none⟩ = some (.bool s3) := by rw [hW0]; simp [go_sem, ↓IntWalk.iteOmega]
    have b1 : W0.cell? ⟨w.heap.size, 1, none⟩ = some (.slice A3 n3 c3) := by rw [hW0]; simp [go_sem, ↓IntWalk.iteOmega]
    have b2 : W0.cell? ⟨w.heap.size, 2, none⟩ = some (.bool s4) := by rw [hW0]; simp [go_sem, ↓IntWalk.iteOmega]
    have b3 : W0.cell? ⟨w.heap.size, 3, none⟩ = some (.slice A4 n4 c4) := by rw [hW0]; simp [go_sem, ↓IntWalk.iteOmega]
    have x0 : W0.cell? ⟨w.heap.size + 1, 0, none⟩ = some (.int .i64 m0) := by rw [hW0]; simp [go_sem, ↓IntWalk.iteOmega]
    have x1 : W0.cell? ⟨w.heap.size + 1, 1, none⟩ = some (.int .i64 m1) := by rw [hW0]; simp [go_sem, ↓IntWalk.iteOmega]
    have x2 : W0.cell? ⟨w.heap.size + 1, 2, none⟩ = some (.int .i64 m2) := by rw [hW0]; simp [go_sem, ↓IntWalk.iteOmega]
    have x3 : W0.cell? ⟨w.heap.size + 1, 3, none⟩ = some (.int .i64 m3) := by rw [hW0]; simp [go_sem, ↓IntWalk.iteOmega]
    have x4 : W0.cell? ⟨w.heap.size + 1, 4, none⟩ = some (.int .i64 m4) := by rw [hW0]; simp [go_sem, ↓IntWalk.iteOmega]
    have x5 : W0.cell? ⟨w.heap.size + 1, 5, none⟩ = some (.int .i64 m5) := by rw [hW0]; simp [go_sem, ↓IntWalk.iteOmega]
    have x6 : W0.cell? ⟨w.heap.size + 1, 6, none⟩ = some (.int .i64 m6) := by rw [hW0]; simp [go_sem, ↓IntWalk.iteOmega]
    have x7 : W0.cell? ⟨w.heap.size + 1, 7, none⟩ = some (.int .i64 m7) := by rw [hW0]; simp [go_sem, ↓IntWalk.iteOmega]
    rw [← hW0]
    have hgw : w.heap.size + 2 ≤ g := by omega
    clear hW0 hcs0 hg
    go_loopw [9, 21] (fun _ i wr => ∃ (k : Nat) (cs : List Value), k ≤ n ∧ i = .int .i64 k ∧ CBuf 118 wr g cs ∧ cs.length = n * 12 ∧ Elts tmE wr ([g] ++ ex) ((timesP q [m0, m1, m2, m3, m4, m5, m6, m7] p).take k) (cs.take (k * 12)) ∧ Below g W0 wr) (fun _ i _ => n - (intOf i).toNat)
    case atStart => exact ⟨0, _, Nat.zero_le _, rfl, hbuf0, hlen0, by simp [Elts], Below.refl _ _⟩
    case round =>
      obtain ⟨k, cs, hk, rfl, hbuf, hlen, hel, hb⟩ := hrel
      have hbw : Below w.heap.size w wr := hbel0.trans (hb.mono (by omega))
      have hsz := hb.size
      have HLN := Lib.hid hlen
      by_cases hlt : k < n
      · have hkr := Kr.fresh (ex := ex) (l := [g]) hbw (by simp; omega)
        have hxw := hx.mono hkr
        have hqw := hcq.mono hkr
        clear hkr
        obtain ⟨b, o, rfl, hbx, hbl, ht⟩ := hxw.at_ (by omega)
        have hkp : k < p.length := by have := HL.out; omega
        obtain ⟨s1, A1, n1, c1, s2, A2, n2, c2, e0, e1, e2, e3, e4, e5, e6, e7, h0, h1, h2, h3, h4, h5, h6, h7, h8, h9, h10, h11, hq, hm⟩ := ht k hkp
        have hT := HT.out _ (List.getElem_mem hkp)
        have hE : Exps [e0, e1, e2, e3, e4, e5, e6, e7] := by rw [← hm]; exact HP.out _ (List.getElem_mem hkp)
        have hS : Exps [m0 + e0, m1 + e1, m2 + e2, m3 + e3, m4 + e4, m5 + e5, m6 + e6, m7 + e7] := by have := HO.out _ (List.getElem_mem hkp); rw [hm] at this; exact this
        have HN : Hid ((timesP q [m0, m1, m2, m3, m4, m5, m6, m7] p).take (k + 1) = ((timesP q [m0, m1, m2, m3, m4, m5, m6, m7] p).take k) ++ [(q * p[k].1, [m0 + e0, m1 + e1, m2 + e2, m3 + e3, m4 + e4, m5 + e5, m6 + e6, m7 + e7])]) := by
          have := timesP_take (m := [m0, m1, m2, m3, m4, m5, m6, m7]) H0.out hkp; rw [hm] at this; exact this
        clear hm ht
        have y0 := (Below.at0 hb (show w.heap.size < g by omega) 0).trans b0
        have y1 := (Below.at0 hb (show w.heap.size < g by omega) 1).trans b1
        have y2 := (Below.at0 hb (show w.heap.size < g by omega) 2).trans b2
        have y3 := (Below.at0 hb (show w.heap.size < g by omega) 3).trans b3
        have z0 := (Below.at0 hb (show w.heap.size + 1 < g by omega) 0).trans x0
        have z1 := (Below.at0 hb (show w.heap.size + 1 < g by omega) 1).trans x1
        have z2 := (Below.at0 hb (show w.heap.size + 1 < g by omega) 2).trans x2
        have z3 := (Below.at0 hb (show w.heap.size + 1 < g by omega) 3).trans x3
        have z4 := (Below.at0 hb (show w.heap.size + 1 < g by omega) 4).trans x4
        have z5 := (Below.at0 hb (show w.heap.size + 1 < g by omega) 5).trans x5
        have z6 := (Below.at0 hb (show w.heap.size + 1 < g by omega) 6).trans x6
        have z7 := (Below.at0 hb (show w.heap.size + 1 < g by omega) 7).trans x7
        clear b0 b1 b2 b3 x0 x1 x2 x3 x4 x5 x6 x7
        have hi1 : (k : Int) < (n : Int) := by omega
        have hko : k * 12 + 12 ≤ cs.length := by omega
        clear hlen
        obtain ⟨qq, hqq⟩ : ∃ x, p[k].1 = x := ⟨_, rfl⟩
        have HQ := Lib.hid hqq
        rw [hqq] at hq hT
        clear hqq
        go_wp2_with fail
        refine (mmul_ok _ m0 m1 m2 m3 m4 m5 m6 m7 e0 e1 e2 e3 e4 e5 e6 e7 HM.out hE hS).mono ?_; rintro e w' ⟨X1, D1, rfl, rfl⟩
        go_wp2_with fail
        refine wp_abs (fun W1 => Below wr.heap.size wr W1 ∧ wr.heap.size + 1 + X1.size < W1.heap.size ∧ W1.cell? ⟨wr.heap.size, 0, none⟩ = some (.bool s1) ∧ W1.cell? ⟨wr.heap.size, 1, none⟩ = some (.slice A1 n1 c1) ∧ W1.cell? ⟨wr.heap.size, 2, none⟩ = some (.bool s2) ∧ W1.cell? ⟨wr.heap.size, 3, none⟩ = some (.slice A2 n2 c2) ∧
            W1.cell? ⟨wr.heap.size + 1 + X1.size, 0, none⟩ = some (.int .i64 (m0 + e0)) ∧ W1.cell? ⟨wr.heap.size + 1 + X1.size, 1, none⟩ = some (.int .i64 (m1 + e1)) ∧ W1.cell? ⟨wr.heap.size + 1 + X1.size, 2, none⟩ = some (.int .i64 (m2 + e2)) ∧ W1.cell? ⟨wr.heap.size + 1 + X1.size, 3, none⟩ = some (.int .i64 (m3 + e3)) ∧ W1.cell? ⟨wr.heap.size + 1 + X1.size, 4, none⟩ = some (.int .i64 (m4 + e4)) ∧ W1.cell? ⟨wr.heap.size + 1 + X1.size, 5, none⟩ = some (.int .i64 (m5 + e5)) ∧ W1.cell? ⟨wr.heap.size + 1 + X1.size, 6, none⟩ = some (.int .i64 (m6 + e6)) ∧ W1.cell? ⟨wr.heap.size + 1 + X1.size, 7, none⟩ = some (.int .i64 (m7 + e7)))
          ⟨(by repeat first | with_reducible exact .refl .. | with_reducible assumption | refine .s ?_ ?_ | refine .m ?_ ?_ | refine .l ?_ ?_ | refine .d ?_ | refine .e ?_ | (simp <;> omega) | omega), by simp, by simp [go_sem, ↓IntWalk.iteOmega], by simp [go_sem, ↓IntWalk.iteOmega], by simp [go_sem, ↓IntWalk.iteOmega], by simp [go_sem, ↓IntWalk.iteOmega], by simp [go_sem, ↓IntWalk.iteOmega], by simp [go_sem, ↓IntWalk.iteOmega], by simp [go_sem, ↓IntWalk.iteOmega], by simp [go_sem, ↓IntWalk.iteOmega], by simp [go_sem, ↓IntWalk.iteOmega], by simp [go_sem, ↓IntWalk.iteOmega], by simp [go_sem, ↓IntWalk.iteOmega], by simp [go_sem, ↓IntWalk.iteOmega]⟩ ?_
        rintro W1 ⟨hB1, hBs, r0, r1, r2, r3, j0, j1, j2, j3, j4, j5, j6, j7⟩
        have hsz1 := hB1.size
        have k0 := (Below.at0 hB1 (show w.heap.size < wr.heap.size by omega) 0).trans y0
        have k1 := (Below.at0 hB1 (show w.heap.size < wr.heap.size by omega) 1).trans y1
        have k2 := (Below.at0 hB1 (show w.heap.size < wr.heap.size by omega) 2).trans y2
        have k3 := (Below.at0 hB1 (show w.heap.size < wr.heap.size by omega) 3).trans y3
        have hbuf1 := hbuf.below hB1
        have hq := hq.mono (Kr.of_below hB1 _)
        have hqw := hqw.mono (Kr.of_below hB1 _)
        have hel := hel.mono (Kr.of_below hB1 _)
        have hb1 := hb.trans (hB1.mono (show g ≤ wr.heap.size by omega))
        have f0 := hbuf1.isSome (i := k * 12) (by omega)
        have f1 := hbuf1.isSome (i := k * 12 + 1) (by omega)
        have f2 := hbuf1.isSome (i := k * 12 + 2) (by omega)
        have f3 := hbuf1.isSome (i := k * 12 + 3) (by omega)
        have f4 := hbuf1.isSome (i := k * 12 + 4) (by omega)
        have f5 := hbuf1.isSome (i := k * 12 + 5) (by omega)
        have f6 := hbuf1.isSome (i := k * 12 + 6) (by omega)
        have f7 := hbuf1.isSome (i := k * 12 + 7) (by omega)
        have f8 := hbuf1.isSome (i := k * 12 + 8) (by omega)
        have f9 := hbuf1.isSome (i := k * 12 + 9) (by omega)
        have f10 := hbuf1.isSome (i := k * 12 + 10) (by omega)
        have f11 := hbuf1.isSome (i := k * 12 + 11) (by omega)
        have fz := hbuf1.frozen
        clear y0 y1 y2 y3 h0 h1 h2 h3 h4 h5 h6 h7 h8 h9 h10 h11 z0 z1 z2 z3 z4 z5 z6 z7
        have hgl := hbuf1.lt
        have HB := Lib.hid hbuf1
        clear hbuf hbuf1
        go_region_held3 (fun w' => w'.cell? ⟨w.heap.size, 0, none⟩ = some (.bool s3) ∧ w'.cell? ⟨w.heap.size, 0 + 1, none⟩ = some (.slice A3 n3 c3) ∧ w'.cell? ⟨w.heap.size, 0 + 2, none⟩ = some (.bool s4) ∧ w'.cell? ⟨w.heap.size, 0 + 3, none⟩ = some (.slice A4 n4 c4) ∧ w'.cell? ⟨wr.heap.size, 0, none⟩ = some (.bool s1) ∧ w'.cell? ⟨wr.heap.size, 0 + 1, none⟩ = some (.slice A1 n1 c1) ∧ w'.cell? ⟨wr.heap.size, 0 + 2, none⟩ = some (.bool s2) ∧ w'.cell? ⟨wr.heap.size, 0 + 3, none⟩ = some (.slice A2 n2 c2) ∧ w'.cell? ⟨wr.heap.size + 1 + X1.size, 0, none⟩ = some (.int .i64 (m0 + e0)) ∧ w'.cell? ⟨wr.heap.size + 1 + X1.size, 0 + 1, none⟩ = some (.int .i64 (m1 + e1)) ∧ w'.cell? ⟨wr.heap.size + 1 + X1.size, 0 + 2, none⟩ = some (.int .i64 (m2 + e2)) ∧ w'.cell? ⟨wr.heap.size + 1 + X1.size, 0 + 3, none⟩ = some (.int .i64 (m3 + e3)) ∧ w'.cell? ⟨wr.heap.size + 1 + X1.size, 0 + 4, none⟩ = some (.int .i64 (m4 + e4)) ∧ w'.cell? ⟨wr.heap.size + 1 + X1.size, 0 + 5, none⟩ = some (.int .i64 (m5 + e5)) ∧ w'.cell? ⟨wr.heap.size + 1 + X1.size, 0 + 6, none⟩ = some (.int .i64 (m6 + e6)) ∧ w'.cell? ⟨wr.heap.size + 1 + X1.size, 0 + 7, none⟩ = some (.int .i64 (m7 + e7)) ∧ w'.cell? ⟨g, k * 12, none⟩ = some (World.got w' (g) (k * 12)) ∧ w'.frozen? ⟨g, k * 12, none⟩ = false ∧ w'.cell? ⟨g, k * 12 + 1, none⟩ = some (World.got w' (g) (k * 12 + 1)) ∧ w'.frozen? ⟨g, k * 12 + 1, none⟩ = false ∧ w'.cell? ⟨g, k * 12 + 2, none⟩ = some (World.got w' (g) (k * 12 + 2)) ∧ w'.frozen? ⟨g, k * 12 + 2, none⟩ = false ∧ w'.cell? ⟨g, k * 12 + 3, none⟩ = some (World.got w' (g) (k * 12 + 3)) ∧ w'.frozen? ⟨g, k * 12 + 3, none⟩ = false ∧ w'.cell? ⟨g, k * 12 + 4, none⟩ = some (World.got w' (g) (k * 12 + 4)) ∧ w'.frozen? ⟨g, k * 12 + 4, none⟩ = false ∧ w'.cell? ⟨g, k * 12 + 5, none⟩ = some (World.got w' (g) (k * 12 + 5)) ∧ w'.frozen? ⟨g, k * 12 + 5, none⟩ = false ∧ w'.cell? ⟨g, k * 12 + 6, none⟩ = some (World.got w' (g) (k * 12 + 6)) ∧ w'.frozen? ⟨g, k * 12 + 6, none⟩ = false ∧ w'.cell? ⟨g, k * 12 + 7, none⟩ = some (World.got w' (g) (k * 12 + 7)) ∧ w'.frozen? ⟨g, k * 12 + 7, none⟩ = false ∧ w'.cell? ⟨g, k * 12 + 8, none⟩ = some (World.got w' (g) (k * 12 + 8)) ∧ w'.frozen? ⟨g, k * 12 + 8, none⟩ = false ∧ w'.cell? ⟨g, k * 12 + 9, none⟩ = some (World.got w' (g) (k * 12 + 9)) ∧ w'.frozen? ⟨g, k * 12 + 9, none⟩ = false ∧ w'.cell? ⟨g, k * 12 + 10, none⟩ = some (World.got w' (g) (k * 12 + 10)) ∧ w'.frozen? ⟨g, k * 12 + 10, none⟩ = false ∧ w'.cell? ⟨g, k * 12 + 11, none⟩ = some (World.got w' (g) (k * 12 + 11)) ∧ w'.frozen? ⟨g, k * 12 + 11, none⟩ = false)
          ((repeat' apply And.intro) <;> first | (simp [*, go_sem, ↓IntWalk.iteOmega]; done) | (refine got_of ?_; simp [*, go_sem, ↓IntWalk.iteOmega]; done))
          (first | (go_at_call 122; refine (ratmul_ok _ ([g] ++ ex) s3 A3 n3 c3 s4 A4 n4 c4 _ s1 A1 n1 c1 s2 A2 n2 c2 _ (hqw.mono (Kr.of_below (by repeat first | with_reducible exact .refl .. | with_reducible assumption | refine .s ?_ ?_ | refine .m ?_ ?_ | refine .l ?_ ?_ | refine .d ?_ | refine .e ?_ | (simp <;> omega) | omega) _)) (hq.mono (Kr.of_below (by repeat first | with_reducible exact .refl .. | with_reducible assumption | refine .s ?_ ?_ | refine .m ?_ ?_ | refine .l ?_ ?_ | refine .d ?_ | refine .e ?_ | (simp <;> omega) | omega) _)) hq0 hT.1 hT.2 (hexs hex (by simp; omega) (by simp; omega))).mono ?_; rintro e w' ⟨s5, A5, n5, c5, s6, A6, n6, c6, X2, D2, rfl, rfl, hres⟩))
        all_goals (rename_i hHeldZ; clear hHeldZ)
        all_goals
          go_wp2_with fail
          go_roundw
          case rel =>
            refine ⟨k + 1, _, by omega, by go_num, (CBuf.set (CBuf.set (CBuf.set (CBuf.set (CBuf.set (CBuf.set (CBuf.set (CBuf.set (CBuf.set (CBuf.set (CBuf.set (CBuf.set (HB.out.below (by repeat first | with_reducible exact .refl .. | with_reducible assumption | refine .s ?_ ?_ | refine .m ?_ ?_ | refine .l ?_ ?_ | refine .d ?_ | refine .e ?_ | (simp <;> omega) | omega)) _ _) _ _) _ _) _ _) _ _) _ _) _ _) _ _) _ _) _ _) _ _) _ _), by simp [HLN.out], ?_, ?_⟩
            · rw [show (k + 1) * 12 = k * 12 + 12 by omega, take_set12 _ _ _ _ _ _ _ _ _ _ _ _ _ _ hko, HN.out]
              refine Elts.append (E := tmE) ⟨s5, A5, n5, c5, s6, A6, n6, c6, _, _, _, _, _, _, _, _, rfl, ?_, rfl⟩ (hel.mono (by repeat (first | (with_reducible exact Kr.refl _ _) | (with_reducible assumption) | refine Kr.setCell ?_ _ (by simp) | refine Kr.more ?_ _ _ | refine Kr.alloc_ ?_ _ | refine Kr.drew ?_ | refine Kr.drewN ?_ _)))
              rw [HQ.out]; exact hres.mono (by repeat (first | (with_reducible exact Kr.refl _ _) | (with_reducible assumption) | refine Kr.setCell ?_ _ (by simp) | refine Kr.more ?_ _ _ | refine Kr.alloc_ ?_ _ | refine Kr.drew ?_ | refine Kr.drewN ?_ _))
            · refine hb1.trans ?_; exact (by repeat first | with_reducible exact .refl .. | with_reducible assumption | refine .s ?_ ?_ | refine .m ?_ ?_ | refine .l ?_ ?_ | refine .d ?_ | refine .e ?_ | (simp <;> omega) | omega)
          case measure => simp [intOf]; omega
      · obtain rfl : k = n := by omega
        rw [timesP_all (by have := HL.out; omega), List.take_of_length_le (by omega)] at hel
        have hTL : (timesP q [m0, m1, m2, m3, m4, m5, m6, m7] p).length = k := by rw [timesP_len H0.out]; exact HL.out.symm
        have HTL := Lib.hid hTL
        clear hTL
        go_wp2_with fail
        refine bodyPost_ret (v := .tuple #[.slice (some ⟨g, 0, none⟩) k k, .int .i64 0]) (by simp [results, Tryz.results127, go_sem, ↓IntWalk.iteOmega]) rfl ?_
        refine RetPE.mk rfl hbw (RP.of_rl (RL.of_row (hbuf.row (fun hh => by have := hex _ hh; omega)) (hel.mono ((Kr.refl _ _).sub (by intro b hb; simp [hb]))) HTL.out.symm (Nat.le_refl _)))

end Go.Proofs.YthhdleppkggepaaGreat

/-
  What keeps the words of memory as they are keeps every integer's reading.
-/
namespace Go.Proofs.YthhdleppkggepaaGreat
open Go.RowKit Go.Deep

/-- Every word is where it was. -/
structure Kw (w w' : World) : Prop where
  size : w.heap.size ≤ w'.heap.size
  word : ∀ b o x, w.cell? ⟨b, o, none⟩ = some (.int .u32 x) → w'.cell? ⟨b, o, none⟩ = some (.int .u32 x)
section
variable {w w' : World}
theorem Kw.refl (w : World) : Kw w w := ⟨Nat.le_refl _, fun _ _ _ h => h⟩
theorem Kw.below (h : Kw w w') {w'' : World} (hb : Below w'.heap.size w' w'') : Kw w w'' :=
  ⟨Nat.le_trans h.size hb.size, fun b o x hc => (World.cell?_of_block (w := w') (hb.block b (World.block_lt_of_cell? w' _ (h.word b o x hc)))).trans (h.word b o x hc)⟩
theorem Kw.more (h : Kw w w') (X : Array Obj) (D : Nat) : Kw w (w'.more X D) := h.below (World.below_more _ _ _)
theorem Kw.alloc (h : Kw w w') (o : Obj) : Kw w (w'.alloc o) := h.below ((Below.refl _ _).alloc (Nat.le_refl _) _)
theorem Kw.drew (h : Kw w w') : Kw w w'.drew := h.below (Below.refl _ _).drew
theorem Kw.drewN (h : Kw w w') (n : Nat) : Kw w (w'.drewN n) := h.below ((Below.refl _ _).drewN n)
theorem Kw.setCell (h : Kw w w') {g i : Nat} {v : Value} (hn : ∀ x, w'.cell? ⟨g, i, none⟩ ≠ some (.int .u32 x)) : Kw w (w'.setCell ⟨g, i, none⟩ v) := by
  refine ⟨by simpa using h.size, fun b o x hc => ?_⟩
  have h1 := h.word b o x hc
  rw [World.cell?_setCell_other w' _ _ _ (fun e => hn x (by rw [e]; exact h1))]
  exact h1
theorem RW.keepW {ex : List Nat} {A : Option Addr} {n c : Nat} {ws : List Nat} (h : RW w ex A n c ws) (k : Kw w w') : RW w' ex A n c ws := by
  refine ⟨h.len, h.cap, fun hne => ?_, h.wd⟩
  obtain ⟨b, o, e, hb, hc⟩ := h.row hne
  refine ⟨b, o, e, hb, fun i u hu => ?_⟩
  obtain ⟨x, hx⟩ : ∃ x : Int, u = .int .u32 x := by
    simp only [u32s, List.getElem?_map, Option.map_eq_some_iff] at hu
    obtain ⟨y, _, rfl⟩ := hu
    exact ⟨_, rfl⟩
  subst hx
  exact k.word _ _ _ (hc i _ hu)
theorem RI.keepW {ex : List Nat} {s : Bool} {A : Option Addr} {n c : Nat} {z : Int} (h : RI w ex s A n c z) (k : Kw w w') : RI w' ex s A n c z := ⟨h.1, h.2.keepW k⟩
theorem RQ.keepW {ex : List Nat} {s1 : Bool} {A1 : Option Addr} {n1 c1 : Nat} {s2 : Bool} {A2 : Option Addr} {n2 c2 : Nat} {q : Rat} (h : RQ w ex s1 A1 n1 c1 s2 A2 n2 c2 q) (k : Kw w w') : RQ w' ex s1 A1 n1 c1 s2 A2 n2 c2 q := ⟨h.num.keepW k, h.den.keepW k⟩
end
end Go.Proofs.YthhdleppkggepaaGreat
