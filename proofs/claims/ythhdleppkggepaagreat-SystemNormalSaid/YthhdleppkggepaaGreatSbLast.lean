/-
  The walk of the law's examples (printed by gen_lwd.py).
-/
import Derived.Test.YthhdleppkggepaaGreatSb30

set_option linter.unusedSimpArgs false
set_option linter.unusedVariables false
set_option linter.unusedSectionVars false

namespace Go.Proofs.YthhdleppkggepaaGreat
open Go.RowKit Go.Deep
set_option maxRecDepth 100000

def xLess : Pol := subP (termP 1 1 0) (termP 1 0 0)
def xEqs : List Pol := [subP (termP 2 1 0) (termP 4 0 0), [], subP (termP 2 0 0) (termP 1 1 0)]
def xNeqs : List Pol := [termP 3 0 0]
def xCan : List Pol := [xLess, addP (termP 1 1 0) (termP 1 0 2)]
def xSwap : List Nat := [1, 0, 2, 3, 4, 5, 6, 7]

set_option maxHeartbeats 2000000 in
theorem examples_ok (w : World) : Calls Tryz.prog 10 #[] w (RetB w true) := by
  go_enter Tryz.func10, Tryz.ntmps10
  go_wp2_with fail
  refine (xterm_ok _ 1 1 0 1 0 rfl rfl (by kernel_rfl)).mono ?_; rintro e x1 ⟨Aa, na, ca, Xa, Da, rfl, rfl, pa⟩
  go_wp2_with fail
  refine (xterm_ok _ 1 0 0 0 0 rfl rfl (by kernel_rfl)).mono ?_; rintro e x2 ⟨Ab, nb, cb, Xb, Db, rfl, rfl, pb⟩
  go_wp2_with fail
  refine (xsub_ok _ Aa na ca (termP 1 1 0) Ab nb cb (termP 1 0 0) (pa.mono (Kr.of_below (by repeat first | with_reducible exact .refl .. | with_reducible assumption | refine .s ?_ ?_ | refine .m ?_ ?_ | refine .l ?_ ?_ | refine .d ?_ | refine .e ?_ | (simp <;> omega) | omega) _)) (pb.mono (Kr.of_below (by repeat first | with_reducible exact .refl .. | with_reducible assumption | refine .s ?_ ?_ | refine .m ?_ ?_ | refine .l ?_ ?_ | refine .d ?_ | refine .e ?_ | (simp <;> omega) | omega) _)) (by kernel_rfl) (by kernel_rfl)).mono ?_; rintro e x3 ⟨Al, nl, cl, Xl, Dl, rfl, rfl, pl⟩
  go_wp2_with fail
  refine (xterm_ok _ 1 0 0 0 0 rfl rfl (by kernel_rfl)).mono ?_; rintro e x4 ⟨Ao, no, co, Xo, Do, rfl, rfl, po⟩
  go_wp2_with fail
  refine wp_abs_calls (fun W => Below w.heap.size w W ∧ RP W [] Al nl cl xLess ∧ RP W [] Ao no co (termP 1 0 0)) ⟨(by repeat first | with_reducible exact .refl .. | with_reducible assumption | refine .s ?_ ?_ | refine .m ?_ ?_ | refine .l ?_ ?_ | refine .d ?_ | refine .e ?_ | (simp <;> omega) | omega), (pl.mono (Kr.of_below (by repeat first | with_reducible exact .refl .. | with_reducible assumption | refine .s ?_ ?_ | refine .m ?_ ?_ | refine .l ?_ ?_ | refine .d ?_ | refine .e ?_ | (simp <;> omega) | omega) _)), (po.mono (Kr.of_below (by repeat first | with_reducible exact .refl .. | with_reducible assumption | refine .s ?_ ?_ | refine .m ?_ ?_ | refine .l ?_ ?_ | refine .d ?_ | refine .e ?_ | (simp <;> omega) | omega) _))⟩ ?_
  rintro W1 ⟨hB1, ql, qo⟩
  have hS1 := hB1.size
  refine (xterm_ok _ 2 1 0 1 0 rfl rfl (by kernel_rfl)).mono ?_; rintro e x5 ⟨Ac, nc, cc, Xc, Dc, rfl, rfl, pc⟩
  go_wp2_with fail
  refine (xterm_ok _ 4 0 0 0 0 rfl rfl (by kernel_rfl)).mono ?_; rintro e x6 ⟨Ad, nd, cd, Xd, Dd, rfl, rfl, pd⟩
  go_wp2_with fail
  refine (xsub_ok _ Ac nc cc (termP 2 1 0) Ad nd cd (termP 4 0 0) (pc.mono (Kr.of_below (by repeat first | with_reducible exact .refl .. | with_reducible assumption | refine .s ?_ ?_ | refine .m ?_ ?_ | refine .l ?_ ?_ | refine .d ?_ | refine .e ?_ | (simp <;> omega) | omega) _)) (pd.mono (Kr.of_below (by repeat first | with_reducible exact .refl .. | with_reducible assumption | refine .s ?_ ?_ | refine .m ?_ ?_ | refine .l ?_ ?_ | refine .d ?_ | refine .e ?_ | (simp <;> omega) | omega) _)) (by kernel_rfl) (by kernel_rfl)).mono ?_; rintro e x7 ⟨Af, nf, cf, Xf, Df, rfl, rfl, pf⟩
  go_wp2_with fail
  refine (xterm_ok _ 2 0 0 0 0 rfl rfl (by kernel_rfl)).mono ?_; rintro e x8 ⟨Ag, ng, cg, Xg, Dg, rfl, rfl, pg⟩
  go_wp2_with fail
  refine (xterm_ok _ 1 1 0 1 0 rfl rfl (by kernel_rfl)).mono ?_; rintro e x9 ⟨Ah, nh, ch, Xh, Dh, rfl, rfl, ph⟩
  go_wp2_with fail
  refine (xsub_ok _ Ag ng cg (termP 2 0 0) Ah nh ch (termP 1 1 0) (pg.mono (Kr.of_below (by repeat first | with_reducible exact .refl .. | with_reducible assumption | refine .s ?_ ?_ | refine .m ?_ ?_ | refine .l ?_ ?_ | refine .d ?_ | refine .e ?_ | (simp <;> omega) | omega) _)) (ph.mono (Kr.of_below (by repeat first | with_reducible exact .refl .. | with_reducible assumption | refine .s ?_ ?_ | refine .m ?_ ?_ | refine .l ?_ ?_ | refine .d ?_ | refine .e ?_ | (simp <;> omega) | omega) _)) (by kernel_rfl) (by kernel_rfl)).mono ?_; rintro e x10 ⟨Ai, ni, ci, Xi, Di, rfl, rfl, pi⟩
  go_wp2_with fail
  refine (xterm_ok _ 3 0 0 0 0 rfl rfl (by kernel_rfl)).mono ?_; rintro e x11 ⟨Aj, nj, cj, Xj, Dj, rfl, rfl, pj⟩
  go_wp2_with fail
  refine (xnormal_ok _ 1 _ 3 3 xEqs _ 1 1 xNeqs (rl3 (by simp) (by first | (simp; done) | (simp; omega) | omega) (by simp [go_sem, ↓IntWalk.iteOmega]) (pf.mono (Kr.of_below (by repeat first | with_reducible exact .refl .. | with_reducible assumption | refine .s ?_ ?_ | refine .m ?_ ?_ | refine .l ?_ ?_ | refine .d ?_ | refine .e ?_ | (simp <;> omega) | omega) _)) (by simp [go_sem, ↓IntWalk.iteOmega]; exact ⟨rfl, rfl⟩) (RP.nil _ _ _ _) (by simp [go_sem, ↓IntWalk.iteOmega]) (pi.mono (Kr.of_below (by repeat first | with_reducible exact .refl .. | with_reducible assumption | refine .s ?_ ?_ | refine .m ?_ ?_ | refine .l ?_ ?_ | refine .d ?_ | refine .e ?_ | (simp <;> omega) | omega) _))) (rl1 (by simp) (by first | (simp; done) | (simp; omega) | omega) (by simp [go_sem, ↓IntWalk.iteOmega]) (pj.mono (Kr.of_below (by repeat first | with_reducible exact .refl .. | with_reducible assumption | refine .s ?_ ?_ | refine .m ?_ ?_ | refine .l ?_ ?_ | refine .d ?_ | refine .e ?_ | (simp <;> omega) | omega) _))) (by kernel_rfl) 1 rfl).mono ?_; rintro e W2 ⟨Ak, nk, ck, Ak', nk', ck', Xk, Dk, rfl, hw, rk, rk'⟩
  rw [← hw] at rk rk'
  have hB2 : Below w.heap.size w W2 := by rw [hw]; exact (by repeat first | with_reducible exact .refl .. | with_reducible assumption | refine .s ?_ ?_ | refine .m ?_ ?_ | refine .l ?_ ?_ | refine .d ?_ | refine .e ?_ | (simp <;> omega) | omega)
  have hS2 := hB2.size
  have ql2 : RP W2 [] Al nl cl xLess := by rw [hw]; exact ql.mono (Kr.of_below (by repeat first | with_reducible exact .refl .. | with_reducible assumption | refine .s ?_ ?_ | refine .m ?_ ?_ | refine .l ?_ ?_ | refine .d ?_ | refine .e ?_ | (simp <;> omega) | omega) _)
  have qo2 : RP W2 [] Ao no co (termP 1 0 0) := by rw [hw]; exact qo.mono (Kr.of_below (by repeat first | with_reducible exact .refl .. | with_reducible assumption | refine .s ?_ ?_ | refine .m ?_ ?_ | refine .l ?_ ?_ | refine .d ?_ | refine .e ?_ | (simp <;> omega) | omega) _)
  clear hw ql qo hB1
  go_wp2_with fail
  refine (xnormal_ok _ 2 none 0 0 [] _ 1 1 [[]] (RL.nil _ _ _ _) (rl1 (by simp) (by first | (simp; done) | (simp; omega) | omega) (by simp [go_sem, ↓IntWalk.iteOmega]; exact ⟨rfl, rfl⟩) (RP.nil _ _ _ _)) (by kernel_rfl) 2 rfl).mono ?_; rintro e W3 ⟨Am, nm, cm, Am', nm', cm', Xm, Dm, rfl, hw, rm, rm'⟩
  rw [← hw] at rm rm'
  have hB3 : Below w.heap.size w W3 := by rw [hw]; exact (by repeat first | with_reducible exact .refl .. | with_reducible assumption | refine .s ?_ ?_ | refine .m ?_ ?_ | refine .l ?_ ?_ | refine .d ?_ | refine .e ?_ | (simp <;> omega) | omega)
  have hS3 := hB3.size
  have ql3 : RP W3 [] Al nl cl xLess := by rw [hw]; exact ql2.mono (Kr.of_below (by repeat first | with_reducible exact .refl .. | with_reducible assumption | refine .s ?_ ?_ | refine .m ?_ ?_ | refine .l ?_ ?_ | refine .d ?_ | refine .e ?_ | (simp <;> omega) | omega) _)
  have qo3 : RP W3 [] Ao no co (termP 1 0 0) := by rw [hw]; exact qo2.mono (Kr.of_below (by repeat first | with_reducible exact .refl .. | with_reducible assumption | refine .s ?_ ?_ | refine .m ?_ ?_ | refine .l ?_ ?_ | refine .d ?_ | refine .e ?_ | (simp <;> omega) | omega) _)
  have rk3 : RL poE W3 [] Ak nk ck (tidyP (yesL xEqs xNeqs)) := by rw [hw]; exact rk.mono (Kr.of_below (by repeat first | with_reducible exact .refl .. | with_reducible assumption | refine .s ?_ ?_ | refine .m ?_ ?_ | refine .l ?_ ?_ | refine .d ?_ | refine .e ?_ | (simp <;> omega) | omega) _)
  have rk3' : RL poE W3 [] Ak' nk' ck' (tidyP (noL xNeqs)) := by rw [hw]; exact rk'.mono (Kr.of_below (by repeat first | with_reducible exact .refl .. | with_reducible assumption | refine .s ?_ ?_ | refine .m ?_ ?_ | refine .l ?_ ?_ | refine .d ?_ | refine .e ?_ | (simp <;> omega) | omega) _)
  have k0 : W3.cell? ⟨W2.heap.size, 0, none⟩ = some (.int .i64 1) := by rw [hw]; simp [go_sem, ↓IntWalk.iteOmega]
  have k1 : W3.cell? ⟨W2.heap.size, 1, none⟩ = some (.slice Ak nk ck) := by rw [hw]; simp [go_sem, ↓IntWalk.iteOmega]
  have k2 : W3.cell? ⟨W2.heap.size, 2, none⟩ = some (.slice Ak' nk' ck') := by rw [hw]; simp [go_sem, ↓IntWalk.iteOmega]
  clear hw ql2 qo2 rk rk' hB2
  go_wp2_with fail
  refine (xterm_ok _ 1 0 1 0 1 rfl rfl (by kernel_rfl)).mono ?_; rintro e x12 ⟨Aq, nq, cq, Xq, Dq, rfl, rfl, pq⟩
  go_wp2_with fail
  refine (xodd_ok _ 1 _ 1 1 [termP 1 0 1] (rl1 (by simp) (by first | (simp; done) | (simp; omega) | omega) (by simp [go_sem, ↓IntWalk.iteOmega]) (pq.mono (Kr.of_below (by repeat first | with_reducible exact .refl .. | with_reducible assumption | refine .s ?_ ?_ | refine .m ?_ ?_ | refine .l ?_ ?_ | refine .d ?_ | refine .e ?_ | (simp <;> omega) | omega) _))) (by kernel_rfl) 1 rfl).mono ?_; rintro e x50 ⟨Ag, ng, cg, Ag', ng', cg', Xg, Dg, rfl, rfl, rg, rg'⟩
  go_wp2_with fail
  refine (core_zero _ []).mono ?_; rintro e W4 ⟨Ah, nh, ch, Ah', nh', ch', Xh, Dh, rfl, hw, rh, rh'⟩
  have hB4 : Below w.heap.size w W4 := by rw [hw]; exact (by repeat first | with_reducible exact .refl .. | with_reducible assumption | refine .s ?_ ?_ | refine .m ?_ ?_ | refine .l ?_ ?_ | refine .d ?_ | refine .e ?_ | (simp <;> omega) | omega)
  have hS4 := hB4.size
  have ql4 : RP W4 [] Al nl cl xLess := by rw [hw]; exact ql3.mono (Kr.of_below (by repeat first | with_reducible exact .refl .. | with_reducible assumption | refine .s ?_ ?_ | refine .m ?_ ?_ | refine .l ?_ ?_ | refine .d ?_ | refine .e ?_ | (simp <;> omega) | omega) _)
  have qo4 : RP W4 [] Ao no co (termP 1 0 0) := by rw [hw]; exact qo3.mono (Kr.of_below (by repeat first | with_reducible exact .refl .. | with_reducible assumption | refine .s ?_ ?_ | refine .m ?_ ?_ | refine .l ?_ ?_ | refine .d ?_ | refine .e ?_ | (simp <;> omega) | omega) _)
  have rk4 : RL poE W4 [] Ak nk ck (tidyP (yesL xEqs xNeqs)) := by rw [hw]; exact rk3.mono (Kr.of_below (by repeat first | with_reducible exact .refl .. | with_reducible assumption | refine .s ?_ ?_ | refine .m ?_ ?_ | refine .l ?_ ?_ | refine .d ?_ | refine .e ?_ | (simp <;> omega) | omega) _)
  have rk4' : RL poE W4 [] Ak' nk' ck' (tidyP (noL xNeqs)) := by rw [hw]; exact rk3'.mono (Kr.of_below (by repeat first | with_reducible exact .refl .. | with_reducible assumption | refine .s ?_ ?_ | refine .m ?_ ?_ | refine .l ?_ ?_ | refine .d ?_ | refine .e ?_ | (simp <;> omega) | omega) _)
  have rm4 : RL poE W4 [] Am nm cm (tidyP (yesL [] [[]])) := by rw [hw]; exact rm.mono (Kr.of_below (by repeat first | with_reducible exact .refl .. | with_reducible assumption | refine .s ?_ ?_ | refine .m ?_ ?_ | refine .l ?_ ?_ | refine .d ?_ | refine .e ?_ | (simp <;> omega) | omega) _)
  have rm4' : RL poE W4 [] Am' nm' cm' (tidyP (noL [[]])) := by rw [hw]; exact rm'.mono (Kr.of_below (by repeat first | with_reducible exact .refl .. | with_reducible assumption | refine .s ?_ ?_ | refine .m ?_ ?_ | refine .l ?_ ?_ | refine .d ?_ | refine .e ?_ | (simp <;> omega) | omega) _)
  have kk0 : W4.cell? ⟨W2.heap.size, 0, none⟩ = some (.int .i64 1) := by rw [hw]; simp [k0, go_sem, ↓IntWalk.iteOmega]
  have kk1 : W4.cell? ⟨W2.heap.size, 1, none⟩ = some (.slice Ak nk ck) := by rw [hw]; simp [k1, go_sem, ↓IntWalk.iteOmega]
  have kk2 : W4.cell? ⟨W2.heap.size, 2, none⟩ = some (.slice Ak' nk' ck') := by rw [hw]; simp [k2, go_sem, ↓IntWalk.iteOmega]
  have mm0 : W4.cell? ⟨W3.heap.size, 0, none⟩ = some (.int .i64 2) := by rw [hw]; simp [go_sem, ↓IntWalk.iteOmega]
  have mm1 : W4.cell? ⟨W3.heap.size, 1, none⟩ = some (.slice Am nm cm) := by rw [hw]; simp [go_sem, ↓IntWalk.iteOmega]
  have mm2 : W4.cell? ⟨W3.heap.size, 2, none⟩ = some (.slice Am' nm' cm') := by rw [hw]; simp [go_sem, ↓IntWalk.iteOmega]
  clear hw ql3 qo3 rk3 rk3' rm rm' k0 k1 k2 hB3 rg rg' rh rh' pq
  go_wp2_with fail
  refine (xterm_ok _ 1 1 0 1 0 rfl rfl (by kernel_rfl)).mono ?_; rintro e x13 ⟨Ar, nr, cr, Xr, Dr, rfl, rfl, pr⟩
  go_wp2_with fail
  refine (xterm_ok _ 1 0 2 0 2 rfl rfl (by kernel_rfl)).mono ?_; rintro e x14 ⟨As, ns, cs, Xs, Ds, rfl, rfl, ps⟩
  go_wp2_with fail
  refine (xadd_ok _ Ar nr cr (termP 1 1 0) As ns cs (termP 1 0 2) (pr.mono (Kr.of_below (by repeat first | with_reducible exact .refl .. | with_reducible assumption | refine .s ?_ ?_ | refine .m ?_ ?_ | refine .l ?_ ?_ | refine .d ?_ | refine .e ?_ | (simp <;> omega) | omega) _)) (ps.mono (Kr.of_below (by repeat first | with_reducible exact .refl .. | with_reducible assumption | refine .s ?_ ?_ | refine .m ?_ ?_ | refine .l ?_ ?_ | refine .d ?_ | refine .e ?_ | (simp <;> omega) | omega) _)) (by kernel_rfl) (by kernel_rfl)).mono ?_; rintro e x15 ⟨At, nt, ct, Xt, Dt, rfl, rfl, pt⟩
  go_wp2_with fail
  refine (xcanon_ok _ _ 2 2 xCan none 0 0 [] (rl2 (by simp) (by first | (simp; done) | (simp; omega) | omega) (by simp [go_sem, ↓IntWalk.iteOmega]) (ql4.mono (Kr.of_below (by repeat first | with_reducible exact .refl .. | with_reducible assumption | refine .s ?_ ?_ | refine .m ?_ ?_ | refine .l ?_ ?_ | refine .d ?_ | refine .e ?_ | (simp <;> omega) | omega) _)) (by simp [go_sem, ↓IntWalk.iteOmega]) (pt.mono (Kr.of_below (by repeat first | with_reducible exact .refl .. | with_reducible assumption | refine .s ?_ ?_ | refine .m ?_ ?_ | refine .l ?_ ?_ | refine .d ?_ | refine .e ?_ | (simp <;> omega) | omega) _))) (RL.nil _ _ _ _) (by kernel_rfl) (by kernel_rfl) (canT1 xCan [] xSwap) (canT2 [] xSwap) xSwap (by kernel_rfl) 2 rfl).mono ?_; rintro e W5 ⟨Ac, nc, cc, Ac', nc', cc', u0, u1, u2, u3, u4, u5, u6, u7, Xc, Dc, rfl, hu, hw, rc, rc'⟩
  rw [← hw] at rc rc'
  have hB5 : Below w.heap.size w W5 := by rw [hw]; exact (by repeat first | with_reducible exact .refl .. | with_reducible assumption | refine .s ?_ ?_ | refine .m ?_ ?_ | refine .l ?_ ?_ | refine .d ?_ | refine .e ?_ | (simp <;> omega) | omega)
  have hS5 := hB5.size
  have qo5 : RP W5 [] Ao no co (termP 1 0 0) := by rw [hw]; exact qo4.mono (Kr.of_below (by repeat first | with_reducible exact .refl .. | with_reducible assumption | refine .s ?_ ?_ | refine .m ?_ ?_ | refine .l ?_ ?_ | refine .d ?_ | refine .e ?_ | (simp <;> omega) | omega) _)
  have rk5 : RL poE W5 [] Ak nk ck (tidyP (yesL xEqs xNeqs)) := by rw [hw]; exact rk4.mono (Kr.of_below (by repeat first | with_reducible exact .refl .. | with_reducible assumption | refine .s ?_ ?_ | refine .m ?_ ?_ | refine .l ?_ ?_ | refine .d ?_ | refine .e ?_ | (simp <;> omega) | omega) _)
  have rk5' : RL poE W5 [] Ak' nk' ck' (tidyP (noL xNeqs)) := by rw [hw]; exact rk4'.mono (Kr.of_below (by repeat first | with_reducible exact .refl .. | with_reducible assumption | refine .s ?_ ?_ | refine .m ?_ ?_ | refine .l ?_ ?_ | refine .d ?_ | refine .e ?_ | (simp <;> omega) | omega) _)
  have rm5 : RL poE W5 [] Am nm cm (tidyP (yesL [] [[]])) := by rw [hw]; exact rm4.mono (Kr.of_below (by repeat first | with_reducible exact .refl .. | with_reducible assumption | refine .s ?_ ?_ | refine .m ?_ ?_ | refine .l ?_ ?_ | refine .d ?_ | refine .e ?_ | (simp <;> omega) | omega) _)
  have rm5' : RL poE W5 [] Am' nm' cm' (tidyP (noL [[]])) := by rw [hw]; exact rm4'.mono (Kr.of_below (by repeat first | with_reducible exact .refl .. | with_reducible assumption | refine .s ?_ ?_ | refine .m ?_ ?_ | refine .l ?_ ?_ | refine .d ?_ | refine .e ?_ | (simp <;> omega) | omega) _)
  have k0 : W5.cell? ⟨W2.heap.size, 0, none⟩ = some (.int .i64 1) := by rw [hw]; simp [kk0, go_sem, ↓IntWalk.iteOmega]
  have k1 : W5.cell? ⟨W2.heap.size, 1, none⟩ = some (.slice Ak nk ck) := by rw [hw]; simp [kk1, go_sem, ↓IntWalk.iteOmega]
  have k2 : W5.cell? ⟨W2.heap.size, 2, none⟩ = some (.slice Ak' nk' ck') := by rw [hw]; simp [kk2, go_sem, ↓IntWalk.iteOmega]
  have m0 : W5.cell? ⟨W3.heap.size, 0, none⟩ = some (.int .i64 2) := by rw [hw]; simp [mm0, go_sem, ↓IntWalk.iteOmega]
  have m1 : W5.cell? ⟨W3.heap.size, 1, none⟩ = some (.slice Am nm cm) := by rw [hw]; simp [mm1, go_sem, ↓IntWalk.iteOmega]
  have m2 : W5.cell? ⟨W3.heap.size, 2, none⟩ = some (.slice Am' nm' cm') := by rw [hw]; simp [mm2, go_sem, ↓IntWalk.iteOmega]
  simp only [intsN, xSwap, List.map_cons, List.map_nil, List.cons.injEq, and_true] at hu
  obtain ⟨rfl, rfl, rfl, rfl, rfl, rfl, rfl, rfl⟩ := hu
  clear hw ql4 qo4 rk4 rk4' rm4 rm4' kk0 kk1 kk2 mm0 mm1 mm2 hB4 pr ps pt
  go_wp2_with fail
  refine (xterm_ok _ 1 0 1 0 1 rfl rfl (by kernel_rfl)).mono ?_; rintro e x16 ⟨Av, nv, cv, Xv, Dv, rfl, rfl, pv⟩
  go_wp2_with fail
  refine (xsub_ok _ Av nv cv (termP 1 0 1) Ao no co (termP 1 0 0) (pv.mono (Kr.of_below (by repeat first | with_reducible exact .refl .. | with_reducible assumption | refine .s ?_ ?_ | refine .m ?_ ?_ | refine .l ?_ ?_ | refine .d ?_ | refine .e ?_ | (simp <;> omega) | omega) _)) (qo5.mono (Kr.of_below (by repeat first | with_reducible exact .refl .. | with_reducible assumption | refine .s ?_ ?_ | refine .m ?_ ?_ | refine .l ?_ ?_ | refine .d ?_ | refine .e ?_ | (simp <;> omega) | omega) _)) (by kernel_rfl) (by kernel_rfl)).mono ?_; rintro e x71 ⟨Ay, ny, cy, Xy, Dy, rfl, rfl, py⟩
  go_wp2_with fail
  refine (xterm_ok _ 1 2 0 2 0 rfl rfl (by kernel_rfl)).mono ?_; rintro e x17 ⟨Az, nz, cz, Xz, Dz, rfl, rfl, pz⟩
  go_wp2_with fail
  refine (xterm_ok _ 1 0 1 0 1 rfl rfl (by kernel_rfl)).mono ?_; rintro e x18 ⟨Aaa, naa, caa, Xaa, Daa, rfl, rfl, paa⟩
  go_wp2_with fail
  refine (xadd_ok _ Az nz cz (termP 1 2 0) Aaa naa caa (termP 1 0 1) (pz.mono (Kr.of_below (by repeat first | with_reducible exact .refl .. | with_reducible assumption | refine .s ?_ ?_ | refine .m ?_ ?_ | refine .l ?_ ?_ | refine .d ?_ | refine .e ?_ | (simp <;> omega) | omega) _)) (paa.mono (Kr.of_below (by repeat first | with_reducible exact .refl .. | with_reducible assumption | refine .s ?_ ?_ | refine .m ?_ ?_ | refine .l ?_ ?_ | refine .d ?_ | refine .e ?_ | (simp <;> omega) | omega) _)) (by kernel_rfl) (by kernel_rfl)).mono ?_; rintro e x19 ⟨Abb, nbb, cbb, Xbb, Dbb, rfl, rfl, pbb⟩
  go_wp2_with fail
  have hne : ∀ w, (binOp .neq 44 (.agg #[.int .i64 1, .int .i64 0, .int .i64 2, .int .i64 3, .int .i64 4, .int .i64 5, .int .i64 6, .int .i64 7]) (.agg #[.int .i64 1, .int .i64 0, .int .i64 2, .int .i64 3, .int .i64 4, .int .i64 5, .int .i64 6, .int .i64 7])).run Tryz.prog w = .ok (.bool false) w := fun w => by kernel_rfl
  refine (xsame_ok _ 2 Ac nc cc Ac' nc' cc' (canT1 xCan [] xSwap) (canT2 [] xSwap) _ 2 2 none 0 0 [subP (termP 1 0 1) (termP 1 0 0), addP (termP 1 2 0) (termP 1 0 1)] [] (rc.mono (Kr.of_below (by repeat first | with_reducible exact .refl .. | with_reducible assumption | refine .s ?_ ?_ | refine .m ?_ ?_ | refine .l ?_ ?_ | refine .d ?_ | refine .e ?_ | (simp <;> omega) | omega) _)) (rc'.mono (Kr.of_below (by repeat first | with_reducible exact .refl .. | with_reducible assumption | refine .s ?_ ?_ | refine .m ?_ ?_ | refine .l ?_ ?_ | refine .d ?_ | refine .e ?_ | (simp <;> omega) | omega) _)) (rl2 (by simp) (by first | (simp; done) | (simp; omega) | omega) (by simp [go_sem, ↓IntWalk.iteOmega]) (py.mono (Kr.of_below (by repeat first | with_reducible exact .refl .. | with_reducible assumption | refine .s ?_ ?_ | refine .m ?_ ?_ | refine .l ?_ ?_ | refine .d ?_ | refine .e ?_ | (simp <;> omega) | omega) _)) (by simp [go_sem, ↓IntWalk.iteOmega]) (pbb.mono (Kr.of_below (by repeat first | with_reducible exact .refl .. | with_reducible assumption | refine .s ?_ ?_ | refine .m ?_ ?_ | refine .l ?_ ?_ | refine .d ?_ | refine .e ?_ | (simp <;> omega) | omega) _))) (RL.nil _ _ _ _) (by kernel_rfl) 2 rfl 2 rfl (by kernel_rfl)).mono ?_; rintro e x80 ⟨X6, D6, rfl, rfl⟩
  go_wp2_with fail
  refine wp_abs (fun W => Below w.heap.size w W ∧ RP W [] Ao no co (termP 1 0 0) ∧ RL poE W [] Ak nk ck (tidyP (yesL xEqs xNeqs)) ∧ RL poE W [] Ak' nk' ck' (tidyP (noL xNeqs)) ∧ RL poE W [] Am nm cm (tidyP (yesL [] [[]])) ∧ RL poE W [] Am' nm' cm' (tidyP (noL [[]])) ∧ W.cell? ⟨W2.heap.size, 0, none⟩ = some (.int .i64 1) ∧ W.cell? ⟨W2.heap.size, 1, none⟩ = some (.slice Ak nk ck) ∧ W.cell? ⟨W2.heap.size, 2, none⟩ = some (.slice Ak' nk' ck') ∧ W.cell? ⟨W3.heap.size, 0, none⟩ = some (.int .i64 2) ∧ W.cell? ⟨W3.heap.size, 1, none⟩ = some (.slice Am nm cm) ∧ W.cell? ⟨W3.heap.size, 2, none⟩ = some (.slice Am' nm' cm')) ⟨(by repeat first | with_reducible exact .refl .. | with_reducible assumption | refine .s ?_ ?_ | refine .m ?_ ?_ | refine .l ?_ ?_ | refine .d ?_ | refine .e ?_ | (simp <;> omega) | omega), qo5.mono (Kr.of_below (by repeat first | with_reducible exact .refl .. | with_reducible assumption | refine .s ?_ ?_ | refine .m ?_ ?_ | refine .l ?_ ?_ | refine .d ?_ | refine .e ?_ | (simp <;> omega) | omega) _), rk5.mono (Kr.of_below (by repeat first | with_reducible exact .refl .. | with_reducible assumption | refine .s ?_ ?_ | refine .m ?_ ?_ | refine .l ?_ ?_ | refine .d ?_ | refine .e ?_ | (simp <;> omega) | omega) _), rk5'.mono (Kr.of_below (by repeat first | with_reducible exact .refl .. | with_reducible assumption | refine .s ?_ ?_ | refine .m ?_ ?_ | refine .l ?_ ?_ | refine .d ?_ | refine .e ?_ | (simp <;> omega) | omega) _), rm5.mono (Kr.of_below (by repeat first | with_reducible exact .refl .. | with_reducible assumption | refine .s ?_ ?_ | refine .m ?_ ?_ | refine .l ?_ ?_ | refine .d ?_ | refine .e ?_ | (simp <;> omega) | omega) _), rm5'.mono (Kr.of_below (by repeat first | with_reducible exact .refl .. | with_reducible assumption | refine .s ?_ ?_ | refine .m ?_ ?_ | refine .l ?_ ?_ | refine .d ?_ | refine .e ?_ | (simp <;> omega) | omega) _), by simp [k0, go_sem, ↓IntWalk.iteOmega], by simp [k1, go_sem, ↓IntWalk.iteOmega], by simp [k2, go_sem, ↓IntWalk.iteOmega], by simp [m0, go_sem, ↓IntWalk.iteOmega], by simp [m1, go_sem, ↓IntWalk.iteOmega], by simp [m2, go_sem, ↓IntWalk.iteOmega]⟩ ?_
  rintro W7 ⟨hB7, qo7, rk7, rk7', rm7, rm7', kx0, kx1, kx2, mx0, mx1, mx2⟩
  have hS7 := hB7.size
  clear qo5 rk5 rk5' rm5 rm5' k0 k1 k2 m0 m1 m2 hB5 hS5 rc rc' pv py pz paa pbb hne hS1 hS2 hS3 hS4
  go_region_held3 (fun w' => w'.cell? ⟨W2.heap.size, 0, none⟩ = some (.int .i64 1) ∧ w'.cell? ⟨W2.heap.size, 0 + 1, none⟩ = some (.slice Ak nk ck) ∧ w'.cell? ⟨W2.heap.size, 0 + 2, none⟩ = some (.slice Ak' nk' ck') ∧ w'.cell? ⟨W3.heap.size, 0, none⟩ = some (.int .i64 2) ∧ w'.cell? ⟨W3.heap.size, 0 + 1, none⟩ = some (.slice Am nm cm) ∧ w'.cell? ⟨W3.heap.size, 0 + 2, none⟩ = some (.slice Am' nm' cm'))
    ((repeat' apply And.intro) <;> first | (simp [*, go_sem, ↓IntWalk.iteOmega]; done) | (refine got_of ?_; simp [*, go_sem, ↓IntWalk.iteOmega]; done))
    (first | ((first | (have hgo := pa1; clear hgo; go_at_call 40; refine (xterm_ok _ 2 0 0 0 0 rfl rfl (by kernel_rfl)).mono ?_) | fail); rintro e y2 ⟨Aa2, na2, ca2, Xa2, Da2, rfl, rfl, pa2⟩) | ((first | (go_at_call 40; refine (xterm_ok _ 1 1 0 1 0 rfl rfl (by kernel_rfl)).mono ?_) | fail); rintro e y1 ⟨Aa1, na1, ca1, Xa1, Da1, rfl, rfl, pa1⟩) | ((first | (go_at_call 39; refine (xsub_ok _ Aa1 na1 ca1 (termP 1 1 0) Aa2 na2 ca2 (termP 2 0 0) (pa1.mono (Kr.of_below (by repeat first | with_reducible exact .refl .. | with_reducible assumption | refine .s ?_ ?_ | refine .m ?_ ?_ | refine .l ?_ ?_ | refine .d ?_ | refine .e ?_ | (simp <;> omega) | omega) _)) (pa2.mono (Kr.of_below (by repeat first | with_reducible exact .refl .. | with_reducible assumption | refine .s ?_ ?_ | refine .m ?_ ?_ | refine .l ?_ ?_ | refine .d ?_ | refine .e ?_ | (simp <;> omega) | omega) _)) (by kernel_rfl) (by kernel_rfl)).mono ?_) | fail); rintro e y3 ⟨Aa3, na3, ca3, Xa3, Da3, rfl, rfl, pa3⟩) | ((first | (go_at_call_of 20 Ak; refine (xsame_ok _ 1 Ak nk ck Ak' nk' ck' (tidyP (yesL xEqs xNeqs)) (tidyP (noL xNeqs)) _ 1 1 none 0 0 [subP (termP 1 1 0) (termP 2 0 0)] [] (rk7.mono (Kr.of_below (by repeat first | with_reducible exact .refl .. | with_reducible assumption | refine .s ?_ ?_ | refine .m ?_ ?_ | refine .l ?_ ?_ | refine .d ?_ | refine .e ?_ | (simp <;> omega) | omega) _)) (rk7'.mono (Kr.of_below (by repeat first | with_reducible exact .refl .. | with_reducible assumption | refine .s ?_ ?_ | refine .m ?_ ?_ | refine .l ?_ ?_ | refine .d ?_ | refine .e ?_ | (simp <;> omega) | omega) _)) (rl1 (by simp) (by first | (simp; done) | (simp; omega) | omega) (by simp [go_sem, ↓IntWalk.iteOmega]) (pa3.mono (Kr.of_below (by repeat first | with_reducible exact .refl .. | with_reducible assumption | refine .s ?_ ?_ | refine .m ?_ ?_ | refine .l ?_ ?_ | refine .d ?_ | refine .e ?_ | (simp <;> omega) | omega) _))) (RL.nil _ _ _ _) (by kernel_rfl) 1 rfl 1 rfl (by kernel_rfl)).mono ?_) | fail); rintro e y4 ⟨Xa4, Da4, rfl, rfl⟩) | ((first | (go_at_call_of 20 Am; refine (xsame_ok _ 2 Am nm cm Am' nm' cm' (tidyP (yesL [] [[]])) (tidyP (noL [[]])) _ 1 1 none 0 0 [termP 1 0 0] [] (rm7.mono (Kr.of_below (by repeat first | with_reducible exact .refl .. | with_reducible assumption | refine .s ?_ ?_ | refine .m ?_ ?_ | refine .l ?_ ?_ | refine .d ?_ | refine .e ?_ | (simp <;> omega) | omega) _)) (rm7'.mono (Kr.of_below (by repeat first | with_reducible exact .refl .. | with_reducible assumption | refine .s ?_ ?_ | refine .m ?_ ?_ | refine .l ?_ ?_ | refine .d ?_ | refine .e ?_ | (simp <;> omega) | omega) _)) (rl1 (by simp) (by first | (simp; done) | (simp; omega) | omega) (by simp [go_sem, ↓IntWalk.iteOmega]) (qo7.mono (Kr.of_below (by repeat first | with_reducible exact .refl .. | with_reducible assumption | refine .s ?_ ?_ | refine .m ?_ ?_ | refine .l ?_ ?_ | refine .d ?_ | refine .e ?_ | (simp <;> omega) | omega) _))) (RL.nil _ _ _ _) (by kernel_rfl) 2 rfl 2 rfl (by kernel_rfl)).mono ?_) | fail); rintro e y5 ⟨Xa5, Da5, rfl, rfl⟩) | ((first | (have hgo := Xa6; clear hgo; go_at_call 28; refine (valid_zero _).mono ?_) | fail); rintro e y7 ⟨Xa7, Da7, rfl, rfl⟩) | ((first | (go_at_call 28; refine (xvalid1_ok _).mono ?_) | fail); rintro e y6 ⟨Xa6, Da6, rfl, rfl⟩))
  all_goals (rename_i hHeldZ; clear hHeldZ)
  all_goals
    go_wp2_with fail
    go_ret
    exact RetB.mk rfl (hB7.trans ((show Below W7.heap.size W7 _ from (by repeat first | with_reducible exact .refl .. | with_reducible assumption | refine .s ?_ ?_ | refine .m ?_ ?_ | refine .l ?_ ?_ | refine .d ?_ | refine .e ?_ | (simp <;> omega) | omega)).mono (by omega)))

end Go.Proofs.YthhdleppkggepaaGreat
