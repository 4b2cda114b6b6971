/-
  The walk of system.Canon.
-/
import Derived.Test.YthhdleppkggepaaGreatSb10
import Derived.Test.YthhdleppkggepaaGreatSb11
import Derived.Test.YthhdleppkggepaaGreatSb21
import Derived.Test.YthhdleppkggepaaGreatSb26

set_option linter.unusedSimpArgs false
set_option linter.unusedVariables false
set_option linter.unusedSectionVars false

namespace Go.Proofs.YthhdleppkggepaaGreat
open Go.RowKit Go.Deep
set_option maxRecDepth 100000

def id8 : List Nat := [0, 1, 2, 3, 4, 5, 6, 7]
theorem id8_perm : Perm8 id8 := by unfold Perm8 id8; exact List.Perm.of_eq rfl
theorem id8_fix (N : Nat) : ∀ k, N ≤ k → k < 8 → id8[k]? = some k := by
  intro k _ hk
  obtain rfl | rfl | rfl | rfl | rfl | rfl | rfl | rfl : k = 0 ∨ k = 1 ∨ k = 2 ∨ k = 3 ∨ k = 4 ∨ k = 5 ∨ k = 6 ∨ k = 7 := by omega
  all_goals rfl
/-- What Canon computes. -/
def canonS (N : Nat) (l1 l2 : List Pol) : CanSt := (enumP N N 0 id8).foldl (canStep N l1 l2) none
def RetCn (w : World) (ex : List Nat) (N : Nat) (q1 q2 : List Pol) (τ : List Nat) (e : Ending) (w' : World) : Prop :=
  ∃ A n c A' n' c' t0 t1 t2 t3 t4 t5 t6 t7 X D, e = .returned (.tuple #[.agg #[.int .i64 N, .slice A n c, .slice A' n' c'], .agg #[.int .i64 t0, .int .i64 t1, .int .i64 t2, .int .i64 t3, .int .i64 t4, .int .i64 t5, .int .i64 t6, .int .i64 t7]]) ∧ [t0, t1, t2, t3, t4, t5, t6, t7] = intsN τ ∧ w' = w.more X D ∧ RL poE (w.more X D) ex A n c q1 ∧ RL poE (w.more X D) ex A' n' c' q2

theorem RetCn.mk {w w' : World} {ex : List Nat} {N : Nat} {q1 q2 : List Pol} {τ : List Nat} {A : Option Addr} {n c : Nat} {A' : Option Addr} {n' c' : Nat} {t0 t1 t2 t3 t4 t5 t6 t7 : Int} {e : Ending} (he : e = .returned (.tuple #[.agg #[.int .i64 N, .slice A n c, .slice A' n' c'], .agg #[.int .i64 t0, .int .i64 t1, .int .i64 t2, .int .i64 t3, .int .i64 t4, .int .i64 t5, .int .i64 t6, .int .i64 t7]])) (ht : [t0, t1, t2, t3, t4, t5, t6, t7] = intsN τ)
    (hb : Below w.heap.size w w') (hr : RL poE w' ex A n c q1) (hr2 : RL poE w' ex A' n' c' q2) : RetCn w ex N q1 q2 τ e w' := by
  obtain ⟨X, D, rfl⟩ := World.more_of_below hb
  exact ⟨A, n, c, A', n', c', t0, t1, t2, t3, t4, t5, t6, t7, X, D, he, ht, rfl, hr, hr2⟩
theorem RL.fin {w w' : World} {exG ex : List Nat} {A : Option Addr} {n c : Nat} {l : List Pol} (h : RL poE w exG A n c l) (k : Kr w exG w' exG) (hs : ∀ b, b ∈ ex → b ∈ exG) : RL poE w' ex A n c l := (h.mono k).mono ((Kr.refl _ _).sub hs)
theorem wp_abs_calls {P : Program} {f : Nat} {args : Array Value} {w : World} {Q : Ending → World → Prop} (R : World → Prop) (h : R w) (k : ∀ w', R w' → Calls P f args w' Q) : Calls P f args w Q := k w h
set_option maxHeartbeats 2000000 in
theorem canon_ok (w : World) (ex : List Nat) (N : Nat) (A1 : Option Addr) (n1 c1 : Nat) (l1 : List Pol) (A2 : Option Addr) (n2 c2 : Nat) (l2 : List Pol) (hx : RL poE w ex A1 n1 c1 l1) (hy : RL poE w ex A2 n2 c2 l2) (hN1 : 1 ≤ N) (hN4 : N ≤ 4) (M : Int) (hM : 0 < M) (hM2 : M < 65536)
    (hok : ∀ π, Perm8 π → (∀ k, N ≤ k → k < 8 → π[k]? = some k) → CanOk N M l1 l2 π) (q1 q2 : List Pol) (τ : List Nat) (hres : canonS N l1 l2 = some (q1, q2, τ)) (hex : ∀ b ∈ ex, b < w.heap.size) :
    Calls Tryz.prog 18 #[.agg #[.int .i64 N, .slice A1 n1 c1, .slice A2 n2 c2]] w (RetCn w ex N q1 q2 τ) := by
  have HX := Lib.hid hx
  have HY := Lib.hid hy
  have HO := Lib.hid hok
  have HR := Lib.hid hres
  clear hx hy hok hres
  have hst := fun (w : World) (a : Addr) (f : Fn) (ts cs : Array Value) => run_store Tryz.prog w a (.func f ts cs) .plain rfl
  go_enter Tryz.func18, Tryz.ntmps18
  go_wp2_with fail
  obtain ⟨exG, hexG⟩ : ∃ exG, exG = [w.heap.size, w.heap.size + 1, w.heap.size + 2, w.heap.size + 3, w.heap.size + 4, w.heap.size + 5, w.heap.size + 6, w.heap.size + 7] ++ ex := ⟨_, rfl⟩
  have hin : ∀ x, w.heap.size ≤ x → x < w.heap.size + 8 → x ∈ exG := by intro x h1 h2; rw [hexG]; apply List.mem_append_left; simp; omega
  have hlx : ∀ x ∈ exG, x < w.heap.size + 8 := by
    intro x h; rw [hexG] at h
    rcases List.mem_append.1 h with h | h
    · simp at h; omega
    · have := hex x h; omega
  have hgx : ∀ b ∈ ex, b ∈ exG := by intro b hb; rw [hexG]; exact List.mem_append_right _ hb
  have hfr : ∀ {W : World}, Below w.heap.size w W → Kr w ex W exG := by
    intro W h; rw [hexG]; exact Kr.fresh h (by intro x hx; simp at hx; omega)
  refine wp_abs_calls (fun W => Below w.heap.size w W ∧ CSt w.heap.size exG N A1 n1 c1 l1 A2 n2 c2 l2 none id8 W ∧ Cells8 W (w.heap.size + 2) [0, 0, 0, 0, 0, 0, 0, 0] ∧
      W.cell? ⟨w.heap.size + 1, 0, none⟩ = some (.int .i64 0) ∧ W.cell? ⟨w.heap.size + 1, 1, none⟩ = some (.slice none 0 0) ∧ W.cell? ⟨w.heap.size + 1, 2, none⟩ = some (.slice none 0 0) ∧ W.frozen? ⟨w.heap.size + 1, 0, none⟩ = false ∧ W.frozen? ⟨w.heap.size + 1, 1, none⟩ = false ∧ W.frozen? ⟨w.heap.size + 1, 2, none⟩ = false) ⟨(by repeat first | with_reducible exact .refl .. | with_reducible assumption | refine .s ?_ ?_ | refine .m ?_ ?_ | refine .l ?_ ?_ | refine .d ?_ | refine .e ?_ | (simp <;> omega) | omega), ⟨by simp, HX.out.mono (hfr (by repeat first | with_reducible exact .refl .. | with_reducible assumption | refine .s ?_ ?_ | refine .m ?_ ?_ | refine .l ?_ ?_ | refine .d ?_ | refine .e ?_ | (simp <;> omega) | omega)), HY.out.mono (hfr (by repeat first | with_reducible exact .refl .. | with_reducible assumption | refine .s ?_ ?_ | refine .m ?_ ?_ | refine .l ?_ ?_ | refine .d ?_ | refine .e ?_ | (simp <;> omega) | omega)), by simp [go_sem, ↓IntWalk.iteOmega], by simp [go_sem, ↓IntWalk.iteOmega], by simp [go_sem, ↓IntWalk.iteOmega], ?_, ⟨0, none, 0, 0, none, 0, 0, by simp [go_sem, ↓IntWalk.iteOmega], by simp [go_sem, ↓IntWalk.iteOmega], by simp [go_sem, ↓IntWalk.iteOmega], fun _ _ _ h => by cases h⟩, ?_, ⟨[0, 0, 0, 0, 0, 0, 0, 0], rfl, ?_, fun _ _ _ h => by cases h⟩, by simp [go_sem, ↓IntWalk.iteOmega, canStr], by simp [go_sem, ↓IntWalk.iteOmega], by simp [go_sem, ↓IntWalk.iteOmega, canCaps]⟩, ?_, by simp [go_sem, ↓IntWalk.iteOmega], by simp [go_sem, ↓IntWalk.iteOmega], by simp [go_sem, ↓IntWalk.iteOmega], by simp [go_sem, ↓IntWalk.iteOmega], by simp [go_sem, ↓IntWalk.iteOmega], by simp [go_sem, ↓IntWalk.iteOmega]⟩ ?_
  · intro j hj
    obtain rfl | rfl | rfl | rfl | rfl | rfl | rfl | rfl : j = 0 ∨ j = 1 ∨ j = 2 ∨ j = 3 ∨ j = 4 ∨ j = 5 ∨ j = 6 ∨ j = 7 := by omega
    all_goals exact ⟨by simp [go_sem, ↓IntWalk.iteOmega]; rfl, by simp [go_sem, ↓IntWalk.iteOmega]⟩
  · intro j hj
    obtain rfl | rfl | rfl : j = 0 ∨ j = 1 ∨ j = 2 := by omega
    all_goals simp [go_sem, ↓IntWalk.iteOmega]
  · intro j hj
    obtain rfl | rfl | rfl | rfl | rfl | rfl | rfl | rfl : j = 0 ∨ j = 1 ∨ j = 2 ∨ j = 3 ∨ j = 4 ∨ j = 5 ∨ j = 6 ∨ j = 7 := by omega
    all_goals exact ⟨by simp [go_sem, ↓IntWalk.iteOmega], by simp [go_sem, ↓IntWalk.iteOmega]⟩
  · intro j hj
    obtain rfl | rfl | rfl | rfl | rfl | rfl | rfl | rfl : j = 0 ∨ j = 1 ∨ j = 2 ∨ j = 3 ∨ j = 4 ∨ j = 5 ∨ j = 6 ∨ j = 7 := by omega
    all_goals exact ⟨by simp [go_sem, ↓IntWalk.iteOmega], by simp [go_sem, ↓IntWalk.iteOmega]⟩
  rintro W1 ⟨hB1, hcs, hat, z0, z1, z2, f0, f1, f2⟩
  have hsz1 := hcs.sz
  have HCS := Lib.hid hcs
  have hR : (enumP N N 0 id8).foldl (canStep N l1 l2) none = some (q1, q2, τ) := HR.out
  have hc := canon1_ok w.heap.size exG N A1 n1 c1 l1 A2 n2 c2 l2 hN1 hN4 M hM hM2 HO.out hin N 0 W1 none id8 (by omega) hcs id8_perm (id8_fix N) (fun x hx => by have := hlx x hx; omega)
  rw [hR] at hc
  refine Calls.mono hc ?_
  rintro e w2 ⟨rfl, st2, hb2, hk2⟩
  obtain ⟨z, A, n, c, A', n', c', e0, e1, e2, e3⟩ := st2.best
  obtain ⟨hz, r1, r2⟩ := e3 q1 q2 τ rfl
  subst hz
  obtain ⟨l, a1, a2, a3⟩ := st2.at_
  obtain rfl := a3 q1 q2 τ rfl
  obtain ⟨t0, t1, t2, t3, t4, t5, t6, t7, ht⟩ := list8 a1
  rw [ht] at a2
  have g0 : w2.cell? ⟨w.heap.size + 5, 0, none⟩ = some (.int .i64 t0) := (a2 0 (by omega)).1
  have g1 : w2.cell? ⟨w.heap.size + 5, 1, none⟩ = some (.int .i64 t1) := (a2 1 (by omega)).1
  have g2 : w2.cell? ⟨w.heap.size + 5, 2, none⟩ = some (.int .i64 t2) := (a2 2 (by omega)).1
  have g3 : w2.cell? ⟨w.heap.size + 5, 3, none⟩ = some (.int .i64 t3) := (a2 3 (by omega)).1
  have g4 : w2.cell? ⟨w.heap.size + 5, 4, none⟩ = some (.int .i64 t4) := (a2 4 (by omega)).1
  have g5 : w2.cell? ⟨w.heap.size + 5, 5, none⟩ = some (.int .i64 t5) := (a2 5 (by omega)).1
  have g6 : w2.cell? ⟨w.heap.size + 5, 6, none⟩ = some (.int .i64 t6) := (a2 6 (by omega)).1
  have g7 : w2.cell? ⟨w.heap.size + 5, 7, none⟩ = some (.int .i64 t7) := (a2 7 (by omega)).1
  have HT := Lib.hid ht
  have hq : ∀ o, w2.cell? ⟨w.heap.size + 1, o, none⟩ = W1.cell? ⟨w.heap.size + 1, o, none⟩ := fun o => hk2.cell (by omega) (by simp) o
  have hqf : ∀ o, w2.frozen? ⟨w.heap.size + 1, o, none⟩ = W1.frozen? ⟨w.heap.size + 1, o, none⟩ := fun o => hk2.froz (by omega) (by simp) o
  have y0 := (hq 0).trans z0
  have y1 := (hq 1).trans z1
  have y2 := (hq 2).trans z2
  have v0 := (hqf 0).trans f0
  have v1 := (hqf 1).trans f1
  have v2 := (hqf 2).trans f2
  have hb8 : ∀ j, j < 8 → w2.cell? ⟨w.heap.size + 2, j, none⟩ = some (.int .i64 (([0, 0, 0, 0, 0, 0, 0, 0] : List Int).getD j 0)) ∧ w2.frozen? ⟨w.heap.size + 2, j, none⟩ = false := fun j hj =>
    ⟨(hk2.cell (by omega) (by simp) j).trans (hat j hj).1, (hk2.froz (by omega) (by simp) j).trans (hat j hj).2⟩
  have x0 : w2.cell? ⟨w.heap.size + 2, 0, none⟩ = some (.int .i64 0) := (hb8 0 (by omega)).1
  have u0 := (hb8 0 (by omega)).2
  have x1 : w2.cell? ⟨w.heap.size + 2, 1, none⟩ = some (.int .i64 0) := (hb8 1 (by omega)).1
  have u1 := (hb8 1 (by omega)).2
  have x2 : w2.cell? ⟨w.heap.size + 2, 2, none⟩ = some (.int .i64 0) := (hb8 2 (by omega)).1
  have u2 := (hb8 2 (by omega)).2
  have x3 : w2.cell? ⟨w.heap.size + 2, 3, none⟩ = some (.int .i64 0) := (hb8 3 (by omega)).1
  have u3 := (hb8 3 (by omega)).2
  have x4 : w2.cell? ⟨w.heap.size + 2, 4, none⟩ = some (.int .i64 0) := (hb8 4 (by omega)).1
  have u4 := (hb8 4 (by omega)).2
  have x5 : w2.cell? ⟨w.heap.size + 2, 5, none⟩ = some (.int .i64 0) := (hb8 5 (by omega)).1
  have u5 := (hb8 5 (by omega)).2
  have x6 : w2.cell? ⟨w.heap.size + 2, 6, none⟩ = some (.int .i64 0) := (hb8 6 (by omega)).1
  have u6 := (hb8 6 (by omega)).2
  have x7 : w2.cell? ⟨w.heap.size + 2, 7, none⟩ = some (.int .i64 0) := (hb8 7 (by omega)).1
  have u7 := (hb8 7 (by omega)).2
  have hbf : Below w.heap.size w w2 := hB1.trans hb2
  have HIn := Lib.hid hin
  have HGx := Lib.hid hgx
  have hs2 := st2.sz
  clear hq hqf hb8 z0 z1 z2 f0 f1 f2 hat hc hR hcs HCS st2 hb2 hk2 hfr hin hgx hlx hexG a1 a2 a3 e3 ht
  go_wp2_with fail
  go_region
  all_goals
    go_wp2_with fail
    refine bodyPost_ret (v := .tuple #[.agg #[.int .i64 N, .slice A n c, .slice A' n' c'], .agg #[.int .i64 t0, .int .i64 t1, .int .i64 t2, .int .i64 t3, .int .i64 t4, .int .i64 t5, .int .i64 t6, .int .i64 t7]]) (by simp [results, Tryz.results18, y0, y1, y2, x0, x1, x2, x3, x4, x5, x6, x7, go_sem, ↓IntWalk.iteOmega]) rfl ?_
    exact RetCn.mk rfl HT.out.symm (Below.drew (by repeat first | with_reducible exact .refl .. | with_reducible assumption | refine .s ?_ ?_ | refine .m ?_ ?_ | refine .l ?_ ?_ | refine .d ?_ | refine .e ?_ | (simp <;> omega) | omega)) (RL.fin r1 (Kr.drew (by repeat (first | (with_reducible exact Kr.refl _ _) | refine Kr.setCell ?_ _ (HIn.out _ (by first | (simp; done) | (simp; omega) | omega) (by first | (simp; done) | (simp; omega) | omega))))) HGx.out) (RL.fin r2 (Kr.drew (by repeat (first | (with_reducible exact Kr.refl _ _) | refine Kr.setCell ?_ _ (HIn.out _ (by first | (simp; done) | (simp; omega) | omega) (by first | (simp; done) | (simp; omega) | omega))))) HGx.out)

end Go.Proofs.YthhdleppkggepaaGreat

/-
  A set of strings: how it is read, and the laws at its operations; the walk of system.Valid without equations.
-/
namespace Go.Proofs.YthhdleppkggepaaGreat
open Go.RowKit Go.Deep
open Go.ChangeMaps (setBlock heap_setBlock_same heap_setBlock_other)
set_option maxRecDepth 100000

/-- Block b is the set of these strings. -/
def SetR (w : World) (b : Nat) (L : List ByteArray) : Prop :=
  ∃ (es : List MapEntry) (clock : Nat), w.heap[b]? = some (.map es.toArray clock) ∧ es.map (·.key) = L.map Value.string ∧ ∀ e ∈ es, e.val = .bool true
theorem SetR.made (w : World) : SetR (w.alloc (.map #[] 0)) w.heap.size [] := ⟨[], 0, (MapKept.heap_alloc w _).1, rfl, by simp⟩
theorem SetR.lt {w : World} {b : Nat} {L : List ByteArray} (h : SetR w b L) : b < w.heap.size := by
  obtain ⟨es, clock, hb, _⟩ := h
  exact (Array.getElem?_eq_some_iff.1 hb).1
theorem SetR.keep {w w' : World} {b : Nat} {L : List ByteArray} (h : SetR w b L) (k : Below w.heap.size w w') : SetR w' b L := by
  have hlt := h.lt
  obtain ⟨es, clock, hb, h2, h3⟩ := h
  exact ⟨es, clock, (k.block b hlt).trans hb, h2, h3⟩
theorem bytes_beq' (a b : ByteArray) : (a == b) = true ↔ a = b := MapKept.bytes_beq a b
noncomputable def inL (s : ByteArray) (L : List ByteArray) : Bool := @decide (s ∈ L) (Classical.propDecidable _)
theorem inL_true {s : ByteArray} {L : List ByteArray} (h : s ∈ L) : inL s L = true := by unfold inL; exact @decide_eq_true _ (Classical.propDecidable _) h
theorem inL_false {s : ByteArray} {L : List ByteArray} (h : s ∉ L) : inL s L = false := by unfold inL; exact @decide_eq_false _ (Classical.propDecidable _) h
theorem findNow_str (s : ByteArray) : ∀ (L : List ByteArray) (es : List MapEntry) (i : Nat), es.map (·.key) = L.map Value.string → (∀ e ∈ es, e.val = .bool true) →
    (s ∉ L → Instr.findNow .string (.string s) es i = some none) ∧ (s ∈ L → ∃ j, Instr.findNow .string (.string s) es i = some (some (j, .bool true)))
  | [], es, i, h, _ => by
    have : es = [] := by simpa using h
    subst this
    exact ⟨fun _ => rfl, fun h => by cases h⟩
  | x :: L, [], i, h, _ => by simp at h
  | x :: L, e :: es, i, h, hv => by
    simp only [List.map_cons, List.cons.injEq] at h
    have ih := findNow_str s L es (i + 1) h.2 (fun e he => hv e (List.mem_cons_of_mem _ he))
    have hk : Instr.sameNow .string (.string s) e.key = some (s == x) := by rw [h.1]; rfl
    by_cases hx : s = x
    · subst hx
      refine ⟨fun hn => absurd List.mem_cons_self hn, fun _ => ⟨i, ?_⟩⟩
      rw [Instr.findNow, hk, (bytes_beq' s s).2 rfl]
      simp [hv e List.mem_cons_self]
    · have hb : (s == x) = false := by
        cases hb : (s == x) with
        | false => rfl
        | true => exact absurd ((bytes_beq' s x).1 hb) hx
      rw [Instr.findNow, hk, hb]
      refine ⟨fun hn => ih.1 (fun hh => hn (List.mem_cons_of_mem _ hh)), fun hm => ih.2 ?_⟩
      rcases List.mem_cons.1 hm with e1 | e1
      · exact absurd e1 hx
      · exact e1
section
variable {w : World} {b : Nat} {L : List ByteArray} (h : SetR w b L) (s : ByteArray)
include h
theorem SetR.lookup : (Instr.lookup 120 (.map (some b)) (.string s) false).run Tryz.prog w = .ok (.bool (inL s L)) w := by
  obtain ⟨es, clock, hb, h2, h3⟩ := h
  have hz : ∀ w, (zeroValue 4).run Tryz.prog w = .ok (.bool false) w := fun w => by kernel_rfl
  have hf := findNow_str s L es 0 h2 h3
  have hck : ∀ em w, (Instr.checkKey em 10000 9 (.string s)).run Tryz.prog w = .ok () w := fun em w => by
    show (Instr.checkKey em (9999 + 1) 9 (.string s)).run _ _ = _
    unfold Instr.checkKey
    simp [Sem.run_bind, run_underlying Tryz.underlying9, go_sem]
  by_cases hm : s ∈ L
  · obtain ⟨j, hj⟩ := hf.2 hm
    simp [Instr.lookup, run_underlying Tryz.underlying120, MapKept.run_getObj_map hb, hck, Instr.findKey, run_underlying Tryz.underlying9, hj, Result.andThen, inL_true hm]
  · have hj := hf.1 hm
    simp [Instr.lookup, run_underlying Tryz.underlying120, MapKept.run_getObj_map hb, hck, Instr.findKey, run_underlying Tryz.underlying9, hj, Result.andThen, inL_false hm, hz]
theorem SetR.store (hn : s ∉ L) : ∃ w', (Instr.mapUpdate 120 (.map (some b)) (.string s) (.bool true)).run Tryz.prog w = .ok () w' ∧ SetR w' b (L ++ [s]) ∧ w.grownBy w' (some b) ∧ w'.heap.size = w.heap.size ∧ w'.drawn = w.drawn := by
  obtain ⟨es, clock, hb, h2, h3⟩ := h
  have hj := (findNow_str s L es 0 h2 h3).1 hn
  have hck : ∀ em w, (Instr.checkKey em 10000 9 (.string s)).run Tryz.prog w = .ok () w := fun em w => by
    show (Instr.checkKey em (9999 + 1) 9 (.string s)).run _ _ = _
    unfold Instr.checkKey
    simp [Sem.run_bind, run_underlying Tryz.underlying9, go_sem]
  let e : MapEntry := { key := .string s, val := .bool true, born := clock }
  have hrun : (Instr.mapUpdate 120 (.map (some b)) (.string s) (.bool true)).run Tryz.prog w = .ok () (setBlock w b (.map (es.toArray.push e) (clock + 1))) := by
    simp [Instr.mapUpdate, run_underlying Tryz.underlying120, MapKept.run_getObj_map hb, hck, Instr.findKey, run_underlying Tryz.underlying9, hj, MapKept.run_setObj_map _ hb, Result.andThen, setBlock, e]
  refine ⟨_, hrun, ⟨es ++ [e], clock + 1, by rw [heap_setBlock_same hb]; simp, by simp [h2, e], ?_⟩, ⟨rfl, rfl, rfl, by simp [setBlock], fun i _ hi => heap_setBlock_other hb _ (fun e => hi (by rw [e]))⟩, by simp [setBlock], rfl⟩
  intro x hx
  rcases List.mem_append.1 hx with hx | hx
  · exact h3 x hx
  · simp only [List.mem_singleton] at hx; subst hx; rfl
end
section
variable (w : World) {ops : Array Oper} {rest : List Oper} {o : Oper} {a : Act} {Q : Exit → Act → World → Prop}
theorem wpList_set_store (hg : o.guard = none) (m x v : Operand) (hop : o.op = Op.mapUpdate 120 m x v) {b : Nat} {L : List ByteArray} (hm : a.eval m = .map (some b)) (hown : SetR w b L) {s : ByteArray} (hx : a.eval x = .string s) (hn : s ∉ L) (hv : a.eval v = .bool true)
    (hK : ∀ w', SetR w' b (L ++ [s]) → w.grownBy w' (some b) → w'.heap.size = w.heap.size → w'.drawn = w.drawn → wpList Tryz.prog ops Q rest (a.put o.dst undef) w') :
    wpList Tryz.prog ops Q (o :: rest) a w := by
  refine wpList_plain hg fun K' hK' => ?_
  obtain ⟨w', hrun, r1, r2, r3, r4⟩ := hown.store s hn
  unfold Oper.wp
  simp [execOp, hop, hm, hx, hv, hrun, Result.andThen]
  exact hK' _ _ (hK w' r1 r2 r3 r4)
end

/-- Names, no two of them equal. -/
def VarsP (l : List ByteArray) : Prop := (∀ s ∈ l, nameB s = true) ∧ l.Nodup
noncomputable def varsB (l : List ByteArray) : Bool := @decide (VarsP l) (Classical.propDecidable _)
theorem varsB_true {l : List ByteArray} (h : VarsP l) : varsB l = true := by unfold varsB; exact @decide_eq_true _ (Classical.propDecidable _) h
theorem varsB_false {l : List ByteArray} (h : ¬ VarsP l) : varsB l = false := by unfold varsB; exact @decide_eq_false _ (Classical.propDecidable _) h

set_option maxHeartbeats 400000 in
theorem valid_zero (w : World) : Calls Tryz.prog 28 #[.agg #[.slice none 0 0, .slice none 0 0, .slice none 0 0, .int .i64 0]] w (RetB w false) := by
  go_enter Tryz.func28, Tryz.ntmps28
  go_wp2_with fail
  go_ret
  exact RetB.mk rfl (by repeat first | with_reducible exact .refl .. | with_reducible assumption | refine .s ?_ ?_ | refine .m ?_ ?_ | refine .l ?_ ?_ | refine .d ?_ | refine .e ?_ | (simp <;> omega) | omega)

set_option maxHeartbeats 800000 in
theorem valid_vars (w : World) (ex : List Nat) (A : Option Addr) (n c : Nat) (l : List ByteArray) (hn : n = l.length) (hcap : n ≤ c) (h4 : n ≤ 4) (hl : ∀ s ∈ l, s.size ≤ 1000000) (hrow : Row w ex A (l.map Value.string)) :
    Calls Tryz.prog 28 #[.agg #[.slice A n c, .slice none 0 0, .slice none 0 0, .int .i64 1]] w (RetB w (varsB l)) := by
  have HN := Lib.hid hn
  have HL := Lib.hid hl
  have HRow := Lib.hid hrow
  have hmm := fun t w => run_makeMap (P := Tryz.prog) t w
  have h4' : ¬ (4 : Int) < (n : Int) := by omega
  clear hn hl hrow
  go_enter Tryz.func28, Tryz.ntmps28
  go_wp2_with fail
  obtain ⟨W0, hW0⟩ : ∃ W0, W0 = ((w.alloc (.cells #[.slice A n c, .slice none 0 0, .slice none 0 0, .int .i64 1] 42)).alloc (.map #[] 0)) := ⟨_, rfl⟩
  have hb0 : Below (w.heap.size + 1) (w.alloc (.cells #[.slice A n c, .slice none 0 0, .slice none 0 0, .int .i64 1] 42)) W0 := by rw [hW0]; exact (by repeat first | with_reducible exact .refl .. | with_reducible assumption | refine .s ?_ ?_ | refine .m ?_ ?_ | refine .l ?_ ?_ | refine .d ?_ | refine .e ?_ | (simp <;> omega) | omega)
  have hbw0 : Below w.heap.size w W0 := by rw [hW0]; exact (by repeat first | with_reducible exact .refl .. | with_reducible assumption | refine .s ?_ ?_ | refine .m ?_ ?_ | refine .l ?_ ?_ | refine .d ?_ | refine .e ?_ | (simp <;> omega) | omega)
  have hset0 : SetR W0 (w.heap.size + 1) [] := by
    rw [hW0]
    have := SetR.made (w.alloc (.cells #[.slice A n c, .slice none 0 0, .slice none 0 0, .int .i64 1] 42))
    rwa [World.size_alloc] at this
  have s0 : W0.cell? ⟨w.heap.size, 1, none⟩ = some (.slice none 0 0) := by rw [hW0]; simp [go_sem, ↓IntWalk.iteOmega]
  have s1 : W0.cell? ⟨w.heap.size, 2, none⟩ = some (.slice none 0 0) := by rw [hW0]; simp [go_sem, ↓IntWalk.iteOmega]
  have hsz0 : W0.heap.size = w.heap.size + 2 := by rw [hW0]; simp
  rw [← hW0]
  clear hW0
  go_loopw [29] (fun v wr => ∃ k : Nat, k ≤ n ∧ v = .int .i64 k ∧ SetR wr (w.heap.size + 1) (l.take k) ∧ Below (w.heap.size + 1) W0 wr ∧ (∀ s ∈ l.take k, nameB s = true) ∧ (l.take k).Nodup) (fun v _ => n - (intOf v).toNat)
  case atStart => exact ⟨0, Nat.zero_le _, rfl, hset0, Below.refl _ _, by simp, by simp⟩
  case round =>
    obtain ⟨k, hk, rfl, hset, hb, hall, hnd⟩ := hrel
    have hsz := hb.size
    have hbww := hbw0.trans (hb.mono (by omega))
    by_cases hlt : k < n
    · have hkl : k < l.length := by rw [← HN.out]; exact hlt
      have hlt' : (k : Int) < (n : Int) := by omega
      have hr := HRow.out.mono (Kr.of_below hbww ex)
      obtain ⟨b, o, rfl, hbx, hcell⟩ := hr (by intro e; rw [List.map_eq_nil_iff] at e; rw [e] at hkl; simp at hkl)
      have hck := hcell k _ (by rw [List.getElem?_map, List.getElem?_eq_getElem hkl]; rfl)
      obtain ⟨s, hs⟩ : ∃ s, l[k] = s := ⟨_, rfl⟩
      have hsl := HL.out _ (List.getElem_mem hkl)
      have HT : Hid (l.take (k + 1) = l.take k ++ [s]) := Lib.hid (by rw [List.take_succ_eq_append_getElem hkl, hs])
      have HMem : Hid (s ∈ l) := Lib.hid (by rw [← hs]; exact List.getElem_mem hkl)
      rw [hs] at hck hsl
      have HS := Lib.hid hset
      have HAll := Lib.hid hall
      have HNd := Lib.hid hnd
      have hpre : ∀ x ∈ l.take k, x ∈ l := fun x hx => List.mem_of_mem_take hx
      have HDup : Hid (s ∈ l.take k → ¬ l.Nodup) := Lib.hid (fun h1 h2 => by
        have := nodup_notin h2 hkl
        rw [hs] at this; exact this h1)
      clear hset hall hnd hr hcell hs
      go_wp2_with fail
      refine (name_ok _ s hsl).mono ?_; rintro e w1 ⟨X, D, rfl, rfl⟩
      cases hnb : nameB s with
      | false =>
        have HB : Hid (varsB l = false) := Lib.hid (varsB_false fun h => by have := h.1 s HMem.out; rw [hnb] at this; cases this)
        go_wp2_with fail
        go_ret
        rw [HB.out]
        exact RetB.mk rfl (by repeat first | with_reducible exact .refl .. | with_reducible assumption | refine .s ?_ ?_ | refine .m ?_ ?_ | refine .l ?_ ?_ | refine .d ?_ | refine .e ?_ | (simp <;> omega) | omega)
      | true =>
        have hlk := (HS.out.keep (World.below_more _ X D)).lookup s
        cases hin : inL s (l.take k) with
        | true =>
          have HB : Hid (varsB l = false) := Lib.hid (varsB_false fun h => HDup.out (by unfold inL at hin; exact @of_decide_eq_true _ (Classical.propDecidable _) hin) h.2)
          rw [hin] at hlk
          go_wp2_with fail
          go_ret
          rw [HB.out]
          exact RetB.mk rfl (by repeat first | with_reducible exact .refl .. | with_reducible assumption | refine .s ?_ ?_ | refine .m ?_ ?_ | refine .l ?_ ?_ | refine .d ?_ | refine .e ?_ | (simp <;> omega) | omega)
        | false =>
          have hnin : s ∉ l.take k := fun h => by rw [inL_true h] at hin; cases hin
          rw [hin] at hlk
          go_wp2_with (first | (at_mapUpdate; refine wpList_set_store _ rfl _ _ _ rfl rfl (HS.out.keep (World.below_more _ X D)) rfl hnin rfl ?_; intro w1 hs1 hg1 hsz1 hd1) | fail)
          go_roundw
          case rel =>
            refine ⟨k + 1, by omega, by go_num, by rw [HT.out]; exact hs1, ?_, ?_, ?_⟩
            · exact (Below.more hb (by omega) X D).turned hg1 (by rw [hd1]; exact Nat.le_refl _) (by simp; omega) (Nat.le_refl _)
            · rw [HT.out]; intro x hx
              rcases List.mem_append.1 hx with hx | hx
              · exact HAll.out x hx
              · simp only [List.mem_singleton] at hx; subst hx; exact hnb
            · rw [HT.out, List.nodup_append]
              exact ⟨HNd.out, by simp, fun x hx y hy e => by simp only [List.mem_singleton] at hy; subst hy; subst e; exact hnin hx⟩
          case measure => simp [intOf]; omega
    · obtain rfl : k = n := by omega
      rw [List.take_of_length_le (by rw [← HN.out]; exact Nat.le_refl _)] at hall hnd
      have HB : Hid (varsB l = true) := Lib.hid (varsB_true ⟨hall, hnd⟩)
      have t0 := (hb.at0 (show w.heap.size < w.heap.size + 1 by omega) 1).trans s0
      have t1 := (hb.at0 (show w.heap.size < w.heap.size + 1 by omega) 2).trans s1
      clear hset hall hnd
      go_wp2_with fail
      obtain ⟨W2, hW2⟩ : ∃ W2, W2 = ((wr.alloc (.map #[] 0)).alloc (.cells #[.slice none 0 0, .slice none 0 0] 40)) := ⟨_, rfl⟩
      have y0 : W2.cell? ⟨wr.heap.size + 1, 0, none⟩ = some (.slice none 0 0) := by rw [hW2]; simp [go_sem, ↓IntWalk.iteOmega]
      have y1 : W2.cell? ⟨wr.heap.size + 1, 1, none⟩ = some (.slice none 0 0) := by rw [hW2]; simp [go_sem, ↓IntWalk.iteOmega]
      have hb2 : Below w.heap.size w W2 := by rw [hW2]; exact (by repeat first | with_reducible exact .refl .. | with_reducible assumption | refine .s ?_ ?_ | refine .m ?_ ?_ | refine .l ?_ ?_ | refine .d ?_ | refine .e ?_ | (simp <;> omega) | omega)
      rw [← hW2]
      clear hW2
      go_loopw [51] (fun v w' => ∃ j : Nat, j ≤ 2 ∧ v = .int .i64 j ∧ w' = W2) (fun v _ => 2 - (intOf v).toNat)
      case atStart => exact ⟨0, by omega, rfl, rfl⟩
      case round =>
        obtain ⟨j, hj, rfl, rfl⟩ := hrel
        obtain rfl | rfl | rfl : j = 0 ∨ j = 1 ∨ j = 2 := by omega
        · go_wp2_with fail
          go_loopw [60] (fun v w' => v = .int .i64 0 ∧ w' = wr) (fun _ _ => 0)
          case atStart => exact ⟨rfl, rfl⟩
          case round =>
            obtain ⟨rfl, rfl⟩ := hrel
            go_wp2_with fail
            go_roundw
            case rel => exact ⟨1, by omega, rfl, by trivial⟩
            case measure => simp [intOf]
        · go_wp2_with fail
          go_loopw [60] (fun v w' => v = .int .i64 0 ∧ w' = wr) (fun _ _ => 0)
          case atStart => exact ⟨rfl, rfl⟩
          case round =>
            obtain ⟨rfl, rfl⟩ := hrel
            go_wp2_with fail
            go_roundw
            case rel => exact ⟨2, by omega, rfl, by trivial⟩
            case measure => simp [intOf]
        · go_wp2_with fail
          go_ret
          rw [HB.out]
          exact RetB.mk rfl hb2

end Go.Proofs.YthhdleppkggepaaGreat

/-
  The walks of the reference of package rational: products.
-/
namespace Go.Proofs.YthhdleppkggepaaGreat
open Go.RowKit Go.Deep
set_option maxRecDepth 100000

set_option maxHeartbeats 1000000 in
theorem r2mul_ok (w : World) (ex : List Nat) (s1 : Bool) (A1 : Option Addr) (n1 c1 : Nat) (s2 : Bool) (A2 : Option Addr) (n2 c2 : Nat) (a : Rat) (s3 : Bool) (A3 : Option Addr) (n3 c3 : Nat) (s4 : Bool) (A4 : Option Addr) (n4 c4 : Nat) (b : Rat)
    (hx : RQ w ex s1 A1 n1 c1 s2 A2 n2 c2 a) (hy : RQ w ex s3 A3 n3 c3 s4 A4 n4 c4 b) (ha : Few a) (hb : Few b) (hw : Wee (a.den * b.den)) (hex : ∀ b ∈ ex, b < w.heap.size) :
    Calls Tryz.prog 68 #[.agg #[.bool s1, .slice A1 n1 c1, .bool s2, .slice A2 n2 c2], .agg #[.bool s3, .slice A3 n3 c3, .bool s4, .slice A4 n4 c4]] w (RetQ w ex (a * b)) := by
  have hn1 : n1 ≤ 400000 := by rw [hx.num.len]; exact ha.1
  have hn2 : n2 ≤ 400000 := by rw [hx.den.len]; exact ha.2
  have hn3 : n3 ≤ 400000 := by rw [hy.num.len]; exact hb.1
  have hn4 : n4 ≤ 400000 := by rw [hy.den.len]; exact hb.2
  have HN : Hid (∀ m, m = wl (a.num * b.num) → m ≤ 1000000) := by
    rintro m rfl; have := wl_mul a.num b.num; have := ha.1; have := hb.1; omega
  have HD : Hid (∀ m, m = wl ((a.den : Int) * b.den) → m ≤ 1000000) := by
    rintro m rfl; have := wl_mul (a.den : Int) b.den; have := ha.2; have := hb.2; omega
  have hw' : Wee ((a.den : Int) * (b.den : Int)).natAbs := by rw [Int.natAbs_mul, Int.natAbs_natCast, Int.natAbs_natCast]; exact hw
  go_enter Tryz.func68, Tryz.ntmps68
  go_wp2_with fail
  go_region_held3 (fun w' => w'.cell? ⟨w.heap.size, 0, none⟩ = some (.bool s1) ∧ w'.cell? ⟨w.heap.size, 1, none⟩ = some (.slice A1 n1 c1) ∧ w'.cell? ⟨w.heap.size, 2, none⟩ = some (.bool s2) ∧ w'.cell? ⟨w.heap.size, 3, none⟩ = some (.slice A2 n2 c2) ∧ w'.cell? ⟨w.heap.size + 1, 0, none⟩ = some (.bool s3) ∧ w'.cell? ⟨w.heap.size + 1, 1, none⟩ = some (.slice A3 n3 c3) ∧ w'.cell? ⟨w.heap.size + 1, 2, none⟩ = some (.bool s4) ∧ w'.cell? ⟨w.heap.size + 1, 3, none⟩ = some (.slice A4 n4 c4) ∧ w'.cell? ⟨w.heap.size + 2, 0, none⟩ = some (World.got w' (w.heap.size + 2) (0)) ∧ w'.cell? ⟨w.heap.size + 2, 1, none⟩ = some (World.got w' (w.heap.size + 2) (1)) ∧ w'.cell? ⟨w.heap.size + 2, 2, none⟩ = some (World.got w' (w.heap.size + 2) (2)) ∧ w'.cell? ⟨w.heap.size + 2, 3, none⟩ = some (World.got w' (w.heap.size + 2) (3)) ∧ w'.frozen? ⟨w.heap.size + 2, 0, none⟩ = false ∧ w'.frozen? ⟨w.heap.size + 2, 1, none⟩ = false ∧ w'.frozen? ⟨w.heap.size + 2, 2, none⟩ = false ∧ w'.frozen? ⟨w.heap.size + 2, 3, none⟩ = false)
    ((repeat' apply And.intro) <;> first | (simp [*, go_sem, ↓IntWalk.iteOmega]; done) | (refine got_of ?_; simp [*, go_sem, ↓IntWalk.iteOmega]; done))
    (first | (go_at_call 64; have hgo := Lib.hid hN; refine (r1imul_ok _ ([w.heap.size + 2] ++ ex) _ _ _ _ _ _ _ _ _ _ (hx.den.mono (Kr.fresh (l := [w.heap.size + 2]) (by repeat first | with_reducible exact .refl .. | with_reducible assumption | refine .s ?_ ?_ | refine .m ?_ ?_ | refine .l ?_ ?_ | refine .d ?_ | refine .e ?_ | (simp <;> omega) | omega) (by simp))) (hy.den.mono (Kr.fresh (l := [w.heap.size + 2]) (by repeat first | with_reducible exact .refl .. | with_reducible assumption | refine .s ?_ ?_ | refine .m ?_ ?_ | refine .l ?_ ?_ | refine .d ?_ | refine .e ?_ | (simp <;> omega) | omega) (by simp))) (by omega) (by omega) (hexs hex (by first | (simp; done) | (simp; omega) | omega) (by first | (simp; done) | (simp; omega) | omega))).mono ?_; rintro e w' ⟨sd, Ad, md, cd, XD, DD, rfl, rfl, hD⟩) | (go_at_call 64; refine (r1imul_ok _ ([w.heap.size + 2] ++ ex) _ _ _ _ _ _ _ _ _ _ (hx.num.mono (Kr.fresh (l := [w.heap.size + 2]) (by repeat first | with_reducible exact .refl .. | with_reducible assumption | refine .s ?_ ?_ | refine .m ?_ ?_ | refine .l ?_ ?_ | refine .d ?_ | refine .e ?_ | (simp <;> omega) | omega) (by simp))) (hy.num.mono (Kr.fresh (l := [w.heap.size + 2]) (by repeat first | with_reducible exact .refl .. | with_reducible assumption | refine .s ?_ ?_ | refine .m ?_ ?_ | refine .l ?_ ?_ | refine .d ?_ | refine .e ?_ | (simp <;> omega) | omega) (by simp))) (by omega) (by omega) (hexs hex (by first | (simp; done) | (simp; omega) | omega) (by first | (simp; done) | (simp; omega) | omega))).mono ?_; rintro e w' ⟨sn, An, mn, cn, XN, DN, rfl, rfl, hN⟩) | (go_at_call 65; refine (r2lowest_ok _ ([w.heap.size + 2] ++ ex) _ _ _ _ _ _ _ _ _ _ (hN.mono (by repeat (first | (with_reducible exact Kr.refl _ _) | (with_reducible assumption) | refine Kr.setCell ?_ _ (by simp) | refine Kr.more ?_ _ _ | refine Kr.alloc_ ?_ _ | refine Kr.drew ?_ | refine Kr.drewN ?_ _))) (hD.mono (by repeat (first | (with_reducible exact Kr.refl _ _) | (with_reducible assumption) | refine Kr.setCell ?_ _ (by simp) | refine Kr.more ?_ _ _ | refine Kr.alloc_ ?_ _ | refine Kr.drew ?_ | refine Kr.drewN ?_ _))) (den_mul_ne a b) hw' (HN.out _ hN.len) (HD.out _ hD.len) (hexs hex (by first | (simp; done) | (simp; omega) | omega) (by first | (simp; done) | (simp; omega) | omega))).mono ?_; rintro e w' ⟨t1, B1, m1, d1, t2, B2, m2, d2, X3, D3, rfl, rfl, h3⟩))
  all_goals
    go_wp2_with fail
    refine bodyPost_ret (v := .agg #[.bool t1, .slice B1 m1 d1, .bool t2, .slice B2 m2 d2]) (by simp [results, Tryz.results68, go_sem, ↓IntWalk.iteOmega]) rfl (RetQ.mk rfl (by repeat first | with_reducible exact .refl .. | with_reducible assumption | refine .s ?_ ?_ | refine .m ?_ ?_ | refine .l ?_ ?_ | refine .d ?_ | refine .e ?_ | (simp <;> omega) | omega) ?_ ?_)
    · rw [← rat_mul_law]; exact h3.num.mono (Kr.down (by repeat (first | (with_reducible exact Kr.refl _ _) | (with_reducible assumption) | refine Kr.setCell ?_ _ (by simp) | refine Kr.more ?_ _ _ | refine Kr.alloc_ ?_ _ | refine Kr.drew ?_ | refine Kr.drewN ?_ _)) (by first | (intro b hb; simp [hb]; done) | (intro b hb; exact hb) | (intro b hb; simp at hb ⊢; grind)))
    · rw [← rat_mul_law]; exact h3.den.mono (Kr.down (by repeat (first | (with_reducible exact Kr.refl _ _) | (with_reducible assumption) | refine Kr.setCell ?_ _ (by simp) | refine Kr.more ?_ _ _ | refine Kr.alloc_ ?_ _ | refine Kr.drew ?_ | refine Kr.drewN ?_ _)) (by first | (intro b hb; simp [hb]; done) | (intro b hb; exact hb) | (intro b hb; simp at hb ⊢; grind)))


end Go.Proofs.YthhdleppkggepaaGreat
