/-
  The walks of slices.IndexFunc, slices.ContainsFunc over polynomials; the closure of system.Normal.
-/
import Derived.Test.YthhdleppkggepaaGreatSn16
import Derived.Test.YthhdleppkggepaaGreatSn19

set_option linter.unusedSimpArgs false
set_option linter.unusedVariables false
set_option linter.unusedSectionVars false

namespace Go.Proofs.YthhdleppkggepaaGreat
open Go.RowKit Go.Deep
set_option maxRecDepth 100000

def idxOf (l : List (List (Rat × List Int))) (f : List (Rat × List Int) → Bool) : Int := match l.findIdx? f with | some i => (i : Int) | none => -1
theorem idxOf_found {l : List (List (Rat × List Int))} {f : List (Rat × List Int) → Bool} {k : Nat} (hk : k < l.length) (h : f l[k] = true) (hb : ∀ j (hj : j < l.length), j < k → f l[j] = false) : idxOf l f = k := by
  unfold idxOf
  have : l.findIdx? f = some k := by
    rw [List.findIdx?_eq_some_iff_getElem]
    exact ⟨hk, h, fun j hj => by rw [hb j (by omega) hj]; simp⟩
  rw [this]
theorem idxOf_none {l : List (List (Rat × List Int))} {f : List (Rat × List Int) → Bool} (hb : ∀ j (hj : j < l.length), j < l.length → f l[j] = false) : idxOf l f = -1 := by
  unfold idxOf
  have : l.findIdx? f = none := by
    rw [List.findIdx?_eq_none_iff]
    intro x hx
    obtain ⟨j, hj, rfl⟩ := List.getElem_of_mem hx
    exact hb j hj hj
  rw [this]
theorem idxOf_any (l : List (List (Rat × List Int))) (f : List (Rat × List Int) → Bool) : decide (0 ≤ idxOf l f) = l.any f := by
  unfold idxOf
  rw [Bool.eq_iff_iff, decide_eq_true_eq, List.any_eq_true]
  cases h : l.findIdx? f with
  | none =>
    rw [List.findIdx?_eq_none_iff] at h
    constructor
    · intro h2; simp at h2
    · rintro ⟨x, hx, hf⟩; rw [h x hx] at hf; cases hf
  | some i =>
    rw [List.findIdx?_eq_some_iff_getElem] at h
    obtain ⟨hi, h1, _⟩ := h
    exact ⟨fun _ => ⟨_, List.getElem_mem hi, h1⟩, fun _ => by simp⟩

/-- What is asked of a closure that tells polynomials apart. -/
def Tells (g : Nat) (cb : Array Value) (w : World) (ex : List Nat) (l : List (List (Rat × List Int))) (f : List (Rat × List Int) → Bool) : Prop :=
  ∀ w', Below w.heap.size w w' → ∀ (A : Option Addr) (m c : Nat) (p : List (Rat × List Int)), p ∈ l → RP w' ex A m c p → Calls Tryz.prog g (#[.slice A m c] ++ cb) w' (RetV w' (.bool (f p)))

set_option maxHeartbeats 2000000 in
theorem indexP_ok (w : World) (ex : List Nat) (A : Option Addr) (n c : Nat) (l : List (List (Rat × List Int))) (g : Nat) (cb : Array Value) (f : List (Rat × List Int) → Bool)
    (eg : ∀ args w, (callFunc g args).run Tryz.prog w = .ok (.enter g args) w) (hx : RL poE w ex A n c l) (hf : Tells g cb w ex l f) (hn : n ≤ 1000000000) :
    Calls Tryz.prog 90 #[.slice A n c, .func (Fn.func g) #[] cb] w (RetV w (.int .i64 (idxOf l f))) := by
  have HL := Lib.hid hx.len
  have hcap := hx.cap
  have HF := Lib.hid hf
  have HX := Lib.hid hx
  clear hf hx
  go_enter Tryz.func90, Tryz.ntmps90
  go_wp2_with fail
  go_loopw [5, 8] (fun _ i wr => ∃ k : Nat, k ≤ n ∧ i = .int .i64 k ∧ Hid (∀ j (hj : j < l.length), j < k → f l[j] = false) ∧ Below w.heap.size w wr) (fun _ i _ => n - (intOf i).toNat)
  case atStart => exact ⟨0, Nat.zero_le _, rfl, fun j _ h => by omega, Below.refl _ _⟩
  case round =>
    obtain ⟨k, hk, rfl, HB, hb⟩ := hrel
    by_cases hlt : k < n
    · have hkl : k < l.length := by have := HL.out; omega
      have hxw := HX.out.mono (Kr.of_below hb ex)
      obtain ⟨b, o, rfl, _, _⟩ := hxw.some_ (by omega)
      obtain ⟨A1, m1, c1, hcell, hp⟩ := hxw.poly hkl
      have hcall := HF.out wr hb A1 m1 c1 _ (List.getElem_mem hkl) hp
      clear hp hxw
      obtain ⟨v, hv⟩ : ∃ v, f l[k] = v := ⟨_, rfl⟩
      have HV := Lib.hid hv
      rw [hv] at hcall
      clear hv
      have hi1 : (k : Int) < (n : Int) := by omega
      cases v
      · go_wp2_with fail
        refine hcall.mono ?_; rintro e w1 ⟨X, D, rfl, rfl⟩
        go_wp2_with fail
        go_roundw
        case rel =>
          refine ⟨k + 1, by omega, by go_num, ?_, Below.more hb hb.size _ _⟩
          intro j hj hjk
          by_cases e : j = k
          · subst e; exact HV.out
          · exact HB.out j hj (by omega)
        case measure => simp [intOf]; omega
      · have HE := Lib.hid (idxOf_found hkl HV.out HB.out)
        go_wp2_with fail
        refine hcall.mono ?_; rintro e w1 ⟨X, D, rfl, rfl⟩
        go_wp2_with fail
        go_ret
        rw [HE.out]
        exact RetV.mk rfl (Below.more hb hb.size _ _)
    · obtain rfl : k = n := by omega
      have HE := Lib.hid (idxOf_none (l := l) (f := f) (fun j hj _ => HB.out j hj (by have := HL.out; omega)))
      go_wp2_with fail
      go_ret
      rw [HE.out]
      exact RetV.mk rfl hb

set_option maxHeartbeats 400000 in
theorem containsP_ok (w : World) (ex : List Nat) (A : Option Addr) (n c : Nat) (l : List (List (Rat × List Int))) (g : Nat) (cb : Array Value) (f : List (Rat × List Int) → Bool)
    (eg : ∀ args w, (callFunc g args).run Tryz.prog w = .ok (.enter g args) w) (hx : RL poE w ex A n c l) (hf : Tells g cb w ex l f) (hn : n ≤ 1000000000) :
    Calls Tryz.prog 45 #[.slice A n c, .func (Fn.func g) #[] cb] w (RetV w (.bool (l.any f))) := by
  have h1 := indexP_ok w ex A n c l g cb f eg hx hf hn
  clear hf
  go_enter Tryz.func45, Tryz.ntmps45
  go_wp2_with fail
  refine h1.mono ?_; rintro e w1 ⟨X, D, rfl, rfl⟩
  go_wp2_with fail
  go_ret
  rw [← idxOf_any]
  exact RetV.mk rfl (by repeat (first | (with_reducible exact Below.refl _ _) | (with_reducible assumption) | refine Below.setCell ?_ (by first | (simp; done) | (simp; omega) | omega) _ | refine Below.more ?_ (by first | (simp; done) | (simp; omega) | omega) _ _ | refine Below.alloc ?_ (by first | (simp; done) | (simp; omega) | omega) _ | refine Below.drew ?_ | refine Below.drewN ?_ _))

set_option maxHeartbeats 400000 in
theorem normal1_ok (w : World) (ex : List Nat) (A : Option Addr) (m c : Nat) (p : List (Rat × List Int)) (b n : Nat) (hx : RP w ex A m c p) (hg : GP p) (hn : n ≤ 4) (hc : w.cell? ⟨b, 0, none⟩ = some (.int .i64 n)) :
    Calls Tryz.prog 43 #[.slice A m c, .pointer (some ⟨b, 0, none⟩)] w (RetV w (.bool (!withinB p n))) := by
  go_enter Tryz.func43, Tryz.ntmps43
  go_wp2_with fail
  refine (within_ok _ ex A m c p n hx hg hn).mono ?_; rintro e w1 ⟨X, D, rfl, rfl⟩
  go_wp2_with fail
  go_ret
  exact RetV.mk rfl (by repeat (first | (with_reducible exact Below.refl _ _) | (with_reducible assumption) | refine Below.setCell ?_ (by first | (simp; done) | (simp; omega) | omega) _ | refine Below.more ?_ (by first | (simp; done) | (simp; omega) | omega) _ _ | refine Below.alloc ?_ (by first | (simp; done) | (simp; omega) | omega) _ | refine Below.drew ?_ | refine Below.drewN ?_ _))

end Go.Proofs.YthhdleppkggepaaGreat

/-
  The walk of the reference of package monomial: the product.
-/
namespace Go.Proofs.YthhdleppkggepaaGreat
open Go.RowKit Go.Deep
set_option maxRecDepth 100000

/-- A block of whole numbers. -/
def IBuf (t : TypeId) (w : World) (g : Nat) (os : List Int) : Prop := w.heap[g]? = some (.cells (os.map (Value.int .i64)).toArray t (0, 0))
section
variable {t : TypeId} {w w' : World} {g : Nat} {os : List Int}
theorem IBuf.cell (h : IBuf t w g os) {i : Nat} (hi : i < os.length) : w.cell? ⟨g, i, none⟩ = some (.int .i64 (os.getD i 0)) := by
  rw [cell_of_row w g i _ t (0, 0) h]; simp [hi]
theorem IBuf.frozen (h : IBuf t w g os) (i : Nat) : w.frozen? ⟨g, i, none⟩ = false := frozen_of_row w g i _ t h
theorem IBuf.set (h : IBuf t w g os) (i : Nat) (x : Int) : IBuf t (w.setCell ⟨g, i, none⟩ (.int .i64 x)) g (os.set i x) := by
  unfold IBuf at h ⊢
  simp [World.setCell, Array.getElem?_modify, h, List.map_set]
theorem IBuf.of (h : IBuf t w g os) (e : w'.heap[g]? = w.heap[g]?) : IBuf t w' g os := e.trans h
theorem IBuf.far (h : IBuf t w g os) {p : Addr} (hp : g ≠ p.block) (u : Value) : IBuf t (w.setCell p u) g os := h.of (Below.heap_setCell _ _ _ _ hp)
theorem IBuf.drew (h : IBuf t w g os) : IBuf t w.drew g os := h.of rfl
end

set_option maxHeartbeats 2000000 in
theorem r4mul_ok (w : World) (e0 e1 e2 e3 e4 e5 e6 e7 f0 f1 f2 f3 f4 f5 f6 f7 : Int) (he : Exps [e0, e1, e2, e3, e4, e5, e6, e7]) (hf : Exps [f0, f1, f2, f3, f4, f5, f6, f7]) (hp : Exps [e0 + f0, e1 + f1, e2 + f2, e3 + f3, e4 + f4, e5 + f5, e6 + f6, e7 + f7]) :
    Calls Tryz.prog 67 #[.agg #[.int .i64 e0, .int .i64 e1, .int .i64 e2, .int .i64 e3, .int .i64 e4, .int .i64 e5, .int .i64 e6, .int .i64 e7], .agg #[.int .i64 f0, .int .i64 f1, .int .i64 f2, .int .i64 f3, .int .i64 f4, .int .i64 f5, .int .i64 f6, .int .i64 f7]] w (RetV w (.tuple #[.agg #[.int .i64 (e0 + f0), .int .i64 (e1 + f1), .int .i64 (e2 + f2), .int .i64 (e3 + f3), .int .i64 (e4 + f4), .int .i64 (e5 + f5), .int .i64 (e6 + f6), .int .i64 (e7 + f7)], .int .i64 0])) := by
  have HE := Lib.hid he
  have HF := Lib.hid hf
  clear he hf
  go_enter Tryz.func67, Tryz.ntmps67
  go_wp2_with fail
  go_loopw [6] (fun i wr => ∃ (k : Nat) (os : List Int), k ≤ 8 ∧ i = .int .i64 k ∧ os.length = 8 ∧ Hid (∀ j, os.getD j 0 = if j < k then [e0, e1, e2, e3, e4, e5, e6, e7].getD j 0 + [f0, f1, f2, f3, f4, f5, f6, f7].getD j 0 else [e0, e1, e2, e3, e4, e5, e6, e7].getD j 0) ∧
      IBuf 68 wr w.heap.size os ∧ IBuf 68 wr (w.heap.size + 1) [f0, f1, f2, f3, f4, f5, f6, f7] ∧ IBuf 68 wr (w.heap.size + 2) [0, 0, 0, 0, 0, 0, 0, 0] ∧ Below w.heap.size w wr) (fun i _ => 8 - (intOf i).toNat)
  case atStart =>
    refine ⟨0, [e0, e1, e2, e3, e4, e5, e6, e7], Nat.zero_le _, rfl, rfl, fun j => by rw [if_neg (by omega)], ?_, ?_, ?_, (by repeat (first | (with_reducible exact Below.refl _ _) | (with_reducible assumption) | refine Below.setCell ?_ (by first | (simp; done) | (simp; omega) | omega) _ | refine Below.more ?_ (by first | (simp; done) | (simp; omega) | omega) _ _ | refine Below.alloc ?_ (by first | (simp; done) | (simp; omega) | omega) _ | refine Below.drew ?_ | refine Below.drewN ?_ _))⟩
    · unfold IBuf; rw [Below.heap_alloc _ _ _ (by simp; omega), Below.heap_alloc _ _ _ (by simp), heap_alloc_new]; rfl
    · unfold IBuf; rw [Below.heap_alloc _ _ _ (by simp)]; have hh := heap_alloc_new (w.alloc (.cells #[.int .i64 e0, .int .i64 e1, .int .i64 e2, .int .i64 e3, .int .i64 e4, .int .i64 e5, .int .i64 e6, .int .i64 e7] 68)) (.cells #[.int .i64 f0, .int .i64 f1, .int .i64 f2, .int .i64 f3, .int .i64 f4, .int .i64 f5, .int .i64 f6, .int .i64 f7] 68); rw [World.size_alloc] at hh; exact hh
    · unfold IBuf; have hh := heap_alloc_new ((w.alloc (.cells #[.int .i64 e0, .int .i64 e1, .int .i64 e2, .int .i64 e3, .int .i64 e4, .int .i64 e5, .int .i64 e6, .int .i64 e7] 68)).alloc (.cells #[.int .i64 f0, .int .i64 f1, .int .i64 f2, .int .i64 f3, .int .i64 f4, .int .i64 f5, .int .i64 f6, .int .i64 f7] 68)) (.cells #[.int .i64 0, .int .i64 0, .int .i64 0, .int .i64 0, .int .i64 0, .int .i64 0, .int .i64 0, .int .i64 0] 68); rw [World.size_alloc, World.size_alloc] at hh; exact hh
  case round =>
    obtain ⟨k, os, hk, rfl, hlen, HO, hb0, hb1, hb2, hbel⟩ := hrel
    by_cases hlt : k < 8
    · have hc1 := hb0.cell (i := k) (by omega)
      have hc2 := hb1.cell (i := k) hlt
      have hfz := hb0.frozen k
      have hke := HO.out k
      rw [if_neg (by omega)] at hke
      have hbe := HE.out k
      have hbf := HF.out k
      obtain ⟨x, hx⟩ : ∃ x : Int, [e0, e1, e2, e3, e4, e5, e6, e7].getD k 0 = x := ⟨_, rfl⟩
      obtain ⟨y, hy⟩ : ∃ y : Int, [f0, f1, f2, f3, f4, f5, f6, f7].getD k 0 = y := ⟨_, rfl⟩
      rw [hke, hx] at hc1
      rw [hy] at hc2 hbf
      rw [hx] at hbe
      obtain ⟨p1, p2⟩ := hbe
      obtain ⟨p3, p4⟩ := hbf
      have HX := Lib.hid (And.intro hx hy); clear hx hy hke
      go_wp2_with fail
      have hwr : IntKind.i64.wrap (x + y) = x + y := by simp [IntKind.wrap, IntKind.bits, IntKind.signed]; omega
      go_region
      all_goals
        go_wp2_with fail
        go_roundw
        case rel =>
          refine ⟨k + 1, os.set k (x + y), by omega, by go_num, by simpa using hlen, ?_, (hb0.drew.set k (x + y)), hb1.drew.far (by simp) _, hb2.drew.far (by simp) _, hbel.drew.setCell (Nat.le_refl _) _⟩
          intro j
          have h2 := HO.out j
          by_cases hj : j = k
          · subst hj
            rw [if_pos (by omega), HX.out.1, HX.out.2]
            rw [List.getD_eq_getElem?_getD, List.getElem?_set_self (by omega)]; rfl
          · rw [List.getD_eq_getElem?_getD, List.getElem?_set_ne (by omega), ← List.getD_eq_getElem?_getD, h2]
            by_cases hj2 : j < k
            · rw [if_pos hj2, if_pos (by omega)]
            · rw [if_neg hj2, if_neg (by omega)]
        case measure => simp [intOf]; omega
    · obtain rfl : k = 8 := by omega
      clear hb1
      have o0 := hb0.cell (i := 0) (by omega); rw [HO.out 0, if_pos (by decide)] at o0; simp only [List.getD_cons_zero, List.getD_cons_succ] at o0
      have o1 := hb0.cell (i := 1) (by omega); rw [HO.out 1, if_pos (by decide)] at o1; simp only [List.getD_cons_zero, List.getD_cons_succ] at o1
      have o2 := hb0.cell (i := 2) (by omega); rw [HO.out 2, if_pos (by decide)] at o2; simp only [List.getD_cons_zero, List.getD_cons_succ] at o2
      have o3 := hb0.cell (i := 3) (by omega); rw [HO.out 3, if_pos (by decide)] at o3; simp only [List.getD_cons_zero, List.getD_cons_succ] at o3
      have o4 := hb0.cell (i := 4) (by omega); rw [HO.out 4, if_pos (by decide)] at o4; simp only [List.getD_cons_zero, List.getD_cons_succ] at o4
      have o5 := hb0.cell (i := 5) (by omega); rw [HO.out 5, if_pos (by decide)] at o5; simp only [List.getD_cons_zero, List.getD_cons_succ] at o5
      have o6 := hb0.cell (i := 6) (by omega); rw [HO.out 6, if_pos (by decide)] at o6; simp only [List.getD_cons_zero, List.getD_cons_succ] at o6
      have o7 := hb0.cell (i := 7) (by omega); rw [HO.out 7, if_pos (by decide)] at o7; simp only [List.getD_cons_zero, List.getD_cons_succ] at o7
      have z0 : wr.cell? ⟨w.heap.size + 2, 0, none⟩ = some (.int .i64 0) := hb2.cell (i := 0) (by decide)
      have y0 := hb2.frozen 0
      have z1 : wr.cell? ⟨w.heap.size + 2, 1, none⟩ = some (.int .i64 0) := hb2.cell (i := 1) (by decide)
      have y1 := hb2.frozen 1
      have z2 : wr.cell? ⟨w.heap.size + 2, 2, none⟩ = some (.int .i64 0) := hb2.cell (i := 2) (by decide)
      have y2 := hb2.frozen 2
      have z3 : wr.cell? ⟨w.heap.size + 2, 3, none⟩ = some (.int .i64 0) := hb2.cell (i := 3) (by decide)
      have y3 := hb2.frozen 3
      have z4 : wr.cell? ⟨w.heap.size + 2, 4, none⟩ = some (.int .i64 0) := hb2.cell (i := 4) (by decide)
      have y4 := hb2.frozen 4
      have z5 : wr.cell? ⟨w.heap.size + 2, 5, none⟩ = some (.int .i64 0) := hb2.cell (i := 5) (by decide)
      have y5 := hb2.frozen 5
      have z6 : wr.cell? ⟨w.heap.size + 2, 6, none⟩ = some (.int .i64 0) := hb2.cell (i := 6) (by decide)
      have y6 := hb2.frozen 6
      have z7 : wr.cell? ⟨w.heap.size + 2, 7, none⟩ = some (.int .i64 0) := hb2.cell (i := 7) (by decide)
      have y7 := hb2.frozen 7
      clear hb0 hb2
      have hsz := hbel.size
      have HL := Lib.hid hlen; clear hlen
      go_wp2_with fail
      refine (r4valid_ok _ _ _ _ _ _ _ _ _ hp).mono ?_; rintro e w1 ⟨X, D, rfl, rfl⟩
      go_wp2_with fail
      refine bodyPost_ret (v := .tuple #[.agg #[.int .i64 (e0 + f0), .int .i64 (e1 + f1), .int .i64 (e2 + f2), .int .i64 (e3 + f3), .int .i64 (e4 + f4), .int .i64 (e5 + f5), .int .i64 (e6 + f6), .int .i64 (e7 + f7)], .int .i64 0]) (by simp [results, Tryz.results67, *, go_sem, ↓IntWalk.iteOmega]) rfl (RetV.mk rfl (by repeat (first | (with_reducible exact Below.refl _ _) | (with_reducible assumption) | refine Below.setCell ?_ (by first | (simp; done) | (simp; omega) | omega) _ | refine Below.more ?_ (by first | (simp; done) | (simp; omega) | omega) _ _ | refine Below.alloc ?_ (by first | (simp; done) | (simp; omega) | omega) _ | refine Below.drew ?_ | refine Below.drewN ?_ _)))

end Go.Proofs.YthhdleppkggepaaGreat

/-
  The walk of monomial.Mul.
-/
namespace Go.Proofs.YthhdleppkggepaaGreat
open Go.RowKit Go.Deep
set_option maxRecDepth 100000

theorem plus_ok (w : World) (x y : Int) (h : IntKind.i64.wrap (x + y) = x + y) : Calls Tryz.prog 203 #[.int .i64 x, .int .i64 y] w fun e w' => e = .returned (.int .i64 (x + y)) ∧ w' = w := by
  go_enter Tryz.func203, Tryz.ntmps203
  go_wp2_with fail
  go_ret
  exact ⟨by simp [*], rfl⟩

set_option maxHeartbeats 2000000 in
theorem each_ok (w : World) (e0 e1 e2 e3 e4 e5 e6 e7 f0 f1 f2 f3 f4 f5 f6 f7 : Int) (he : Exps [e0, e1, e2, e3, e4, e5, e6, e7]) (hf : Exps [f0, f1, f2, f3, f4, f5, f6, f7]) :
    Calls Tryz.prog 202 #[.agg #[.int .i64 e0, .int .i64 e1, .int .i64 e2, .int .i64 e3, .int .i64 e4, .int .i64 e5, .int .i64 e6, .int .i64 e7], .agg #[.int .i64 f0, .int .i64 f1, .int .i64 f2, .int .i64 f3, .int .i64 f4, .int .i64 f5, .int .i64 f6, .int .i64 f7], .func (Fn.func 203) #[] #[]] w (RetV w (.agg #[.int .i64 (e0 + f0), .int .i64 (e1 + f1), .int .i64 (e2 + f2), .int .i64 (e3 + f3), .int .i64 (e4 + f4), .int .i64 (e5 + f5), .int .i64 (e6 + f6), .int .i64 (e7 + f7)])) := by
  have HE := Lib.hid he
  have HF := Lib.hid hf
  clear he hf
  go_enter Tryz.func202, Tryz.ntmps202
  go_wp2_with fail
  go_loopw [8] (fun i wr => ∃ (k : Nat) (os : List Int), k ≤ 8 ∧ i = .int .i64 k ∧ os.length = 8 ∧ Hid (∀ j, os.getD j 0 = if j < k then [e0, e1, e2, e3, e4, e5, e6, e7].getD j 0 + [f0, f1, f2, f3, f4, f5, f6, f7].getD j 0 else [e0, e1, e2, e3, e4, e5, e6, e7].getD j 0) ∧
      IBuf 68 wr w.heap.size os ∧ IBuf 68 wr (w.heap.size + 1) [f0, f1, f2, f3, f4, f5, f6, f7] ∧ IBuf 68 wr (w.heap.size + 2) [0, 0, 0, 0, 0, 0, 0, 0] ∧ Below w.heap.size w wr) (fun i _ => 8 - (intOf i).toNat)
  case atStart =>
    refine ⟨0, [e0, e1, e2, e3, e4, e5, e6, e7], Nat.zero_le _, rfl, rfl, fun j => by rw [if_neg (by omega)], ?_, ?_, ?_, (by repeat (first | (with_reducible exact Below.refl _ _) | (with_reducible assumption) | refine Below.setCell ?_ (by first | (simp; done) | (simp; omega) | omega) _ | refine Below.more ?_ (by first | (simp; done) | (simp; omega) | omega) _ _ | refine Below.alloc ?_ (by first | (simp; done) | (simp; omega) | omega) _ | refine Below.drew ?_ | refine Below.drewN ?_ _))⟩
    · unfold IBuf; rw [Below.heap_alloc _ _ _ (by simp; omega), Below.heap_alloc _ _ _ (by simp), heap_alloc_new]; rfl
    · unfold IBuf; rw [Below.heap_alloc _ _ _ (by simp)]; have hh := heap_alloc_new (w.alloc (.cells #[.int .i64 e0, .int .i64 e1, .int .i64 e2, .int .i64 e3, .int .i64 e4, .int .i64 e5, .int .i64 e6, .int .i64 e7] 68)) (.cells #[.int .i64 f0, .int .i64 f1, .int .i64 f2, .int .i64 f3, .int .i64 f4, .int .i64 f5, .int .i64 f6, .int .i64 f7] 68); rw [World.size_alloc] at hh; exact hh
    · unfold IBuf; have hh := heap_alloc_new ((w.alloc (.cells #[.int .i64 e0, .int .i64 e1, .int .i64 e2, .int .i64 e3, .int .i64 e4, .int .i64 e5, .int .i64 e6, .int .i64 e7] 68)).alloc (.cells #[.int .i64 f0, .int .i64 f1, .int .i64 f2, .int .i64 f3, .int .i64 f4, .int .i64 f5, .int .i64 f6, .int .i64 f7] 68)) (.cells #[.int .i64 0, .int .i64 0, .int .i64 0, .int .i64 0, .int .i64 0, .int .i64 0, .int .i64 0, .int .i64 0] 68); rw [World.size_alloc, World.size_alloc] at hh; exact hh
  case round =>
    obtain ⟨k, os, hk, rfl, hlen, HO, hb0, hb1, hb2, hbel⟩ := hrel
    by_cases hlt : k < 8
    · have hc1 := hb0.cell (i := k) (by omega)
      have hc2 := hb1.cell (i := k) hlt
      have hfz := hb0.frozen k
      have hke := HO.out k
      rw [if_neg (by omega)] at hke
      have hbe := HE.out k
      have hbf := HF.out k
      obtain ⟨x, hx⟩ : ∃ x : Int, [e0, e1, e2, e3, e4, e5, e6, e7].getD k 0 = x := ⟨_, rfl⟩
      obtain ⟨y, hy⟩ : ∃ y : Int, [f0, f1, f2, f3, f4, f5, f6, f7].getD k 0 = y := ⟨_, rfl⟩
      rw [hke, hx] at hc1
      rw [hy] at hc2 hbf
      rw [hx] at hbe
      obtain ⟨p1, p2⟩ := hbe
      obtain ⟨p3, p4⟩ := hbf
      have HX := Lib.hid (And.intro hx hy); clear hx hy hke
      go_wp2_with fail
      have hwr : IntKind.i64.wrap (x + y) = x + y := by simp [IntKind.wrap, IntKind.bits, IntKind.signed]; omega
      go_region_with (go_at_call 203; refine (plus_ok _ _ _ hwr).mono ?_; rintro e w' ⟨rfl, rfl⟩)
      all_goals
        go_wp2_with fail
        go_roundw
        case rel =>
          refine ⟨k + 1, os.set k (x + y), by omega, by go_num, by simpa using hlen, ?_, (hb0.drew.set k (x + y)), hb1.drew.far (by simp) _, hb2.drew.far (by simp) _, hbel.drew.setCell (Nat.le_refl _) _⟩
          intro j
          have h2 := HO.out j
          by_cases hj : j = k
          · subst hj
            rw [if_pos (by omega), HX.out.1, HX.out.2]
            rw [List.getD_eq_getElem?_getD, List.getElem?_set_self (by omega)]; rfl
          · rw [List.getD_eq_getElem?_getD, List.getElem?_set_ne (by omega), ← List.getD_eq_getElem?_getD, h2]
            by_cases hj2 : j < k
            · rw [if_pos hj2, if_pos (by omega)]
            · rw [if_neg hj2, if_neg (by omega)]
        case measure => simp [intOf]; omega
    · obtain rfl : k = 8 := by omega
      clear hb1
      have o0 := hb0.cell (i := 0) (by omega); rw [HO.out 0, if_pos (by decide)] at o0; simp only [List.getD_cons_zero, List.getD_cons_succ] at o0
      have o1 := hb0.cell (i := 1) (by omega); rw [HO.out 1, if_pos (by decide)] at o1; simp only [List.getD_cons_zero, List.getD_cons_succ] at o1
      have o2 := hb0.cell (i := 2) (by omega); rw [HO.out 2, if_pos (by decide)] at o2; simp only [List.getD_cons_zero, List.getD_cons_succ] at o2
      have o3 := hb0.cell (i := 3) (by omega); rw [HO.out 3, if_pos (by decide)] at o3; simp only [List.getD_cons_zero, List.getD_cons_succ] at o3
      have o4 := hb0.cell (i := 4) (by omega); rw [HO.out 4, if_pos (by decide)] at o4; simp only [List.getD_cons_zero, List.getD_cons_succ] at o4
      have o5 := hb0.cell (i := 5) (by omega); rw [HO.out 5, if_pos (by decide)] at o5; simp only [List.getD_cons_zero, List.getD_cons_succ] at o5
      have o6 := hb0.cell (i := 6) (by omega); rw [HO.out 6, if_pos (by decide)] at o6; simp only [List.getD_cons_zero, List.getD_cons_succ] at o6
      have o7 := hb0.cell (i := 7) (by omega); rw [HO.out 7, if_pos (by decide)] at o7; simp only [List.getD_cons_zero, List.getD_cons_succ] at o7
      have z0 : wr.cell? ⟨w.heap.size + 2, 0, none⟩ = some (.int .i64 0) := hb2.cell (i := 0) (by decide)
      have y0 := hb2.frozen 0
      have z1 : wr.cell? ⟨w.heap.size + 2, 1, none⟩ = some (.int .i64 0) := hb2.cell (i := 1) (by decide)
      have y1 := hb2.frozen 1
      have z2 : wr.cell? ⟨w.heap.size + 2, 2, none⟩ = some (.int .i64 0) := hb2.cell (i := 2) (by decide)
      have y2 := hb2.frozen 2
      have z3 : wr.cell? ⟨w.heap.size + 2, 3, none⟩ = some (.int .i64 0) := hb2.cell (i := 3) (by decide)
      have y3 := hb2.frozen 3
      have z4 : wr.cell? ⟨w.heap.size + 2, 4, none⟩ = some (.int .i64 0) := hb2.cell (i := 4) (by decide)
      have y4 := hb2.frozen 4
      have z5 : wr.cell? ⟨w.heap.size + 2, 5, none⟩ = some (.int .i64 0) := hb2.cell (i := 5) (by decide)
      have y5 := hb2.frozen 5
      have z6 : wr.cell? ⟨w.heap.size + 2, 6, none⟩ = some (.int .i64 0) := hb2.cell (i := 6) (by decide)
      have y6 := hb2.frozen 6
      have z7 : wr.cell? ⟨w.heap.size + 2, 7, none⟩ = some (.int .i64 0) := hb2.cell (i := 7) (by decide)
      have y7 := hb2.frozen 7
      clear hb0 hb2
      have hsz := hbel.size
      have HL := Lib.hid hlen; clear hlen
      go_wp2_with fail
      refine bodyPost_ret (v := .agg #[.int .i64 (e0 + f0), .int .i64 (e1 + f1), .int .i64 (e2 + f2), .int .i64 (e3 + f3), .int .i64 (e4 + f4), .int .i64 (e5 + f5), .int .i64 (e6 + f6), .int .i64 (e7 + f7)]) (by simp [results, Tryz.results202, *, go_sem, ↓IntWalk.iteOmega]) rfl (RetV.mk rfl (by repeat (first | (with_reducible exact Below.refl _ _) | (with_reducible assumption) | refine Below.setCell ?_ (by first | (simp; done) | (simp; omega) | omega) _ | refine Below.more ?_ (by first | (simp; done) | (simp; omega) | omega) _ _ | refine Below.alloc ?_ (by first | (simp; done) | (simp; omega) | omega) _ | refine Below.drew ?_ | refine Below.drewN ?_ _)))

set_option maxHeartbeats 2000000 in
theorem mmul_ok (w : World) (e0 e1 e2 e3 e4 e5 e6 e7 f0 f1 f2 f3 f4 f5 f6 f7 : Int) (he : Exps [e0, e1, e2, e3, e4, e5, e6, e7]) (hf : Exps [f0, f1, f2, f3, f4, f5, f6, f7]) (hp : Exps [e0 + f0, e1 + f1, e2 + f2, e3 + f3, e4 + f4, e5 + f5, e6 + f6, e7 + f7]) :
    Calls Tryz.prog 167 #[.agg #[.int .i64 e0, .int .i64 e1, .int .i64 e2, .int .i64 e3, .int .i64 e4, .int .i64 e5, .int .i64 e6, .int .i64 e7], .agg #[.int .i64 f0, .int .i64 f1, .int .i64 f2, .int .i64 f3, .int .i64 f4, .int .i64 f5, .int .i64 f6, .int .i64 f7]] w (RetV w (.tuple #[.agg #[.int .i64 (e0 + f0), .int .i64 (e1 + f1), .int .i64 (e2 + f2), .int .i64 (e3 + f3), .int .i64 (e4 + f4), .int .i64 (e5 + f5), .int .i64 (e6 + f6), .int .i64 (e7 + f7)], .int .i64 0])) := by
  go_enter Tryz.func167, Tryz.ntmps167
  go_wp2_with fail
  refine (each_ok _ e0 e1 e2 e3 e4 e5 e6 e7 f0 f1 f2 f3 f4 f5 f6 f7 he hf).mono ?_; rintro e w1 ⟨X, D, rfl, rfl⟩
  have HE := Lib.hid he
  have HF := Lib.hid hf
  clear he hf
  go_wp2_with fail
  refine (mvalid_ok _ _ _ _ _ _ _ _ _ hp).mono ?_; rintro e w1 ⟨X2, D2, rfl, rfl⟩
  go_wp2_with fail
  refine bodyPost_ret (v := .tuple #[.agg #[.int .i64 (e0 + f0), .int .i64 (e1 + f1), .int .i64 (e2 + f2), .int .i64 (e3 + f3), .int .i64 (e4 + f4), .int .i64 (e5 + f5), .int .i64 (e6 + f6), .int .i64 (e7 + f7)], .int .i64 0]) (by simp [results, Tryz.results167, go_sem, ↓IntWalk.iteOmega]) rfl (RetV.mk rfl (by repeat (first | (with_reducible exact Below.refl _ _) | (with_reducible assumption) | refine Below.setCell ?_ (by first | (simp; done) | (simp; omega) | omega) _ | refine Below.more ?_ (by first | (simp; done) | (simp; omega) | omega) _ _ | refine Below.alloc ?_ (by first | (simp; done) | (simp; omega) | omega) _ | refine Below.drew ?_ | refine Below.drewN ?_ _)))

end Go.Proofs.YthhdleppkggepaaGreat
