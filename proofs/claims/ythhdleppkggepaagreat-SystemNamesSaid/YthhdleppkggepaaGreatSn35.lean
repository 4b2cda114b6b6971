/-
  Permutations, one after the other: a number is taken to the front of those behind a place; copying into eight numbers.
-/
import Derived.Laws.IdiomCopy
import Derived.Test.YthhdleppkggepaaGreatSn26
import Derived.Test.YthhdleppkggepaaGreatSn34

set_option linter.unusedSimpArgs false
set_option linter.unusedVariables false
set_option linter.unusedSectionVars false

namespace Go.Proofs.YthhdleppkggepaaGreat
open Go.RowKit Go.Deep
set_option maxRecDepth 100000

/-- Number j of the list comes to place i; those between go one place on. -/
def rot (i j : Nat) (π : List Nat) : List Nat := π.take i ++ π.getD j 0 :: ((π.drop i).take (j - i) ++ π.drop (j + 1))
theorem rot_perm {i j : Nat} {π : List Nat} (hij : i ≤ j) (hj : j < π.length) : (rot i j π).Perm π := by
  have h1 : π = π.take i ++ ((π.drop i).take (j - i) ++ π.getD j 0 :: π.drop (j + 1)) := by
    have e1 : (π.drop i).take (j - i) ++ π.drop j = π.drop i := by
      have := List.take_append_drop (j - i) (π.drop i)
      rwa [List.drop_drop, show i + (j - i) = j by omega] at this
    have e2 : π.drop j = π.getD j 0 :: π.drop (j + 1) := by
      rw [List.drop_eq_getElem_cons hj, List.getD_eq_getElem?_getD, List.getElem?_eq_getElem hj]; rfl
    rw [← e2, e1, List.take_append_drop]
  unfold rot
  conv => rhs; rw [h1]
  exact List.Perm.append_left _ List.perm_middle.symm
theorem rot_len {i j : Nat} {π : List Nat} (hij : i ≤ j) (hj : j < π.length) : (rot i j π).length = π.length := (rot_perm hij hj).length_eq
theorem rot_perm8 {i j : Nat} {π : List Nat} (hp : Perm8 π) (hij : i ≤ j) (hj : j < 8) : Perm8 (rot i j π) := (rot_perm hij (by rw [hp.len]; exact hj)).trans hp
theorem rot_fix {i j n : Nat} {π : List Nat} (hl : π.length = 8) (hij : i ≤ j) (hj : j < n) (hn : n ≤ 8) (hf : ∀ k, n ≤ k → k < 8 → π[k]? = some k) : ∀ k, n ≤ k → k < 8 → (rot i j π)[k]? = some k := by
  intro k hk hk8
  unfold rot
  rw [List.getElem?_append_right (by rw [List.length_take]; omega), List.length_take, Nat.min_eq_left (by omega)]
  rw [show k - i = (k - i - 1) + 1 by omega, List.getElem?_cons_succ, List.getElem?_append_right (by rw [List.length_take, List.length_drop]; omega), List.length_take, List.length_drop, Nat.min_eq_left (by omega), List.getElem?_drop]
  rw [show j + 1 + (k - i - 1 - (j - i)) = k by omega]
  exact hf k hk hk8
/-- The permutations that come from moving the numbers from place i on (m of them). -/
def enumP (N : Nat) : Nat → Nat → List Nat → List (List Nat)
  | 0, _, π => [π]
  | m + 1, i, π => (List.range' i (N - i)).flatMap fun j => enumP N m (i + 1) (rot i j π)

/-! ### eight numbers, and copying into them -/
def intsN (π : List Nat) : List Int := π.map fun x : Nat => (x : Int)
theorem intsN_len (π : List Nat) : (intsN π).length = π.length := by simp [intsN]
theorem getD_app_l {a b : List Int} {j : Nat} (h : j < a.length) : (a ++ b).getD j 0 = a.getD j 0 := by
  simp only [List.getD_eq_getElem?_getD, List.getElem?_append_left h]
theorem getD_app_r {a b : List Int} {j : Nat} (h : a.length ≤ j) : (a ++ b).getD j 0 = b.getD (j - a.length) 0 := by
  simp only [List.getD_eq_getElem?_getD, List.getElem?_append_right h]
theorem Cells8.copy {w : World} {b : Nat} {l : List Int} (h : Cells8 w b l) (hl : l.length = 8) (o : Nat) (cs : List Int) (ho : o + cs.length ≤ 8) :
    Cells8 (w.setCells b o (cs.map fun x => Value.int .i64 x)) b (l.take o ++ cs ++ l.drop (o + cs.length)) := by
  intro j hj
  refine ⟨?_, by rw [World.frozen?_setCells]; exact (h j hj).2⟩
  by_cases h1 : j < o
  · rw [World.cell?_setCells_out _ _ _ _ _ (fun _ _ => Or.inl h1), (h j hj).1, List.append_assoc, getD_app_l (by rw [List.length_take]; omega)]
    simp [List.getD_eq_getElem?_getD, List.getElem?_take, h1]
  · by_cases h2 : j < o + cs.length
    · have := World.cell?_setCells_in b (cs.map fun x => Value.int .i64 x) o w (fun i hi => by rw [List.length_map] at hi; rw [(h (o + i) (by omega)).1]; rfl) (j - o) (by rw [List.length_map]; omega)
      rw [show o + (j - o) = j by omega] at this
      rw [this, getD_app_l (by rw [List.length_append, List.length_take]; omega), getD_app_r (by rw [List.length_take]; omega), List.length_take, Nat.min_eq_left (by omega)]
      simp [List.getD_eq_getElem?_getD, List.getElem?_eq_getElem (show j - o < cs.length by omega)]
    · rw [World.cell?_setCells_out _ _ _ _ _ (fun _ _ => Or.inr (by simp; omega)), (h j hj).1, getD_app_r (by rw [List.length_append, List.length_take]; omega), List.length_append, List.length_take, Nat.min_eq_left (by omega)]
      simp only [List.getD_eq_getElem?_getD, List.getElem?_drop]
      rw [show o + cs.length + (j - (o + cs.length)) = j by omega]
theorem setCells_grown (b : Nat) : ∀ (vs : List Value) (o : Nat) (w : World), w.grownBy (w.setCells b o vs) (some b) ∧ (w.setCells b o vs).heap.size = w.heap.size ∧ (w.setCells b o vs).drawn = w.drawn
  | [], _, w => ⟨⟨rfl, rfl, rfl, Nat.le_refl _, fun _ _ _ => rfl⟩, rfl, rfl⟩
  | v :: r, o, w => by
    obtain ⟨h1, h2, h3⟩ := setCells_grown b r (o + 1) (w.setCell ⟨b, o, none⟩ v)
    rw [World.setCells]
    refine ⟨⟨h1.os, h1.tape, h1.output, by rw [h2]; simp, fun k hk hne => ?_⟩, by rw [h2]; simp, by rw [h3]; rfl⟩
    rw [h1.block k (by simpa using hk) hne]
    exact Below.heap_setCell _ _ _ _ (fun e => hne (by rw [e]))
theorem run_copy8 {w : World} {b s : Nat} {l m : List Int} (hb : Cells8 w b l) (hs : Cells8 w s m) (hm : m.length = 8) {od os n cd cs : Nat} (h1 : od + n ≤ 8) (h2 : os + n ≤ 8) (ty : TypeId) :
    (Builtin.copy_ #[107, 107] ty #[.slice (some ⟨b, od, none⟩) n cd, .slice (some ⟨s, os, none⟩) n cs]).run Tryz.prog w = .ok (.int .i64 n) (w.setCells b od (((m.drop os).take n).map fun x => Value.int .i64 x)) := by
  have hlen : (((m.drop os).take n).map fun x => Value.int .i64 x).length = n := by rw [List.length_map, List.length_take, List.length_drop]; omega
  have := run_copy_cells (P := Tryz.prog) w 107 107 ty 3 b od n cd ⟨s, os, none⟩ n cs (((m.drop os).take n).map fun x => Value.int .i64 x) Tryz.underlying107 (by kernel_rfl) (by rw [hlen]; simp) (fun j v hv => by
    have hj : j < n := by rw [← hlen]; exact (List.getElem?_eq_some_iff.1 hv).1
    rw [Addr.add_lit, (hs (os + j) (by omega)).1]
    rw [List.getElem?_map, List.getElem?_take, if_pos hj, List.getElem?_drop, List.getElem?_eq_getElem (by omega)] at hv
    simp only [Option.map_some, Option.some.injEq] at hv
    rw [← hv, List.getD_eq_getElem?_getD, List.getElem?_eq_getElem (by omega)]; rfl)
    (fun j hj => by rw [hlen] at hj; rw [(hb (od + j) (by omega)).1]; rfl) (fun j hj => by rw [hlen] at hj; exact (hb (od + j) (by omega)).2) (fun v hv => by obtain ⟨x, _, rfl⟩ := List.mem_map.1 hv; rfl)
  rw [hlen] at this
  exact this
theorem step_copy8 {ops : Array Oper} {K : Act → World → Prop} {F : Prop} {Q : Exit → Act → World → Prop} {o : Oper} {a : Act} {w : World} (hgd : o.guard = none) (d s : Operand)
    (ho : o.op = .call { callee := .builtin .copy, args := #[d, s], argTypes := #[107, 107] }) {b sv : Nat} {l m : List Int} (hb : Cells8 w b l) (hl : l.length = 8) (hs : Cells8 w sv m) (hm : m.length = 8) {od os n n' cd cs : Nat} (hd : a.eval d = .slice (some ⟨b, od, none⟩) n cd) (hse : a.eval s = .slice (some ⟨sv, os, none⟩) n' cs) (hnn : n = n') (h1 : od + n ≤ 8) (h2 : os + n ≤ 8)
    (h : ∀ w', Cells8 w' b (l.take od ++ (m.drop os).take n ++ l.drop (od + n)) → w.grownBy w' (some b) → w'.heap.size = w.heap.size → w'.drawn = w.drawn → K (a.put o.dst (.int .i64 n)) w') :
    if Region.wanted o (yielded ops a.tmps) = true then Oper.wp Tryz.prog o a w K Q else F := by
  subst hnn
  have hw : Region.wanted o (yielded ops a.tmps) = true := by simp [Region.wanted, hgd]
  rw [if_pos hw]
  obtain ⟨g1, g2, g3⟩ := setCells_grown b (((m.drop os).take n).map fun x => Value.int .i64 x) od w
  have hlen : ((m.drop os).take n).length = n := by rw [List.length_take, List.length_drop]; omega
  have hc := hb.copy hl od ((m.drop os).take n) (by omega)
  rw [hlen] at hc
  have hrun := run_copy8 hb hs hm (cd := cd) (cs := cs) h1 h2 o.type
  unfold Oper.wp
  simp [execOp, ho, resolve, invoke, builtin, hd, hse, hrun, Result.andThen]
  simp only [List.map_take, List.map_drop] at hc g1 g2 g3
  exact h _ hc g1 g2 g3

end Go.Proofs.YthhdleppkggepaaGreat

/-
  The walk of system.Canon's closure: a permutation that is whole.
-/
namespace Go.Proofs.YthhdleppkggepaaGreat
open Go.RowKit Go.Deep
set_option maxRecDepth 100000

def canT1 (l1 l2 : List Pol) (π : List Nat) : List Pol := tidyP (yesL (permL π l1) (permL π l2))
def canT2 (l2 : List Pol) (π : List Nat) : List Pol := tidyP (noL (permL π l2))
abbrev CanSt := Option (List Pol × List Pol × List Nat)
def canStr (N : Nat) : CanSt → ByteArray
  | none => ⟨#[]⟩
  | some (q1, q2, _) => strB (coreB N q1 q2)
/-- Is the core of this permutation taken? -/
def canTake (N : Nat) (l1 l2 : List Pol) (st : CanSt) (π : List Nat) : Bool :=
  (canStr N st).toList.isEmpty || Op.bytesLess (strB (coreB N (canT1 l1 l2 π) (canT2 l2 π))).toList (canStr N st).toList
def canStep (N : Nat) (l1 l2 : List Pol) (st : CanSt) (π : List Nat) : CanSt :=
  if canTake N l1 l2 st π then some (canT1 l1 l2 π, canT2 l2 π, π) else st

/-- What Canon asks of its lists, at a permutation. -/
structure CanOk (N : Nat) (M : Int) (l1 l2 : List Pol) (π : List Nat) : Prop where
  perm : PermOk N M π l1 l2
  k1 : ListOk N M (canT1 l1 l2 π)
  k2 : ListOk N M (canT2 l2 π)
  deg : ∀ p ∈ canT2 l2 π, pdeg p ≠ 0
  len : (coreB N (canT1 l1 l2 π) (canT2 l2 π)).length ≤ 10000000000

def canCaps (b : Nat) : Array Value := #[.pointer (some ⟨b, 0, none⟩), .pointer (some ⟨b + 3, 0, none⟩), .pointer (some ⟨b + 6, 0, none⟩), .pointer (some ⟨b + 4, 0, none⟩), .pointer (some ⟨b + 5, 0, none⟩), .pointer (some ⟨b + 7, 0, none⟩)]
/-- The eight variables of a call of Canon. -/
structure CSt (b : Nat) (ex : List Nat) (N : Nat) (A1 : Option Addr) (n1 c1 : Nat) (l1 : List Pol) (A2 : Option Addr) (n2 c2 : Nat) (l2 : List Pol) (st : CanSt) (π : List Nat) (W : World) : Prop where
  sz : b + 8 ≤ W.heap.size
  r1 : RL poE W ex A1 n1 c1 l1
  r2 : RL poE W ex A2 n2 c2 l2
  k0 : W.cell? ⟨b, 0, none⟩ = some (.int .i64 N)
  k1 : W.cell? ⟨b, 1, none⟩ = some (.slice A1 n1 c1)
  k2 : W.cell? ⟨b, 2, none⟩ = some (.slice A2 n2 c2)
  p : Cells8 W (b + 3) (intsN π)
  best : ∃ (z : Int) (A : Option Addr) (n c : Nat) (A' : Option Addr) (n' c' : Nat), W.cell? ⟨b + 4, 0, none⟩ = some (.int .i64 z) ∧ W.cell? ⟨b + 4, 1, none⟩ = some (.slice A n c) ∧ W.cell? ⟨b + 4, 2, none⟩ = some (.slice A' n' c') ∧
    ∀ q1 q2 τ, st = some (q1, q2, τ) → z = N ∧ RL poE W ex A n c q1 ∧ RL poE W ex A' n' c' q2
  fb : ∀ j, j < 3 → W.frozen? ⟨b + 4, j, none⟩ = false
  at_ : ∃ l : List Int, l.length = 8 ∧ Cells8 W (b + 5) l ∧ ∀ q1 q2 τ, st = some (q1, q2, τ) → l = intsN τ
  key : W.cell? ⟨b + 6, 0, none⟩ = some (.string (canStr N st))
  fk : W.frozen? ⟨b + 6, 0, none⟩ = false
  try_ : W.cell? ⟨b + 7, 0, none⟩ = some (.func (Fn.func 55) #[] (canCaps b))
section
variable {b : Nat} {ex : List Nat} {N : Nat} {A1 : Option Addr} {n1 c1 : Nat} {l1 : List Pol} {A2 : Option Addr} {n2 c2 : Nat} {l2 : List Pol} {st : CanSt} {π : List Nat} {W W' : World}
theorem CSt.keep (h : CSt b ex N A1 n1 c1 l1 A2 n2 c2 l2 st π W) (hb : Below W.heap.size W W') : CSt b ex N A1 n1 c1 l1 A2 n2 c2 l2 st π W' := by
  have hs := h.sz
  have cc : ∀ {g o : Nat} {v : Value}, g < b + 8 → W.cell? ⟨g, o, none⟩ = some v → W'.cell? ⟨g, o, none⟩ = some v := fun hg hv => (hb.at0 (by omega) _).trans hv
  have ff : ∀ {g o : Nat}, g < b + 8 → W.frozen? ⟨g, o, none⟩ = false → W'.frozen? ⟨g, o, none⟩ = false := fun {g o} hg hv => (hb.frozen (p := ⟨g, o, none⟩) (by show g < _; omega)).trans hv
  obtain ⟨z, A, n, c, A', n', c', e0, e1, e2, e3⟩ := h.best
  obtain ⟨l, g1, g2, g3⟩ := h.at_
  exact ⟨Nat.le_trans hs hb.size, h.r1.mono (Kr.of_below hb _), h.r2.mono (Kr.of_below hb _), cc (by omega) h.k0, cc (by omega) h.k1, cc (by omega) h.k2, h.p.below hb (by omega),
    ⟨z, A, n, c, A', n', c', cc (by omega) e0, cc (by omega) e1, cc (by omega) e2, fun q1 q2 τ e => ⟨(e3 q1 q2 τ e).1, (e3 q1 q2 τ e).2.1.mono (Kr.of_below hb _), (e3 q1 q2 τ e).2.2.mono (Kr.of_below hb _)⟩⟩,
    fun j hj => ff (by omega) (h.fb j hj), ⟨l, g1, g2.below hb (by omega), g3⟩, cc (by omega) h.key, ff (by omega) h.fk, cc (by omega) h.try_⟩
theorem Kr.wider {w w' : World} {l ex : List Nat} (h : Kr w l w' l) (hs : ∀ x ∈ l, x ∈ ex) : Kr w ex w' ex :=
  ⟨h.size, fun _ _ h => h, fun x hx hn => h.same x hx (fun hh => hn (hs x hh))⟩
/-- A core is laid into the variables. -/
theorem CSt.stored (h : CSt b ex N A1 n1 c1 l1 A2 n2 c2 l2 st π W) {Wm : World} {q1 q2 : List Pol} {A3 : Option Addr} {n3 c3 : Nat} {A4 : Option Addr} {n4 c4 : Nat} (hin : ∀ x, b ≤ x → x < b + 8 → x ∈ ex) (hp : π.length = 8)
    (h3 : RL poE Wm ex A3 n3 c3 q1) (h4 : RL poE Wm ex A4 n4 c4 q2) (hk : Kr W [b + 4, b + 5, b + 6] W' [b + 4, b + 5, b + 6]) (hm : Kr Wm [b + 4, b + 5, b + 6] W' [b + 4, b + 5, b + 6])
    (u0 : W'.cell? ⟨b + 4, 0, none⟩ = some (.int .i64 N)) (u1 : W'.cell? ⟨b + 4, 1, none⟩ = some (.slice A3 n3 c3)) (u2 : W'.cell? ⟨b + 4, 2, none⟩ = some (.slice A4 n4 c4))
    (ht : ∀ j, j < 8 → W'.cell? ⟨b + 5, j, none⟩ = some (.int .i64 ((intsN π).getD j 0))) (hkey : W'.cell? ⟨b + 6, 0, none⟩ = some (.string (strB (coreB N q1 q2))))
    (hf : ∀ g o, g < W.heap.size → W'.frozen? ⟨g, o, none⟩ = W.frozen? ⟨g, o, none⟩) : CSt b ex N A1 n1 c1 l1 A2 n2 c2 l2 (some (q1, q2, π)) π W' := by
  have hs := h.sz
  have hw := hk.wider (ex := ex) (by intro x hx; simp at hx; exact hin x (by omega) (by omega))
  have hwm := hm.wider (ex := ex) (by intro x hx; simp at hx; exact hin x (by omega) (by omega))
  have cc : ∀ {g o : Nat} {v : Value}, g < b + 8 → (g < b + 4 ∨ b + 6 < g) → W.cell? ⟨g, o, none⟩ = some v → W'.cell? ⟨g, o, none⟩ = some v := fun hg hn hv => (hk.cell (by omega) (by simp; omega) _).trans hv
  obtain ⟨l, a1, a2, a3⟩ := h.at_
  exact ⟨Nat.le_trans hs hk.size, h.r1.mono hw, h.r2.mono hw, cc (by omega) (by omega) h.k0, cc (by omega) (by omega) h.k1, cc (by omega) (by omega) h.k2,
    fun j hj => ⟨cc (by omega) (by omega) (h.p j hj).1, (hf _ _ (by omega)).trans (h.p j hj).2⟩,
    ⟨N, A3, n3, c3, A4, n4, c4, u0, u1, u2, fun q1' q2' τ e => by cases e; exact ⟨rfl, h3.mono hwm, h4.mono hwm⟩⟩,
    fun j hj => (hf _ _ (by omega)).trans (h.fb j hj),
    ⟨intsN π, by rw [intsN_len, hp], fun j hj => ⟨ht j hj, (hf _ _ (by omega)).trans (a2 j hj).2⟩, fun q1' q2' τ e => by cases e; rfl⟩,
    hkey, (hf _ _ (by omega)).trans h.fk, cc (by omega) (by omega) h.try_⟩
end

/-- A call of Canon's closure. -/
def RetCan (b : Nat) (ex : List Nat) (N : Nat) (A1 : Option Addr) (n1 c1 : Nat) (l1 : List Pol) (A2 : Option Addr) (n2 c2 : Nat) (l2 : List Pol) (st : CanSt) (π : List Nat) (W : World) (e : Ending) (W' : World) : Prop :=
  e = .returned (.tuple #[]) ∧ CSt b ex N A1 n1 c1 l1 A2 n2 c2 l2 st π W' ∧ Below b W W' ∧ Kr W [b + 3, b + 4, b + 5, b + 6] W' [b + 3, b + 4, b + 5, b + 6]
set_option maxHeartbeats 1000000 in
theorem leaf_ok (W : World) (b : Nat) (ex : List Nat) (N : Nat) (A1 : Option Addr) (n1 c1 : Nat) (l1 : List Pol) (A2 : Option Addr) (n2 c2 : Nat) (l2 : List Pol) (st : CanSt) (π : List Nat) (hs : CSt b ex N A1 n1 c1 l1 A2 n2 c2 l2 st π W) (hp : Perm8 π) (hN1 : 1 ≤ N) (hN4 : N ≤ 4) (M : Int) (hM : 0 < M) (hM2 : M < 65536) (hok : CanOk N M l1 l2 π)
    (hex : ∀ x ∈ ex, x < W.heap.size) (hin : ∀ x, b ≤ x → x < b + 8 → x ∈ ex) :
    Calls Tryz.prog 55 (#[.int .i64 N] ++ canCaps b) W (RetCan b ex N A1 n1 c1 l1 A2 n2 c2 l2 (canStep N l1 l2 st π) π W) := by
  have hsz := hs.sz
  obtain ⟨d0, d1, d2, d3, d4, d5, d6, d7, hd⟩ := list8 (show (intsN π).length = 8 by rw [intsN_len, hp.len])
  have hp0 := hs.p
  rw [hd] at hp0
  have k0 := hs.k0
  have k1 := hs.k1
  have k2 := hs.k2
  have p0 : W.cell? ⟨b + 3, 0, none⟩ = some (.int .i64 d0) := (hp0 0 (by omega)).1
  have p1 : W.cell? ⟨b + 3, 1, none⟩ = some (.int .i64 d1) := (hp0 1 (by omega)).1
  have p2 : W.cell? ⟨b + 3, 2, none⟩ = some (.int .i64 d2) := (hp0 2 (by omega)).1
  have p3 : W.cell? ⟨b + 3, 3, none⟩ = some (.int .i64 d3) := (hp0 3 (by omega)).1
  have p4 : W.cell? ⟨b + 3, 4, none⟩ = some (.int .i64 d4) := (hp0 4 (by omega)).1
  have p5 : W.cell? ⟨b + 3, 5, none⟩ = some (.int .i64 d5) := (hp0 5 (by omega)).1
  have p6 : W.cell? ⟨b + 3, 6, none⟩ = some (.int .i64 d6) := (hp0 6 (by omega)).1
  have p7 : W.cell? ⟨b + 3, 7, none⟩ = some (.int .i64 d7) := (hp0 7 (by omega)).1
  have sk := hs.key
  have HS := Lib.hid hs
  have HP := Lib.hid hp
  have HD := Lib.hid hd.symm
  have HO := Lib.hid hok
  have HIn := Lib.hid hin
  have HC := Lib.hid (permuted_ok W ex N A1 n1 c1 l1 A2 n2 c2 l2 d0 d1 d2 d3 d4 d5 d6 d7 π HD.out hp hs.r1 hs.r2 hN1 hN4 M hM hM2 hok.perm hex)
  have HT : Hid (canTake N l1 l2 st π = ((canStr N st).toList.isEmpty || Op.bytesLess (strB (coreB N (canT1 l1 l2 π) (canT2 l2 π))).toList (canStr N st).toList)) := Lib.hid rfl
  have HST : Hid (canStep N l1 l2 st π = if canTake N l1 l2 st π then some (canT1 l1 l2 π, canT2 l2 π, π) else st) := Lib.hid rfl
  generalize canStep N l1 l2 st π = st2 at *
  generalize canTake N l1 l2 st π = tk at *
  obtain ⟨sv, hsv⟩ : ∃ sv, canStr N st = sv := ⟨_, rfl⟩
  rw [hsv] at sk HT
  obtain ⟨z, A, n, c, A', n', c', e0, e1, e2, e3⟩ := hs.best
  have HB := Lib.hid e3
  have f0 := hs.fb 0 (by omega)
  have f1 := hs.fb 1 (by omega)
  have f2 := hs.fb 2 (by omega)
  have fk := hs.fk
  obtain ⟨l, a1, a2, a3⟩ := hs.at_
  have HA := Lib.hid a2
  have g0 := (a2 0 (by omega)).1
  have g1 := (a2 1 (by omega)).1
  have g2 := (a2 2 (by omega)).1
  have g3 := (a2 3 (by omega)).1
  have g4 := (a2 4 (by omega)).1
  have g5 := (a2 5 (by omega)).1
  have g6 := (a2 6 (by omega)).1
  have g7 := (a2 7 (by omega)).1
  have v0 := (a2 0 (by omega)).2
  have v1 := (a2 1 (by omega)).2
  have v2 := (a2 2 (by omega)).2
  have v3 := (a2 3 (by omega)).2
  have v4 := (a2 4 (by omega)).2
  have v5 := (a2 5 (by omega)).2
  have v6 := (a2 6 (by omega)).2
  have v7 := (a2 7 (by omega)).2
  clear hs hp hd hok hp0 e3 a2 a3 hsv hin
  unfold canCaps
  go_enter Tryz.func55, Tryz.ntmps55
  go_wp2_with fail
  refine HC.out.mono ?_; rintro e w1 ⟨A3, n3, c3, A4, n4, c4, X, D, rfl, rfl, h3, h4⟩
  go_wp2_with fail
  refine (key_ok _ ex N A3 n3 c3 A4 n4 c4 (canT1 l1 l2 π) (canT2 l2 π) M (h3.mono (Kr.of_below (by repeat (first | (with_reducible exact Below.refl _ _) | (with_reducible assumption) | refine Below.setCell ?_ (by first | (simp; done) | (simp; omega) | omega) _ | refine Below.more ?_ (by first | (simp; done) | (simp; omega) | omega) _ _ | refine Below.alloc ?_ (by first | (simp; done) | (simp; omega) | omega) _ | refine Below.drew ?_ | refine Below.drewN ?_ _)) _)) (h4.mono (Kr.of_below (by repeat (first | (with_reducible exact Below.refl _ _) | (with_reducible assumption) | refine Below.setCell ?_ (by first | (simp; done) | (simp; omega) | omega) _ | refine Below.more ?_ (by first | (simp; done) | (simp; omega) | omega) _ _ | refine Below.alloc ?_ (by first | (simp; done) | (simp; omega) | omega) _ | refine Below.drew ?_ | refine Below.drewN ?_ _)) _)) HO.out.k1 HO.out.k2 HO.out.deg hN1 hN4 HO.out.len (fun x hx => by have := hex x hx; simp; omega)).mono ?_; rintro e w2 ⟨X2, D2, rfl, rfl⟩
  obtain ⟨s2, hs2⟩ : ∃ s2, strB (coreB N (canT1 l1 l2 π) (canT2 l2 π)) = s2 := ⟨_, rfl⟩
  rw [hs2] at HT ⊢
  have HS2 := Lib.hid hs2
  clear hs2
  by_cases hE : sv.toList = []
  · have hI : sv.toList.isEmpty = true := by rw [hE]; rfl
    have HTk : Hid (tk = true) := Lib.hid (by rw [HT.out, hI]; rfl)
    go_wp2_with fail
    go_region
    all_goals
      go_wp2_with fail
      go_end0
      refine ⟨rfl, ?_, Below.drew (by repeat (first | (with_reducible exact Below.refl _ _) | (with_reducible assumption) | refine Below.setCell ?_ (by first | (simp; done) | (simp; omega) | omega) _ | refine Below.more ?_ (by first | (simp; done) | (simp; omega) | omega) _ _ | refine Below.alloc ?_ (by first | (simp; done) | (simp; omega) | omega) _ | refine Below.drew ?_ | refine Below.drewN ?_ _)), Kr.drew (by repeat (first | (with_reducible exact Kr.refl _ _) | (with_reducible assumption) | refine Kr.setCell ?_ _ (by simp) | refine Kr.more ?_ _ _ | refine Kr.alloc_ ?_ _ | refine Kr.drew ?_ | refine Kr.drewN ?_ _))⟩
      rw [HST.out, HTk.out, if_pos rfl]
      refine HS.out.stored HIn.out HP.out.len h3 h4 (Kr.drew (by repeat (first | (with_reducible exact Kr.refl _ _) | (with_reducible assumption) | refine Kr.setCell ?_ _ (by simp) | refine Kr.more ?_ _ _ | refine Kr.alloc_ ?_ _ | refine Kr.drew ?_ | refine Kr.drewN ?_ _))) (Kr.drew (by repeat (first | (with_reducible exact Kr.refl _ _) | (with_reducible assumption) | refine Kr.setCell ?_ _ (by simp) | refine Kr.more ?_ _ _ | refine Kr.alloc_ ?_ _ | refine Kr.drew ?_ | refine Kr.drewN ?_ _))) (by simp [e0, go_sem, ↓IntWalk.iteOmega]) (by simp [e1, go_sem, ↓IntWalk.iteOmega]) (by simp [e2, go_sem, ↓IntWalk.iteOmega]) ?_ (by rw [HS2.out]; simp [sk, go_sem, ↓IntWalk.iteOmega]) ?_
      · intro j hj
        rw [← HD.out]
        obtain rfl | rfl | rfl | rfl | rfl | rfl | rfl | rfl : j = 0 ∨ j = 1 ∨ j = 2 ∨ j = 3 ∨ j = 4 ∨ j = 5 ∨ j = 6 ∨ j = 7 := by omega
        all_goals (simp [g0, g1, g2, g3, g4, g5, g6, g7, go_sem, ↓IntWalk.iteOmega]; done)
      · intro g o hg
        simp only [World.frozen?_drew, World.frozen?_setCell]
        exact (show Below W.heap.size W _ from (by repeat (first | (with_reducible exact Below.refl _ _) | (with_reducible assumption) | refine Below.setCell ?_ (by first | (simp; done) | (simp; omega) | omega) _ | refine Below.more ?_ (by first | (simp; done) | (simp; omega) | omega) _ _ | refine Below.alloc ?_ (by first | (simp; done) | (simp; omega) | omega) _ | refine Below.drew ?_ | refine Below.drewN ?_ _))).frozen hg
  · have hI : sv.toList.isEmpty = false := by simpa using hE
    cases hL : Op.bytesLess s2.toList sv.toList with
    | true =>
      have HTk : Hid (tk = true) := Lib.hid (by rw [HT.out, hI, hL]; rfl)
      go_wp2_with fail
      go_region
      all_goals
        go_wp2_with fail
        go_end0
        refine ⟨rfl, ?_, Below.drew (by repeat (first | (with_reducible exact Below.refl _ _) | (with_reducible assumption) | refine Below.setCell ?_ (by first | (simp; done) | (simp; omega) | omega) _ | refine Below.more ?_ (by first | (simp; done) | (simp; omega) | omega) _ _ | refine Below.alloc ?_ (by first | (simp; done) | (simp; omega) | omega) _ | refine Below.drew ?_ | refine Below.drewN ?_ _)), Kr.drew (by repeat (first | (with_reducible exact Kr.refl _ _) | (with_reducible assumption) | refine Kr.setCell ?_ _ (by simp) | refine Kr.more ?_ _ _ | refine Kr.alloc_ ?_ _ | refine Kr.drew ?_ | refine Kr.drewN ?_ _))⟩
        rw [HST.out, HTk.out, if_pos rfl]
        refine HS.out.stored HIn.out HP.out.len h3 h4 (Kr.drew (by repeat (first | (with_reducible exact Kr.refl _ _) | (with_reducible assumption) | refine Kr.setCell ?_ _ (by simp) | refine Kr.more ?_ _ _ | refine Kr.alloc_ ?_ _ | refine Kr.drew ?_ | refine Kr.drewN ?_ _))) (Kr.drew (by repeat (first | (with_reducible exact Kr.refl _ _) | (with_reducible assumption) | refine Kr.setCell ?_ _ (by simp) | refine Kr.more ?_ _ _ | refine Kr.alloc_ ?_ _ | refine Kr.drew ?_ | refine Kr.drewN ?_ _))) (by simp [e0, go_sem, ↓IntWalk.iteOmega]) (by simp [e1, go_sem, ↓IntWalk.iteOmega]) (by simp [e2, go_sem, ↓IntWalk.iteOmega]) ?_ (by rw [HS2.out]; simp [sk, go_sem, ↓IntWalk.iteOmega]) ?_
        · intro j hj
          rw [← HD.out]
          obtain rfl | rfl | rfl | rfl | rfl | rfl | rfl | rfl : j = 0 ∨ j = 1 ∨ j = 2 ∨ j = 3 ∨ j = 4 ∨ j = 5 ∨ j = 6 ∨ j = 7 := by omega
          all_goals (simp [g0, g1, g2, g3, g4, g5, g6, g7, go_sem, ↓IntWalk.iteOmega]; done)
        · intro g o hg
          simp only [World.frozen?_drew, World.frozen?_setCell]
          exact (show Below W.heap.size W _ from (by repeat (first | (with_reducible exact Below.refl _ _) | (with_reducible assumption) | refine Below.setCell ?_ (by first | (simp; done) | (simp; omega) | omega) _ | refine Below.more ?_ (by first | (simp; done) | (simp; omega) | omega) _ _ | refine Below.alloc ?_ (by first | (simp; done) | (simp; omega) | omega) _ | refine Below.drew ?_ | refine Below.drewN ?_ _))).frozen hg
    | false =>
      have HTk : Hid (tk = false) := Lib.hid (by rw [HT.out, hI, hL]; rfl)
      go_wp2_with fail
      go_end0
      refine ⟨rfl, ?_, (by repeat (first | (with_reducible exact Below.refl _ _) | (with_reducible assumption) | refine Below.setCell ?_ (by first | (simp; done) | (simp; omega) | omega) _ | refine Below.more ?_ (by first | (simp; done) | (simp; omega) | omega) _ _ | refine Below.alloc ?_ (by first | (simp; done) | (simp; omega) | omega) _ | refine Below.drew ?_ | refine Below.drewN ?_ _)), Kr.of_below (by repeat (first | (with_reducible exact Below.refl _ _) | (with_reducible assumption) | refine Below.setCell ?_ (by first | (simp; done) | (simp; omega) | omega) _ | refine Below.more ?_ (by first | (simp; done) | (simp; omega) | omega) _ _ | refine Below.alloc ?_ (by first | (simp; done) | (simp; omega) | omega) _ | refine Below.drew ?_ | refine Below.drewN ?_ _)) _⟩
      rw [HST.out, HTk.out, if_neg (by decide)]
      exact HS.out.keep (by repeat (first | (with_reducible exact Below.refl _ _) | (with_reducible assumption) | refine Below.setCell ?_ (by first | (simp; done) | (simp; omega) | omega) _ | refine Below.more ?_ (by first | (simp; done) | (simp; omega) | omega) _ _ | refine Below.alloc ?_ (by first | (simp; done) | (simp; omega) | omega) _ | refine Below.drew ?_ | refine Below.drewN ?_ _))

end Go.Proofs.YthhdleppkggepaaGreat
