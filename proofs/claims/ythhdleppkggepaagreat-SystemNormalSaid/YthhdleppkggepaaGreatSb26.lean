/-
  The walk of system.Canon's closure: a permutation that is whole.
-/
import Derived.Test.YthhdleppkggepaaGreatSb25

set_option linter.unusedSimpArgs false
set_option linter.unusedVariables false
set_option linter.unusedSectionVars false

namespace Go.Proofs.YthhdleppkggepaaGreat
open Go.RowKit Go.Deep
set_option maxRecDepth 100000

def canT1 (l1 l2 : List Pol) (π : List Nat) : List Pol := tidyP (yesL (permL π l1) (permL π l2))
def canT2 (l2 : List Pol) (π : List Nat) : List Pol := tidyP (noL (permL π l2))
abbrev CanSt := Option (List Pol × List Pol × List Nat)
def canStr (N : Nat) : CanSt → ByteArray
  | none => ⟨#[]⟩
  | some (q1, q2, _) => strB (coreB N q1 q2)
/-- Is the core of this permutation taken? -/
def canTake (N : Nat) (l1 l2 : List Pol) (st : CanSt) (π : List Nat) : Bool :=
  (canStr N st).toList.isEmpty || Op.bytesLess (strB (coreB N (canT1 l1 l2 π) (canT2 l2 π))).toList (canStr N st).toList
def canStep (N : Nat) (l1 l2 : List Pol) (st : CanSt) (π : List Nat) : CanSt :=
  if canTake N l1 l2 st π then some (canT1 l1 l2 π, canT2 l2 π, π) else st

/-- What Canon asks of its lists, at a permutation. -/
structure CanOk (N : Nat) (M : Int) (l1 l2 : List Pol) (π : List Nat) : Prop where
  perm : PermOk N M π l1 l2
  k1 : ListOk N M (canT1 l1 l2 π)
  k2 : ListOk N M (canT2 l2 π)
  deg : ∀ p ∈ canT2 l2 π, pdeg p ≠ 0
  len : (coreB N (canT1 l1 l2 π) (canT2 l2 π)).length ≤ 10000000000

def canCaps (b : Nat) : Array Value := #[.pointer (some ⟨b, 0, none⟩), .pointer (some ⟨b + 3, 0, none⟩), .pointer (some ⟨b + 6, 0, none⟩), .pointer (some ⟨b + 4, 0, none⟩), .pointer (some ⟨b + 5, 0, none⟩), .pointer (some ⟨b + 7, 0, none⟩)]
/-- The eight variables of a call of Canon. -/
structure CSt (b : Nat) (ex : List Nat) (N : Nat) (A1 : Option Addr) (n1 c1 : Nat) (l1 : List Pol) (A2 : Option Addr) (n2 c2 : Nat) (l2 : List Pol) (st : CanSt) (π : List Nat) (W : World) : Prop where
  sz : b + 8 ≤ W.heap.size
  r1 : RL poE W ex A1 n1 c1 l1
  r2 : RL poE W ex A2 n2 c2 l2
  k0 : W.cell? ⟨b, 0, none⟩ = some (.int .i64 N)
  k1 : W.cell? ⟨b, 1, none⟩ = some (.slice A1 n1 c1)
  k2 : W.cell? ⟨b, 2, none⟩ = some (.slice A2 n2 c2)
  p : Cells8 W (b + 3) (intsN π)
  best : ∃ (z : Int) (A : Option Addr) (n c : Nat) (A' : Option Addr) (n' c' : Nat), W.cell? ⟨b + 4, 0, none⟩ = some (.int .i64 z) ∧ W.cell? ⟨b + 4, 1, none⟩ = some (.slice A n c) ∧ W.cell? ⟨b + 4, 2, none⟩ = some (.slice A' n' c') ∧
    ∀ q1 q2 τ, st = some (q1, q2, τ) → z = N ∧ RL poE W ex A n c q1 ∧ RL poE W ex A' n' c' q2
  fb : ∀ j, j < 3 → W.frozen? ⟨b + 4, j, none⟩ = false
  at_ : ∃ l : List Int, l.length = 8 ∧ Cells8 W (b + 5) l ∧ ∀ q1 q2 τ, st = some (q1, q2, τ) → l = intsN τ
  key : W.cell? ⟨b + 6, 0, none⟩ = some (.string (canStr N st))
  fk : W.frozen? ⟨b + 6, 0, none⟩ = false
  try_ : W.cell? ⟨b + 7, 0, none⟩ = some (.func (Fn.func 55) #[] (canCaps b))
section
variable {b : Nat} {ex : List Nat} {N : Nat} {A1 : Option Addr} {n1 c1 : Nat} {l1 : List Pol} {A2 : Option Addr} {n2 c2 : Nat} {l2 : List Pol} {st : CanSt} {π : List Nat} {W W' : World}
theorem CSt.keep (h : CSt b ex N A1 n1 c1 l1 A2 n2 c2 l2 st π W) (hb : Below W.heap.size W W') : CSt b ex N A1 n1 c1 l1 A2 n2 c2 l2 st π W' := by
  have hs := h.sz
  have cc : ∀ {g o : Nat} {v : Value}, g < b + 8 → W.cell? ⟨g, o, none⟩ = some v → W'.cell? ⟨g, o, none⟩ = some v := fun hg hv => (hb.at0 (by omega) _).trans hv
  have ff : ∀ {g o : Nat}, g < b + 8 → W.frozen? ⟨g, o, none⟩ = false → W'.frozen? ⟨g, o, none⟩ = false := fun {g o} hg hv => (hb.frozen (p := ⟨g, o, none⟩) (by show g < _; omega)).trans hv
  obtain ⟨z, A, n, c, A', n', c', e0, e1, e2, e3⟩ := h.best
  obtain ⟨l, g1, g2, g3⟩ := h.at_
  exact ⟨Nat.le_trans hs hb.size, h.r1.mono (Kr.of_below hb _), h.r2.mono (Kr.of_below hb _), cc (by omega) h.k0, cc (by omega) h.k1, cc (by omega) h.k2, h.p.below hb (by omega),
    ⟨z, A, n, c, A', n', c', cc (by omega) e0, cc (by omega) e1, cc (by omega) e2, fun q1 q2 τ e => ⟨(e3 q1 q2 τ e).1, (e3 q1 q2 τ e).2.1.mono (Kr.of_below hb _), (e3 q1 q2 τ e).2.2.mono (Kr.of_below hb _)⟩⟩,
    fun j hj => ff (by omega) (h.fb j hj), ⟨l, g1, g2.below hb (by omega), g3⟩, cc (by omega) h.key, ff (by omega) h.fk, cc (by omega) h.try_⟩
theorem Kr.wider {w w' : World} {l ex : List Nat} (h : Kr w l w' l) (hs : ∀ x ∈ l, x ∈ ex) : Kr w ex w' ex :=
  ⟨h.size, fun _ _ h => h, fun x hx hn => h.same x hx (fun hh => hn (hs x hh))⟩
/-- A core is laid into the variables. -/
theorem CSt.stored (h : CSt b ex N A1 n1 c1 l1 A2 n2 c2 l2 st π W) {Wm : World} {q1 q2 : List Pol} {A3 : Option Addr} {n3 c3 : Nat} {A4 : Option Addr} {n4 c4 : Nat} (hin : ∀ x, b ≤ x → x < b + 8 → x ∈ ex) (hp : π.length = 8)
    (h3 : RL poE Wm ex A3 n3 c3 q1) (h4 : RL poE Wm ex A4 n4 c4 q2) (hk : Kr W [b + 4, b + 5, b + 6] W' [b + 4, b + 5, b + 6]) (hm : Kr Wm [b + 4, b + 5, b + 6] W' [b + 4, b + 5, b + 6])
    (u0 : W'.cell? ⟨b + 4, 0, none⟩ = some (.int .i64 N)) (u1 : W'.cell? ⟨b + 4, 1, none⟩ = some (.slice A3 n3 c3)) (u2 : W'.cell? ⟨b + 4, 2, none⟩ = some (.slice A4 n4 c4))
    (ht : ∀ j, j < 8 → W'.cell? ⟨b + 5, j, none⟩ = some (.int .i64 ((intsN π).getD j 0))) (hkey : W'.cell? ⟨b + 6, 0, none⟩ = some (.string (strB (coreB N q1 q2))))
    (hf : ∀ g o, g < W.heap.size → W'.frozen? ⟨g, o, none⟩ = W.frozen? ⟨g, o, none⟩) : CSt b ex N A1 n1 c1 l1 A2 n2 c2 l2 (some (q1, q2, π)) π W' := by
  have hs := h.sz
  have hw := hk.wider (ex := ex) (by intro x hx; simp at hx; exact hin x (by omega) (by omega))
  have hwm := hm.wider (ex := ex) (by intro x hx; simp at hx; exact hin x (by omega) (by omega))
  have cc : ∀ {g o : Nat} {v : Value}, g < b + 8 → (g < b + 4 ∨ b + 6 < g) → W.cell? ⟨g, o, none⟩ = some v → W'.cell? ⟨g, o, none⟩ = some v := fun hg hn hv => (hk.cell (by omega) (by simp; omega) _).trans hv
  obtain ⟨l, a1, a2, a3⟩ := h.at_
  exact ⟨Nat.le_trans hs hk.size, h.r1.mono hw, h.r2.mono hw, cc (by omega) (by omega) h.k0, cc (by omega) (by omega) h.k1, cc (by omega) (by omega) h.k2,
    fun j hj => ⟨cc (by omega) (by omega) (h.p j hj).1, (hf _ _ (by omega)).trans (h.p j hj).2⟩,
    ⟨N, A3, n3, c3, A4, n4, c4, u0, u1, u2, fun q1' q2' τ e => by cases e; exact ⟨rfl, h3.mono hwm, h4.mono hwm⟩⟩,
    fun j hj => (hf _ _ (by omega)).trans (h.fb j hj),
    ⟨intsN π, by rw [intsN_len, hp], fun j hj => ⟨ht j hj, (hf _ _ (by omega)).trans (a2 j hj).2⟩, fun q1' q2' τ e => by cases e; rfl⟩,
    hkey, (hf _ _ (by omega)).trans h.fk, cc (by omega) (by omega) h.try_⟩
end

/-- A call of Canon's closure. -/
def RetCan (b : Nat) (ex : List Nat) (N : Nat) (A1 : Option Addr) (n1 c1 : Nat) (l1 : List Pol) (A2 : Option Addr) (n2 c2 : Nat) (l2 : List Pol) (st : CanSt) (π : List Nat) (W : World) (e : Ending) (W' : World) : Prop :=
  e = .returned (.tuple #[]) ∧ CSt b ex N A1 n1 c1 l1 A2 n2 c2 l2 st π W' ∧ Below b W W' ∧ Kr W [b + 3, b + 4, b + 5, b + 6] W' [b + 3, b + 4, b + 5, b + 6]
set_option maxHeartbeats 1000000 in
theorem leaf_ok (W : World) (b : Nat) (ex : List Nat) (N : Nat) (A1 : Option Addr) (n1 c1 : Nat) (l1 : List Pol) (A2 : Option Addr) (n2 c2 : Nat) (l2 : List Pol) (st : CanSt) (π : List Nat) (hs : CSt b ex N A1 n1 c1 l1 A2 n2 c2 l2 st π W) (hp : Perm8 π) (hN1 : 1 ≤ N) (hN4 : N ≤ 4) (M : Int) (hM : 0 < M) (hM2 : M < 65536) (hok : CanOk N M l1 l2 π)
    (hex : ∀ x ∈ ex, x < W.heap.size) (hin : ∀ x, b ≤ x → x < b + 8 → x ∈ ex) :
    Calls Tryz.prog 55 (#[.int .i64 N] ++ canCaps b) W (RetCan b ex N A1 n1 c1 l1 A2 n2 c2 l2 (canStep N l1 l2 st π) π W) := by
  have hsz := hs.sz
  obtain ⟨d0, d1, d2, d3, d4, d5, d6, d7, hd⟩ := list8 (show (intsN π).length = 8 by rw [intsN_len, hp.len])
  have hp0 := hs.p
  rw [hd] at hp0
  have k0 := hs.k0
  have k1 := hs.k1
  have k2 := hs.k2
  have p0 : W.cell? ⟨b + 3, 0, none⟩ = some (.int .i64 d0) := (hp0 0 (by omega)).1
  have p1 : W.cell? ⟨b + 3, 1, none⟩ = some (.int .i64 d1) := (hp0 1 (by omega)).1
  have p2 : W.cell? ⟨b + 3, 2, none⟩ = some (.int .i64 d2) := (hp0 2 (by omega)).1
  have p3 : W.cell? ⟨b + 3, 3, none⟩ = some (.int .i64 d3) := (hp0 3 (by omega)).1
  have p4 : W.cell? ⟨b + 3, 4, none⟩ = some (.int .i64 d4) := (hp0 4 (by omega)).1
  have p5 : W.cell? ⟨b + 3, 5, none⟩ = some (.int .i64 d5) := (hp0 5 (by omega)).1
  have p6 : W.cell? ⟨b + 3, 6, none⟩ = some (.int .i64 d6) := (hp0 6 (by omega)).1
  have p7 : W.cell? ⟨b + 3, 7, none⟩ = some (.int .i64 d7) := (hp0 7 (by omega)).1
  have sk := hs.key
  have HS := Lib.hid hs
  have HP := Lib.hid hp
  have HD := Lib.hid hd.symm
  have HO := Lib.hid hok
  have HIn := Lib.hid hin
  have HC := Lib.hid (permuted_ok W ex N A1 n1 c1 l1 A2 n2 c2 l2 d0 d1 d2 d3 d4 d5 d6 d7 π HD.out hp hs.r1 hs.r2 hN1 hN4 M hM hM2 hok.perm hex)
  have HT : Hid (canTake N l1 l2 st π = ((canStr N st).toList.isEmpty || Op.bytesLess (strB (coreB N (canT1 l1 l2 π) (canT2 l2 π))).toList (canStr N st).toList)) := Lib.hid rfl
  have HST : Hid (canStep N l1 l2 st π = if canTake N l1 l2 st π then some (canT1 l1 l2 π, canT2 l2 π, π) else st) := Lib.hid rfl
  generalize canStep N l1 l2 st π = st2 at *
  generalize canTake N l1 l2 st π = tk at *
  obtain ⟨sv, hsv⟩ : ∃ sv, canStr N st = sv := ⟨_, rfl⟩
  rw [hsv] at sk HT
  obtain ⟨z, A, n, c, A', n', c', e0, e1, e2, e3⟩ := hs.best
  have HB := Lib.hid e3
  have f0 := hs.fb 0 (by omega)
  have f1 := hs.fb 1 (by omega)
  have f2 := hs.fb 2 (by omega)
  have fk := hs.fk
  obtain ⟨l, a1, a2, a3⟩ := hs.at_
  have HA := Lib.hid a2
  have g0 := (a2 0 (by omega)).1
  have g1 := (a2 1 (by omega)).1
  have g2 := (a2 2 (by omega)).1
  have g3 := (a2 3 (by omega)).1
  have g4 := (a2 4 (by omega)).1
  have g5 := (a2 5 (by omega)).1
  have g6 := (a2 6 (by omega)).1
  have g7 := (a2 7 (by omega)).1
  have v0 := (a2 0 (by omega)).2
  have v1 := (a2 1 (by omega)).2
  have v2 := (a2 2 (by omega)).2
  have v3 := (a2 3 (by omega)).2
  have v4 := (a2 4 (by omega)).2
  have v5 := (a2 5 (by omega)).2
  have v6 := (a2 6 (by omega)).2
  have v7 := (a2 7 (by omega)).2
  clear hs hp hd hok hp0 e3 a2 a3 hsv hin
  unfold canCaps
  go_enter Tryz.func55, Tryz.ntmps55
  go_wp2_with fail
  refine HC.out.mono ?_; rintro e w1 ⟨A3, n3, c3, A4, n4, c4, X, D, rfl, rfl, h3, h4⟩
  go_wp2_with fail
  refine (key_ok _ ex N A3 n3 c3 A4 n4 c4 (canT1 l1 l2 π) (canT2 l2 π) M (h3.mono (Kr.of_below (by repeat first | with_reducible exact .refl .. | with_reducible assumption | refine .s ?_ ?_ | refine .m ?_ ?_ | refine .l ?_ ?_ | refine .d ?_ | refine .e ?_ | (simp <;> omega) | omega) _)) (h4.mono (Kr.of_below (by repeat first | with_reducible exact .refl .. | with_reducible assumption | refine .s ?_ ?_ | refine .m ?_ ?_ | refine .l ?_ ?_ | refine .d ?_ | refine .e ?_ | (simp <;> omega) | omega) _)) HO.out.k1 HO.out.k2 HO.out.deg hN1 hN4 HO.out.len (fun x hx => by have := hex x hx; simp; omega)).mono ?_; rintro e w2 ⟨X2, D2, rfl, rfl⟩
  obtain ⟨s2, hs2⟩ : ∃ s2, strB (coreB N (canT1 l1 l2 π) (canT2 l2 π)) = s2 := ⟨_, rfl⟩
  rw [hs2] at HT ⊢
  have HS2 := Lib.hid hs2
  clear hs2
  by_cases hE : sv.toList = []
  · have hI : sv.toList.isEmpty = true := by rw [hE]; rfl
    have HTk : Hid (tk = true) := Lib.hid (by rw [HT.out, hI]; rfl)
    go_wp2_with fail
    go_region
    all_goals
      go_wp2_with fail
      go_end0
      refine ⟨rfl, ?_, Below.drew (by repeat first | with_reducible exact .refl .. | with_reducible assumption | refine .s ?_ ?_ | refine .m ?_ ?_ | refine .l ?_ ?_ | refine .d ?_ | refine .e ?_ | (simp <;> omega) | omega), Kr.drew (by repeat (first | (with_reducible exact Kr.refl _ _) | (with_reducible assumption) | refine Kr.setCell ?_ _ (by simp) | refine Kr.more ?_ _ _ | refine Kr.alloc_ ?_ _ | refine Kr.drew ?_ | refine Kr.drewN ?_ _))⟩
      rw [HST.out, HTk.out, if_pos rfl]
      refine HS.out.stored HIn.out HP.out.len h3 h4 (Kr.drew (by repeat (first | (with_reducible exact Kr.refl _ _) | (with_reducible assumption) | refine Kr.setCell ?_ _ (by simp) | refine Kr.more ?_ _ _ | refine Kr.alloc_ ?_ _ | refine Kr.drew ?_ | refine Kr.drewN ?_ _))) (Kr.drew (by repeat (first | (with_reducible exact Kr.refl _ _) | (with_reducible assumption) | refine Kr.setCell ?_ _ (by simp) | refine Kr.more ?_ _ _ | refine Kr.alloc_ ?_ _ | refine Kr.drew ?_ | refine Kr.drewN ?_ _))) (by simp [e0, go_sem, ↓IntWalk.iteOmega]) (by simp [e1, go_sem, ↓IntWalk.iteOmega]) (by simp [e2, go_sem, ↓IntWalk.iteOmega]) ?_ (by rw [HS2.out]; simp [sk, go_sem, ↓IntWalk.iteOmega]) ?_
      · intro j hj
        rw [← HD.out]
        obtain rfl | rfl | rfl | rfl | rfl | rfl | rfl | rfl : j = 0 ∨ j = 1 ∨ j = 2 ∨ j = 3 ∨ j = 4 ∨ j = 5 ∨ j = 6 ∨ j = 7 := by omega
        all_goals (simp [g0, g1, g2, g3, g4, g5, g6, g7, go_sem, ↓IntWalk.iteOmega]; done)
      · intro g o hg
        simp only [World.frozen?_drew, World.frozen?_setCell]
        exact (show Below W.heap.size W _ from (by repeat first | with_reducible exact .refl .. | with_reducible assumption | refine .s ?_ ?_ | refine .m ?_ ?_ | refine .l ?_ ?_ | refine .d ?_ | refine .e ?_ | (simp <;> omega) | omega)).frozen hg
  · have hI : sv.toList.isEmpty = false := by simpa using hE
    cases hL : Op.bytesLess s2.toList sv.toList with
    | true =>
      have HTk : Hid (tk = true) := Lib.hid (by rw [HT.out, hI, hL]; rfl)
      go_wp2_with fail
      go_region
      all_goals
        go_wp2_with fail
        go_end0
        refine ⟨rfl, ?_, Below.drew (by repeat first | with_reducible exact .refl .. | with_reducible assumption | refine .s ?_ ?_ | refine .m ?_ ?_ | refine .l ?_ ?_ | refine .d ?_ | refine .e ?_ | (simp <;> omega) | omega), Kr.drew (by repeat (first | (with_reducible exact Kr.refl _ _) | (with_reducible assumption) | refine Kr.setCell ?_ _ (by simp) | refine Kr.more ?_ _ _ | refine Kr.alloc_ ?_ _ | refine Kr.drew ?_ | refine Kr.drewN ?_ _))⟩
        rw [HST.out, HTk.out, if_pos rfl]
        refine HS.out.stored HIn.out HP.out.len h3 h4 (Kr.drew (by repeat (first | (with_reducible exact Kr.refl _ _) | (with_reducible assumption) | refine Kr.setCell ?_ _ (by simp) | refine Kr.more ?_ _ _ | refine Kr.alloc_ ?_ _ | refine Kr.drew ?_ | refine Kr.drewN ?_ _))) (Kr.drew (by repeat (first | (with_reducible exact Kr.refl _ _) | (with_reducible assumption) | refine Kr.setCell ?_ _ (by simp) | refine Kr.more ?_ _ _ | refine Kr.alloc_ ?_ _ | refine Kr.drew ?_ | refine Kr.drewN ?_ _))) (by simp [e0, go_sem, ↓IntWalk.iteOmega]) (by simp [e1, go_sem, ↓IntWalk.iteOmega]) (by simp [e2, go_sem, ↓IntWalk.iteOmega]) ?_ (by rw [HS2.out]; simp [sk, go_sem, ↓IntWalk.iteOmega]) ?_
        · intro j hj
          rw [← HD.out]
          obtain rfl | rfl | rfl | rfl | rfl | rfl | rfl | rfl : j = 0 ∨ j = 1 ∨ j = 2 ∨ j = 3 ∨ j = 4 ∨ j = 5 ∨ j = 6 ∨ j = 7 := by omega
          all_goals (simp [g0, g1, g2, g3, g4, g5, g6, g7, go_sem, ↓IntWalk.iteOmega]; done)
        · intro g o hg
          simp only [World.frozen?_drew, World.frozen?_setCell]
          exact (show Below W.heap.size W _ from (by repeat first | with_reducible exact .refl .. | with_reducible assumption | refine .s ?_ ?_ | refine .m ?_ ?_ | refine .l ?_ ?_ | refine .d ?_ | refine .e ?_ | (simp <;> omega) | omega)).frozen hg
    | false =>
      have HTk : Hid (tk = false) := Lib.hid (by rw [HT.out, hI, hL]; rfl)
      go_wp2_with fail
      go_end0
      refine ⟨rfl, ?_, (by repeat first | with_reducible exact .refl .. | with_reducible assumption | refine .s ?_ ?_ | refine .m ?_ ?_ | refine .l ?_ ?_ | refine .d ?_ | refine .e ?_ | (simp <;> omega) | omega), Kr.of_below (by repeat first | with_reducible exact .refl .. | with_reducible assumption | refine .s ?_ ?_ | refine .m ?_ ?_ | refine .l ?_ ?_ | refine .d ?_ | refine .e ?_ | (simp <;> omega) | omega) _⟩
      rw [HST.out, HTk.out, if_neg (by decide)]
      exact HS.out.keep (by repeat first | with_reducible exact .refl .. | with_reducible assumption | refine .s ?_ ?_ | refine .m ?_ ?_ | refine .l ?_ ?_ | refine .d ?_ | refine .e ?_ | (simp <;> omega) | omega)

end Go.Proofs.YthhdleppkggepaaGreat

/-
  The walk of system.Canon's closure, by induction on what is left.
-/
namespace Go.Proofs.YthhdleppkggepaaGreat
open Go.RowKit Go.Deep
set_option maxRecDepth 100000

section
variable {b : Nat} {ex : List Nat} {N : Nat} {A1 : Option Addr} {n1 c1 : Nat} {l1 : List Pol} {A2 : Option Addr} {n2 c2 : Nat} {l2 : List Pol} {st : CanSt} {π π' : List Nat} {W W' : World}
/-- Nothing but the permutation has turned. -/
theorem CSt.perm (h : CSt b ex N A1 n1 c1 l1 A2 n2 c2 l2 st π W) (hin : ∀ x, b ≤ x → x < b + 8 → x ∈ ex) (hk : Kr W [b + 3] W' [b + 3]) (hp : Cells8 W' (b + 3) (intsN π')) : CSt b ex N A1 n1 c1 l1 A2 n2 c2 l2 st π' W' := by
  have hs := h.sz
  have hw := hk.wider (ex := ex) (by intro x hx; simp at hx; exact hin x (by omega) (by omega))
  have cc : ∀ {g o : Nat} {v : Value}, g < b + 8 → g ≠ b + 3 → W.cell? ⟨g, o, none⟩ = some v → W'.cell? ⟨g, o, none⟩ = some v := fun hg hn hv => (hk.cell (by omega) (by simp; omega) _).trans hv
  have ff : ∀ {g o : Nat}, g < b + 8 → g ≠ b + 3 → W.frozen? ⟨g, o, none⟩ = false → W'.frozen? ⟨g, o, none⟩ = false := fun hg hn hv => (hk.froz (by omega) (by simp; omega) _).trans hv
  obtain ⟨z, A, n, c, A', n', c', e0, e1, e2, e3⟩ := h.best
  obtain ⟨l, g1, g2, g3⟩ := h.at_
  exact ⟨Nat.le_trans hs hk.size, h.r1.mono hw, h.r2.mono hw, cc (by omega) (by omega) h.k0, cc (by omega) (by omega) h.k1, cc (by omega) (by omega) h.k2, hp,
    ⟨z, A, n, c, A', n', c', cc (by omega) (by omega) e0, cc (by omega) (by omega) e1, cc (by omega) (by omega) e2, fun q1 q2 τ e => ⟨(e3 q1 q2 τ e).1, (e3 q1 q2 τ e).2.1.mono hw, (e3 q1 q2 τ e).2.2.mono hw⟩⟩,
    fun j hj => ff (by omega) (by omega) (h.fb j hj), ⟨l, g1, fun j hj => ⟨cc (by omega) (by omega) (g2 j hj).1, ff (by omega) (by omega) (g2 j hj).2⟩, g3⟩, cc (by omega) (by omega) h.key, ff (by omega) (by omega) h.fk, cc (by omega) (by omega) h.try_⟩
theorem Cells8.kr {w w' : World} {g : Nat} {l : List Int} {x : Nat} (h : Cells8 w g l) (hk : Kr w [x] w' [x]) (hg : g < w.heap.size) (hne : g ≠ x) : Cells8 w' g l :=
  fun j hj => ⟨(hk.cell hg (by simp; omega) _).trans (h j hj).1, (hk.froz hg (by simp; omega) _).trans (h j hj).2⟩
theorem kr_of_grown {w w' : World} {x : Nat} (hg : w.grownBy w' (some x)) : Kr w [x] w' [x] :=
  ⟨hg.size, fun _ _ h => h, fun k hk hn => hg.block k hk (by intro e; cases e; exact hn (by simp))⟩
end
theorem intsN_rot {i j : Nat} {π : List Nat} (hj : j < π.length) : intsN (rot i j π) = (intsN π).take i ++ (intsN π).getD j 0 :: (((intsN π).drop i).take (j - i) ++ (intsN π).drop (j + 1)) := by
  unfold rot intsN
  simp only [List.map_append, List.map_cons, List.map_take, List.map_drop]
  congr 2
  simp [List.getD_eq_getElem?_getD, List.getElem?_map, List.getElem?_eq_getElem hj]
/-- Moving and copying make a rotation. -/
theorem rot_cells {i j : Nat} {π : List Nat} (hl : π.length = 8) (hij : i ≤ j) (hj : j < 8) {x : Int} (hx : (intsN π).getD j 0 = x) :
    (((intsN π).take (i + 1) ++ ((intsN π).drop i).take (j - i) ++ (intsN π).drop (i + 1 + (j - i))).set i x) = intsN (rot i j π) := by
  have hL : (intsN π).length = 8 := by rw [intsN_len, hl]
  rw [intsN_rot (by omega), hx, show i + 1 + (j - i) = j + 1 by omega, List.take_succ_eq_append_getElem (by omega), List.append_assoc, List.append_assoc, List.set_append_right _ _ (by rw [List.length_take]; omega), List.length_take, Nat.min_eq_left (by omega), Nat.sub_self]
  rfl
theorem rot_copy {i j : Nat} {π : List Nat} (hl : π.length = 8) (hij : i ≤ j) (hj : j < 8) :
    (intsN (rot i j π)).take (j + 1) ++ ((intsN π).drop (j + 1)).take (8 - (j + 1)) ++ (intsN (rot i j π)).drop (j + 1 + (8 - (j + 1))) = intsN (rot i j π) := by
  have hL : (intsN π).length = 8 := by rw [intsN_len, hl]
  have hR : (intsN (rot i j π)).length = 8 := by rw [intsN_len, rot_len hij (by omega), hl]
  have hd : (intsN (rot i j π)).drop (j + 1) = (intsN π).drop (j + 1) := by
    rw [intsN_rot (by omega)]
    have e : ∀ (A B C : List Int) (y : Int), A.length + (B.length + 1) = j + 1 → (A ++ y :: (B ++ C)).drop (j + 1) = C := by
      intro A B C y h
      rw [show A ++ y :: (B ++ C) = (A ++ y :: B) ++ C by simp, ← h]
      exact List.drop_left' (by simp)
    exact e _ _ _ _ (by rw [List.length_take, List.length_take, List.length_drop]; omega)
  have h8 : (intsN (rot i j π)).drop (j + 1 + (8 - (j + 1))) = [] := List.drop_of_length_le (by omega)
  rw [List.take_of_length_le (l := (intsN π).drop (j + 1)) (by rw [List.length_drop]; omega), h8, List.append_nil, ← hd, List.take_append_drop]

theorem bound8 (lo y : Nat) (h : lo ≤ y) (c : BoundsCode) (w : World) : (Instr.sliceBound (.int .i64 lo) y c).run Tryz.prog w = .ok lo w := by
  have h0 : (0 : Int) ≤ (lo : Int) ∧ (lo : Int) ≤ (y : Int) := by omega
  simp [Instr.sliceBound, asIntOf, go_sem, h0]
theorem slice8 (w : World) (g lo hi : Nat) (h1 : lo ≤ hi) (h2 : hi ≤ 8) (h3 : lo < 8) :
    (Instr.sliceAt 44 (.pointer (some ⟨g, 0, none⟩)) (some (.int .i64 lo)) (some (.int .i64 hi)) none).run Tryz.prog w = .ok (.slice (some ⟨g, lo, none⟩) (hi - lo) (8 - lo)) w := by
  have hs : (Tryz.prog.info? 3).map (fun i => i.size) = some 1 := by kernel_rfl
  obtain ⟨i, hi', hsz⟩ := Option.map_eq_some_iff.1 hs
  have hne : ¬ 8 = lo := by omega
  simp [Instr.sliceAt, Instr.slice, Instr.sliceBounds, run_underlying Tryz.underlying44, bound8 hi 8 h2, bound8 lo hi h1, go_sem, sizeOf, typeInfo, hi', hsz, hne, Addr.add_lit]
  intro h; omega
theorem slice8' (w : World) (g lo : Nat) (h3 : lo < 8) :
    (Instr.sliceAt 44 (.pointer (some ⟨g, 0, none⟩)) (some (.int .i64 lo)) none none).run Tryz.prog w = .ok (.slice (some ⟨g, lo, none⟩) (8 - lo) (8 - lo)) w := by
  have hs : (Tryz.prog.info? 3).map (fun i => i.size) = some 1 := by kernel_rfl
  obtain ⟨i, hi', hsz⟩ := Option.map_eq_some_iff.1 hs
  have hne : ¬ 8 = lo := by omega
  simp [Instr.sliceAt, Instr.slice, Instr.sliceBounds, run_underlying Tryz.underlying44, bound8 lo 8 (by omega), go_sem, sizeOf, typeInfo, hi', hsz, hne, Addr.add_lit]

set_option maxHeartbeats 2000000 in
theorem canon1_ok (b : Nat) (ex : List Nat) (N : Nat) (A1 : Option Addr) (n1 c1 : Nat) (l1 : List Pol) (A2 : Option Addr) (n2 c2 : Nat) (l2 : List Pol) (hN1 : 1 ≤ N) (hN4 : N ≤ 4) (M : Int) (hM : 0 < M) (hM2 : M < 65536)
    (hok : ∀ π, Perm8 π → (∀ k, N ≤ k → k < 8 → π[k]? = some k) → CanOk N M l1 l2 π) (hin : ∀ x, b ≤ x → x < b + 8 → x ∈ ex) :
    ∀ (m i : Nat) (W : World) (st : CanSt) (π : List Nat), i + m = N → CSt b ex N A1 n1 c1 l1 A2 n2 c2 l2 st π W → Perm8 π → (∀ k, N ≤ k → k < 8 → π[k]? = some k) → (∀ x ∈ ex, x < W.heap.size) →
    Calls Tryz.prog 55 (#[.int .i64 i] ++ canCaps b) W (RetCan b ex N A1 n1 c1 l1 A2 n2 c2 l2 ((enumP N m i π).foldl (canStep N l1 l2) st) π W)
  | 0, i, W, st, π, him, hs, hp, hf, hex => by
    obtain rfl : i = N := by omega
    exact leaf_ok W b ex i A1 n1 c1 l1 A2 n2 c2 l2 st π hs hp hN1 hN4 M hM hM2 (hok π hp hf) hex hin
  | m + 1, i, W, st, π, him, hs, hp, hf, hex => by
    have IH := Lib.hid (canon1_ok b ex N A1 n1 c1 l1 A2 n2 c2 l2 hN1 hN4 M hM hM2 hok hin m)
    have hsz := hs.sz
    obtain ⟨d0, d1, d2, d3, d4, d5, d6, d7, hd⟩ := list8 (show (intsN π).length = 8 by rw [intsN_len, hp.len])
    have hp0 := hs.p
    rw [hd] at hp0
    have k0 := hs.k0
    have p0 : W.cell? ⟨b + 3, 0, none⟩ = some (.int .i64 d0) := (hp0 0 (by omega)).1
    have p1 : W.cell? ⟨b + 3, 1, none⟩ = some (.int .i64 d1) := (hp0 1 (by omega)).1
    have p2 : W.cell? ⟨b + 3, 2, none⟩ = some (.int .i64 d2) := (hp0 2 (by omega)).1
    have p3 : W.cell? ⟨b + 3, 3, none⟩ = some (.int .i64 d3) := (hp0 3 (by omega)).1
    have p4 : W.cell? ⟨b + 3, 4, none⟩ = some (.int .i64 d4) := (hp0 4 (by omega)).1
    have p5 : W.cell? ⟨b + 3, 5, none⟩ = some (.int .i64 d5) := (hp0 5 (by omega)).1
    have p6 : W.cell? ⟨b + 3, 6, none⟩ = some (.int .i64 d6) := (hp0 6 (by omega)).1
    have p7 : W.cell? ⟨b + 3, 7, none⟩ = some (.int .i64 d7) := (hp0 7 (by omega)).1
    have hne : ¬ (i : Int) = (N : Int) := by omega
    have HBeq : Hid (((i : Int) == (N : Int)) = false) := Lib.hid (by simpa using hne)
    have HS := Lib.hid hs
    have HP := Lib.hid hp
    have HD := Lib.hid hd
    have HF := Lib.hid hf
    have HIn := Lib.hid hin
    have HE : Hid (enumP N (m + 1) i π = (List.range' i (N - i)).flatMap fun j => enumP N m (i + 1) (rot i j π)) := Lib.hid rfl
    clear hs hp hd hf hp0 hok
    unfold canCaps
    go_enter Tryz.func55, Tryz.ntmps55
    go_wp2_with fail
    have hsv : Cells8 (W.alloc (.cells #[.int .i64 d0, .int .i64 d1, .int .i64 d2, .int .i64 d3, .int .i64 d4, .int .i64 d5, .int .i64 d6, .int .i64 d7] 44)) W.heap.size (intsN π) := by rw [HD.out]; exact Cells8.new W 44 d0 d1 d2 d3 d4 d5 d6 d7
    have hst0 := HS.out.keep (show Below W.heap.size W (W.alloc (.cells #[.int .i64 d0, .int .i64 d1, .int .i64 d2, .int .i64 d3, .int .i64 d4, .int .i64 d5, .int .i64 d6, .int .i64 d7] 44)) from (by repeat first | with_reducible exact .refl .. | with_reducible assumption | refine .s ?_ ?_ | refine .m ?_ ?_ | refine .l ?_ ?_ | refine .d ?_ | refine .e ?_ | (simp <;> omega) | omega))
    clear p0 p1 p2 p3 p4 p5 p6 p7 k0
    go_loopw [11] (fun v wr => ∃ j : Nat, i ≤ j ∧ j ≤ N ∧ v = .int .i64 j ∧ CSt b ex N A1 n1 c1 l1 A2 n2 c2 l2 (((List.range' i (j - i)).flatMap fun j => enumP N m (i + 1) (rot i j π)).foldl (canStep N l1 l2) st) π wr ∧ Below b W wr ∧ Cells8 wr W.heap.size (intsN π) ∧ W.heap.size < wr.heap.size ∧ Kr W [b + 3, b + 4, b + 5, b + 6] wr [b + 3, b + 4, b + 5, b + 6]) (fun v _ => N - (intOf v).toNat)
    case atStart => exact ⟨i, Nat.le_refl _, by omega, rfl, by rw [Nat.sub_self]; exact hst0, (by repeat first | with_reducible exact .refl .. | with_reducible assumption | refine .s ?_ ?_ | refine .m ?_ ?_ | refine .l ?_ ?_ | refine .d ?_ | refine .e ?_ | (simp <;> omega) | omega), hsv, by simp, (by repeat (first | (with_reducible exact Kr.refl _ _) | (with_reducible assumption) | refine Kr.setCell ?_ _ (by simp) | refine Kr.more ?_ _ _ | refine Kr.alloc_ ?_ _ | refine Kr.drew ?_ | refine Kr.drewN ?_ _))⟩
    case round =>
      obtain ⟨j, hij, hjN, rfl, hs, hb, hsv, hsz2, hkr⟩ := hrel
      have hk0 := hs.k0
      by_cases hlt : j < N
      · have hlt' : (j : Int) < (N : Int) := by omega
        have hpw := hs.p
        have hj8 : j < 8 := by omega
        obtain ⟨i1, hi1⟩ : ∃ x, x = i + 1 := ⟨_, rfl⟩
        obtain ⟨j1, hj1⟩ : ∃ x, x = j + 1 := ⟨_, rfl⟩
        have hwi : IntKind.i64.wrap ((i : Int) + 1) = (i1 : Int) := by rw [hi1]; simp [IntKind.wrap, IntKind.bits, IntKind.signed]; omega
        have hwj : IntKind.i64.wrap ((j : Int) + 1) = (j1 : Int) := by rw [hj1]; simp [IntKind.wrap, IntKind.bits, IntKind.signed]; omega
        have HI1 := Lib.hid hi1
        have HJ1 := Lib.hid hj1
        have es1 := fun w => slice8 w (b + 3) i1 j1 (by omega) (by omega) (by omega)
        have es2 := fun w => slice8 w W.heap.size i j (by omega) (by omega) (by omega)
        have es3 := fun w => slice8' w (b + 3) j1 (by omega)
        have es4 := fun w => slice8' w W.heap.size j1 (by omega)
        clear hi1 hj1
        have hL1 : (intsN π).length = 8 := by rw [intsN_len, HP.out.len]
        have ec0 := run_copy8 (w := wr.drew) (b := b + 3) (s := W.heap.size) (l := intsN π) (m := intsN π) (fun k hk => hpw k hk) (fun k hk => hsv k hk) hL1 (od := i1) (os := i) (n := j - i) (cd := 8 - i1) (cs := 8 - i) (by have := HI1.out; omega) (by omega) 3
        have hcc := Cells8.copy (w := wr.drew) (b := b + 3) (l := intsN π) (fun k hk => hpw k hk) hL1 i1 (((intsN π).drop i).take (j - i)) (by have := HI1.out; rw [List.length_take, List.length_drop]; omega)
        obtain ⟨hgg, hgs, hgd⟩ := setCells_grown (b + 3) ((((intsN π).drop i).take (j - i)).map fun x => Value.int .i64 x) i1 wr.drew
        have ec1 : (Builtin.copy_ #[107, 107] 3 #[.slice (some ⟨b + 3, i1, none⟩) (j1 - i1) (8 - i1), .slice (some ⟨W.heap.size, i, none⟩) (j - i) (8 - i)]).run Tryz.prog wr.drew = .ok (.int .i64 ((j - i : Nat) : Int)) (wr.drew.setCells (b + 3) i1 ((((intsN π).drop i).take (j - i)).map fun x => Value.int .i64 x)) := by
          rw [show j1 - i1 = j - i by have := HI1.out; have := HJ1.out; omega]; exact ec0
        generalize wr.drew.setCells (b + 3) i1 ((((intsN π).drop i).take (j - i)).map fun x => Value.int .i64 x) = w1 at *
        rw [List.length_take, List.length_drop, hL1, Nat.min_eq_left (by omega)] at hcc
        clear ec0
        have HPW := Lib.hid hpw
        have HSV := Lib.hid hsv
        have HCC := Lib.hid hcc
        clear hpw hsv hcc
        go_wp2_with fail
        go_region
        have hkw : Kr wr [b + 3] w1 [b + 3] := ((Kr.refl wr [b + 3]).drew).trans (kr_of_grown hgg)
        have hsvw := Cells8.kr HSV.out hkw hsz2 (by omega)
        obtain ⟨x, hx⟩ : ∃ x, (intsN π).getD j 0 = x := ⟨_, rfl⟩
        have sx : w1.cell? ⟨W.heap.size, j, none⟩ = some (.int .i64 x) := by rw [← hx]; exact (hsvw j hj8).1
        have hrc := rot_cells (i := i) (j := j) (π := π) (by rw [HP.out.len]) hij hj8 hx
        have hrl : (rot i j π).length = 8 := by rw [rot_len hij (by rw [HP.out.len]; exact hj8), HP.out.len]
        have hcl : ((intsN π).take i1 ++ ((intsN π).drop i).take (j - i) ++ (intsN π).drop (i1 + (j - i))).length = 8 := by
          have := congrArg List.length hrc
          rw [List.length_set, intsN_len, hrl] at this
          rw [HI1.out]; exact this
        have hset := HCC.out.set hcl (show i < 8 by omega) x
        rw [HI1.out, hrc] at hset
        obtain ⟨y, hy⟩ : ∃ y, ((intsN π).take i1 ++ ((intsN π).drop i).take (j - i) ++ (intsN π).drop (i1 + (j - i))).getD i 0 = y := ⟨_, rfl⟩
        have tx : w1.cell? ⟨b + 3, i, none⟩ = some (.int .i64 y) := by rw [← hy]; exact (HCC.out i (by omega)).1
        have fx := (HCC.out i (by omega)).2
        have hi8' : (0 : Int) ≤ (i : Int) ∧ (i : Int) < 8 := by omega
        have hj8' : (0 : Int) ≤ (j : Int) ∧ (j : Int) < 8 := by omega
        have hkw2 : Kr wr [b + 3] (w1.setCell ⟨b + 3, i, none⟩ (.int .i64 x)) [b + 3] := hkw.setCell _ (by simp)
        have hsv2 := Cells8.kr HSV.out hkw2 hsz2 (by omega)
        have hL2 : (intsN (rot i j π)).length = 8 := by rw [intsN_len, hrl]
        have ec3 := run_copy8 (w := (w1.setCell ⟨b + 3, i, none⟩ (.int .i64 x)).drew) (b := b + 3) (s := W.heap.size) (l := intsN (rot i j π)) (m := intsN π) (fun k hk => hset k hk) (fun k hk => hsv2 k hk) hL1 (od := j1) (os := j1) (n := 8 - j1) (cd := 8 - j1) (cs := 8 - j1) (by have := HJ1.out; omega) (by have := HJ1.out; omega) 3
        have hcc3 := Cells8.copy (w := (w1.setCell ⟨b + 3, i, none⟩ (.int .i64 x)).drew) (b := b + 3) (l := intsN (rot i j π)) (fun k hk => hset k hk) hL2 j1 (((intsN π).drop j1).take (8 - j1)) (by have := HJ1.out; rw [List.length_take, List.length_drop]; omega)
        obtain ⟨hg3, hgs3, hgd3⟩ := setCells_grown (b + 3) ((((intsN π).drop j1).take (8 - j1)).map fun x => Value.int .i64 x) j1 (w1.setCell ⟨b + 3, i, none⟩ (.int .i64 x)).drew
        generalize (w1.setCell ⟨b + 3, i, none⟩ (.int .i64 x)).drew.setCells (b + 3) j1 ((((intsN π).drop j1).take (8 - j1)).map fun x => Value.int .i64 x) = w3 at *
        rw [List.length_take, List.length_drop, hL1, Nat.min_eq_left (by omega), HJ1.out, rot_copy (by rw [HP.out.len]) hij hj8] at hcc3
        have hk3 : Kr wr [b + 3] w3 [b + 3] := (hkw2.drew).trans (kr_of_grown hg3)
        have st3 := hs.perm (π' := rot i j π) HIn.out hk3 hcc3
        have r3 := st3.try_
        unfold canCaps at r3
        have hsv3 := Cells8.kr HSV.out hk3 hsz2 (by omega)
        have hb3 : Below b W w3 := by
          have h1 : Below b W w1 := (hb.drew).grown hgg (by rw [hgd]; exact Nat.le_refl _) (by simp; omega) (fun k e => by cases e; omega)
          exact ((h1.setCell (p := ⟨b + 3, i, none⟩) (by simp) _).drew).grown hg3 (by rw [hgd3]; exact Nat.le_refl _) (by simp; have := h1.size; omega) (fun k e => by cases e; omega)
        have hsz3 : W.heap.size < w3.heap.size := Nat.lt_of_lt_of_le hsz2 hk3.size
        have hcall := IH.out i1 w3 _ (rot i j π) (by have := HI1.out; omega) st3 (rot_perm8 HP.out hij hj8) (rot_fix HP.out.len hij hlt (by omega) HF.out) (fun x hx => by have := hex x hx; omega)
        have HCall := Lib.hid hcall
        have HSV3 := Lib.hid hsv3
        have hkr3 := hkr.trans (hk3.wider (ex := [b + 3, b + 4, b + 5, b + 6]) (by simp))
        clear hcall hrc hset hcl hsvw hsv2 hsv3 hcc3 hkw hkw2 hk3 hg3 hgs3 hgd3 hgg hgs hgd hy hx st3 es1 es2 hs hk0 hb ec1
        go_wp2_with fail
        go_region
        go_wp2_with fail
        refine HCall.out.mono ?_; rintro e w4 ⟨rfl, st4, hb4, hk4⟩
        have hsv4 : Cells8 w4 W.heap.size (intsN π) := fun k hk => ⟨(hk4.cell (by omega) (by simp; omega) _).trans (HSV3.out k hk).1, (hk4.froz (by omega) (by simp; omega) _).trans (HSV3.out k hk).2⟩
        have hsv5 := hsv4
        rw [HD.out] at hsv5
        have HSV4 := Lib.hid hsv4
        obtain ⟨z0, z1, z2, z3, z4, z5, z6, z7, hr⟩ := list8 hL2
        have hp4 := st4.p
        rw [hr] at hp4
        have s0 : w4.cell? ⟨W.heap.size, 0, none⟩ = some (.int .i64 d0) := (hsv5 0 (by omega)).1
        have q0 : w4.cell? ⟨b + 3, 0, none⟩ = some (.int .i64 z0) := (hp4 0 (by omega)).1
        have f0 := (hp4 0 (by omega)).2
        have s1 : w4.cell? ⟨W.heap.size, 1, none⟩ = some (.int .i64 d1) := (hsv5 1 (by omega)).1
        have q1 : w4.cell? ⟨b + 3, 1, none⟩ = some (.int .i64 z1) := (hp4 1 (by omega)).1
        have f1 := (hp4 1 (by omega)).2
        have s2 : w4.cell? ⟨W.heap.size, 2, none⟩ = some (.int .i64 d2) := (hsv5 2 (by omega)).1
        have q2 : w4.cell? ⟨b + 3, 2, none⟩ = some (.int .i64 z2) := (hp4 2 (by omega)).1
        have f2 := (hp4 2 (by omega)).2
        have s3 : w4.cell? ⟨W.heap.size, 3, none⟩ = some (.int .i64 d3) := (hsv5 3 (by omega)).1
        have q3 : w4.cell? ⟨b + 3, 3, none⟩ = some (.int .i64 z3) := (hp4 3 (by omega)).1
        have f3 := (hp4 3 (by omega)).2
        have s4 : w4.cell? ⟨W.heap.size, 4, none⟩ = some (.int .i64 d4) := (hsv5 4 (by omega)).1
        have q4 : w4.cell? ⟨b + 3, 4, none⟩ = some (.int .i64 z4) := (hp4 4 (by omega)).1
        have f4 := (hp4 4 (by omega)).2
        have s5 : w4.cell? ⟨W.heap.size, 5, none⟩ = some (.int .i64 d5) := (hsv5 5 (by omega)).1
        have q5 : w4.cell? ⟨b + 3, 5, none⟩ = some (.int .i64 z5) := (hp4 5 (by omega)).1
        have f5 := (hp4 5 (by omega)).2
        have s6 : w4.cell? ⟨W.heap.size, 6, none⟩ = some (.int .i64 d6) := (hsv5 6 (by omega)).1
        have q6 : w4.cell? ⟨b + 3, 6, none⟩ = some (.int .i64 z6) := (hp4 6 (by omega)).1
        have f6 := (hp4 6 (by omega)).2
        have s7 : w4.cell? ⟨W.heap.size, 7, none⟩ = some (.int .i64 d7) := (hsv5 7 (by omega)).1
        have q7 : w4.cell? ⟨b + 3, 7, none⟩ = some (.int .i64 z7) := (hp4 7 (by omega)).1
        have f7 := (hp4 7 (by omega)).2
        have hst5 := (((((((hp4.set rfl (show 0 < 8 by omega) d0).set rfl (show 1 < 8 by omega) d1).set rfl (show 2 < 8 by omega) d2).set rfl (show 3 < 8 by omega) d3).set rfl (show 4 < 8 by omega) d4).set rfl (show 5 < 8 by omega) d5).set rfl (show 6 < 8 by omega) d6).set rfl (show 7 < 8 by omega) d7
        have HST5 := Lib.hid hst5
        have HS4 := Lib.hid st4
        have hsz4 : W.heap.size < w4.heap.size := Nat.lt_of_lt_of_le hsz3 hk4.size
        have hb5 := hb3.trans hb4
        have hk5 := hkr3.trans hk4
        have hk6 : Kr w4 [b + 3] ((((((((w4.setCell ⟨b + 3, 0, none⟩ (.int .i64 d0)).setCell ⟨b + 3, 1, none⟩ (.int .i64 d1)).setCell ⟨b + 3, 2, none⟩ (.int .i64 d2)).setCell ⟨b + 3, 3, none⟩ (.int .i64 d3)).setCell ⟨b + 3, 4, none⟩ (.int .i64 d4)).setCell ⟨b + 3, 5, none⟩ (.int .i64 d5)).setCell ⟨b + 3, 6, none⟩ (.int .i64 d6)).setCell ⟨b + 3, 7, none⟩ (.int .i64 d7)) [b + 3] := (by repeat (first | (with_reducible exact Kr.refl _ _) | (with_reducible assumption) | refine Kr.setCell ?_ _ (by simp) | refine Kr.more ?_ _ _ | refine Kr.alloc_ ?_ _ | refine Kr.drew ?_ | refine Kr.drewN ?_ _))
        have HFin := Lib.hid (HS4.out.perm (π' := π) HIn.out hk6 (by rw [HD.out]; exact HST5.out))
        have HSV6 := Lib.hid (Cells8.kr HSV4.out hk6 hsz4 (by omega))
        have HK6 := Lib.hid hk6
        have hsum : Hid ((((List.range' i (j - i)).flatMap fun j => enumP N m (i + 1) (rot i j π)).foldl (canStep N l1 l2) st |> fun s => (enumP N m i1 (rot i j π)).foldl (canStep N l1 l2) s) = (((List.range' i (j + 1 - i)).flatMap fun j => enumP N m (i + 1) (rot i j π)).foldl (canStep N l1 l2) st)) := Lib.hid (by
          rw [show j + 1 - i = (j - i) + 1 by omega, List.range'_concat, List.flatMap_append, List.foldl_append, HI1.out]
          simp [show i + (j - i) = j by omega])
        clear hsv4 hsv5 hp4 hst5 st4 hk6 es3 es4 ec3 sx tx fx r3
        go_wp2_with fail
        go_roundw
        case rel =>
          repeat (apply Exists.intro)
          refine And.intro ?_ (by rw [HBeq.out])
          refine ⟨j + 1, by omega, by omega, by rw [HJ1.out], by rw [← hsum.out]; exact HFin.out, ?_, HSV6.out, by simp; omega, hk5.trans (HK6.out.wider (by simp))⟩
          repeat (refine Below.setCell ?_ (by simp) _)
          exact hb5
        case measure => have := HJ1.out; simp [intOf]; omega
      · obtain rfl : j = N := by omega
        have hlt' : ¬ (j : Int) < (j : Int) := by omega
        go_wp2_with fail
        go_end0
        refine ⟨rfl, ?_, hb, hkr⟩
        rw [HE.out]; exact hs

end Go.Proofs.YthhdleppkggepaaGreat
