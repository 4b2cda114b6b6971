/-
  What every walk of this seat uses: a world that has grown ('World.more'), what stays readable ('Kr'), and the readings of the program's data (integers, rational numbers, monomials, polynomials, lists). Plain laws; no condition.
-/
import Derived.WalkKit
import Derived.WalkSpells
import Derived.WalkLawsBesides
import Derived.Lib.Hide
import Derived.Deep.RegionHeld3
import Derived.Deep.Draws
import Derived.Deep.OwnRows
import Derived.Deep.QuietTactic
import Derived.BigQuiet
import Derived.Deep.RegionLaw
import Derived.Deep.AppendLies
import Derived.Maps.AppendAt
import Derived.Deep.DeepFit
import Derived.Deep.DeepCutAuto
import Derived.Test.YthhdleppkggepaaGreatSb01

set_option linter.unusedSimpArgs false
set_option linter.unusedVariables false
set_option linter.unusedSectionVars false

namespace Go.Proofs.YthhdleppkggepaaGreat
/-- What lay below B is as it was, and the count of draws has not gone down. -/
structure Below (B : Nat) (a w : World) : Prop where
  low : RowKit.Below B a w
  draws : a.drawn ≤ w.drawn
section
variable {B : Nat} {a b c w w' : World}
theorem Below.os (h : Below B a w) : w.os = a.os := h.low.os
theorem Below.tape (h : Below B a w) : w.tape = a.tape := h.low.tape
theorem Below.output (h : Below B a w) : w.output = a.output := h.low.output
theorem Below.size (h : Below B a w) : a.heap.size ≤ w.heap.size := h.low.size
theorem Below.block (h : Below B a w) : ∀ k, k < B → w.heap[k]? = a.heap[k]? := h.low.block
theorem Below.refl (B : Nat) (w : World) : Below B w w := ⟨RowKit.Below.refl B w, Nat.le_refl _⟩
theorem Below.trans (h : Below B a b) (k : Below B b c) : Below B a c := ⟨h.low.trans k.low, Nat.le_trans h.draws k.draws⟩
theorem Below.mono {B' : Nat} (h : Below B a w) (hB : B' ≤ B) : Below B' a w := ⟨h.low.mono hB, h.draws⟩
theorem Below.drew (h : Below B a w) : Below B a w.drew := ⟨h.low.drew, Nat.le_trans h.draws (Nat.le_succ _)⟩
theorem Below.drewN (h : Below B a w) (n : Nat) : Below B a (w.drewN n) := ⟨⟨h.os, h.tape, h.output, h.size, h.block⟩, Nat.le_trans h.draws (Nat.le_add_right _ _)⟩
theorem Below.heap_alloc (w : World) (o : Obj) (k : Nat) (h : k < w.heap.size) : (w.alloc o).heap[k]? = w.heap[k]? := RowKit.Below.heap_alloc w o k h
theorem Below.heap_setCell (w : World) (a : Addr) (u : Value) (k : Nat) (h : k ≠ a.block) : (w.setCell a u).heap[k]? = w.heap[k]? := RowKit.Below.heap_setCell w a u k h
theorem Below.alloc (h : Below B a w) (hB : B ≤ w.heap.size) (o : Obj) : Below B a (w.alloc o) := ⟨h.low.alloc hB o, h.draws⟩
theorem Below.setCell (h : Below B a w) {p : Addr} (hp : B ≤ p.block) (u : Value) : Below B a (w.setCell p u) := ⟨h.low.setCell hp u, h.draws⟩
theorem Below.grown {row : Option Nat} (h : Below B a w) (hg : w.grownBy w' row) (hd : w.drawn ≤ w'.drawn) (hB : B ≤ w.heap.size) (hr : ∀ k, row = some k → B ≤ k) : Below B a w' := ⟨h.low.grown hg hB hr, Nat.le_trans h.draws hd⟩
theorem Below.cell (h : Below B w w') {p : Addr} (hp : p.block < B) : w'.cell? p = w.cell? p := h.low.cell hp
theorem Below.frozen (h : Below B w w') {p : Addr} (hp : p.block < B) : w'.frozen? p = w.frozen? p := h.low.frozen hp
end
end Go.Proofs.YthhdleppkggepaaGreat
namespace Go

theorem World.viewStore_drawn {p : Program} {w w' : World} {at_ : Addr} {u : TypeId} {k : Addr} {v : Value} {atomic : Bool} {l : List Addr} (h : w.viewStore p at_ u k v atomic = .ok (w', l)) : w'.drawn = w.drawn := by
  unfold World.viewStore at h
  simp only [bind, Except.bind, pure, Except.pure] at h
  repeat' (split at h)
  all_goals (try (simp at h; done))
  all_goals (simp at h; obtain ⟨rfl, _⟩ := h; rfl)
theorem World.farStore_drawn {p : Program} {w w' : World} {a : Addr} {v : Value} {at_ : Bool} {l : List Addr} (h : w.farStore p a v at_ = .ok (w', l)) : w'.drawn = w.drawn := by
  unfold World.farStore at h
  split at h
  · split at h
    · rename_i r hr
      cases h
      exact World.viewStore_drawn hr
    · cases h
  · cases h
theorem World.freeze_drawn (w : World) (a : Addr) (n : Nat) : (w.freeze a n).drawn = w.drawn := by unfold World.freeze; split <;> rfl
theorem World.ask_drawn {α : Type} (x : Ask α) : ∀ (w : World), w.drawn ≤ (w.ask x).2.drawn := by
  induction x with
  | done a => intro w; exact Nat.le_refl _
  | ask what range k ih =>
    intro w
    unfold World.ask
    dsimp only
    split
    · exact ih _ _
    · exact Nat.le_trans (Nat.le_succ w.drawn) (ih _ { w with drawn := w.drawn + 1 })
theorem World.sys_drawn (w : World) (c : Sys) : w.drawn ≤ (w.sys c).2.drawn := by
  unfold World.sys
  have := World.ask_drawn (Kernel.perform c w.os) w
  split
  · exact Nat.le_refl _
  · rename_i h; rw [h] at this; exact this
/-- A run only raises the count of draws. -/
theorem Sem.run_drawn {α : Type} {p : Program} {s : Sem α} : ∀ {w w' : World} {a : α}, s.run p w = .ok a w' → w.drawn ≤ w'.drawn := by
  induction s with
  | pure a => intro w w' b h; unfold Sem.run at h; cases h; exact Nat.le_refl _
  | load m a k ih =>
    intro w w' b h; unfold Sem.run at h
    split at h
    · exact ih _ h
    · split at h
      · exact ih _ h
      · cases h
  | store m a v k ih =>
    intro w w' b h
    cases v <;> simp only [Sem.run] at h
    all_goals
      first
        | (cases h; done)
        | (split at h
           · split at h
             · cases h
             · have hh := ih h; exact hh
           · split at h
             · rename_i hf; have := World.farStore_drawn hf; rw [← this]; exact ih h
             · cases h)
  | new o k ih => intro w w' b h; unfold Sem.run at h; have hh := ih _ h; exact hh
  | shape r k ih => intro w w' b h; unfold Sem.run at h; exact ih _ h
  | freeze a n k ih => intro w w' b h; unfold Sem.run at h; rw [← World.freeze_drawn w a n]; exact ih h
  | frozen a k ih => intro w w' b h; unfold Sem.run at h; exact ih _ h
  | getObj r k ih =>
    intro w w' b h; unfold Sem.run at h
    split at h
    · cases h
    · exact ih _ h
    · cases h
  | setObj r o k ih =>
    intro w w' b h; unfold Sem.run at h
    split at h
    · cases h
    · have hh := ih h; exact hh
    · cases h
  | choose q k ih =>
    intro w w' b h; unfold Sem.run at h
    split at h
    · exact ih _ h
    · exact Nat.le_trans (Nat.le_succ _) (ih _ h)
  | sys c k ih => intro w w' b h; unfold Sem.run at h; exact Nat.le_trans (World.sys_drawn w c) (ih _ h)
  | program k ih => intro w w' b h; unfold Sem.run at h; exact ih _ h
  | mark m k ih => intro w w' b h; unfold Sem.run at h; exact ih h
  | halt hh => intro w w' b h; unfold Sem.run at h; cases h
/-! Draws: a run only raises their count. -/
/-- The world with further blocks and a higher count of draws. -/
def World.more (w : World) (X : Array Obj) (D : Nat) : World := { w with heap := w.heap ++ X, drawn := w.drawn + D }

section
variable (w : World) (X : Array Obj) (D : Nat) (a : Addr)
@[simp, go_sem] theorem World.size_more : (w.more X D).heap.size = w.heap.size + X.size := by simp [World.more]
@[simp, go_sem] theorem World.tape_more : (w.more X D).tape = w.tape := rfl
@[simp] theorem World.drawn_more : (w.more X D).drawn = w.drawn + D := rfl
@[simp, go_sem] theorem World.os_more : (w.more X D).os = w.os := rfl
@[simp, go_sem] theorem World.output_more : (w.more X D).output = w.output := rfl
theorem World.heap_more_lt {k : Nat} (h : k < w.heap.size) : (w.more X D).heap[k]? = w.heap[k]? := by
  show (w.heap ++ X)[k]? = _
  rw [Array.getElem?_append_left h]
theorem World.cell?_more_lt (h : a.block < w.heap.size) : (w.more X D).cell? a = w.cell? a :=
  World.cell?_of_block (w := w) (World.heap_more_lt w X D h)
theorem World.frozen?_more_lt (h : a.block < w.heap.size) : (w.more X D).frozen? a = w.frozen? a :=
  World.frozen?_of_block (w := w) (World.heap_more_lt w X D h)
theorem World.below_more : Proofs.YthhdleppkggepaaGreat.Below w.heap.size w (w.more X D) :=
  ⟨⟨rfl, rfl, rfl, by simp, fun _ h => World.heap_more_lt w X D h⟩, Nat.le_add_right _ _⟩
end

theorem World.more_of_below {w w' : World} (h : Proofs.YthhdleppkggepaaGreat.Below w.heap.size w w') : ∃ X D, w' = w.more X D := by
  refine ⟨w'.heap.extract w.heap.size w'.heap.size, w'.drawn - w.drawn, ?_⟩
  obtain ⟨⟨h1, h2, h3, h4, h5⟩, h6⟩ := h
  obtain ⟨hp, tp, dr, os, out⟩ := w'
  simp only at h1 h2 h3 h4 h5
  subst h1 h2 h3
  simp only at h6
  simp only [World.more, World.mk.injEq, and_true, true_and]
  refine ⟨?_, by omega⟩
  apply Array.ext_getElem?
  intro i
  rcases Nat.lt_or_ge i w.heap.size with hi | hi
  · rw [Array.getElem?_append_left hi, h5 i hi]
  · rw [Array.getElem?_append_right hi, Array.getElem?_extract]
    by_cases hh : i < hp.size
    · rw [if_pos (by omega)]; congr 1; omega
    · rw [if_neg (by omega), Array.getElem?_eq_none (by omega)]

/-! ### Look-ups without a side condition: what is found in the elder world is found in the later one -/
/-- What a look-up gives where the elder world has no such cell: not looked into. -/
def World.lateCell (w : World) (a : Addr) : Option Value := w.cell? a
def World.lateFroz (w : World) (a : Addr) : Bool := w.frozen? a
def orLate (x : Option Value) (w : World) (a : Addr) : Option Value := match x with | some v => some v | none => w.lateCell a
def orLateF (x : Option Value) (f : Bool) (w : World) (a : Addr) : Bool := match x with | some _ => f | none => w.lateFroz a
@[go_sem, simp] theorem orLate_some (v : Value) (w : World) (a : Addr) : orLate (some v) w a = some v := rfl
@[go_sem, simp] theorem orLateF_some (v : Value) (f : Bool) (w : World) (a : Addr) : orLateF (some v) f w a = f := rfl

theorem World.cell?_of_grown {w w' : World} (a : Addr) (h : ∀ k, k < w.heap.size → w'.heap[k]? = w.heap[k]?) : w'.cell? a = orLate (w.cell? a) w' a := by
  cases hc : w.cell? a with
  | none => rfl
  | some v => rw [orLate_some, ← hc]; exact World.cell?_of_block (w := w) (h _ (World.block_lt_of_cell? w a hc))
theorem World.frozen?_of_grown {w w' : World} (a : Addr) (h : ∀ k, k < w.heap.size → w'.heap[k]? = w.heap[k]?) : w'.frozen? a = orLateF (w.cell? a) (w.frozen? a) w' a := by
  cases hc : w.cell? a with
  | none => rfl
  | some v => rw [orLateF_some]; exact World.frozen?_of_block (w := w) (h _ (World.block_lt_of_cell? w a hc))
@[go_sem] theorem World.cell?_more (w : World) (X : Array Obj) (D : Nat) (a : Addr) : (w.more X D).cell? a = orLate (w.cell? a) (w.more X D) a :=
  World.cell?_of_grown a fun _ h => World.heap_more_lt w X D h
@[go_sem] theorem World.frozen?_more (w : World) (X : Array Obj) (D : Nat) (a : Addr) : (w.more X D).frozen? a = orLateF (w.cell? a) (w.frozen? a) (w.more X D) a :=
  World.frozen?_of_grown a fun _ h => World.heap_more_lt w X D h
@[go_sem low] theorem World.cell?_alloc_or (w : World) (o : Obj) (a : Addr) : (w.alloc o).cell? a = orLate (w.cell? a) (w.alloc o) a :=
  World.cell?_of_grown a fun _ h => RowKit.Below.heap_alloc _ _ _ h
@[go_sem low] theorem World.frozen?_alloc_or (w : World) (o : Obj) (a : Addr) : (w.alloc o).frozen? a = orLateF (w.cell? a) (w.frozen? a) (w.alloc o) a :=
  World.frozen?_of_grown a fun _ h => RowKit.Below.heap_alloc _ _ _ h
@[go_sem low] theorem World.cell?_setCell_if (w : World) (b o b' o' : Nat) (u : Value) :
    (w.setCell ⟨b, o, none⟩ u).cell? ⟨b', o', none⟩ = if b = b' ∧ o = o' then (w.cell? ⟨b', o', none⟩).map (fun _ => u) else w.cell? ⟨b', o', none⟩ := by
  split
  · rename_i h
    obtain ⟨rfl, rfl⟩ := h
    cases hc : w.cell? ⟨b, o, none⟩ with
    | some v => rw [World.cell?_setCell_same w _ _ hc]; rfl
    | none =>
      simp only [World.cell?, World.setCell, Array.getElem?_modify] at hc ⊢
      cases hh : w.heap[b]? with
      | none => simp
      | some x => cases x <;> simp [hh] at hc ⊢; omega
  · rename_i h
    exact World.cell?_setCell_other w _ _ u (fun e => h (by injection e with e1 e2; exact ⟨e1, e2⟩))

end Go
namespace Go.Proofs.YthhdleppkggepaaGreat
open Go.RowKit

/-- What can be read in w outside the blocks ex can be read in w' outside ex'. -/
structure Kr (w : World) (ex : List Nat) (w' : World) (ex' : List Nat) : Prop where
  size : w.heap.size ≤ w'.heap.size
  out : ∀ b, b < w.heap.size → b ∉ ex → b ∉ ex'
  same : ∀ b, b < w.heap.size → b ∉ ex → w'.heap[b]? = w.heap[b]?

section
variable {w w' w'' : World} {ex ex' ex'' : List Nat}
theorem Kr.refl (w : World) (ex : List Nat) : Kr w ex w ex := ⟨Nat.le_refl _, fun _ _ h => h, fun _ _ _ => rfl⟩
theorem Kr.trans (h : Kr w ex w' ex') (k : Kr w' ex' w'' ex'') : Kr w ex w'' ex'' :=
  ⟨Nat.le_trans h.size k.size, fun b hb hx => k.out b (Nat.lt_of_lt_of_le hb h.size) (h.out b hb hx),
   fun b hb hx => (k.same b (Nat.lt_of_lt_of_le hb h.size) (h.out b hb hx)).trans (h.same b hb hx)⟩
theorem Kr.alloc (h : Kr w ex w' ex') (o : Obj) : Kr w ex (w'.alloc o) (w'.heap.size :: ex') :=
  h.trans ⟨by simp, fun b hb hx => by simp [hx]; omega, fun b hb _ => Below.heap_alloc _ _ _ hb⟩
theorem Kr.alloc_ (h : Kr w ex w' ex') (o : Obj) : Kr w ex (w'.alloc o) ex' :=
  h.trans ⟨by simp, fun b hb hx => hx, fun b hb _ => Below.heap_alloc _ _ _ hb⟩
theorem Kr.setCell (h : Kr w ex w' ex') {p : Addr} (u : Value) (hp : p.block ∈ ex') : Kr w ex (w'.setCell p u) ex' :=
  h.trans ⟨by simp, fun _ _ hx => hx, fun b hb hx => Below.heap_setCell _ _ _ _ (fun e => hx (e ▸ hp))⟩
theorem Kr.drew (h : Kr w ex w' ex') : Kr w ex w'.drew ex' := h.trans ⟨by simp, fun _ _ hx => hx, fun _ _ _ => rfl⟩
theorem Kr.drewN (h : Kr w ex w' ex') (n : Nat) : Kr w ex (w'.drewN n) ex' := h.trans ⟨Nat.le_refl _, fun _ _ hx => hx, fun _ _ _ => rfl⟩
theorem Kr.more (h : Kr w ex w' ex') (X : Array Obj) (D : Nat) : Kr w ex (w'.more X D) ex' :=
  h.trans ⟨by simp, fun _ _ hx => hx, fun b hb _ => World.heap_more_lt _ _ _ hb⟩
theorem Kr.below (h : Kr w ex w' ex') (hb : Below w'.heap.size w' w'') : Kr w ex w'' ex' :=
  h.trans ⟨hb.size, fun _ _ hx => hx, fun b h _ => hb.block b h⟩
/-- Blocks that came later may be left out of the list, or those that are no more to be kept apart. -/
theorem Kr.sub (h : Kr w ex w' ex') (hs : ∀ b, b ∈ ex'' → b ∈ ex') : Kr w ex w' ex'' :=
  ⟨h.size, fun b hb hx hh => h.out b hb hx (hs b hh), h.same⟩
theorem Kr.src (h : Kr w ex w' ex') (hs : ∀ b, b ∈ ex → b ∈ ex'') : Kr w ex'' w' ex' :=
  ⟨h.size, fun b hb hx => h.out b hb (fun hh => hx (hs b hh)), fun b hb hx => h.same b hb (fun hh => hx (hs b hh))⟩
end

/-- A row of values at A: n of them; they lie outside ex. -/
def Row (w : World) (ex : List Nat) (A : Option Addr) (xs : List Value) : Prop :=
  xs ≠ [] → ∃ b o, A = some ⟨b, o, none⟩ ∧ b ∉ ex ∧ ∀ i u, xs[i]? = some u → w.cell? ⟨b, o + i, none⟩ = some u

theorem Row.nil (w : World) (ex : List Nat) (A : Option Addr) : Row w ex A [] := fun h => absurd rfl h
theorem Row.mono {w w' : World} {ex ex' : List Nat} {A : Option Addr} {xs : List Value} (h : Row w ex A xs) (k : Kr w ex w' ex') : Row w' ex' A xs := by
  intro hx
  obtain ⟨b, o, e, hb, hc⟩ := h hx
  have hlt : b < w.heap.size := by
    cases xs with
    | nil => exact absurd rfl hx
    | cons x r => exact World.block_lt_of_cell? w _ (hc 0 x rfl)
  exact ⟨b, o, e, k.out b hlt hb, fun i u hu => (World.cell?_of_block (w := w) (k.same b hlt hb)).trans (hc i u hu)⟩

theorem World.more_self (w : World) : w = w.more #[] 0 := by simp [World.more]
theorem more_refl (w : World) : ∃ X D, w = w.more X D := ⟨#[], 0, World.more_self w⟩
/-- The last step of a walk that names the world it ends in. -/
theorem grew {w w' : World} (h : Below w.heap.size w w') {R : World → Prop} (hr : R w') : ∃ X D, w' = w.more X D ∧ R (w.more X D) := by
  obtain ⟨X, D, rfl⟩ := World.more_of_below h
  exact ⟨X, D, rfl, hr⟩
theorem Kr.of_below {w w' : World} (h : Below w.heap.size w w') (ex : List Nat) : Kr w ex w' ex := (Kr.refl w ex).below h
theorem Below.more {B : Nat} {a w : World} (h : Below B a w) (hB : B ≤ w.heap.size) (X : Array Obj) (D : Nat) : Below B a (w.more X D) :=
  h.trans ((World.below_more w X D).mono hB)

section
variable {B : Nat} {a w : World}
/- Short names for the steps of one world into the next. -/
theorem Below.s {p : Addr} {u : Value} (h : Below B a w) (hp : B ≤ p.block) : Below B a (w.setCell p u) := h.setCell hp u
theorem Below.m {X : Array Obj} {D : Nat} (h : Below B a w) (hs : B ≤ w.heap.size) : Below B a (w.more X D) := h.more hs X D
theorem Below.l {o : Obj} (h : Below B a w) (hs : B ≤ w.heap.size) : Below B a (w.alloc o) := h.alloc hs o
theorem Below.d (h : Below B a w) : Below B a w.drew := h.drew
theorem Below.e {n : Nat} (h : Below B a w) : Below B a (w.drewN n) := h.drewN n
end
/-- What a cell holds, by its place: for the cells that a region writes at its end. -/
def World.got (w : World) (X o : Nat) : Value := (w.cell? ⟨X, o, none⟩).getD undef
theorem got_of {w : World} {X o : Nat} (h : (w.cell? ⟨X, o, none⟩).isSome = true) : w.cell? ⟨X, o, none⟩ = some (World.got w X o) := by
  obtain ⟨v, hv⟩ := Option.isSome_iff_exists.1 h
  unfold World.got; rw [hv]; rfl

/-! ### Words -/
def u32s (ws : List Nat) : List Value := ws.map fun x : Nat => Value.int .u32 (x : Int)
/-- A slice of words that reads as ws. -/
structure RW (w : World) (ex : List Nat) (A : Option Addr) (n c : Nat) (ws : List Nat) : Prop where
  len : n = ws.length
  cap : n ≤ c
  row : Row w ex A (u32s ws)
  wd : Wd ws
/-- An integer. -/
def RI (w : World) (ex : List Nat) (s : Bool) (A : Option Addr) (n c : Nat) (z : Int) : Prop :=
  s = decide (z < 0) ∧ RW w ex A n c (digits z.natAbs)

section
variable {w w' : World} {ex ex' : List Nat} {A : Option Addr} {n c : Nat} {ws : List Nat} {s : Bool} {z : Int}
theorem RW.mono (h : RW w ex A n c ws) (k : Kr w ex w' ex') : RW w' ex' A n c ws := ⟨h.len, h.cap, h.row.mono k, h.wd⟩
theorem RI.mono (h : RI w ex s A n c z) (k : Kr w ex w' ex') : RI w' ex' s A n c z := ⟨h.1, h.2.mono k⟩
theorem RI.len (h : RI w ex s A n c z) : n = wl z := h.2.len
theorem RW.at_ (h : RW w ex A n c ws) (h0 : 0 < n) : ∃ b o, A = some ⟨b, o, none⟩ ∧ b ∉ ex ∧ ∀ i (hi : i < ws.length), w.cell? ⟨b, o + i, none⟩ = some (.int .u32 (ws[i] : Int)) := by
  have hne : u32s ws ≠ [] := by
    intro e
    have h2 : ws = [] := by simpa [u32s] using e
    have := h.len; rw [h2] at this; simp at this; omega
  obtain ⟨b, o, rfl, hb, hc⟩ := h.row hne
  exact ⟨b, o, rfl, hb, fun i hi => hc i _ (by simp [u32s, hi])⟩
theorem RW.lt {b o : Nat} (h : RW w ex (some ⟨b, o, none⟩) n c ws) (h0 : 0 < n) : b < w.heap.size := by
  obtain ⟨b', o', e, _, hc⟩ := h.at_ h0
  injection e with e
  injection e with e1 e2
  subst e1 e2
  exact World.block_lt_of_cell? w _ (hc 0 (by have := h.len; omega))
theorem RW.nil (w : World) (ex : List Nat) (A : Option Addr) (c : Nat) : RW w ex A 0 c [] := ⟨rfl, Nat.zero_le _, Row.nil _ _ _, fun _ h => by cases h⟩
theorem RW.take (h : RW w ex A n c ws) {m : Nat} (hm : m ≤ n) : RW w ex A m m (ws.take m) := by
  refine ⟨by have := h.len; simp; omega, Nat.le_refl _, ?_, fun x hx => h.wd x (List.mem_of_mem_take hx)⟩
  intro hx
  have hne : u32s ws ≠ [] := by
    intro e; apply hx; have : ws = [] := by simpa [u32s] using e
    simp [this, u32s]
  obtain ⟨b, o, e, hb, hc⟩ := h.row hne
  refine ⟨b, o, e, hb, fun i u hu => hc i u ?_⟩
  simp only [u32s, List.map_take, List.getElem?_take] at hu
  split at hu
  · exact hu
  · cases hu
end

/-! ### A block of words that the call itself has made -/
def Buf (t : TypeId) (w : World) (g : Nat) (os : List Nat) : Prop := w.heap[g]? = some (.cells (u32s os).toArray t (0, 0))
section
variable {t : TypeId} {w w' : World} {g : Nat} {os : List Nat}
theorem Buf.cell (h : Buf t w g os) {i : Nat} (hi : i < os.length) : w.cell? ⟨g, i, none⟩ = some (.int .u32 (os[i] : Int)) := by
  rw [cell_of_row w g i _ t (0, 0) h]; simp [u32s, hi]
theorem Buf.frozen (h : Buf t w g os) (i : Nat) : w.frozen? ⟨g, i, none⟩ = false := frozen_of_row w g i _ t h
theorem Buf.lt (h : Buf t w g os) : g < w.heap.size := by
  rcases Nat.lt_or_ge g w.heap.size with hlt | hge
  · exact hlt
  · unfold Buf at h; rw [Array.getElem?_eq_none hge] at h; cases h
theorem Buf.set (h : Buf t w g os) (i : Nat) (x : Nat) : Buf t (w.setCell ⟨g, i, none⟩ (.int .u32 (x : Int))) g (os.set i x) := by
  unfold Buf at h ⊢
  simp [World.setCell, Array.getElem?_modify, h, u32s, List.map_set]
theorem Buf.of (h : Buf t w g os) (e : w'.heap[g]? = w.heap[g]?) : Buf t w' g os := e.trans h
theorem Buf.alloc (h : Buf t w g os) (o : Obj) : Buf t (w.alloc o) g os := h.of (Below.heap_alloc _ _ _ h.lt)
theorem Buf.more (h : Buf t w g os) (X : Array Obj) (D : Nat) : Buf t (w.more X D) g os := h.of (World.heap_more_lt _ _ _ h.lt)
theorem Buf.far (h : Buf t w g os) {p : Addr} (hp : g ≠ p.block) (u : Value) : Buf t (w.setCell p u) g os := h.of (Below.heap_setCell _ _ _ _ hp)
theorem Buf.new (w : World) (t : TypeId) (n : Nat) : Buf t (w.alloc (.cells (madeCells #[.int .u32 0] n) t)) w.heap.size (List.replicate n 0) := by
  unfold Buf
  rw [heap_alloc_new]
  congr 2
  apply Array.ext'
  rw [toList_madeCells_one]
  simp [u32s]
theorem Buf.rw_ (h : Buf t w g os) {ex : List Nat} (hg : g ∉ ex) (hw : Wd os) {n c : Nat} (hn : n = os.length) (hc : n ≤ c) : RW w ex (some ⟨g, 0, none⟩) n c os := by
  refine ⟨hn, hc, fun _ => ⟨g, 0, rfl, hg, fun i u hu => ?_⟩, hw⟩
  rw [Nat.zero_add, cell_of_row w g i _ t (0, 0) h]; simpa using hu
end
end Go.Proofs.YthhdleppkggepaaGreat

/-
  Appending to a slice that the call itself has made, from whatever source; the world after it, written out.
-/
namespace Go
open Go.RowKit

end Go

namespace Go.Proofs.YthhdleppkggepaaGreat
open Go.RowKit

/-- The blocks that an own slice lies in. -/
def own (v : Value) : List Nat := v.ownBlock.toList
theorem own_nil : own (.slice none 0 0) = [] := rfl
theorem own_some (g n c : Nat) : own (.slice (some ⟨g, 0, none⟩) n c) = [g] := rfl

section
variable {P : Program} (w : World)
theorem run_append_nilsrc (base : Nat) (t ty e : TypeId) (i : TypeInfo) (size : Nat) (ht : P.underlying t = some (.slice e)) (hi : P.info? e = some i)
    (v : Value) (n : Nat) (xs : List Value) (hown : w.ownsRow base e size v n xs) (c : Nat) : (Builtin.append_ #[t, t] ty #[v, .slice none 0 c]).run P w = .ok v w := by
  rcases hown.2 with ⟨rfl, rfl⟩ | ⟨g, cap, cur, rfl, _, _, hnc, _⟩
  · simp [Builtin.append_, run_underlying ht, sizeOf, typeInfo, hi, Builtin.lenOf, Builtin.firstCells]
  · simp [Builtin.append_, run_underlying ht, sizeOf, typeInfo, hi, Builtin.lenOf, Builtin.firstCells, hnc, storeCells]

theorem run_append_mine (base : Nat) (t ty e : TypeId) (i : TypeInfo) (z : Value) (size bytes : Nat) (ht : P.underlying t = some (.slice e)) (hi : P.info? e = some i) (hz : i.zero = some z)
    (hsize : i.size = size) (hby : i.bytes = bytes) (hzs : z.cells.size = size) (hsz : 0 < size)
    (v : Value) (n : Nat) (xs : List Value) (hown : w.ownsRow base e size v n xs)
    (ex : List Nat) (A : Option Addr) (m c : Nat) (news : List Value) (hl : news.length = m * size) (hr : Row w ex A news) (h1 : ∀ u ∈ news, u.oneCell' = true)
    (h63 : n + m ≤ maxLen) (hbytes : (n + m) * bytes ≤ 140737488355328) (hbase : base ≤ w.heap.size) :
    ∃ v' w', (Builtin.append_ #[t, t] ty #[v, .slice A m c]).run P w = .ok v' w' ∧ w'.ownsRow base e size v' (n + m) (xs ++ news) ∧ w.grownBy w' v.ownBlock ∧
      (v'.ownBlock = v.ownBlock ∨ v'.ownBlock = some w.heap.size) := by
  by_cases hm : m = 0
  · subst hm
    have hn : news = [] := List.eq_nil_of_length_eq_zero (by simpa using hl)
    subst hn
    rcases A with _ | ad
    · exact ⟨v, w, run_append_nilsrc w base t ty e i size ht hi v n xs hown c, by simpa using hown, World.grownBy.refl w _, .inl rfl⟩
    · obtain ⟨v', w', hrun, h2, h3, _, h5⟩ := run_append_own_at (P := P) w base t ty e i z size bytes ht hi hz hsize hby hzs hsz v n xs hown ad 0 c [] hl (by intro j u hu; simp at hu) h1 h63 hbytes hbase
      exact ⟨v', w', hrun, h2, h3, h5⟩
  · have hne : news ≠ [] := by
      rintro rfl
      simp only [List.length_nil] at hl
      have := Nat.mul_pos (Nat.pos_of_ne_zero hm) hsz
      omega
    obtain ⟨b, o, rfl, _, hc⟩ := hr hne
    obtain ⟨v', w', hrun, h2, h3, _, h5⟩ := run_append_own_at (P := P) w base t ty e i z size bytes ht hi hz hsize hby hzs hsz v n xs hown ⟨b, o, none⟩ m c news hl
      (by intro j u hu; rw [Addr.add_lit]; exact hc j u hu) h1 h63 hbytes hbase
    exact ⟨v', w', hrun, h2, h3, h5⟩

theorem wp_append_mine {o : Oper} {a : Act} {K : Act → World → Prop} {Q : Exit → Act → World → Prop} (s x : Operand) (t : TypeId)
    (ho : o.op = .call { callee := .builtin .append, args := #[s, x], argTypes := #[t, t] })
    (base : Nat) (e : TypeId) (i : TypeInfo) (z : Value) (size bytes : Nat) (ht : P.underlying t = some (.slice e)) (hi : P.info? e = some i) (hz : i.zero = some z)
    (hsize : i.size = size) (hby : i.bytes = bytes) (hzs : z.cells.size = size) (hsz : 0 < size)
    (v : Value) (n : Nat) (xs : List Value) (hs : a.eval s = v) (hown : w.ownsRow base e size v n xs)
    (ex : List Nat) (A : Option Addr) (m c : Nat) (news : List Value) (hx : a.eval x = .slice A m c) (hl : news.length = m * size) (hr : Row w ex A news) (h1 : ∀ u ∈ news, u.oneCell' = true)
    (h63 : n + m ≤ maxLen) (hbytes : (n + m) * bytes ≤ 140737488355328) (hbase : base ≤ w.heap.size)
    (h : ∀ v' w', w'.ownsRow base e size v' (n + m) (xs ++ news) → w.grownBy w' v.ownBlock → w.drawn ≤ w'.drawn → (v'.ownBlock = v.ownBlock ∨ v'.ownBlock = some w.heap.size) → K (a.put o.dst v') w') : o.wp P a w K Q := by
  obtain ⟨v', w', hrun, h2, h3, h4⟩ := run_append_mine (P := P) w base t o.type e i z size bytes ht hi hz hsize hby hzs hsz v n xs hown ex A m c news hl hr h1 h63 hbytes hbase
  unfold Oper.wp execOp
  simp only [ho, resolve, invoke, builtin, Sem.run_bind, Sem.run_pure, Result.andThen_ok, List.map_toArray, List.map_cons, List.map_nil, hs, hx, hrun]
  exact h v' w' h2 h3 (Sem.run_drawn hrun) h4

theorem wpList_append_mine {ops : Array Oper} {rest : List Oper} {o : Oper} {a : Act} {Q : Exit → Act → World → Prop} (hgd : o.guard = none) (s x : Operand) (t : TypeId)
    (ho : o.op = .call { callee := .builtin .append, args := #[s, x], argTypes := #[t, t] })
    (base : Nat) (e : TypeId) (i : TypeInfo) (z : Value) (size bytes : Nat) (ht : P.underlying t = some (.slice e)) (hi : P.info? e = some i) (hz : i.zero = some z)
    (hsize : i.size = size) (hby : i.bytes = bytes) (hzs : z.cells.size = size) (hsz : 0 < size)
    (v : Value) (n : Nat) (xs : List Value) (hs : a.eval s = v) (hown : w.ownsRow base e size v n xs)
    (ex : List Nat) (A : Option Addr) (m c : Nat) (news : List Value) (hx : a.eval x = .slice A m c) (hl : news.length = m * size) (hr : Row w ex A news) (h1 : ∀ u ∈ news, u.oneCell' = true)
    (h63 : n + m ≤ maxLen) (hbytes : (n + m) * bytes ≤ 140737488355328) (hbase : base ≤ w.heap.size)
    (h : ∀ v' w', w'.ownsRow base e size v' (n + m) (xs ++ news) → w.grownBy w' v.ownBlock → w.drawn ≤ w'.drawn → (v'.ownBlock = v.ownBlock ∨ v'.ownBlock = some w.heap.size) → wpList P ops Q rest (a.put o.dst v') w') : wpList P ops Q (o :: rest) a w :=
  wpList_plain hgd fun _ hK => wp_append_mine w s x t ho base e i z size bytes ht hi hz hsize hby hzs hsz v n xs hs hown ex A m c news hx hl hr h1 h63 hbytes hbase fun v' w' h2 h3 hd h4 => hK _ _ (h v' w' h2 h3 hd h4)

theorem step_append_mine {ops : Array Oper} {o : Oper} {a : Act} {K : Act → World → Prop} {Q : Exit → Act → World → Prop} {E : Prop} (hgd : o.guard = none) (s x : Operand) (t : TypeId)
    (ho : o.op = .call { callee := .builtin .append, args := #[s, x], argTypes := #[t, t] })
    (base : Nat) (e : TypeId) (i : TypeInfo) (z : Value) (size bytes : Nat) (ht : P.underlying t = some (.slice e)) (hi : P.info? e = some i) (hz : i.zero = some z)
    (hsize : i.size = size) (hby : i.bytes = bytes) (hzs : z.cells.size = size) (hsz : 0 < size)
    (v : Value) (n : Nat) (xs : List Value) (hs : a.eval s = v) (hown : w.ownsRow base e size v n xs)
    (ex : List Nat) (A : Option Addr) (m c : Nat) (news : List Value) (hx : a.eval x = .slice A m c) (hl : news.length = m * size) (hr : Row w ex A news) (h1 : ∀ u ∈ news, u.oneCell' = true)
    (h63 : n + m ≤ maxLen) (hbytes : (n + m) * bytes ≤ 140737488355328) (hbase : base ≤ w.heap.size)
    (h : ∀ v' w', w'.ownsRow base e size v' (n + m) (xs ++ news) → w.grownBy w' v.ownBlock → w.drawn ≤ w'.drawn → (v'.ownBlock = v.ownBlock ∨ v'.ownBlock = some w.heap.size) → K (a.put o.dst v') w') :
    if Region.wanted o (yielded ops a.tmps) = true then Oper.wp P o a w K Q else E := by
  have hw : Region.wanted o (yielded ops a.tmps) = true := by simp [Region.wanted, hgd]
  rw [if_pos hw]
  exact wp_append_mine w s x t ho base e i z size bytes ht hi hz hsize hby hzs hsz v n xs hs hown ex A m c news hx hl hr h1 h63 hbytes hbase h
end

section
variable {w w' : World} {v v' : Value}
/-- What an append to an own slice leaves readable. -/
theorem Kr.append {ex : List Nat} (hg : w.grownBy w' v.ownBlock) (ha : v'.ownBlock = v.ownBlock ∨ v'.ownBlock = some w.heap.size) : Kr w (own v ++ ex) w' (own v' ++ ex) := by
  refine ⟨hg.size, fun b hb hx => ?_, fun b hb hx => hg.block b hb (fun e => hx (by simp [own, ← e]))⟩
  intro hx'
  rcases List.mem_append.1 hx' with h | h
  · rcases ha with ha | ha
    · exact hx (List.mem_append_left _ (by simpa [own, ha] using h))
    · simp [own, ha] at h; omega
  · exact hx (List.mem_append_right _ h)
theorem Below.append {B : Nat} {a : World} (h : Below B a w) (hg : w.grownBy w' v.ownBlock) (hd : w.drawn ≤ w'.drawn) (hB : B ≤ w.heap.size) (hr : ∀ k, v.ownBlock = some k → B ≤ k) : Below B a w' := h.grown hg hd hB hr
/-- An own row read as a row. -/
theorem Row.of_own {base e size n : Nat} {A : Option Addr} {c : Nat} {xs : List Value} (h : w.ownsRow base e size (.slice A n c) n xs) {ex : List Nat} (hx : ∀ b ∈ ex, b < base) : Row w ex A xs := by
  intro hne
  rcases h.2 with ⟨hv, hn⟩ | ⟨g, cap, cur, hv, hb, _⟩
  · exfalso; apply hne; apply List.eq_nil_of_length_eq_zero; rw [h.1, hn]; simp
  · injection hv with hv
    subst hv
    refine ⟨g, 0, rfl, fun hg => absurd (hx g hg) (by omega), fun i u hu => ?_⟩
    have := h.cells (g := g) rfl i u hu
    rw [Addr.add_lit] at this
    exact this
theorem own_form {base e size n : Nat} {xs : List Value} (h : w.ownsRow base e size v n xs) : ∃ A c, v = .slice A n c ∧ n ≤ c := by
  rcases h.2 with ⟨hv, hn⟩ | ⟨g, cap, cur, hv, hb, _, hnc, _⟩
  · exact ⟨none, 0, by rw [hv, hn], by omega⟩
  · exact ⟨_, cap, hv, hnc⟩
end
section
variable {w w' : World} {ex l : List Nat}
/-- Blocks that came since may be kept apart. -/
theorem Kr.fresh (h : Below w.heap.size w w') (hl : ∀ b ∈ l, w.heap.size ≤ b) : Kr w ex w' (l ++ ex) :=
  ⟨h.size, fun b hb hx hh => by
    rcases List.mem_append.1 hh with h1 | h1
    · have := hl b h1; omega
    · exact hx h1, fun b hb _ => h.block b hb⟩
theorem Kr.down {ex'' : List Nat} (h : Kr w ex w' ex) (hs : ∀ b, b ∈ ex'' → b ∈ ex) : Kr w ex w' ex'' := h.sub hs
theorem hexs (hex : ∀ b ∈ ex, b < w.heap.size) (hs : w.heap.size ≤ w'.heap.size) (hl : ∀ b ∈ l, b < w'.heap.size) : ∀ b ∈ l ++ ex, b < w'.heap.size := by
  intro b hb
  rcases List.mem_append.1 hb with h1 | h1
  · exact hl b h1
  · exact Nat.lt_of_lt_of_le (hex b h1) hs
end

/-! ### What a call returns -/
def RetW (w : World) (ex : List Nat) (ws : List Nat) (e : Ending) (w' : World) : Prop :=
  ∃ A m c X D, e = .returned (.slice A m c) ∧ w' = w.more X D ∧ RW (w.more X D) ex A m c ws
def RetI (w : World) (ex : List Nat) (z : Int) (e : Ending) (w' : World) : Prop :=
  ∃ s A m c X D, e = .returned (.agg #[.bool s, .slice A m c]) ∧ w' = w.more X D ∧ RI (w.more X D) ex s A m c z
/-- A value that holds no address. -/
def RetV (w : World) (v : Value) (e : Ending) (w' : World) : Prop := ∃ X D, e = .returned v ∧ w' = w.more X D
theorem RetW.mk {w w' : World} {ex ws : List Nat} {A : Option Addr} {m c : Nat} {e : Ending} (he : e = .returned (.slice A m c)) (hb : Below w.heap.size w w') (hr : RW w' ex A m c ws) : RetW w ex ws e w' := by
  obtain ⟨X, D, rfl⟩ := World.more_of_below hb
  exact ⟨A, m, c, X, D, he, rfl, hr⟩
theorem RetI.mk {w w' : World} {ex : List Nat} {z : Int} {s : Bool} {A : Option Addr} {m c : Nat} {e : Ending} (he : e = .returned (.agg #[.bool s, .slice A m c])) (hb : Below w.heap.size w w') (hr : RI w' ex s A m c z) : RetI w ex z e w' := by
  obtain ⟨X, D, rfl⟩ := World.more_of_below hb
  exact ⟨s, A, m, c, X, D, he, rfl, hr⟩
theorem RetV.mk {w w' : World} {v : Value} {e : Ending} (he : e = .returned v) (hb : Below w.heap.size w w') : RetV w v e w' := by
  obtain ⟨X, D, rfl⟩ := World.more_of_below hb
  exact ⟨X, D, he, rfl⟩

end Go.Proofs.YthhdleppkggepaaGreat
