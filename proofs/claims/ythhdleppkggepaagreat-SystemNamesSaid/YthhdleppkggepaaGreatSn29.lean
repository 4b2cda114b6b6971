/-
  The map from monomials to numbers that a sum is: how it is read, and the laws at its operations.
-/
import Derived.Maps.RangeWalk
import Derived.Test.YthhdleppkggepaaGreatSn08
import Derived.Test.YthhdleppkggepaaGreatSn16
import Derived.Test.YthhdleppkggepaaGreatSn17

set_option linter.unusedSimpArgs false
set_option linter.unusedVariables false
set_option linter.unusedSectionVars false

namespace Go.Proofs.YthhdleppkggepaaGreat
open Go.RowKit Go.Deep
open Go.ChangeMaps (setBlock heap_setBlock_same heap_setBlock_other)
open Go.MapKept (heap_set)
set_option maxRecDepth 100000

def monoV (m : List Int) : Value := .agg (m.map fun x => Value.int .i64 x).toArray
theorem list8 {m : List Int} (h : m.length = 8) : ∃ e0 e1 e2 e3 e4 e5 e6 e7, m = [e0, e1, e2, e3, e4, e5, e6, e7] := by
  match m, h with
  | [e0, e1, e2, e3, e4, e5, e6, e7], _ => exact ⟨_, _, _, _, _, _, _, _, rfl⟩
/-- An entry of the map: a monomial and its number. -/
def ME (w : World) (ex : List Nat) (x : Rat × List Int) (e : MapEntry) : Prop :=
  x.2.length = 8 ∧ e.key = monoV x.2 ∧ ∃ s1 A1 n1 c1 s2 A2 n2 c2, e.val = .agg #[.bool s1, .slice A1 n1 c1, .bool s2, .slice A2 n2 c2] ∧ RQ w ex s1 A1 n1 c1 s2 A2 n2 c2 x.1
theorem ME.mono {w w' : World} {ex ex' : List Nat} {x : Rat × List Int} {e : MapEntry} (h : ME w ex x e) (k : Kr w ex w' ex') : ME w' ex' x e := by
  obtain ⟨h1, h2, s1, A1, n1, c1, s2, A2, n2, c2, h3, h4⟩ := h
  exact ⟨h1, h2, s1, A1, n1, c1, s2, A2, n2, c2, h3, h4.mono k⟩
/-- Block b is a map of these terms, in the order in which they were laid. -/
def MapR (w : World) (ex : List Nat) (b : Nat) (L : List (Rat × List Int)) : Prop :=
  ∃ (Z : List ((Rat × List Int) × MapEntry)) (clock : Nat), w.heap[b]? = some (.map (Z.map (·.2)).toArray clock) ∧ L = Z.map (·.1) ∧ (∀ z ∈ Z, ME w ([b] ++ ex) z.1 z.2) ∧ (∀ z ∈ Z, z.2.born < clock) ∧ (Z.map (·.2.born)).Nodup
theorem MapR.made (w : World) (ex : List Nat) : MapR (w.alloc (.map #[] 0)) ex w.heap.size [] :=
  ⟨[], 0, by simpa using (MapKept.heap_alloc w _).1, rfl, by simp, by simp, by simp⟩
theorem MapR.lt {w : World} {ex : List Nat} {b : Nat} {L : List (Rat × List Int)} (h : MapR w ex b L) : b < w.heap.size := by
  obtain ⟨Z, clock, hb, _⟩ := h
  exact (Array.getElem?_eq_some_iff.1 hb).1
theorem MapR.mono {w w' : World} {ex ex' : List Nat} {b : Nat} {L : List (Rat × List Int)} (h : MapR w ex b L) (k : Kr w ([b] ++ ex) w' ([b] ++ ex')) (hb : w'.heap[b]? = w.heap[b]?) : MapR w' ex' b L := by
  obtain ⟨Z, clock, h1, h2, h3, h4, h5⟩ := h
  exact ⟨Z, clock, hb.trans h1, h2, fun z hz => (h3 z hz).mono k, h4, h5⟩
theorem MapR.keep {w w' : World} {ex : List Nat} {b : Nat} {L : List (Rat × List Int)} (h : MapR w ex b L) (k : Below w.heap.size w w') : MapR w' ex b L :=
  h.mono (Kr.of_below k _) (k.block b h.lt)

theorem eqlm (w : World) {a b : List Int} (ha : a.length = 8) (hb : b.length = 8) : (Op.equal 68 (monoV a) (monoV b)).run Tryz.prog w = .ok (decide (a = b)) w := by
  obtain ⟨e0, e1, e2, e3, e4, e5, e6, e7, rfl⟩ := list8 ha
  obtain ⟨f0, f1, f2, f3, f4, f5, f6, f7, rfl⟩ := list8 hb
  exact eql8 w e0 e1 e2 e3 e4 e5 e6 e7 f0 f1 f2 f3 f4 f5 f6 f7
theorem check8 (w : World) (em : Bool) {m : List Int} (hm : m.length = 8) : (Instr.checkKey em 10000 68 (monoV m)).run Tryz.prog w = .ok () w := by
  obtain ⟨e0, e1, e2, e3, e4, e5, e6, e7, rfl⟩ := list8 hm
  have hs : (Tryz.prog.info? 3).map (fun i => i.size) = some 1 := by kernel_rfl
  obtain ⟨i, hi, hsz⟩ := Option.map_eq_some_iff.1 hs
  show (Instr.checkKey em (9999 + 1) 68 _).run _ _ = _
  unfold Instr.checkKey
  simp only [Sem.run_bind, run_underlying Tryz.underlying68, Result.andThen_ok]
  have hag : ∀ w, (isAgg 3).run Tryz.prog w = .ok false w := by intro w; simp [isAgg, run_underlying Tryz.underlying3, go_sem]
  have hck : ∀ (a : Int) (w : World), (Instr.checkKey em 9999 3 (.int .i64 a)).run Tryz.prog w = .ok () w := fun a w => by
    show (Instr.checkKey em (9998 + 1) 3 _).run _ _ = _
    unfold Instr.checkKey
    simp [Sem.run_bind, run_underlying Tryz.underlying3, go_sem]
  simp [monoV, go_sem, sizeOf, typeInfo, hi, hsz, Go.part, show List.range' 0 8 = [0, 1, 2, 3, 4, 5, 6, 7] from rfl, List.forIn_cons, hag, hck]
theorem asking8 (w : World) {m : List Int} (hm : m.length = 8) : ∀ (Z : List ((Rat × List Int) × MapEntry)) (i : Nat), (∀ z ∈ Z, z.1.2.length = 8 ∧ z.2.key = monoV z.1.2 ∧ z.1.2 ≠ m) → (Instr.findAsking 68 (monoV m) (Z.map (·.2)) i).run Tryz.prog w = .ok none w
  | [], _, _ => rfl
  | z :: r, i, h => by
    obtain ⟨h1, h2, h3⟩ := h z (by simp)
    show (Instr.findAsking 68 (monoV m) (z.2 :: r.map (·.2)) i).run Tryz.prog w = _
    unfold Instr.findAsking
    rw [Sem.run_bind, h2, eqlm w hm h1, decide_eq_false (fun e => h3 e.symm)]
    exact asking8 w hm r (i + 1) (fun y hy => h y (List.mem_cons_of_mem _ hy))
theorem find8 (w : World) {m : List Int} (hm : m.length = 8) (Z : List ((Rat × List Int) × MapEntry)) (h : ∀ z ∈ Z, z.1.2.length = 8 ∧ z.2.key = monoV z.1.2 ∧ z.1.2 ≠ m) : (Instr.findKey 68 (monoV m) (Z.map (·.2))).run Tryz.prog w = .ok none w := by
  unfold Instr.findKey
  rw [Sem.run_bind, run_underlying Tryz.underlying68, Result.andThen_ok]
  cases Z with
  | nil => rfl
  | cons z r =>
    have := asking8 w hm (z :: r) 0 h
    simp only [List.map_cons] at this ⊢
    simp only [Instr.findNow, Instr.sameNow]
    exact this
theorem zeroRat (w : World) : (zeroValue 59).run Tryz.prog w = .ok (.agg #[.bool false, .slice none 0 0, .bool false, .slice none 0 0]) w := by kernel_rfl
/-- 'old, ok := s[m]', m not in the map. -/
theorem MapR.lookup {w : World} {ex : List Nat} {b : Nat} {L : List (Rat × List Int)} (h : MapR w ex b L) {m : List Int} (hm : m.length = 8) (hn : ∀ t ∈ L, t.2 ≠ m) :
    (Instr.lookup 184 (.map (some b)) (monoV m) true).run Tryz.prog w = .ok (.tuple #[.agg #[.bool false, .slice none 0 0, .bool false, .slice none 0 0], .bool false]) w := by
  obtain ⟨Z, clock, h1, rfl, h3, h4, h5⟩ := h
  have hf := find8 w hm Z (fun z hz => ⟨(h3 z hz).1, (h3 z hz).2.1, hn _ (List.mem_map_of_mem hz)⟩)
  simp [Instr.lookup, run_underlying Tryz.underlying184, MapKept.run_getObj_map h1, check8 w _ hm, hf, zeroRat, Result.andThen]
/-- 's[m] = c', m not in the map. -/
theorem MapR.store {w : World} {ex : List Nat} {b : Nat} {L : List (Rat × List Int)} (h : MapR w ex b L) {m : List Int} (hm : m.length = 8) (hn : ∀ t ∈ L, t.2 ≠ m) {s1 : Bool} {A1 : Option Addr} {n1 c1 : Nat} {s2 : Bool} {A2 : Option Addr} {n2 c2 : Nat} {q : Rat} (hq : RQ w ([b] ++ ex) s1 A1 n1 c1 s2 A2 n2 c2 q) :
    ∃ w', (Instr.mapUpdate 184 (.map (some b)) (monoV m) (.agg #[.bool s1, .slice A1 n1 c1, .bool s2, .slice A2 n2 c2])).run Tryz.prog w = .ok () w' ∧ MapR w' ex b (L ++ [(q, m)]) ∧ w.grownBy w' (some b) ∧ w'.heap.size = w.heap.size ∧ w'.drawn = w.drawn := by
  obtain ⟨Z, clock, h1, rfl, h3, h4, h5⟩ := h
  have hf := find8 w hm Z (fun z hz => ⟨(h3 z hz).1, (h3 z hz).2.1, hn _ (List.mem_map_of_mem hz)⟩)
  let e : MapEntry := { key := monoV m, val := .agg #[.bool s1, .slice A1 n1 c1, .bool s2, .slice A2 n2 c2], born := clock }
  have hrun : (Instr.mapUpdate 184 (.map (some b)) (monoV m) (.agg #[.bool s1, .slice A1 n1 c1, .bool s2, .slice A2 n2 c2])).run Tryz.prog w = .ok () (setBlock w b (.map ((Z.map (·.2)).toArray.push e) (clock + 1))) := by
    simp [Instr.mapUpdate, run_underlying Tryz.underlying184, MapKept.run_getObj_map h1, check8 w _ hm, hf, MapKept.run_setObj_map _ h1, Result.andThen, setBlock, e]
  have hg : w.grownBy (setBlock w b (.map ((Z.map (·.2)).toArray.push e) (clock + 1))) (some b) := ⟨rfl, rfl, rfl, by simp [setBlock], fun i _ hi => heap_setBlock_other h1 _ (fun e => hi (by rw [e]))⟩
  have hk : Kr w ([b] ++ ex) (setBlock w b (.map ((Z.map (·.2)).toArray.push e) (clock + 1))) ([b] ++ ex) := ⟨by simp [setBlock], fun _ _ h => h, fun i hi hx => hg.block i hi (by intro e; cases e; exact hx (by simp))⟩
  refine ⟨_, hrun, ⟨Z ++ [((q, m), e)], clock + 1, ?_, by simp, ?_, ?_, ?_⟩, hg, by simp [setBlock], rfl⟩
  · rw [heap_setBlock_same h1]; simp
  · intro z hz
    rcases List.mem_append.1 hz with hz | hz
    · exact (h3 z hz).mono hk
    · simp only [List.mem_singleton] at hz; subst hz
      exact ⟨hm, rfl, s1, A1, n1, c1, s2, A2, n2, c2, rfl, hq.mono hk⟩
  · intro z hz
    rcases List.mem_append.1 hz with hz | hz
    · have := h4 z hz; omega
    · simp only [List.mem_singleton] at hz; subst hz; exact Nat.lt_succ_self _
  · rw [List.map_append, List.nodup_append]
    refine ⟨h5, by simp, ?_⟩
    intro x hx y hy e1
    simp only [List.map_cons, List.map_nil, List.mem_singleton] at hy
    obtain ⟨z, hz, rfl⟩ := List.mem_map.1 hx
    have := h4 z hz
    have h6 : z.2.born = clock := e1.trans hy
    omega

/-- 'for m, c := range s' under way: 'done' has come out. -/
def RgR (w : World) (ex : List Nat) (b r : Nat) (L done : List (Rat × List Int)) : Prop :=
  ∃ (Z DZ : List ((Rat × List Int) × MapEntry)) (clock since : Nat) (seen : Array Nat) (c0 : Nat), w.heap[b]? = some (.map (Z.map (·.2)).toArray clock) ∧ L = Z.map (·.1) ∧ (∀ z ∈ Z, ME w ([b, r] ++ ex) z.1 z.2) ∧ (∀ z ∈ Z, z.2.born < since) ∧ (Z.map (·.2.born)).Nodup ∧
    w.heap[r]? = some (.mapIter (some b) since seen c0) ∧ since ≤ c0 ∧ since ≤ clock ∧ r ≠ b ∧ done = DZ.map (·.1) ∧ Z.Perm (DZ ++ Z.filter fun z => !seen.contains z.2.born)
theorem RgR.mono {w w' : World} {ex ex' : List Nat} {b r : Nat} {L done : List (Rat × List Int)} (h : RgR w ex b r L done) (k : Kr w ([b, r] ++ ex) w' ([b, r] ++ ex')) (hb : w'.heap[b]? = w.heap[b]?) (hr : w'.heap[r]? = w.heap[r]?) : RgR w' ex' b r L done := by
  obtain ⟨Z, DZ, clock, since, seen, c0, h1, h2, h3, h4, h5, h6, h7⟩ := h
  exact ⟨Z, DZ, clock, since, seen, c0, hb.trans h1, h2, fun z hz => (h3 z hz).mono k, h4, h5, hr.trans h6, h7⟩
theorem RgR.lt {w : World} {ex : List Nat} {b r : Nat} {L done : List (Rat × List Int)} (h : RgR w ex b r L done) : b < w.heap.size ∧ r < w.heap.size := by
  obtain ⟨Z, DZ, clock, since, seen, c0, h1, h2, h3, h4, h5, h6, h7⟩ := h
  exact ⟨(Array.getElem?_eq_some_iff.1 h1).1, (Array.getElem?_eq_some_iff.1 h6).1⟩
theorem RgR.keep {w w' : World} {ex : List Nat} {b r : Nat} {L done : List (Rat × List Int)} (h : RgR w ex b r L done) (k : Below w.heap.size w w') : RgR w' ex b r L done :=
  h.mono (Kr.of_below k _) (k.block b h.lt.1) (k.block r h.lt.2)
theorem filter_map2 {α β : Type} (f : α → β) (p : β → Bool) (l : List α) : (l.map f).filter p = (l.filter fun a => p (f a)).map f := by
  induction l with
  | nil => rfl
  | cons a l ih => simp only [List.map_cons, List.filter_cons, ih]; split <;> simp
theorem leftOf_size (Z : List ((Rat × List Int) × MapEntry)) (seen : Array Nat) : (leftOf (Z.map (·.2)).toArray seen).size = (Z.filter fun z => !seen.contains z.2.born).length := by
  unfold leftOf
  rw [← Array.length_toList, Array.toList_filter]
  show ((Z.map (·.2)).filter _).length = _
  rw [filter_map2, List.length_map]
theorem RgR.left {w : World} {ex : List Nat} {b r : Nat} {L done : List (Rat × List Int)} (h : RgR w ex b r L done) : done.length + w.rangeLeft b r = L.length := by
  obtain ⟨Z, DZ, clock, since, seen, c0, h1, rfl, h3, h4, h5, h6, h7, h8, h9, rfl, h10⟩ := h
  simp only [World.rangeLeft, h1, h6, leftOf_size]
  have := h10.length_eq
  rw [List.length_append] at this
  simp only [List.length_map]; omega
/-- 'range s'. -/
theorem MapR.range {w : World} {ex : List Nat} {b : Nat} {L : List (Rat × List Int)} (h : MapR w ex b L) :
    ∃ w', (Instr.range 184 (.map (some b))).run Tryz.prog w = .ok (.pointer (some ⟨w.heap.size, 0, none⟩)) w' ∧ RgR w' ex b w.heap.size L [] ∧ Below w.heap.size w w' ∧ w'.heap.size = w.heap.size + 1 := by
  have hlt := h.lt
  obtain ⟨Z, clock, h1, h2, h3, h4, h5⟩ := h
  have hk : Kr w ([b] ++ ex) (w.alloc (.mapIter (some b) clock #[] clock)) ([b, w.heap.size] ++ ex) :=
    ((Kr.refl w ([b] ++ ex)).alloc _).sub (by intro x hx; simp at hx ⊢; grind)
  refine ⟨_, run_range_map w _ _ _ b _ clock Tryz.underlying184 h1, ⟨Z, [], clock, clock, #[], clock, ?_, h2, fun z hz => (h3 z hz).mono hk, h4, h5, (MapKept.heap_alloc w _).1, Nat.le_refl _, Nat.le_refl _, by omega, rfl, ?_⟩, (Below.refl _ _).alloc (Nat.le_refl _) _, by simp⟩
  · exact ((MapKept.heap_alloc w _).2 b hlt).trans h1
  · have : (Z.filter fun z => !(#[] : Array Nat).contains z.2.born) = Z := List.filter_eq_self.2 (fun z _ => by simp)
    rw [this]; exact List.Perm.refl _
theorem filter_strike {Z : List ((Rat × List Int) × MapEntry)} (hn : (Z.map (·.2.born)).Nodup) {z : (Rat × List Int) × MapEntry} (hz : z ∈ Z) (p : Nat → Bool) (hp : p z.2.born = true) :
    (Z.filter fun y => p y.2.born).Perm (z :: Z.filter fun y => p y.2.born && !(y.2.born == z.2.born)) := by
  induction Z with
  | nil => simp at hz
  | cons a Z ih =>
    simp only [List.map_cons, List.nodup_cons] at hn
    rcases List.mem_cons.1 hz with e | hz
    · subst e
      have : (Z.filter fun y => p y.2.born && !(y.2.born == z.2.born)) = Z.filter fun y => p y.2.born := by
        apply List.filter_congr
        intro y hy
        have : y.2.born ≠ z.2.born := fun e => hn.1 (e ▸ List.mem_map_of_mem hy)
        simp [this]
      simp [hp, this]
    · have hne : a.2.born ≠ z.2.born := fun e => hn.1 (e ▸ List.mem_map_of_mem (f := fun y : (Rat × List Int) × MapEntry => y.2.born) hz)
      have ih := ih hn.2 hz
      by_cases ha : p a.2.born = true
      · simp only [List.filter_cons, ha, if_true, Bool.true_and]
        rw [if_pos (by simp [hne])]
        exact (ih.cons a).trans (List.Perm.swap _ _ _)
      · simp only [List.filter_cons]
        rw [if_neg ha, if_neg (by simp [ha])]
        exact ih
/-- The step. -/
theorem RgR.next {w : World} {ex : List Nat} {b r : Nat} {L done : List (Rat × List Int)} (h : RgR w ex b r L done) (ty : TypeId) :
    (L.Perm done ∧ (Instr.next (.pointer (some ⟨r, 0, none⟩)) false ty).run Tryz.prog w = .ok (.tuple #[.bool false]) w) ∨
    ∃ (q : Rat) (e0 e1 e2 e3 e4 e5 e6 e7 : Int) (s1 : Bool) (A1 : Option Addr) (n1 c1 : Nat) (s2 : Bool) (A2 : Option Addr) (n2 c2 : Nat) (w' : World), (Instr.next (.pointer (some ⟨r, 0, none⟩)) false ty).run Tryz.prog w = .ok (.tuple #[.bool true, .agg #[.int .i64 e0, .int .i64 e1, .int .i64 e2, .int .i64 e3, .int .i64 e4, .int .i64 e5, .int .i64 e6, .int .i64 e7], .agg #[.bool s1, .slice A1 n1 c1, .bool s2, .slice A2 n2 c2]]) w' ∧ (q, [e0, e1, e2, e3, e4, e5, e6, e7]) ∈ L ∧ RQ w' ([b, r] ++ ex) s1 A1 n1 c1 s2 A2 n2 c2 q ∧
      RgR w' ex b r L (done ++ [(q, [e0, e1, e2, e3, e4, e5, e6, e7])]) ∧ w.grownBy w' (some r) ∧ w'.heap.size = w.heap.size ∧ w.drawn ≤ w'.drawn ∧ (Instr.entry (.pointer (some ⟨r, 0, none⟩))).run Tryz.prog w' = .ok (.tuple #[.agg #[.int .i64 e0, .int .i64 e1, .int .i64 e2, .int .i64 e3, .int .i64 e4, .int .i64 e5, .int .i64 e6, .int .i64 e7], .agg #[.bool s1, .slice A1 n1 c1, .bool s2, .slice A2 n2 c2]]) w' := by
  obtain ⟨Z, DZ, clock, since, seen, c0, h1, rfl, h3, h4, h5, h6, h7, h8, h9, rfl, h10⟩ := h
  have hold : ∀ x ∈ (Z.map (·.2)).toArray.toList, x.born < since := by
    intro x hx
    obtain ⟨z, hz, rfl⟩ := List.mem_map.1 hx
    exact h4 z hz
  rcases run_next_at (P := Tryz.prog) w ty r b since c0 seen _ clock h6 h1 hold h7 with ⟨h0, hrun⟩ | ⟨e, he, w1, hal, hrun⟩
  · refine .inl ⟨?_, hrun⟩
    rw [leftOf_size] at h0
    rw [List.eq_nil_of_length_eq_zero h0, List.append_nil] at h10
    exact h10.map _
  · obtain ⟨hem, hes⟩ := mem_left he
    obtain ⟨z, hz, rfl⟩ := List.mem_map.1 hem
    obtain ⟨m8, hkey, s1, A1, n1, c1, s2, A2, n2, c2, hval, hq⟩ := h3 z hz
    obtain ⟨⟨q, m⟩, e⟩ := z
    obtain ⟨e0, e1, e2, e3, e4, e5, e6, e7, hm⟩ := list8 m8
    simp only at hm hkey hval hq hes hrun
    subst hm
    have hkey' : e.key = .agg #[.int .i64 e0, .int .i64 e1, .int .i64 e2, .int .i64 e3, .int .i64 e4, .int .i64 e5, .int .i64 e6, .int .i64 e7] := hkey
    have hr1 : w1.heap[r]? = some (.mapIter (some b) since seen c0) := by rcases hal with rfl | rfl <;> exact h6
    have hb1 : w1.heap[b]? = some (.map (Z.map (·.2)).toArray clock) := by rcases hal with rfl | rfl <;> exact h1
    have hset := heap_set (o' := .mapIter (some b) since (seen.push e.born) clock) hr1
    have hg : w.grownBy (setBlock w1 r (.mapIter (some b) since (seen.push e.born) clock)) (some r) := by
      rcases hal with rfl | rfl <;> exact ⟨rfl, rfl, rfl, by simp [setBlock], fun i _ hi => hset.2 i (fun e1 => hi (by rw [e1]))⟩
    have hsz : (setBlock w1 r (.mapIter (some b) since (seen.push e.born) clock)).heap.size = w.heap.size := by rcases hal with rfl | rfl <;> simp [setBlock]
    have hd : w.drawn ≤ (setBlock w1 r (.mapIter (some b) since (seen.push e.born) clock)).drawn := by rcases hal with rfl | rfl <;> simp [setBlock]
    have hk : Kr w ([b, r] ++ ex) (setBlock w1 r (.mapIter (some b) since (seen.push e.born) clock)) ([b, r] ++ ex) := ⟨by rw [hsz]; exact Nat.le_refl _, fun _ _ h => h, fun i hi hx => hg.block i hi (by intro e; cases e; exact hx (by simp))⟩
    have hb' := (hset.2 b (fun e1 => h9 e1.symm)).trans hb1
    refine .inr ⟨q, e0, e1, e2, e3, e4, e5, e6, e7, s1, A1, n1, c1, s2, A2, n2, c2, _, by rw [hrun, hkey', hval], List.mem_map_of_mem (f := Prod.fst) hz, hq.mono hk, ⟨Z, DZ ++ [((q, [e0, e1, e2, e3, e4, e5, e6, e7]), e)], clock, since, seen.push e.born, clock, hb', rfl, fun z hz => (h3 z hz).mono hk, h4, h5, hset.1, h8, h8, h9, by simp, ?_⟩, hg, hsz, hd, ?_⟩
    · refine h10.trans ?_
      rw [List.append_assoc]
      refine List.Perm.append_left _ ?_
      have := filter_strike h5 hz (fun n => !seen.contains n) (by simpa using hes)
      refine this.trans (List.Perm.cons _ (List.Perm.of_eq ?_))
      apply List.filter_congr
      intro y _
      rw [contains_push]
      cases seen.contains y.2.born <;> rfl
    · have hn : ((Z.map (·.2)).toArray.toList.map (·.born)).Nodup := by
        show ((Z.map (·.2)).map (·.born)).Nodup
        rw [List.map_map]; exact h5
      have := run_entry_at (P := Tryz.prog) (setBlock w1 r (.mapIter (some b) since (seen.push e.born) clock)) r b since seen _ clock e hset.1 hb' (List.mem_map_of_mem (f := Prod.snd) hz) hn
      rw [this, hkey', hval]

section
variable (w : World) {ops : Array Oper} {rest : List Oper} {o : Oper} {a : Act} {Q : Exit → Act → World → Prop}
theorem wpList_mono_store (hg : o.guard = none) (m x v : Operand) (hop : o.op = Op.mapUpdate 184 m x v) {ex : List Nat} {b : Nat} {L : List (Rat × List Int)} (hm : a.eval m = .map (some b)) (hown : MapR w ex b L) {e0 e1 e2 e3 e4 e5 e6 e7 : Int} (hx : a.eval x = .agg #[.int .i64 e0, .int .i64 e1, .int .i64 e2, .int .i64 e3, .int .i64 e4, .int .i64 e5, .int .i64 e6, .int .i64 e7]) (hn : ∀ t ∈ L, t.2 ≠ [e0, e1, e2, e3, e4, e5, e6, e7]) {s1 : Bool} {A1 : Option Addr} {n1 c1 : Nat} {s2 : Bool} {A2 : Option Addr} {n2 c2 : Nat} (hv : a.eval v = .agg #[.bool s1, .slice A1 n1 c1, .bool s2, .slice A2 n2 c2]) {q : Rat} (hq : RQ w ([b] ++ ex) s1 A1 n1 c1 s2 A2 n2 c2 q)
    (hK : ∀ w', MapR w' ex b (L ++ [(q, [e0, e1, e2, e3, e4, e5, e6, e7])]) → w.grownBy w' (some b) → w'.heap.size = w.heap.size → w'.drawn = w.drawn → wpList Tryz.prog ops Q rest (a.put o.dst undef) w') :
    wpList Tryz.prog ops Q (o :: rest) a w := by
  refine wpList_plain hg fun K' hK' => ?_
  obtain ⟨w', hrun, r1, r2, r3, r4⟩ := hown.store (m := [e0, e1, e2, e3, e4, e5, e6, e7]) rfl hn hq
  have hrun' : (Instr.mapUpdate 184 (.map (some b)) (.agg #[.int .i64 e0, .int .i64 e1, .int .i64 e2, .int .i64 e3, .int .i64 e4, .int .i64 e5, .int .i64 e6, .int .i64 e7]) (.agg #[.bool s1, .slice A1 n1 c1, .bool s2, .slice A2 n2 c2])).run Tryz.prog w = .ok () w' := hrun
  unfold Oper.wp
  simp [execOp, hop, hm, hx, hv, hrun', Result.andThen]
  exact hK' _ _ (hK w' r1 r2 r3 r4)
theorem wpList_mono_lookup (hg : o.guard = none) (m x : Operand) (hop : o.op = Op.lookup 184 m x true) {ex : List Nat} {b : Nat} {L : List (Rat × List Int)} (hm : a.eval m = .map (some b)) (hown : MapR w ex b L) {e0 e1 e2 e3 e4 e5 e6 e7 : Int} (hx : a.eval x = .agg #[.int .i64 e0, .int .i64 e1, .int .i64 e2, .int .i64 e3, .int .i64 e4, .int .i64 e5, .int .i64 e6, .int .i64 e7]) (hn : ∀ t ∈ L, t.2 ≠ [e0, e1, e2, e3, e4, e5, e6, e7])
    (hK : wpList Tryz.prog ops Q rest (a.put o.dst (.tuple #[.agg #[.bool false, .slice none 0 0, .bool false, .slice none 0 0], .bool false])) w) :
    wpList Tryz.prog ops Q (o :: rest) a w := by
  refine wpList_plain hg fun K' hK' => ?_
  have hrun : (Instr.lookup 184 (.map (some b)) (.agg #[.int .i64 e0, .int .i64 e1, .int .i64 e2, .int .i64 e3, .int .i64 e4, .int .i64 e5, .int .i64 e6, .int .i64 e7]) true).run Tryz.prog w = _ := hown.lookup (m := [e0, e1, e2, e3, e4, e5, e6, e7]) rfl hn
  unfold Oper.wp
  simp [execOp, hop, hm, hx, hrun, Result.andThen]
  exact hK' _ _ hK
theorem wpList_mono_range (hg : o.guard = none) (m : Operand) (hop : o.op = Op.range 184 m) {ex : List Nat} {b : Nat} {L : List (Rat × List Int)} (hm : a.eval m = .map (some b)) (hown : MapR w ex b L)
    (hK : ∀ w', RgR w' ex b w.heap.size L [] → Below w.heap.size w w' → w'.heap.size = w.heap.size + 1 → wpList Tryz.prog ops Q rest (a.put o.dst (.pointer (some ⟨w.heap.size, 0, none⟩))) w') :
    wpList Tryz.prog ops Q (o :: rest) a w := by
  refine wpList_plain hg fun K' hK' => ?_
  obtain ⟨w', hrun, r1, r2, r3⟩ := hown.range
  unfold Oper.wp
  simp [execOp, hop, hm, hrun, Result.andThen]
  exact hK' _ _ (hK w' r1 r2 r3)
theorem wpList_mono_next (hg : o.guard = none) (it : Operand) (hop : o.op = Op.next it false) {ex : List Nat} {b r : Nat} {L done : List (Rat × List Int)} (hit : a.eval it = .pointer (some ⟨r, 0, none⟩)) (h : RgR w ex b r L done)
    (hDone : L.Perm done → wpList Tryz.prog ops Q rest (a.put o.dst (.tuple #[.bool false])) w)
    (hMore : ∀ (q : Rat) (e0 e1 e2 e3 e4 e5 e6 e7 : Int) (s1 : Bool) (A1 : Option Addr) (n1 c1 : Nat) (s2 : Bool) (A2 : Option Addr) (n2 c2 : Nat) (w' : World), (q, [e0, e1, e2, e3, e4, e5, e6, e7]) ∈ L → RQ w' ([b, r] ++ ex) s1 A1 n1 c1 s2 A2 n2 c2 q → RgR w' ex b r L (done ++ [(q, [e0, e1, e2, e3, e4, e5, e6, e7])]) → w.grownBy w' (some r) → w'.heap.size = w.heap.size → w.drawn ≤ w'.drawn →
      (Instr.entry (.pointer (some ⟨r, 0, none⟩))).run Tryz.prog w' = .ok (.tuple #[.agg #[.int .i64 e0, .int .i64 e1, .int .i64 e2, .int .i64 e3, .int .i64 e4, .int .i64 e5, .int .i64 e6, .int .i64 e7], .agg #[.bool s1, .slice A1 n1 c1, .bool s2, .slice A2 n2 c2]]) w' → wpList Tryz.prog ops Q rest (a.put o.dst (.tuple #[.bool true, .agg #[.int .i64 e0, .int .i64 e1, .int .i64 e2, .int .i64 e3, .int .i64 e4, .int .i64 e5, .int .i64 e6, .int .i64 e7], .agg #[.bool s1, .slice A1 n1 c1, .bool s2, .slice A2 n2 c2]])) w') :
    wpList Tryz.prog ops Q (o :: rest) a w := by
  refine wpList_plain hg fun K' hK' => ?_
  unfold Oper.wp
  rcases h.next o.type with ⟨h0, hrun⟩ | ⟨q, e0, e1, e2, e3, e4, e5, e6, e7, s1, A1, n1, c1, s2, A2, n2, c2, w', hrun, h1, h2, h3, h4, h5, h6, h7⟩
  · simp [execOp, hop, hit, hrun, Result.andThen]
    exact hK' _ _ (hDone h0)
  · simp [execOp, hop, hit, hrun, Result.andThen]
    exact hK' _ _ (hMore q e0 e1 e2 e3 e4 e5 e6 e7 s1 A1 n1 c1 s2 A2 n2 c2 w' h1 h2 h3 h4 h5 h6 h7)
end

end Go.Proofs.YthhdleppkggepaaGreat

/-
  The walk of sum.add, where the monomial is new.
-/
namespace Go.Proofs.YthhdleppkggepaaGreat
open Go.RowKit Go.Deep
set_option maxRecDepth 100000

/-- What a call does that lays an entry into the map in block b. -/
def RetM (w : World) (base : Nat) (ex : List Nat) (b : Nat) (L : List (Rat × List Int)) (e : Ending) (w' : World) : Prop :=
  e = .returned (.tuple #[]) ∧ MapR w' ex b L ∧ (∀ ex', Kr w ([b] ++ ex') w' ([b] ++ ex')) ∧ Below base w w'
theorem Below.turned {B : Nat} {a w w' : World} {b : Nat} (h : Below B a w) (hg : w.grownBy w' (some b)) (hd : w.drawn ≤ w'.drawn) (hB : B ≤ w.heap.size) (hb : B ≤ b) : Below B a w' :=
  h.grown hg hd hB (fun k e => by cases e; exact hb)
theorem Kr.turned {w w' w'' : World} {ex ex' : List Nat} {b : Nat} (h : Kr w ex w' ex') (hg : w'.grownBy w'' (some b)) (hb : b ∈ ex') : Kr w ex w'' ex' :=
  h.trans ⟨hg.size, fun _ _ h => h, fun i hi hx => hg.block i hi (by intro e; cases e; exact hx hb)⟩

set_option maxHeartbeats 2000000 in
theorem sumadd_ok (w : World) (base b : Nat) (ex : List Nat) (L : List (Rat × List Int)) (s1 : Bool) (A1 : Option Addr) (n1 c1 : Nat) (s2 : Bool) (A2 : Option Addr) (n2 c2 : Nat) (q : Rat) (e0 e1 e2 e3 e4 e5 e6 e7 : Int) (hm : MapR w ex b L) (hq : RQ w ([b] ++ ex) s1 A1 n1 c1 s2 A2 n2 c2 q) (hn : ∀ t ∈ L, t.2 ≠ [e0, e1, e2, e3, e4, e5, e6, e7]) (hbase : base ≤ b) :
    Calls Tryz.prog 154 #[.map (some b), .agg #[.bool s1, .slice A1 n1 c1, .bool s2, .slice A2 n2 c2], .agg #[.int .i64 e0, .int .i64 e1, .int .i64 e2, .int .i64 e3, .int .i64 e4, .int .i64 e5, .int .i64 e6, .int .i64 e7]] w (RetM w base ex b (L ++ [(q, [e0, e1, e2, e3, e4, e5, e6, e7])])) := by
  have hlt := hm.lt
  have HM := Lib.hid hm
  have HQ := Lib.hid hq
  have HN := Lib.hid hn
  clear hm hq hn
  go_enter Tryz.func154, Tryz.ntmps154
  go_wp2_with (first | (at_lookup; refine wpList_mono_lookup _ rfl _ _ rfl rfl (HM.out.keep (by repeat (first | (with_reducible exact Below.refl _ _) | (with_reducible assumption) | refine Below.setCell ?_ (by first | (simp; done) | (simp; omega) | omega) _ | refine Below.more ?_ (by first | (simp; done) | (simp; omega) | omega) _ _ | refine Below.alloc ?_ (by first | (simp; done) | (simp; omega) | omega) _ | refine Below.drew ?_ | refine Below.drewN ?_ _))) rfl HN.out ?_) | (at_mapUpdate; refine wpList_mono_store _ rfl _ _ _ rfl rfl (HM.out.keep (by repeat (first | (with_reducible exact Below.refl _ _) | (with_reducible assumption) | refine Below.setCell ?_ (by first | (simp; done) | (simp; omega) | omega) _ | refine Below.more ?_ (by first | (simp; done) | (simp; omega) | omega) _ _ | refine Below.alloc ?_ (by first | (simp; done) | (simp; omega) | omega) _ | refine Below.drew ?_ | refine Below.drewN ?_ _))) rfl HN.out rfl (HQ.out.mono (Kr.of_below (by repeat (first | (with_reducible exact Below.refl _ _) | (with_reducible assumption) | refine Below.setCell ?_ (by first | (simp; done) | (simp; omega) | omega) _ | refine Below.more ?_ (by first | (simp; done) | (simp; omega) | omega) _ _ | refine Below.alloc ?_ (by first | (simp; done) | (simp; omega) | omega) _ | refine Below.drew ?_ | refine Below.drewN ?_ _)) _)) ?_; intro w1 hm1 hg1 hs1 hd1) | fail)
  go_end0
  exact ⟨rfl, hm1, fun ex' => (Kr.of_below (show Below w.heap.size w _ from (by repeat (first | (with_reducible exact Below.refl _ _) | (with_reducible assumption) | refine Below.setCell ?_ (by first | (simp; done) | (simp; omega) | omega) _ | refine Below.more ?_ (by first | (simp; done) | (simp; omega) | omega) _ _ | refine Below.alloc ?_ (by first | (simp; done) | (simp; omega) | omega) _ | refine Below.drew ?_ | refine Below.drewN ?_ _))) _).turned hg1 (by simp), ((show Below w.heap.size w _ from (by repeat (first | (with_reducible exact Below.refl _ _) | (with_reducible assumption) | refine Below.setCell ?_ (by first | (simp; done) | (simp; omega) | omega) _ | refine Below.more ?_ (by first | (simp; done) | (simp; omega) | omega) _ _ | refine Below.alloc ?_ (by first | (simp; done) | (simp; omega) | omega) _ | refine Below.drew ?_ | refine Below.drewN ?_ _))).mono (by omega)).turned hg1 (by rw [hd1]; exact Nat.le_refl _) (by simp; omega) hbase⟩

set_option maxHeartbeats 2000000 in
/-- The order in which a sum's terms are laid. -/
theorem polyc_ok (w : World) (s1 : Bool) (A1 : Option Addr) (n1 c1 : Nat) (s2 : Bool) (A2 : Option Addr) (n2 c2 : Nat) (s3 : Bool) (A3 : Option Addr) (n3 c3 : Nat) (s4 : Bool) (A4 : Option Addr) (n4 c4 : Nat) (e0 e1 e2 e3 e4 e5 e6 e7 f0 f1 f2 f3 f4 f5 f6 f7 : Int) :
    Calls Tryz.prog 193 #[.agg #[.bool s1, .slice A1 n1 c1, .bool s2, .slice A2 n2 c2, .int .i64 e0, .int .i64 e1, .int .i64 e2, .int .i64 e3, .int .i64 e4, .int .i64 e5, .int .i64 e6, .int .i64 e7], .agg #[.bool s3, .slice A3 n3 c3, .bool s4, .slice A4 n4 c4, .int .i64 f0, .int .i64 f1, .int .i64 f2, .int .i64 f3, .int .i64 f4, .int .i64 f5, .int .i64 f6, .int .i64 f7]] w (RetV w (.int .i64 (cmpL [f0, f1, f2, f3, f4, f5, f6, f7] [e0, e1, e2, e3, e4, e5, e6, e7]))) := by
  go_enter Tryz.func193, Tryz.ntmps193
  go_wp2_with fail
  refine (mcmp_ok _ f0 f1 f2 f3 f4 f5 f6 f7 e0 e1 e2 e3 e4 e5 e6 e7).mono ?_; rintro e w1 ⟨X, D, rfl, rfl⟩
  go_wp2_with fail
  go_ret
  exact RetV.mk rfl (by repeat (first | (with_reducible exact Below.refl _ _) | (with_reducible assumption) | refine Below.setCell ?_ (by first | (simp; done) | (simp; omega) | omega) _ | refine Below.more ?_ (by first | (simp; done) | (simp; omega) | omega) _ _ | refine Below.alloc ?_ (by first | (simp; done) | (simp; omega) | omega) _ | refine Below.drew ?_ | refine Below.drewN ?_ _))

end Go.Proofs.YthhdleppkggepaaGreat
