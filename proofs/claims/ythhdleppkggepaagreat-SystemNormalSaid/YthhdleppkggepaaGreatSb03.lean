/-
  The walks of package integer: what each function returns, as a number.
-/
import Derived.Test.YthhdleppkggepaaGreatChecked
import Derived.Test.YthhdleppkggepaaGreatSb02

set_option linter.unusedSimpArgs false
set_option linter.unusedVariables false
set_option linter.unusedSectionVars false

namespace Go.Proofs.YthhdleppkggepaaGreat
open Go.RowKit

set_option maxHeartbeats 400000 in
theorem norm_ok (w : World) (ex : List Nat) (A : Option Addr) (n c : Nat) (ws : List Nat) (h : RW w ex A n c ws) (hn : n ≤ 1000000000) :
    Calls Tryz.prog 172 #[.slice A n c] w fun e w' => ∃ m, e = .returned (.slice A m m) ∧ w' = w ∧ RW w ex A m m (digits (val ws)) := by
  have hlen := h.len
  have HL := Lib.hid hlen; clear hlen
  go_enter Tryz.func172, Tryz.ntmps172
  go_wp2
  go_loop [3] (fun i => ∃ k : Nat, k ≤ n ∧ i = .int .i64 k ∧ ∀ j, k ≤ j → (hj : j < ws.length) → ws[j] = 0) (fun i => (intOf i).toNat)
  case atStart => exact ⟨n, Nat.le_refl _, rfl, fun j h1 h2 => absurd h2 (by have := HL.out; omega)⟩
  case round =>
    obtain ⟨k, hk, rfl, hz⟩ := hrel
    have HZ := Lib.hid hz; clear hz
    have h : RW w ex A n c ws := h
    have hcap : n ≤ c := h.cap
    by_cases h0 : 0 < k
    · obtain ⟨b, o, rfl, hb, hc⟩ := h.at_ (by omega)
      have hk1 : k - 1 < ws.length := by have := HL.out; omega
      have hcell : w.cell? ⟨b, o + (k - 1), none⟩ = some (.int .u32 (ws[k - 1] : Int)) := hc _ hk1
      have HC := Lib.hid hc; clear hc
      by_cases hz : ws[k - 1] = 0
      · have hz' : (((ws[k - 1] : Nat) : Int) == 0) = true := by simp [hz]
        have HZ0 := Lib.hid hz; clear hz
        go_wp2
        go_round
        case rel =>
          refine ⟨k - 1, by omega, by go_num, fun j h1 h2 => ?_⟩
          by_cases hj : j = k - 1
          · subst hj; exact HZ0.out
          · exact HZ.out j (by omega) h2
        case measure => simp [intOf]; omega
      · have hz' : (((ws[k - 1] : Nat) : Int) == 0) = false := by simp; omega
        have HZ0 := Lib.hid hz; clear hz
        go_wp2
        go_ret
        refine ⟨k, rfl, rfl, ?_⟩
        rw [digits_take h.wd (by have := HL.out; omega) HZ.out (.inr ⟨hk1, HZ0.out⟩)]
        exact h.take hk
    · obtain rfl : k = 0 := by omega
      go_wp2
      go_ret
      refine ⟨0, rfl, rfl, ?_⟩
      rw [digits_take h.wd (by omega) HZ.out (.inl rfl)]
      exact h.take (by omega)

set_option maxHeartbeats 400000 in
theorem at_ok (w : World) (ex : List Nat) (A : Option Addr) (n c : Nat) (ws : List Nat) (h : RW w ex A n c ws) (i : Int) (h0 : 0 ≤ i) :
    Calls Tryz.prog 211 #[.slice A n c, .int .i64 i] w fun e w' => e = .returned (.int .u32 ((ws.getD i.toNat 0 : Nat) : Int)) ∧ w' = w := by
  obtain ⟨k, rfl⟩ := Int.eq_ofNat_of_zero_le h0
  rw [Int.toNat_natCast]
  have hlen := h.len
  by_cases hk : k < n
  · obtain ⟨b, o, rfl, hb, hc⟩ := h.at_ (by omega)
    have hkl : k < ws.length := by omega
    have hcell := hc k hkl
    have HF : Hid (ws.getD k 0 = ws[k]) := by rw [List.getD_eq_getElem?_getD, List.getElem?_eq_getElem hkl]; rfl
    have HL := Lib.hid hlen; clear hlen hc
    go_enter Tryz.func211, Tryz.ntmps211
    go_wp2
    go_ret
    exact ⟨by rw [HF.out]; rfl, rfl⟩
  · have HF : Hid (ws.getD k 0 = 0) := by rw [List.getD_eq_getElem?_getD, List.getElem?_eq_none (by omega)]; rfl
    have HL := Lib.hid hlen; clear hlen
    go_enter Tryz.func211, Tryz.ntmps211
    go_wp2
    go_ret
    exact ⟨by rw [HF.out]; rfl, rfl⟩

theorem nanI_ok (a : Int) (w : World) : Calls Tryz.prog 230 #[.int .i64 a] w fun e w' => e = .returned (.bool false) ∧ w' = w := by
  go_enter Tryz.func230, Tryz.ntmps230
  go_wp2
  go_ret
  exact ⟨by simp, rfl⟩
theorem nanU_ok (a : Int) (w : World) : Calls Tryz.prog 242 #[.int .u32 a] w fun e w' => e = .returned (.bool false) ∧ w' = w := by
  go_enter Tryz.func242, Tryz.ntmps242
  go_wp2
  go_ret
  exact ⟨by simp, rfl⟩
set_option maxHeartbeats 400000 in
theorem compareI_ok (a b : Int) (w : World) : Calls Tryz.prog 204 #[.int .i64 a, .int .i64 b] w fun e w' => e = .returned (.int .i64 (cmpZ a b)) ∧ w' = w := by
  go_enter Tryz.func204, Tryz.ntmps204
  go_wp2_with fail
  refine (nanI_ok _ _).mono ?_; rintro e w' ⟨rfl, rfl⟩
  go_wp2_with fail
  refine (nanI_ok _ _).mono ?_; rintro e w1 ⟨rfl, rfl⟩
  go_wp2_with fail
  all_goals
    go_ret
    refine ⟨?_, rfl⟩
    unfold cmpZ
    first | (simp [*]; done) | (rw [if_neg (by omega), if_neg (by omega)]; rfl)
theorem compareU_ok (a b : Int) (w : World) : Calls Tryz.prog 229 #[.int .u32 a, .int .u32 b] w fun e w' => e = .returned (.int .i64 (cmpZ a b)) ∧ w' = w := by
  go_enter Tryz.func229, Tryz.ntmps229
  go_wp2_with fail
  refine (nanU_ok _ _).mono ?_; rintro e w' ⟨rfl, rfl⟩
  go_wp2_with fail
  refine (nanU_ok _ _).mono ?_; rintro e w1 ⟨rfl, rfl⟩
  go_wp2_with fail
  all_goals
    go_ret
    refine ⟨?_, rfl⟩
    unfold cmpZ
    first | (simp [*]; done) | (rw [if_neg (by omega), if_neg (by omega)]; rfl)

theorem add32_ok (x y c : Int) (w : World) (hx : 0 ≤ x) (hx' : x < 4294967296) (hy : 0 ≤ y) (hy' : y < 4294967296) (hc : 0 ≤ c) (hc' : c ≤ 1) :
    Calls Tryz.prog 210 #[.int .u32 x, .int .u32 y, .int .u32 c] w fun e w' => e = .returned (.tuple #[.int .u32 ((x + y + c) % 4294967296), .int .u32 ((x + y + c) / 4294967296)]) ∧ w' = w := by
  go_enter Tryz.func210, Tryz.ntmps210
  go_wp2
  go_ret2
  exact ⟨rfl, rfl⟩

theorem sub32_bits (x y c : Int) (hx : 0 ≤ x) (hx' : x < 4294967296) (hy : 0 ≤ y) (hy' : y < 4294967296) (hc : 0 ≤ c) (hc' : c ≤ 1) :
    bits BinOp.or IntKind.u32 (bits BinOp.and IntKind.u32 (bits BinOp.xor IntKind.u32 IntKind.u32.max x) y)
      (bits BinOp.and IntKind.u32 (bits BinOp.xor IntKind.u32 IntKind.u32.max (bits BinOp.xor IntKind.u32 x y)) ((x - y - c) % 4294967296)) / 2147483648 = if x < y + c then 1 else 0 := by
  obtain ⟨x, rfl⟩ := Int.eq_ofNat_of_zero_le hx
  obtain ⟨y, rfl⟩ := Int.eq_ofNat_of_zero_le hy
  obtain ⟨c, rfl⟩ := Int.eq_ofNat_of_zero_le hc
  have hxn : x < 4294967296 := by omega
  have hyn : y < 4294967296 := by omega
  have hmax : IntKind.u32.max = ((4294967295 : Nat) : Int) := by decide
  obtain ⟨d, hd⟩ : ∃ d : Nat, (x + 8589934592 - y - c) % 4294967296 = d := ⟨_, rfl⟩
  have hdl : d < 4294967296 := by omega
  have hdi : ((x : Int) - y - c) % 4294967296 = (d : Int) := by omega
  have h1 : (4294967295 : Nat) < 2 ^ 32 := by decide
  have hxx : 4294967295 ^^^ x < 2 ^ 32 := Nat.xor_lt_two_pow h1 (by omega)
  have hxy : x ^^^ y < 2 ^ 32 := Nat.xor_lt_two_pow (by omega) (by omega)
  have hn : 4294967295 ^^^ (x ^^^ y) < 2 ^ 32 := Nat.xor_lt_two_pow h1 hxy
  rw [hdi, hmax, u32_xor_nat x y hxn hyn, u32_xor_nat 4294967295 x (by decide) hxn, u32_xor_nat 4294967295 _ (by decide) hxy,
    u32_and_nat _ y hxx hyn, u32_and_nat _ d hn hdl, u32_or_nat _ _ (Nat.and_lt_two_pow (n := 32) _ (by omega)) (Nat.and_lt_two_pow (n := 32) _ (by omega))]
  have := borrow32 c hxn hyn hdl (by omega) hd
  by_cases hlt : x < y + c
  · rw [if_pos hlt] at this; rw [if_pos (by omega)]; omega
  · rw [if_neg hlt] at this; rw [if_neg (by omega)]; omega

theorem sub32_ok (x y c : Int) (w : World) (hx : 0 ≤ x) (hx' : x < 4294967296) (hy : 0 ≤ y) (hy' : y < 4294967296) (hc : 0 ≤ c) (hc' : c ≤ 1) :
    Calls Tryz.prog 212 #[.int .u32 x, .int .u32 y, .int .u32 c] w fun e w' => e = .returned (.tuple #[.int .u32 ((x - y - c) % 4294967296), .int .u32 (if x < y + c then 1 else 0)]) ∧ w' = w := by
  rw [← sub32_bits x y c hx hx' hy hy' hc hc']
  go_enter Tryz.func212, Tryz.ntmps212
  go_wp2
  go_ret2
  exact ⟨rfl, rfl⟩

theorem cmpZ_len {a b : Nat} (h : (digits a).length ≠ (digits b).length) : cmpZ ((digits a).length : Int) ((digits b).length : Int) = cmpN a b := by
  unfold cmpZ cmpN
  by_cases hl : (digits a).length < (digits b).length
  · rw [if_pos (by omega), if_pos (digits_lt_of_length hl)]
  · have := digits_lt_of_length (a := b) (b := a) (by omega)
    rw [if_neg (by omega), if_pos (by omega), if_neg (by omega), if_pos this]
theorem cmpZ_word {a b : Nat} (hl : (digits a).length = (digits b).length) {k : Nat} (hk : k < (digits a).length) (hk' : k < (digits b).length)
    (ht : (digits a).drop (k + 1) = (digits b).drop (k + 1)) (hne : (digits a)[k] ≠ (digits b)[k]) : cmpZ ((digits a)[k] : Int) ((digits b)[k] : Int) = cmpN a b := by
  unfold cmpZ cmpN
  have va := val_digits a
  have vb := val_digits b
  by_cases h : (digits a)[k] < (digits b)[k]
  · have := val_lt_of (wd_digits a) hl hk hk' ht h
    rw [if_pos (by omega), if_pos (by omega)]
  · have := val_lt_of (wd_digits b) hl.symm hk' hk ht.symm (by omega)
    rw [if_neg (by omega), if_pos (by omega), if_neg (by omega), if_pos (by omega)]

set_option maxHeartbeats 1000000 in
theorem cmp_ok (w : World) (ex : List Nat) (A1 : Option Addr) (n1 c1 : Nat) (a : Nat) (A2 : Option Addr) (n2 c2 : Nat) (b : Nat)
    (hx : RW w ex A1 n1 c1 (digits a)) (hy : RW w ex A2 n2 c2 (digits b)) (hn : n1 ≤ 1000000000) (hn2 : n2 ≤ 1000000000) :
    Calls Tryz.prog 201 #[.slice A1 n1 c1, .slice A2 n2 c2] w fun e w' => e = .returned (.int .i64 (cmpN a b)) ∧ ∃ D, w' = w.drewN D := by
  have hl1 := hx.len
  have hl2 := hy.len
  by_cases hne : n1 = n2
  · subst hne
    have HL : Hid (n1 = (digits a).length ∧ n1 = (digits b).length) := ⟨hl1, hl2⟩
    clear hl1 hl2
    go_enter Tryz.func201, Tryz.ntmps201
    go_wp2
    go_loopw [19] (fun i wr => ∃ j : Nat, j ≤ n1 ∧ i = .int .i64 j ∧ Hid ((digits a).drop (n1 - j) = (digits b).drop (n1 - j)) ∧ ∃ D, wr = w.drewN D) (fun i _ => n1 - (intOf i).toNat)
    case atStart =>
      refine ⟨0, Nat.zero_le _, rfl, ?_, 0, rfl⟩
      show _ = _
      obtain ⟨h1, h2⟩ := HL.out
      rw [List.drop_of_length_le (by omega), List.drop_of_length_le (by omega)]
    case round =>
      obtain ⟨j, hj, rfl, HT, D, rfl⟩ := hrel
      by_cases hlt : j < n1
      · obtain ⟨bx, ox, rfl, hbx, hcx⟩ := hx.at_ (by omega)
        obtain ⟨by_, oy, rfl, hby, hcy⟩ := hy.at_ (by omega)
        obtain ⟨K, hK⟩ : ∃ K : Nat, (n1 : Int) - 1 - (j : Int) = (K : Int) := ⟨n1 - 1 - j, by omega⟩
        have hKn : K < n1 := by omega
        have hk1 : K < (digits a).length := by have := HL.out; omega
        have hk2 : K < (digits b).length := by have := HL.out; omega
        have hcellx := hcx _ hk1
        have hcelly := hcy _ hk2
        have HX := Lib.hid hcx; clear hcx
        have HY := Lib.hid hcy; clear hcy
        have HT2 : Hid ((digits a).drop (K + 1) = (digits b).drop (K + 1)) := by
          rw [show K + 1 = n1 - j from by omega]; exact HT
        by_cases heq : (digits a)[K] = (digits b)[K]
        · have hq : ((((digits a)[K] : Nat) : Int) != (((digits b)[K] : Nat) : Int)) = false := by simp [heq]
          have HQ := Lib.hid heq; clear heq
          go_wp2_with fail
          go_quiet (fail)
          go_wp2_with fail
          go_roundw
          case rel =>
            refine ⟨j + 1, by omega, by go_num, ?_, _, rfl⟩
            show _ = _
            have h2 := HT2.out
            rw [show n1 - (j + 1) = K from by omega, List.drop_eq_getElem_cons hk1, List.drop_eq_getElem_cons hk2, h2, HQ.out]
          case measure => simp [intOf]; omega
        · have hq : ((((digits a)[K] : Nat) : Int) != (((digits b)[K] : Nat) : Int)) = true := by simp; omega
          have HQ := Lib.hid heq; clear heq
          go_wp2_with fail
          go_quiet (fail)
          go_wp2_with fail
          go_region_held3 (fun w' => w'.cell? ⟨bx, ox + K, none⟩ = some (.int .u32 ((digits a)[K] : Nat)) ∧ w'.cell? ⟨by_, oy + K, none⟩ = some (.int .u32 ((digits b)[K] : Nat))) (simp [*, go_sem]) (first | (go_at_call 229; refine (compareU_ok _ _ _).mono ?_; rintro e w' ⟨rfl, rfl⟩))
          go_wp2_with fail
          go_ret
          refine ⟨?_, _, rfl⟩
          obtain ⟨h1, h2⟩ := HL.out
          rw [← cmpZ_word (a := a) (b := b) (by omega) hk1 hk2 HT2.out HQ.out]
          rfl
      · obtain rfl : j = n1 := by omega
        go_wp2
        go_ret
        refine ⟨?_, _, rfl⟩
        have h := HT.out
        rw [Nat.sub_self, List.drop_zero, List.drop_zero] at h
        have hab : a = b := by rw [← val_digits a, ← val_digits b, h]
        subst hab
        simp [cmpN]
  · have HL : Hid (n1 = (digits a).length ∧ n2 = (digits b).length) := ⟨hl1, hl2⟩
    clear hl1 hl2
    have hq : ((n1 : Int) != (n2 : Int)) = true := by simp; omega
    have HN := Lib.hid hne; clear hne
    go_enter Tryz.func201, Tryz.ntmps201
    go_wp2_with fail
    refine (compareI_ok _ _ _).mono ?_; rintro e w' ⟨rfl, rfl⟩
    go_wp2_with fail
    go_ret
    refine ⟨?_, 0, rfl⟩
    obtain ⟨h1, h2⟩ := HL.out
    rw [h1, h2]
    have := HN.out
    rw [← cmpZ_len (a := a) (b := b) (by omega)]
    rfl

end Go.Proofs.YthhdleppkggepaaGreat

/-
  Rows of elements, whatever the element's kind: how a slice of them is read; a slice that the call itself builds by append.
-/
namespace Go.Proofs.YthhdleppkggepaaGreat
open Go.RowKit

/-- A kind of element: its type, its cells, how it is read. -/
structure Elt (α : Type) where
  ty : TypeId
  size : Nat
  bytes : Nat
  rd : World → List Nat → α → List Value → Prop
  pos : 0 < size
  few : bytes ≤ 1000
  mono : ∀ {w w' : World} {ex ex' : List Nat} {x : α} {vs : List Value}, Kr w ex w' ex' → rd w ex x vs → rd w' ex' x vs
  len : ∀ {w : World} {ex : List Nat} {x : α} {vs : List Value}, rd w ex x vs → vs.length = size
  one : ∀ {w : World} {ex : List Nat} {x : α} {vs : List Value}, rd w ex x vs → ∀ u ∈ vs, u.oneCell' = true
  info : ∃ (i : TypeInfo) (z : Value), Tryz.prog.info? ty = some i ∧ i.zero = some z ∧ i.size = size ∧ i.bytes = bytes ∧ z.cells.size = size

section
variable {α : Type} (E : Elt α)

/-- The elements' cells, one behind the other. -/
def Elts (w : World) (ex : List Nat) : List α → List Value → Prop
  | [], cs => cs = []
  | x :: l, cs => ∃ vs r, cs = vs ++ r ∧ E.rd w ex x vs ∧ Elts w ex l r
variable {E}
theorem Elts.mono {w w' : World} {ex ex' : List Nat} (k : Kr w ex w' ex') : ∀ {l : List α} {cs : List Value}, Elts E w ex l cs → Elts E w' ex' l cs
  | [], _, h => h
  | _ :: _, _, ⟨vs, r, e, h1, h2⟩ => ⟨vs, r, e, E.mono k h1, Elts.mono k h2⟩
theorem Elts.length {w : World} {ex : List Nat} : ∀ {l : List α} {cs : List Value}, Elts E w ex l cs → cs.length = l.length * E.size
  | [], _, h => by cases h; simp
  | _ :: l, _, ⟨vs, r, e, h1, h2⟩ => by
    rw [e, List.length_append, E.len h1, h2.length, List.length_cons, Nat.succ_mul, Nat.add_comm]
theorem Elts.one {w : World} {ex : List Nat} : ∀ {l : List α} {cs : List Value}, Elts E w ex l cs → ∀ u ∈ cs, u.oneCell' = true
  | [], _, h => by cases h; simp
  | _ :: l, _, ⟨vs, r, e, h1, h2⟩ => by
    intro u hu
    rw [e] at hu
    rcases List.mem_append.1 hu with hu | hu
    · exact E.one h1 u hu
    · exact h2.one u hu
theorem Elts.append {w : World} {ex : List Nat} {x : α} {vs : List Value} (hx : E.rd w ex x vs) : ∀ {l : List α} {cs : List Value}, Elts E w ex l cs → Elts E w ex (l ++ [x]) (cs ++ vs)
  | [], _, h => by cases h; exact ⟨vs, [], by simp, hx, rfl⟩
  | _ :: l, _, ⟨us, r, e, h1, h2⟩ => ⟨us, r ++ vs, by rw [e, List.append_assoc], h1, h2.append hx⟩
theorem Elts.join {w : World} {ex : List Nat} {m : List α} {ds : List Value} (hm : Elts E w ex m ds) : ∀ {l : List α} {cs : List Value}, Elts E w ex l cs → Elts E w ex (l ++ m) (cs ++ ds)
  | [], _, h => by cases h; exact hm
  | _ :: l, _, ⟨us, r, e, h1, h2⟩ => ⟨us, r ++ ds, by rw [e, List.append_assoc], h1, Elts.join hm h2⟩
theorem Elts.get {w : World} {ex : List Nat} : ∀ {l : List α} {cs : List Value}, Elts E w ex l cs → ∀ i (hi : i < l.length), ∃ vs, E.rd w ex l[i] vs ∧ ∀ j u, vs[j]? = some u → cs[i * E.size + j]? = some u
  | [], _, _, i, hi => by simp at hi
  | x :: l, _, ⟨us, r, e, h1, h2⟩, i, hi => by
    cases i with
    | zero =>
      refine ⟨us, h1, fun j u hu => ?_⟩
      rw [e, Nat.zero_mul, Nat.zero_add, List.getElem?_append_left (List.getElem?_eq_some_iff.1 hu).1]; exact hu
    | succ i =>
      obtain ⟨vs, g1, g2⟩ := h2.get i (by simpa using hi)
      refine ⟨vs, g1, fun j u hu => ?_⟩
      rw [e, List.getElem?_append_right (by rw [E.len h1, Nat.succ_mul]; omega), E.len h1]
      have := g2 j u hu
      rwa [show (i + 1) * E.size + j - E.size = i * E.size + j from by rw [Nat.succ_mul]; omega]

variable (E)
/-- A slice of elements. -/
structure RL (w : World) (ex : List Nat) (A : Option Addr) (n c : Nat) (l : List α) : Prop where
  len : n = l.length
  cap : n ≤ c
  at_ : 0 < n → ∃ b o, A = some ⟨b, o, none⟩ ∧ b ∉ ex ∧ b < w.heap.size ∧ ∀ i (hi : i < l.length), ∃ vs, E.rd w ex l[i] vs ∧ ∀ j u, vs[j]? = some u → w.cell? ⟨b, o + i * E.size + j, none⟩ = some u
variable {E}
theorem RL.mono {w w' : World} {ex ex' : List Nat} {A : Option Addr} {n c : Nat} {l : List α} (h : RL E w ex A n c l) (k : Kr w ex w' ex') : RL E w' ex' A n c l := by
  refine ⟨h.len, h.cap, fun h0 => ?_⟩
  obtain ⟨b, o, e, hx, hb, ht⟩ := h.at_ h0
  refine ⟨b, o, e, k.out b hb hx, Nat.lt_of_lt_of_le hb k.size, fun i hi => ?_⟩
  obtain ⟨vs, h1, h2⟩ := ht i hi
  exact ⟨vs, E.mono k h1, fun j u hu => (World.cell?_of_block (w := w) (k.same b hb hx)).trans (h2 j u hu)⟩
theorem RL.nil (w : World) (ex : List Nat) (A : Option Addr) (c : Nat) : RL E w ex A 0 c [] := ⟨rfl, Nat.zero_le _, fun h => absurd h (by omega)⟩
/-- The whole as a row of cells. -/
theorem RL.row {w : World} {ex : List Nat} {A : Option Addr} {n c : Nat} {l : List α} (h : RL E w ex A n c l) : ∃ cs, Elts E w ex l cs ∧ Row w ex A cs := by
  rcases Nat.eq_zero_or_pos n with h0 | h0
  · have : l = [] := List.eq_nil_of_length_eq_zero (by rw [← h.len, h0])
    subst this
    exact ⟨[], rfl, Row.nil _ _ _⟩
  · obtain ⟨b, o, rfl, hx, hb, ht⟩ := h.at_ h0
    have : ∀ (m : List α) (o : Nat), (∀ i (hi : i < m.length), ∃ vs, E.rd w ex m[i] vs ∧ ∀ j u, vs[j]? = some u → w.cell? ⟨b, o + i * E.size + j, none⟩ = some u) →
        ∃ cs, Elts E w ex m cs ∧ ∀ i u, cs[i]? = some u → w.cell? ⟨b, o + i, none⟩ = some u := by
      intro m
      induction m with
      | nil => intro o _; exact ⟨[], rfl, fun i u hu => by simp at hu⟩
      | cons x r ih =>
        intro o hm
        obtain ⟨vs, g1, g2⟩ := hm 0 (by simp)
        obtain ⟨cs, k1, k2⟩ := ih (o + E.size) (fun i hi => by
          obtain ⟨us, u1, u2⟩ := hm (i + 1) (by simpa using hi)
          refine ⟨us, u1, fun j u hu => ?_⟩
          have := u2 j u hu
          rwa [show o + (i + 1) * E.size + j = o + E.size + i * E.size + j from by rw [Nat.succ_mul]; omega] at this)
        refine ⟨vs ++ cs, ⟨vs, cs, rfl, g1, k1⟩, fun i u hu => ?_⟩
        rcases Nat.lt_or_ge i vs.length with hi | hi
        · rw [List.getElem?_append_left hi] at hu
          have := g2 i u hu
          rwa [Nat.zero_mul, Nat.add_zero] at this
        · rw [List.getElem?_append_right hi] at hu
          have := k2 _ u hu
          rw [E.len g1] at this hi
          rwa [show o + E.size + (i - E.size) = o + i from by omega] at this
    obtain ⟨cs, k1, k2⟩ := this l o ht
    exact ⟨cs, k1, fun _ => ⟨b, o, rfl, hx, k2⟩⟩
/-- A row of cells read as elements. -/
theorem RL.of_row {w : World} {ex : List Nat} {A : Option Addr} {n c : Nat} {l : List α} {cs : List Value} (hr : Row w ex A cs) (he : Elts E w ex l cs) (hn : n = l.length) (hc : n ≤ c) : RL E w ex A n c l := by
  refine ⟨hn, hc, fun h0 => ?_⟩
  have hl := he.length
  have hne : cs ≠ [] := by
    rintro rfl
    have := Nat.mul_pos (show 0 < l.length by omega) E.pos
    simp at hl; omega
  obtain ⟨b, o, rfl, hb, hcell⟩ := hr hne
  have hlt : b < w.heap.size := by
    cases cs with
    | nil => exact absurd rfl hne
    | cons x r => exact World.block_lt_of_cell? w _ (hcell 0 x rfl)
  refine ⟨b, o, rfl, hb, hlt, fun i hi => ?_⟩
  obtain ⟨vs, h1, h2⟩ := he.get i hi
  exact ⟨vs, h1, fun j u hu => by rw [Nat.add_assoc]; exact hcell _ u (h2 j u hu)⟩

variable (E)
/-- A slice that the call itself builds: its cells lie in a block from base on; what they point to lies elsewhere. -/
def OwnL (w : World) (base : Nat) (ex : List Nat) (v : Value) (l : List α) : Prop :=
  ∃ cs, w.ownsRow base E.ty E.size v l.length cs ∧ Elts E w (own v ++ ex) l cs
variable {E}
theorem own_le {w : World} {base : Nat} {e : TypeId} {size : Nat} {v : Value} {n : Nat} {cs : List Value} (h : w.ownsRow base e size v n cs) : ∀ b ∈ own v, base ≤ b ∧ b < w.heap.size := by
  intro b hb
  exact h.lt b (by simpa [own] using hb)
theorem OwnL.le {w : World} {base : Nat} {ex : List Nat} {v : Value} {l : List α} (h : OwnL E w base ex v l) : ∀ b ∈ own v, base ≤ b ∧ b < w.heap.size := by
  obtain ⟨cs, h1, _⟩ := h; exact own_le h1
theorem OwnL.form {w : World} {base : Nat} {ex : List Nat} {v : Value} {l : List α} (h : OwnL E w base ex v l) {k : Nat} (hk : l.length = k) : ∃ A c, v = .slice A k c ∧ k ≤ c := by
  subst hk; obtain ⟨cs, h1, _⟩ := h; exact own_form h1
theorem OwnL.nil (w : World) (base : Nat) (ex : List Nat) : OwnL E w base ex (.slice none 0 0) [] := ⟨[], World.ownsRow_nil _ _ _ _, rfl⟩
theorem OwnL.empty (w : World) (base : Nat) (ex : List Nat) (hb : base ≤ w.heap.size) : OwnL E (w.alloc (.cells #[] E.ty)) base ex (.slice (some ⟨w.heap.size, 0, none⟩) 0 0) [] :=
  ⟨[], World.ownsRow_made w #[] 0 hb (by decide) (by simp), rfl⟩
/-- Nothing that it has has turned. -/
theorem OwnL.keep {w w' : World} {base : Nat} {ex : List Nat} {v : Value} {l : List α} (h : OwnL E w base ex v l) (hb : Below w.heap.size w w') : OwnL E w' base ex v l := by
  obtain ⟨cs, h1, h2⟩ := h
  refine ⟨cs, h1.kept (row := none) ⟨hb.os, hb.tape, hb.output, hb.size, fun k hk _ => hb.block k hk⟩ ?_, h2.mono (Kr.of_below hb _)⟩
  cases hv : v.ownBlock <;> simp
/-- .. or what was turned is kept apart. -/
theorem OwnL.keepR {w w' : World} {base : Nat} {ex ex' : List Nat} {v : Value} {l : List α} (h : OwnL E w base ex v l) (k : Kr w (own v ++ ex) w' (own v ++ ex')) (hs : ∀ b ∈ own v, w'.heap[b]? = w.heap[b]?) : OwnL E w' base ex' v l := by
  obtain ⟨cs, h1, h2⟩ := h
  refine ⟨cs, ?_, h2.mono k⟩
  refine ⟨h1.1, ?_⟩
  rcases h1.2 with h3 | ⟨g, cap, cur, hv, hg, hc, h4⟩
  · exact .inl h3
  · exact .inr ⟨g, cap, cur, hv, hg, by rw [hs g (by simp [hv, own, Value.ownBlock])]; exact hc, h4⟩
/-- What has been built, read as a slice. -/
theorem OwnL.read {w : World} {base : Nat} {ex : List Nat} {A : Option Addr} {n c : Nat} {l : List α} (h : OwnL E w base ex (.slice A n c) l) (hx : ∀ b ∈ ex, b < base) : RL E w ex A n c l := by
  obtain ⟨cs, h1, h2⟩ := h
  obtain ⟨A', c', e, hc⟩ := own_form h1
  injection e with e1 e2 e3
  subst e1 e2 e3
  exact RL.of_row (Row.of_own h1 hx) (h2.mono ((Kr.refl _ _).sub (by simp; intro b hb; exact .inr hb))) rfl hc

section
variable (E) {o : Oper} {a : Act} {Q : Exit → Act → World → Prop} (w : World)
/-- Appending a row of elements to a slice that the call itself builds. -/
theorem wp_append_elts {K : Act → World → Prop} (s x : Operand) (t : TypeId)
    (ho : o.op = .call { callee := .builtin .append, args := #[s, x], argTypes := #[t, t] }) (ht : Tryz.prog.underlying t = some (.slice E.ty))
    (base : Nat) (ex : List Nat) (v : Value) (l : List α) (hs : a.eval s = v) (hown : OwnL E w base ex v l)
    (A : Option Addr) (m c : Nat) (l2 : List α) (hx : a.eval x = .slice A m c) (hm : m = l2.length) (news : List Value) (hr : Row w (own v ++ ex) A news) (he : Elts E w (own v ++ ex) l2 news)
    (hn : l.length + m ≤ 100000000000) (hbase : base ≤ w.heap.size)
    (h : ∀ v' w', OwnL E w' base ex v' (l ++ l2) → Kr w (own v ++ ex) w' (own v' ++ ex) → (∀ (B : Nat) (a : World), Below B a w → B ≤ base → Below B a w') → K (a.put o.dst v') w') : o.wp Tryz.prog a w K Q := by
  obtain ⟨cs, h1, h2⟩ := hown
  obtain ⟨i, z, i1, i2, i3, i4, i5⟩ := E.info
  have hf := E.few
  refine wp_append_mine w s x t ho base E.ty i z E.size E.bytes ht i1 i2 i3 i4 i5 E.pos v l.length cs hs h1 (own v ++ ex) A m c news hx (by rw [he.length, hm]) hr he.one (by simp only [maxLen]; omega)
    (Nat.le_trans (Nat.mul_le_mul hn hf) (by decide)) hbase ?_
  intro v' w' g1 g2 gd g3
  have hk : Kr w (own v ++ ex) w' (own v' ++ ex) := Kr.append g2 g3
  refine h v' w' ⟨cs ++ news, ?_, (Elts.join he h2).mono hk⟩ hk (fun B a hb hB => Below.append hb g2 gd (Nat.le_trans hB hbase) (fun k hk => Nat.le_trans hB (h1.lt k hk).1))
  rw [List.length_append, ← hm]; exact g1
theorem wpList_append_elts {ops : Array Oper} {rest : List Oper} (hgd : o.guard = none) (s x : Operand) (t : TypeId)
    (ho : o.op = .call { callee := .builtin .append, args := #[s, x], argTypes := #[t, t] }) (ht : Tryz.prog.underlying t = some (.slice E.ty))
    (base : Nat) (ex : List Nat) (v : Value) (l : List α) (hs : a.eval s = v) (hown : OwnL E w base ex v l)
    (A : Option Addr) (m c : Nat) (l2 : List α) (hx : a.eval x = .slice A m c) (hm : m = l2.length) (news : List Value) (hr : Row w (own v ++ ex) A news) (he : Elts E w (own v ++ ex) l2 news)
    (hn : l.length + m ≤ 100000000000) (hbase : base ≤ w.heap.size)
    (h : ∀ v' w', OwnL E w' base ex v' (l ++ l2) → Kr w (own v ++ ex) w' (own v' ++ ex) → (∀ (B : Nat) (a : World), Below B a w → B ≤ base → Below B a w') → wpList Tryz.prog ops Q rest (a.put o.dst v') w') : wpList Tryz.prog ops Q (o :: rest) a w :=
  wpList_plain hgd fun _ hK => wp_append_elts E w s x t ho ht base ex v l hs hown A m c l2 hx hm news hr he hn hbase fun v' w' h2 h3 h4 => hK _ _ (h v' w' h2 h3 h4)
theorem step_append_elts {ops : Array Oper} {K : Act → World → Prop} {F : Prop} (hgd : o.guard = none) (s x : Operand) (t : TypeId)
    (ho : o.op = .call { callee := .builtin .append, args := #[s, x], argTypes := #[t, t] }) (ht : Tryz.prog.underlying t = some (.slice E.ty))
    (base : Nat) (ex : List Nat) (v : Value) (l : List α) (hs : a.eval s = v) (hown : OwnL E w base ex v l)
    (A : Option Addr) (m c : Nat) (l2 : List α) (hx : a.eval x = .slice A m c) (hm : m = l2.length) (news : List Value) (hr : Row w (own v ++ ex) A news) (he : Elts E w (own v ++ ex) l2 news)
    (hn : l.length + m ≤ 100000000000) (hbase : base ≤ w.heap.size)
    (h : ∀ v' w', OwnL E w' base ex v' (l ++ l2) → Kr w (own v ++ ex) w' (own v' ++ ex) → (∀ (B : Nat) (a : World), Below B a w → B ≤ base → Below B a w') → K (a.put o.dst v') w') :
    if Region.wanted o (yielded ops a.tmps) = true then Oper.wp Tryz.prog o a w K Q else F := by
  have hw : Region.wanted o (yielded ops a.tmps) = true := by simp [Region.wanted, hgd]
  rw [if_pos hw]
  exact wp_append_elts E w s x t ho ht base ex v l hs hown A m c l2 hx hm news hr he hn hbase h

/-- One element, which lies in a block of its own. -/
theorem wpList_append_elt {ops : Array Oper} {rest : List Oper} (hgd : o.guard = none) (s x : Operand) (t : TypeId)
    (ho : o.op = .call { callee := .builtin .append, args := #[s, x], argTypes := #[t, t] }) (ht : Tryz.prog.underlying t = some (.slice E.ty))
    (base : Nat) (ex : List Nat) (v : Value) (l : List α) (hs : a.eval s = v) (hown : OwnL E w base ex v l)
    (b c : Nat) (hx : a.eval x = .slice (some ⟨b, 0, none⟩) 1 c) (y : α) (vs : List Value) (hcell : ∀ j u, vs[j]? = some u → w.cell? ⟨b, j, none⟩ = some u) (hb : b ∉ own v ++ ex) (he : E.rd w (own v ++ ex) y vs)
    (hn : l.length < 100000000000) (hbase : base ≤ w.heap.size)
    (h : ∀ v' w', OwnL E w' base ex v' (l ++ [y]) → Kr w (own v ++ ex) w' (own v' ++ ex) → (∀ (B : Nat) (a : World), Below B a w → B ≤ base → Below B a w') → wpList Tryz.prog ops Q rest (a.put o.dst v') w') : wpList Tryz.prog ops Q (o :: rest) a w :=
  wpList_append_elts E w hgd s x t ho ht base ex v l hs hown (some ⟨b, 0, none⟩) 1 c [y] hx rfl vs (fun _ => ⟨b, 0, rfl, hb, fun i u hu => by rw [Nat.zero_add]; exact hcell i u hu⟩) ⟨vs, [], by simp, he, rfl⟩ hn hbase h
theorem step_append_elt {ops : Array Oper} {K : Act → World → Prop} {F : Prop} (hgd : o.guard = none) (s x : Operand) (t : TypeId)
    (ho : o.op = .call { callee := .builtin .append, args := #[s, x], argTypes := #[t, t] }) (ht : Tryz.prog.underlying t = some (.slice E.ty))
    (base : Nat) (ex : List Nat) (v : Value) (l : List α) (hs : a.eval s = v) (hown : OwnL E w base ex v l)
    (b c : Nat) (hx : a.eval x = .slice (some ⟨b, 0, none⟩) 1 c) (y : α) (vs : List Value) (hcell : ∀ j u, vs[j]? = some u → w.cell? ⟨b, j, none⟩ = some u) (hb : b ∉ own v ++ ex) (he : E.rd w (own v ++ ex) y vs)
    (hn : l.length < 100000000000) (hbase : base ≤ w.heap.size)
    (h : ∀ v' w', OwnL E w' base ex v' (l ++ [y]) → Kr w (own v ++ ex) w' (own v' ++ ex) → (∀ (B : Nat) (a : World), Below B a w → B ≤ base → Below B a w') → K (a.put o.dst v') w') :
    if Region.wanted o (yielded ops a.tmps) = true then Oper.wp Tryz.prog o a w K Q else F :=
  step_append_elts E w hgd s x t ho ht base ex v l hs hown (some ⟨b, 0, none⟩) 1 c [y] hx rfl vs (fun _ => ⟨b, 0, rfl, hb, fun i u hu => by rw [Nat.zero_add]; exact hcell i u hu⟩) ⟨vs, [], by simp, he, rfl⟩ hn hbase h
end

/-- A call that returns a slice of elements. -/
def RetL (E : Elt α) (w : World) (ex : List Nat) (l : List α) (e : Ending) (w' : World) : Prop :=
  ∃ A n c X D, e = .returned (.slice A n c) ∧ w' = w.more X D ∧ RL E (w.more X D) ex A n c l
theorem RetL.mk {w w' : World} {ex : List Nat} {l : List α} {A : Option Addr} {n c : Nat} {e : Ending} (he : e = .returned (.slice A n c)) (hb : Below w.heap.size w w') (hr : RL E w' ex A n c l) : RetL E w ex l e w' := by
  obtain ⟨X, D, rfl⟩ := World.more_of_below hb
  exact ⟨A, n, c, X, D, he, rfl, hr⟩
end
theorem heap_new_more (w : World) (o : Obj) (X : Array Obj) (D : Nat) (b : Nat) (hb : b = w.heap.size) : ((w.alloc o).drew.more X D).heap[b]? = some o := by
  subst hb
  rw [World.heap_more_lt _ _ _ (by simp)]
  exact heap_alloc_new w o
/-- No cell of the block is a word. -/
def NoWord (w : World) (g : Nat) : Prop := ∀ o x, w.cell? ⟨g, o, none⟩ ≠ some (.int .u32 x)
theorem NoWord.of {w : World} {g : Nat} {cs : Array Value} {t : TypeId} (h : w.heap[g]? = some (.cells cs t (0, 0))) (hn : ∀ u ∈ cs.toList, ∀ x, u ≠ .int .u32 x) : NoWord w g := by
  intro o x hc
  rw [cell_of_row w g o cs t (0, 0) h] at hc
  obtain ⟨hlt, he⟩ := Array.getElem?_eq_some_iff.1 hc
  exact hn _ (by rw [← he]; exact Array.getElem_mem_toList ..) x rfl
theorem RW.avoid {w : World} {ex : List Nat} {A : Option Addr} {n c : Nat} {ws : List Nat} (h : RW w ex A n c ws) {g : Nat} (hg : NoWord w g) : RW w ([g] ++ ex) A n c ws := by
  refine ⟨h.len, h.cap, fun hne => ?_, h.wd⟩
  obtain ⟨b, o, e, hb, hc⟩ := h.row hne
  refine ⟨b, o, e, fun hh => ?_, hc⟩
  rcases List.mem_append.1 hh with h1 | h1
  · obtain rfl : b = g := by simpa using h1
    cases ws with
    | nil => exact hne rfl
    | cons x r => exact hg _ _ (hc 0 _ rfl)
  · exact hb h1
theorem RI.avoid {w : World} {ex : List Nat} {s : Bool} {A : Option Addr} {n c : Nat} {z : Int} (h : RI w ex s A n c z) {g : Nat} (hg : NoWord w g) : RI w ([g] ++ ex) s A n c z := ⟨h.1, h.2.avoid hg⟩
/-- The world at hand, of which only R is kept. -/
theorem wp_abs {P : Program} {c : Code} {Q : Exit → Act → World → Prop} {a : Act} {w : World} (R : World → Prop) (h : R w) (k : ∀ w', R w' → c.wp P Q a w') : c.wp P Q a w := k w h
theorem Below.at0 {B : Nat} {a w : World} (h : Below B a w) {b : Nat} (hb : b < B) (o : Nat) : w.cell? ⟨b, o, none⟩ = a.cell? ⟨b, o, none⟩ := World.cell?_of_block (w := a) (h.block b hb)
/-- A cell of another block is as it was. -/
theorem Kr.cell {w w' : World} {ex ex' : List Nat} (k : Kr w ex w' ex') {b : Nat} (hb : b < w.heap.size) (hx : b ∉ ex) (o : Nat) : w'.cell? ⟨b, o, none⟩ = w.cell? ⟨b, o, none⟩ := World.cell?_of_block (w := w) (k.same b hb hx)
theorem Kr.froz {w w' : World} {ex ex' : List Nat} (k : Kr w ex w' ex') {b : Nat} (hb : b < w.heap.size) (hx : b ∉ ex) (o : Nat) : w'.frozen? ⟨b, o, none⟩ = w.frozen? ⟨b, o, none⟩ := World.frozen?_of_block (w := w) (k.same b hb hx)

end Go.Proofs.YthhdleppkggepaaGreat

/-
  Two slices of the call's own side by side.
-/
namespace Go.Proofs.YthhdleppkggepaaGreat
open Go.RowKit
section
variable {α : Type} {E : Elt α}

section
variable (E) {o : Oper} {a : Act} {Q : Exit → Act → World → Prop} (w : World)
/-- .. and no other block turns. -/
theorem wpList_append_elt2 {ops : Array Oper} {rest : List Oper} (hgd : o.guard = none) (s x : Operand) (t : TypeId)
    (ho : o.op = .call { callee := .builtin .append, args := #[s, x], argTypes := #[t, t] }) (ht : Tryz.prog.underlying t = some (.slice E.ty))
    (base : Nat) (ex : List Nat) (v : Value) (l : List α) (hs : a.eval s = v) (hown : OwnL E w base ex v l)
    (b c : Nat) (hx : a.eval x = .slice (some ⟨b, 0, none⟩) 1 c) (y : α) (vs : List Value) (hcell : ∀ j u, vs[j]? = some u → w.cell? ⟨b, j, none⟩ = some u) (hb : b ∉ own v ++ ex) (he : E.rd w (own v ++ ex) y vs)
    (hn : l.length < 100000000000) (hbase : base ≤ w.heap.size)
    (h : ∀ v' w', OwnL E w' base ex v' (l ++ [y]) → (∀ ex', Kr w (own v ++ ex') w' (own v' ++ ex')) → (∀ b ∈ own v', b ∈ own v ∨ w.heap.size ≤ b) → (∀ (B : Nat) (a : World), Below B a w → B ≤ base → Below B a w') → wpList Tryz.prog ops Q rest (a.put o.dst v') w') : wpList Tryz.prog ops Q (o :: rest) a w := by
  refine wpList_plain hgd fun K' hK => ?_
  obtain ⟨cs, h1, h2⟩ := hown
  obtain ⟨i, z, i1, i2, i3, i4, i5⟩ := E.info
  have hf := E.few
  refine wp_append_mine w s x t ho base E.ty i z E.size E.bytes ht i1 i2 i3 i4 i5 E.pos v l.length cs hs h1 (own v ++ ex) (some ⟨b, 0, none⟩) 1 c vs hx (by rw [E.len he, Nat.one_mul]) (fun _ => ⟨b, 0, rfl, hb, fun i u hu => by rw [Nat.zero_add]; exact hcell i u hu⟩) (E.one he) (by simp only [maxLen]; omega)
    (Nat.le_trans (Nat.mul_le_mul (show l.length + 1 ≤ 100000000000 by omega) hf) (by decide)) hbase ?_
  intro v' w' g1 g2 gd g3
  have hk : ∀ ex', Kr w (own v ++ ex') w' (own v' ++ ex') := fun ex' => Kr.append g2 g3
  refine hK _ _ (h v' w' ⟨cs ++ vs, ?_, (Elts.append he h2).mono (hk ex)⟩ hk ?_ (fun B a hb hB => Below.append hb g2 gd (Nat.le_trans hB hbase) (fun k hk => Nat.le_trans hB (h1.lt k hk).1)))
  · rw [List.length_append]; exact g1
  · intro b hb
    rcases g3 with g3 | g3
    · left; simpa [own, g3] using hb
    · right; simp [own, g3] at hb; omega
end
/-- What has been built, read as a slice; nothing of its own is kept apart. -/
theorem OwnL.read' {w : World} {base : Nat} {ex : List Nat} {A : Option Addr} {n c : Nat} {l : List α} (h : OwnL E w base ex (.slice A n c) l) (hx : ∀ b ∈ own (.slice A n c), b ∉ ex) : RL E w ex A n c l := by
  obtain ⟨cs, h1, h2⟩ := h
  obtain ⟨A', c', e, hc⟩ := own_form h1
  injection e with e1 e2 e3
  subst e1 e2 e3
  refine RL.of_row ?_ (h2.mono ((Kr.refl _ _).sub (by simp; intro b hb; exact .inr hb))) rfl hc
  intro hne
  rcases h1.2 with ⟨hv, hn⟩ | ⟨g, cap, cur, hv, hb, _⟩
  · exfalso; apply hne; apply List.eq_nil_of_length_eq_zero; rw [h1.1, hn]; simp
  · injection hv with hv
    subst hv
    refine ⟨g, 0, rfl, hx g (by simp [own, Value.ownBlock]), fun i u hu => ?_⟩
    have := h1.cells (g := g) rfl i u hu
    rw [Addr.add_lit] at this
    exact this
/-- Kept apart in another order. -/
theorem Kr.perm {w w' : World} {ex ex' e1 e2 : List Nat} (k : Kr w ex w' ex') (h1 : ∀ b, b ∈ ex → b ∈ e1) (h2 : ∀ b, b ∈ e2 → b ∈ ex') : Kr w e1 w' e2 := (k.src h1).sub h2
/-- Another slice of the call's own, behind an append to this one. -/
theorem OwnL.beside {w w' : World} {base : Nat} {ex : List Nat} {v v1 v2 : Value} {l : List α} (h : OwnL E w base (own v ++ ex) v1 l) (hk : ∀ ex', Kr w (own v ++ ex') w' (own v2 ++ ex')) (hd : ∀ b ∈ own v1, b ∉ own v) : OwnL E w' base (own v2 ++ ex) v1 l := by
  have hlt : ∀ b ∈ own v1, b < w.heap.size := fun b hb => (h.le b hb).2
  refine h.keepR ((hk (own v1 ++ ex)).perm (fun b hb => by simp only [List.mem_append] at hb ⊢; grind) (fun b hb => by simp only [List.mem_append] at hb ⊢; grind)) (fun b hb => ?_)
  have := (hk []).same b (hlt b hb) (by simpa using hd b hb)
  exact this
theorem OwnL.exsub {w : World} {base : Nat} {ex ex' : List Nat} {v : Value} {l : List α} (h : OwnL E w base ex v l) (hs : ∀ b, b ∈ ex' → b ∈ ex) : OwnL E w base ex' v l := by
  obtain ⟨cs, h1, h2⟩ := h
  exact ⟨cs, h1, h2.mono ((Kr.refl _ _).sub (fun b hb => by simp only [List.mem_append] at hb ⊢; exact hb.imp id (hs b)))⟩

end
end Go.Proofs.YthhdleppkggepaaGreat

/-
  A call whose result keeps clear of every block that was made since a point: for drawn regions that make a block, call, and write to the block.
-/
namespace Go.Proofs.YthhdleppkggepaaGreat
open Go.RowKit

/-- The blocks of W from lo on. -/
def FrW (lo : Nat) (W : World) : List Nat := List.range' lo (W.heap.size - lo)
theorem mem_FrW {lo : Nat} {W : World} {b : Nat} : b ∈ FrW lo W ↔ lo ≤ b ∧ b < W.heap.size := by
  unfold FrW; rw [List.mem_range'_1]; omega
theorem FrW.kr {w0 w : World} {ex : List Nat} (hb : Below w0.heap.size w0 w) : Kr w0 ex w (FrW w0.heap.size w ++ ex) :=
  Kr.fresh hb (fun _ hh => (mem_FrW.1 hh).1)
theorem FrW.hex {w : World} {lo s : Nat} {ex : List Nat} (hex : ∀ b ∈ ex, b < s) (hs : s ≤ w.heap.size) : ∀ b ∈ FrW lo w ++ ex, b < w.heap.size := by
  intro b hb
  rcases List.mem_append.1 hb with hb | hb
  · exact (mem_FrW.1 hb).2
  · have := hex b hb; omega
/-- From a on nothing has turned but blocks of W from lo on. -/
structure KB (lo : Nat) (W a w : World) : Prop where
  size : a.heap.size ≤ w.heap.size
  same : ∀ b, b < a.heap.size → ¬ (lo ≤ b ∧ b < W.heap.size) → w.heap[b]? = a.heap[b]?
section
variable {lo : Nat} {W a w : World}
theorem KB.refl (lo : Nat) (W a : World) : KB lo W a a := ⟨Nat.le_refl _, fun _ _ _ => rfl⟩
theorem KB.setCell (h : KB lo W a w) {p : Addr} (u : Value) (hp : (lo ≤ p.block ∧ p.block < W.heap.size) ∨ a.heap.size ≤ p.block) : KB lo W a (w.setCell p u) :=
  ⟨by simpa using h.size, fun b hb hx => (Below.heap_setCell _ _ _ _ (fun e => by subst e; rcases hp with hp | hp; exact hx hp; omega)).trans (h.same b hb hx)⟩
theorem KB.alloc (h : KB lo W a w) (o : Obj) : KB lo W a (w.alloc o) :=
  ⟨by have := h.size; simp; omega, fun b hb hx => (Below.heap_alloc _ _ _ (Nat.lt_of_lt_of_le hb h.size)).trans (h.same b hb hx)⟩
theorem KB.more (h : KB lo W a w) (X : Array Obj) (D : Nat) : KB lo W a (w.more X D) :=
  ⟨by have := h.size; simp; omega, fun b hb hx => (World.heap_more_lt _ _ _ (Nat.lt_of_lt_of_le hb h.size)).trans (h.same b hb hx)⟩
theorem KB.drew (h : KB lo W a w) : KB lo W a w.drew := ⟨by simpa using h.size, fun b hb hx => h.same b hb hx⟩
theorem KB.drewN (h : KB lo W a w) (n : Nat) : KB lo W a (w.drewN n) := ⟨h.size, fun b hb hx => h.same b hb hx⟩
theorem KB.kr {ex : List Nat} (h : KB lo W a w) : Kr a (FrW lo W ++ ex) w ex :=
  ⟨h.size, fun b hb hx hh => hx (List.mem_append_right _ hh), fun b hb hx => h.same b hb (fun hh => hx (List.mem_append_left _ (mem_FrW.2 hh)))⟩
end
section
variable {α : Type} (E : Elt α) {o : Oper} {a : Act} {Q : Exit → Act → World → Prop} (w : World)
/-- A row of elements, and no other block turns. -/
theorem wpList_append_elts2 {ops : Array Oper} {rest : List Oper} (hgd : o.guard = none) (s x : Operand) (t : TypeId)
    (ho : o.op = .call { callee := .builtin .append, args := #[s, x], argTypes := #[t, t] }) (ht : Tryz.prog.underlying t = some (.slice E.ty))
    (base : Nat) (ex : List Nat) (v : Value) (l : List α) (hs : a.eval s = v) (hown : OwnL E w base ex v l)
    (A : Option Addr) (m c : Nat) (l2 : List α) (hx : a.eval x = .slice A m c) (hm : m = l2.length) (news : List Value) (hr : Row w (own v ++ ex) A news) (he : Elts E w (own v ++ ex) l2 news)
    (hn : l.length + m ≤ 100000000000) (hbase : base ≤ w.heap.size)
    (h : ∀ v' w', OwnL E w' base ex v' (l ++ l2) → (∀ ex', Kr w (own v ++ ex') w' (own v' ++ ex')) → (∀ b ∈ own v', b ∈ own v ∨ w.heap.size ≤ b) → (∀ (B : Nat) (a : World), Below B a w → B ≤ base → Below B a w') → wpList Tryz.prog ops Q rest (a.put o.dst v') w') : wpList Tryz.prog ops Q (o :: rest) a w := by
  refine wpList_plain hgd fun K' hK => ?_
  obtain ⟨cs, h1, h2⟩ := hown
  obtain ⟨i, z, i1, i2, i3, i4, i5⟩ := E.info
  have hf := E.few
  refine wp_append_mine w s x t ho base E.ty i z E.size E.bytes ht i1 i2 i3 i4 i5 E.pos v l.length cs hs h1 (own v ++ ex) A m c news hx (by rw [he.length, hm]) hr he.one (by simp only [maxLen]; omega)
    (Nat.le_trans (Nat.mul_le_mul hn hf) (by decide)) hbase ?_
  intro v' w' g1 g2 gd g3
  have hk : ∀ ex', Kr w (own v ++ ex') w' (own v' ++ ex') := fun ex' => Kr.append g2 g3
  refine hK _ _ (h v' w' ⟨cs ++ news, ?_, (Elts.join he h2).mono (hk ex)⟩ hk ?_ (fun B a hb hB => Below.append hb g2 gd (Nat.le_trans hB hbase) (fun k hk => Nat.le_trans hB (h1.lt k hk).1)))
  · rw [List.length_append, ← hm]; exact g1
  · intro b hb
    rcases g3 with g3 | g3
    · left; simpa [own, g3] using hb
    · right; simp [own, g3] at hb; omega
end
end Go.Proofs.YthhdleppkggepaaGreat
