/-
  A part of the proof of this seat's laws: the reference's number of a text.
-/
import Derived.Test.YtpchfmeaplhodaaDoorTr5
namespace Go.Proofs.YtpchfmeaplhodaaDoor
set_option linter.unusedVariables false
set_option linter.unusedSimpArgs false
open Go.RowKit Go.Shelf
namespace Sp
open Lib
theorem numT_plain {s : List UInt8} (h45 : s.head? ≠ some 45) : numT s = if s = [] ∨ 18 < s.length ∨ (s.head? = some 48 ∧ s ≠ [48]) then none else (decFrom 0 s).map fun (m : Nat) => (m : Int) := by
  rw [← numR_eq]; unfold numR; simp only [if_neg h45]
theorem numT_minus (t : List UInt8) : numT (45 :: t) = if t = [] ∨ 18 < t.length ∨ t.head? = some 48 then none else (decFrom 0 t).map fun (m : Nat) => -(m : Int) := by
  rw [← numR_eq]; unfold numR; simp
end Sp
namespace Tr
open Ap Sg
set_option maxHeartbeats 8000000
/-- how a text stands to its digits -/
def Sgd (s t : List UInt8) : Prop := (s = 45 :: t) ∨ (t = s ∧ s ≠ [] ∧ s.head? ≠ some 45)
theorem Sgd.num {s t : List UInt8} (h : Sgd s t) : Sp.numT s = if t = [] ∨ 18 < t.length ∨ (t.head? = some 48 ∧ s ≠ [48]) then none else (Lib.decFrom 0 t).map fun (m : Nat) => if t = s then (m : Int) else -(m : Int) := by
  rcases h with rfl | ⟨rfl, -, h⟩
  · rw [Sp.numT_minus]
    have h1 : (45 :: t : List UInt8) ≠ [48] := by simp
    have h2 : ¬ t = 45 :: t := fun e => by have := congrArg List.length e; simp at this
    simp only [h1, h2, ne_eq, not_false_eq_true, and_true, if_false]
  · rw [Sp.numT_plain h]; simp
theorem str_eq (a b : List UInt8) : ((Sp.bs a).toList == (Sp.bs b).toList) = decide (a = b) := by
  rw [Sp.bs_toList, Sp.bs_toList]
  by_cases h : a = b
  · rw [decide_eq_true h, h]; simp
  · rw [decide_eq_false h, beq_eq_false_iff_ne]; exact h
theorem str_eqc (a : List UInt8) (b : List UInt8) : ((Sp.bs a).toList == b) = decide (a = b) := by
  rw [Sp.bs_toList]
  by_cases h : a = b
  · rw [decide_eq_true h, h]; simp
  · rw [decide_eq_false h, beq_eq_false_iff_ne]; exact h
theorem str_emp (a : List UInt8) : (Sp.bs a).toList.isEmpty = decide (a = []) := by
  rw [Sp.bs_toList]
  cases a <;> simp
set_option maxRecDepth 100000 in
theorem rnumber_calls (s : List UInt8) (hs : s.length ≤ 100000) (w : World) :
    Calls Tryd.prog 37 #[.string (Sp.bs s)] w fun e w' => NumRet w s e w' := by
  have hz := Sp.bs_size s
  have emp := str_emp s
  by_cases h0 : s = []
  · subst h0
    rw [decide_eq_true rfl] at emp
    have HQ := Lib.hid (NumRet.no (w := w) (s := []) (by rfl) (Below.refl _ _))
    go_enter Tryd.func37, Tryd.ntmps37
    go_wp2_with fail
    go_ret2
    exact HQ.out
  rw [decide_eq_false h0] at emp
  obtain ⟨c, r, hcr⟩ : ∃ c r, s = c :: r := by
    cases s with
    | nil => exact absurd rfl h0
    | cons c r => exact ⟨c, r, rfl⟩
  have hlp : 0 < s.length := List.length_pos_iff.2 h0
  obtain ⟨t, ht⟩ : ∃ t, t = if c = 45 then r else s := ⟨_, rfl⟩
  have Hsg : Hid (Sgd s t) := Lib.hid (by
    rw [ht]
    by_cases h : c = 45
    · rw [if_pos h]; exact .inl (by rw [hcr, h])
    · rw [if_neg h]; exact .inr ⟨rfl, h0, by rw [hcr]; simpa using h⟩)
  have htl : t.length ≤ s.length := by
    rw [ht]
    by_cases h : c = 45
    · rw [if_pos h, hcr, List.length_cons]; omega
    · rw [if_neg h]; exact Nat.le_refl _
  have hzt := Sp.bs_size t
  have hc0 : ∀ h, (Sp.bs s)[0]'h = c := bs_at (s := s) (k := 0) (by rw [hcr]; rfl)
  have hsub : Hid (c = 45 → (Sp.bs s).extract 1 s.length = Sp.bs t) := Lib.hid (fun h => by
    rw [ht, if_pos h, Sp.bs_extract, hcr]; simp)
  have hsame : Hid (¬ c = 45 → Sp.bs s = Sp.bs t) := Lib.hid (fun h => by rw [ht, if_neg h])
  have Hnum := Lib.hid Hsg.out.num
  have empt := str_emp t
  have eqs := str_eq t s
  have eq48 := str_eqc s [48]
  have cz : (0 : Int) < (s.length : Int) := by omega
  have cz1 : (1 : Int) ≤ (s.length : Int) := by omega
  have qc : ((c.toNat : Int) == 45) = decide (c = 45) := by
    by_cases h : c = 45
    · rw [h]; rfl
    · rw [decide_eq_false h, beq_eq_false_iff_ne]; intro e; exact h (UInt8.toNat_inj.1 (by have : (45 : UInt8).toNat = 45 := rfl
                                                                                           omega))
  have Hht : Hid (∀ x l, t = x :: l → t.head? = some x) := Lib.hid (fun x l h => by rw [h]; rfl)
  have Hno : ∀ w', Below w.heap.size w w' → Sp.numT s = none → NumRet w s (.returned (.tuple #[.int .i64 0, .bool false])) w' := fun w' hb h => NumRet.no h hb
  have Hyes : ∀ w' n, Below w.heap.size w w' → Sp.numT s = some n → NumRet w s (.returned (.tuple #[.int .i64 n, .bool true])) w' := fun w' n hb h => NumRet.yes h hb
  have HNo := Lib.hid Hno
  have HYes := Lib.hid Hyes
  have Heqs : Hid (decide (t = s) = true ↔ t = s) := Lib.hid (by simp)
  clear Hno Hyes hcr ht h0
  by_cases hcs : c = 45
  · rw [decide_eq_true hcs] at qc
    have hsubT := hsub.out hcs
    have hst : s = 45 :: t := by
      rcases Hsg.out with h | ⟨rfl, -, h⟩
      · exact h
      · exact absurd (by
          have := hc0 (by rw [hz]; omega)
          subst hcs
          cases t with
          | nil => simp at cz
          | cons y l =>
            have e := bs_at (s := y :: l) (k := 0) rfl (by rw [hz]; omega)
            rw [this] at e
            rw [← e]; rfl) h
    have hts : ¬ t = s := fun e => by have := congrArg List.length hst; rw [e] at this; simp at this
    have h48 : ¬ s = [48] := fun e => by rw [e] at hst; cases hst
    rw [decide_eq_false hts] at eqs
    rw [decide_eq_false h48] at eq48
    clear hst hsub hsame Heqs Hsg
    subst hcs
    by_cases h1 : t = []
    · have HQ := Lib.hid (HNo.out w (Below.refl _ _) (by rw [Hnum.out, if_pos (.inl h1)]))
      rw [decide_eq_true h1] at empt
      clear h1 Hht h48 hts
      go_enter Tryd.func37, Tryd.ntmps37
      go_wp2_with fail
      go_ret2
      exact HQ.out
    rw [decide_eq_false h1] at empt
    by_cases h2 : 18 < t.length
    · have HQ := Lib.hid (HNo.out w (Below.refl _ _) (by rw [Hnum.out, if_pos (.inr (.inl h2))]))
      have g2 : (18 : Int) < (t.length : Int) := by omega
      clear h1 h2 Hht h48 hts
      go_enter Tryd.func37, Tryd.ntmps37
      go_wp2_with fail
      go_ret2
      exact HQ.out
    have g2 : ¬ (18 : Int) < (t.length : Int) := by omega
    obtain ⟨x, l, hxl⟩ : ∃ x l, t = x :: l := by
      cases t with
      | nil => exact absurd rfl h1
      | cons x l => exact ⟨x, l, rfl⟩
    have hx0 : ∀ h, (Sp.bs t)[0]'h = x := bs_at (s := t) (k := 0) (by rw [hxl]; rfl)
    have hhd : t.head? = some x := by rw [hxl]; rfl
    have ct : (0 : Int) < (t.length : Int) := by rw [hxl, List.length_cons]; omega
    have qx : ((x.toNat : Int) == 48) = decide (x = 48) := by
      by_cases h : x = 48
      · rw [h]; rfl
      · rw [decide_eq_false h, beq_eq_false_iff_ne]; intro e; exact h (UInt8.toNat_inj.1 (by have : (48 : UInt8).toNat = 48 := rfl
                                                                                             omega))
    clear hxl
    by_cases h3 : x = 48
    · have HQ := Lib.hid (HNo.out w (Below.refl _ _) (by rw [Hnum.out, if_pos (.inr (.inr ⟨by rw [hhd, h3], h48⟩))]))
      rw [decide_eq_true h3] at qx
      clear h1 h2 h3 hhd Hht h48 hts
      go_enter Tryd.func37, Tryd.ntmps37
      go_wp2_with fail
      go_ret2
      exact HQ.out
    rw [decide_eq_false h3] at qx
    have hgood : ¬ (t = [] ∨ 18 < t.length ∨ (t.head? = some 48 ∧ s ≠ [48])) := by
      rintro (h | h | ⟨h, -⟩)
      · exact h1 h
      · exact h2 h
      · rw [hhd] at h; exact h3 (Option.some.inj h)
    have Hgood := Lib.hid hgood
    have Hts := Lib.hid hts
    clear h1 h3 hhd h48 hgood hts
    go_enter Tryd.func37, Tryd.ntmps37
    go_wp2_with fail
    have hgood := Hgood.out
    have hts := Hts.out
    clear Hgood Hts
    clear emp empt eq48 qc Hht hx0 hsubT
    go_loopw [5, 6] (fun a i wr => ∃ (k m : Nat), k ≤ t.length ∧ i = .int .i64 (k : Int) ∧ a = .int .i64 (m : Int) ∧ Hid (Lib.decFrom 0 (t.take k) = some m) ∧ Hid (Below w.heap.size w wr)) (fun _ i _ => t.length - (intOf i).toNat)
    case atStart => exact ⟨0, 0, by omega, rfl, rfl, rfl, Below.refl _ _⟩
    case round =>
      obtain ⟨k, m, hk, rfl, rfl, hdm, hb⟩ := hrel
      by_cases hlt : k < t.length
      · obtain ⟨x, hx⟩ : ∃ x, t[k]? = some x := ⟨_, List.getElem?_eq_getElem hlt⟩
        have hxk := bs_at hx
        have c0 : (0 : Int) ≤ (k : Int) := by omega
        have c1 : (k : Int) < (t.length : Int) := by omega
        have hw1 : IntKind.i64.wrap ((k : Int) + 1) = (k : Int) + 1 := IntWalk.i64_in _ (by omega)
        have hml := Lib.decFrom_take_lt hdm.out (by omega)
        have hx255 := x.toNat_lt
        cases hdx : Lib.digitVal x with
        | none =>
          have hn : Sp.numT s = none := by rw [Hnum.out, if_neg hgood, Sp.decFrom_bad hx hdx]; rfl
          have HQ := Lib.hid (HNo.out wr hb.out hn)
          have hxr := Lib.digitVal_none hdx
          clear hn hdx hx hgood
          rcases hxr with hxr | hxr
          · have g1 : (x.toNat : Int) < 48 := by omega
            clear hxr
            go_wp2_with fail
            go_ret2
            exact HQ.out
          · have g1 : ¬ (x.toNat : Int) < 48 := by omega
            have g2 : (57 : Int) < (x.toNat : Int) := by omega
            clear hxr
            go_wp2_with fail
            go_ret2
            exact HQ.out
        | some d =>
          have Hd := Lib.hid (Lib.decFrom_take t k 0 m x d hdm.out hx hdx)
          obtain ⟨e1, e2, e3⟩ := Lib.digitVal_eq hdx
          have g1 : ¬ (x.toNat : Int) < 48 := by omega
          have g2 : ¬ (57 : Int) < (x.toNat : Int) := by omega
          have hv : Hid (10 * (m : Int) + (x.toNat : Int) - 48 = ((m * 10 + d : Nat) : Int)) := Lib.hid (by omega)
          have hw3 : IntKind.i64.wrap (10 * (m : Int)) = 10 * (m : Int) := IntWalk.i64_in _ (by omega)
          have hw4 : IntKind.i64.wrap (10 * (m : Int) + (x.toNat : Int)) = 10 * (m : Int) + (x.toNat : Int) := IntWalk.i64_in _ (by omega)
          have hw5 : IntKind.i64.wrap (10 * (m : Int) + (x.toNat : Int) - 48) = 10 * (m : Int) + (x.toNat : Int) - 48 := IntWalk.i64_in _ (by omega)
          clear e1 e2 e3 hdx hx
          go_wp2_with fail
          go_roundw
          case rel => exact ⟨k + 1, m * 10 + d, by omega, by go_num, by rw [hv.out], Hd, hb⟩
          case measure => simp [intOf]; omega
      · obtain rfl : k = t.length := by omega
        have c1 : ¬ (t.length : Int) < (t.length : Int) := by omega
        have hd := hdm.out
        rw [List.take_length] at hd
        have hml := Lib.decFrom_lt18 hd (by omega)
        have hn : Sp.numT s = some (-(m : Int)) := by rw [Hnum.out, if_neg hgood, hd, Option.map_some, if_neg hts]
        have HQ := Lib.hid (HYes.out wr _ hb.out hn)
        have hw3 : IntKind.i64.wrap (-(m : Int)) = -(m : Int) := IntWalk.i64_in _ (by omega)
        clear hn hd hgood hts
        go_wp2_with fail
        go_ret2
        exact HQ.out
  · rw [decide_eq_false hcs] at qc
    obtain ⟨rfl, hne, h45⟩ : t = s ∧ s ≠ [] ∧ s.head? ≠ some 45 := by
      rcases Hsg.out with h | h
      · exact absurd (by
          have := hc0 (by rw [hz]; omega)
          have e := bs_at (s := s) (k := 0) (x := 45) (by rw [h]; rfl) (by rw [hz]; omega)
          rw [← this, e]) hcs
      · exact h
    rw [decide_eq_true rfl] at eqs
    clear hsub hsame Heqs Hsg emp htl hzt cz1 h45 hcs
    rw [decide_eq_false hne] at empt
    have emp := empt
    clear empt
    by_cases h2 : 18 < t.length
    · have HQ := Lib.hid (HNo.out w (Below.refl _ _) (by rw [Hnum.out, if_pos (.inr (.inl h2))]))
      have g2 : (18 : Int) < (t.length : Int) := by omega
      clear h2 Hht hne
      go_enter Tryd.func37, Tryd.ntmps37
      go_wp2_with fail
      go_ret2
      exact HQ.out
    have g2 : ¬ (18 : Int) < (t.length : Int) := by omega
    obtain ⟨x, l, hxl⟩ : ∃ x l, t = x :: l := by
      cases t with
      | nil => exact absurd rfl hne
      | cons x l => exact ⟨x, l, rfl⟩
    have hx0 : ∀ h, (Sp.bs t)[0]'h = x := bs_at (s := t) (k := 0) (by rw [hxl]; rfl)
    obtain rfl : c = x := by rw [← hc0 (by rw [hz]; omega), ← hx0 (by rw [hz]; omega)]
    have hhd : t.head? = some c := by rw [hxl]; rfl
    have qx : ((c.toNat : Int) == 48) = decide (c = 48) := by
      by_cases h : c = 48
      · rw [h]; rfl
      · rw [decide_eq_false h, beq_eq_false_iff_ne]; intro e; exact h (UInt8.toNat_inj.1 (by have : (48 : UInt8).toNat = 48 := rfl
                                                                                             omega))
    clear hxl hc0
    by_cases h48 : t = [48]
    · rw [decide_eq_true h48] at eq48
      have h3 : c = 48 := by rw [h48] at hhd; exact (Option.some.inj hhd).symm
      rw [decide_eq_true h3] at qx
      have hgood : ¬ (t = [] ∨ 18 < t.length ∨ (t.head? = some 48 ∧ t ≠ [48])) := by
        rintro (h | h | ⟨-, h⟩)
        · exact hne h
        · exact h2 h
        · exact h h48
      have Hgood := Lib.hid hgood
      clear h2 h3 hhd h48 hgood hne
      go_enter Tryd.func37, Tryd.ntmps37
      go_wp2_with fail
      have hgood := Hgood.out
      clear Hgood
      clear emp eq48 qc Hht hx0
      go_loopw [5, 6] (fun a i wr => ∃ (k m : Nat), k ≤ t.length ∧ i = .int .i64 (k : Int) ∧ a = .int .i64 (m : Int) ∧ Hid (Lib.decFrom 0 (t.take k) = some m) ∧ Hid (Below w.heap.size w wr)) (fun _ i _ => t.length - (intOf i).toNat)
      case atStart => exact ⟨0, 0, by omega, rfl, rfl, rfl, Below.refl _ _⟩
      case round =>
        obtain ⟨k, m, hk, rfl, rfl, hdm, hb⟩ := hrel
        by_cases hlt : k < t.length
        · obtain ⟨x, hx⟩ : ∃ x, t[k]? = some x := ⟨_, List.getElem?_eq_getElem hlt⟩
          have hxk := bs_at hx
          have c0 : (0 : Int) ≤ (k : Int) := by omega
          have c1 : (k : Int) < (t.length : Int) := by omega
          have hw1 : IntKind.i64.wrap ((k : Int) + 1) = (k : Int) + 1 := IntWalk.i64_in _ (by omega)
          have hml := Lib.decFrom_take_lt hdm.out (by omega)
          have hx255 := x.toNat_lt
          cases hdx : Lib.digitVal x with
          | none =>
            have hn : Sp.numT t = none := by rw [Hnum.out, if_neg hgood, Sp.decFrom_bad hx hdx]; rfl
            have HQ := Lib.hid (HNo.out wr hb.out hn)
            have hxr := Lib.digitVal_none hdx
            clear hn hdx hx hgood
            rcases hxr with hxr | hxr
            · have g1 : (x.toNat : Int) < 48 := by omega
              clear hxr
              go_wp2_with fail
              go_ret2
              exact HQ.out
            · have g1 : ¬ (x.toNat : Int) < 48 := by omega
              have g2 : (57 : Int) < (x.toNat : Int) := by omega
              clear hxr
              go_wp2_with fail
              go_ret2
              exact HQ.out
          | some d =>
            have Hd := Lib.hid (Lib.decFrom_take t k 0 m x d hdm.out hx hdx)
            obtain ⟨e1, e2, e3⟩ := Lib.digitVal_eq hdx
            have g1 : ¬ (x.toNat : Int) < 48 := by omega
            have g2 : ¬ (57 : Int) < (x.toNat : Int) := by omega
            have hv : Hid (10 * (m : Int) + (x.toNat : Int) - 48 = ((m * 10 + d : Nat) : Int)) := Lib.hid (by omega)
            have hw3 : IntKind.i64.wrap (10 * (m : Int)) = 10 * (m : Int) := IntWalk.i64_in _ (by omega)
            have hw4 : IntKind.i64.wrap (10 * (m : Int) + (x.toNat : Int)) = 10 * (m : Int) + (x.toNat : Int) := IntWalk.i64_in _ (by omega)
            have hw5 : IntKind.i64.wrap (10 * (m : Int) + (x.toNat : Int) - 48) = 10 * (m : Int) + (x.toNat : Int) - 48 := IntWalk.i64_in _ (by omega)
            clear e1 e2 e3 hdx hx
            go_wp2_with fail
            go_roundw
            case rel => exact ⟨k + 1, m * 10 + d, by omega, by go_num, by rw [hv.out], Hd, hb⟩
            case measure => simp [intOf]; omega
        · obtain rfl : k = t.length := by omega
          have c1 : ¬ (t.length : Int) < (t.length : Int) := by omega
          have hd := hdm.out
          rw [List.take_length] at hd
          have hml := Lib.decFrom_lt18 hd (by omega)
          have hn : Sp.numT t = some (m : Int) := by rw [Hnum.out, if_neg hgood, hd, Option.map_some]; simp
          have HQ := Lib.hid (HYes.out wr _ hb.out hn)
          clear hn hd hgood
          go_wp2_with fail
          go_ret2
          exact HQ.out
    rw [decide_eq_false h48] at eq48
    by_cases h3 : c = 48
    · have HQ := Lib.hid (HNo.out w (Below.refl _ _) (by rw [Hnum.out, if_pos (.inr (.inr ⟨by rw [hhd, h3], h48⟩))]))
      rw [decide_eq_true h3] at qx
      clear h2 h3 hhd Hht h48 hne
      go_enter Tryd.func37, Tryd.ntmps37
      go_wp2_with fail
      go_ret2
      exact HQ.out
    rw [decide_eq_false h3] at qx
    have hgood : ¬ (t = [] ∨ 18 < t.length ∨ (t.head? = some 48 ∧ t ≠ [48])) := by
      rintro (h | h | ⟨h, -⟩)
      · exact hne h
      · exact h2 h
      · rw [hhd] at h; exact h3 (Option.some.inj h)
    have Hgood := Lib.hid hgood
    clear h3 hhd h48 hgood hne
    go_enter Tryd.func37, Tryd.ntmps37
    go_wp2_with fail
    have hgood := Hgood.out
    clear Hgood
    clear emp eq48 qc Hht hx0
    go_loopw [5, 6] (fun a i wr => ∃ (k m : Nat), k ≤ t.length ∧ i = .int .i64 (k : Int) ∧ a = .int .i64 (m : Int) ∧ Hid (Lib.decFrom 0 (t.take k) = some m) ∧ Hid (Below w.heap.size w wr)) (fun _ i _ => t.length - (intOf i).toNat)
    case atStart => exact ⟨0, 0, by omega, rfl, rfl, rfl, Below.refl _ _⟩
    case round =>
      obtain ⟨k, m, hk, rfl, rfl, hdm, hb⟩ := hrel
      by_cases hlt : k < t.length
      · obtain ⟨x, hx⟩ : ∃ x, t[k]? = some x := ⟨_, List.getElem?_eq_getElem hlt⟩
        have hxk := bs_at hx
        have c0 : (0 : Int) ≤ (k : Int) := by omega
        have c1 : (k : Int) < (t.length : Int) := by omega
        have hw1 : IntKind.i64.wrap ((k : Int) + 1) = (k : Int) + 1 := IntWalk.i64_in _ (by omega)
        have hml := Lib.decFrom_take_lt hdm.out (by omega)
        have hx255 := x.toNat_lt
        cases hdx : Lib.digitVal x with
        | none =>
          have hn : Sp.numT t = none := by rw [Hnum.out, if_neg hgood, Sp.decFrom_bad hx hdx]; rfl
          have HQ := Lib.hid (HNo.out wr hb.out hn)
          have hxr := Lib.digitVal_none hdx
          clear hn hdx hx hgood
          rcases hxr with hxr | hxr
          · have g1 : (x.toNat : Int) < 48 := by omega
            clear hxr
            go_wp2_with fail
            go_ret2
            exact HQ.out
          · have g1 : ¬ (x.toNat : Int) < 48 := by omega
            have g2 : (57 : Int) < (x.toNat : Int) := by omega
            clear hxr
            go_wp2_with fail
            go_ret2
            exact HQ.out
        | some d =>
          have Hd := Lib.hid (Lib.decFrom_take t k 0 m x d hdm.out hx hdx)
          obtain ⟨e1, e2, e3⟩ := Lib.digitVal_eq hdx
          have g1 : ¬ (x.toNat : Int) < 48 := by omega
          have g2 : ¬ (57 : Int) < (x.toNat : Int) := by omega
          have hv : Hid (10 * (m : Int) + (x.toNat : Int) - 48 = ((m * 10 + d : Nat) : Int)) := Lib.hid (by omega)
          have hw3 : IntKind.i64.wrap (10 * (m : Int)) = 10 * (m : Int) := IntWalk.i64_in _ (by omega)
          have hw4 : IntKind.i64.wrap (10 * (m : Int) + (x.toNat : Int)) = 10 * (m : Int) + (x.toNat : Int) := IntWalk.i64_in _ (by omega)
          have hw5 : IntKind.i64.wrap (10 * (m : Int) + (x.toNat : Int) - 48) = 10 * (m : Int) + (x.toNat : Int) - 48 := IntWalk.i64_in _ (by omega)
          clear e1 e2 e3 hdx hx
          go_wp2_with fail
          go_roundw
          case rel => exact ⟨k + 1, m * 10 + d, by omega, by go_num, by rw [hv.out], Hd, hb⟩
          case measure => simp [intOf]; omega
      · obtain rfl : k = t.length := by omega
        have c1 : ¬ (t.length : Int) < (t.length : Int) := by omega
        have hd := hdm.out
        rw [List.take_length] at hd
        have hml := Lib.decFrom_lt18 hd (by omega)
        have hn : Sp.numT t = some (m : Int) := by rw [Hnum.out, if_neg hgood, hd, Option.map_some]; simp
        have HQ := Lib.hid (HYes.out wr _ hb.out hn)
        clear hn hd hgood
        go_wp2_with fail
        go_ret2
        exact HQ.out
end Tr
end Go.Proofs.YtpchfmeaplhodaaDoor
