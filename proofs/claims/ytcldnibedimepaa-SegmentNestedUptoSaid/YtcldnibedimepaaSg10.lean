/-
  A part of the proof of this seat's laws: slices of texts.
-/
import Derived.Lib.BufSteps
import Derived.Deep.Quiet
import Derived.Test.YtcldnibedimepaaSg8
namespace Go.Proofs.Ytcldnibedimepaa
set_option linter.unusedVariables false
set_option linter.unusedSimpArgs false
open Go.RowKit Go.Shelf
namespace Sp
/-- letters and texts of a list -/
def tot (l : List (List UInt8)) : Nat := (l.map fun x => x.length + 1).sum
theorem tot_nil : tot [] = 0 := rfl
theorem tot_cons (x : List UInt8) (l : List (List UInt8)) : tot (x :: l) = x.length + 1 + tot l := by simp [tot]
theorem tot_append (a b : List (List UInt8)) : tot (a ++ b) = tot a + tot b := by simp [tot]
theorem tot_take (l : List (List UInt8)) (k : Nat) (x : List UInt8) (h : l[k]? = some x) : tot (l.take (k + 1)) = tot (l.take k) + (x.length + 1) := by
  rw [List.take_add_one, h, tot_append]; simp [tot]
theorem tot_take_le (l : List (List UInt8)) (k : Nat) : tot (l.take k) ≤ tot l := by
  conv => rhs; rw [← List.take_append_drop k l, tot_append]
  omega
theorem tot_len (l : List (List UInt8)) : l.length ≤ tot l := by
  induction l with
  | nil => simp
  | cons x l ih => rw [tot_cons, List.length_cons]; omega
/-- a message of some -/
def joinT (l : List (List UInt8)) : List UInt8 := (l.map fun x => x ++ [13]).flatten
theorem joinT_take (l : List (List UInt8)) (k : Nat) (x : List UInt8) (h : l[k]? = some x) : joinT (l.take (k + 1)) = joinT (l.take k) ++ x ++ [13] := by
  unfold joinT
  rw [List.take_add_one, h]; simp
theorem joinT_length (l : List (List UInt8)) : (joinT l).length = tot l := by
  induction l with
  | nil => rfl
  | cons x l ih => rw [tot_cons, ← ih]; simp [joinT]; omega
end Sp
namespace Sg
open Ap
/-- a slice of texts -/
structure Tx (w : World) (A : Option Addr) (n c : Nat) (xs : List (List UInt8)) : Prop where
  cap : n ≤ c
  len : xs.length = n
  cells : n = 0 ∨ ∃ b o, A = some ⟨b, o, none⟩ ∧ b < w.heap.size ∧ ∀ j x, xs[j]? = some x → w.cell? ⟨b, o + j, none⟩ = some (.string (Sp.bs x))
theorem Tx.below {w w' : World} {A : Option Addr} {n c : Nat} {xs : List (List UInt8)} (h : Tx w A n c xs) (hb : Below w.heap.size w w') : Tx w' A n c xs := by
  refine ⟨h.cap, h.len, ?_⟩
  rcases h.cells with h0 | ⟨b, o, hA, hl, hc⟩
  · exact .inl h0
  · exact .inr ⟨b, o, hA, Nat.lt_of_lt_of_le hl hb.size, fun j x hj => (hb.cell (p := ⟨b, o + j, none⟩) hl).trans (hc j x hj)⟩
theorem Tx.drewN {w : World} {A : Option Addr} {n c : Nat} {xs : List (List UInt8)} (h : Tx w A n c xs) (k : Nat) : Tx (w.drewN k) A n c xs := h.below (below_drewN (Below.refl _ _) k)
theorem Tx.of {w : World} {base : Nat} {A : Option Addr} {n c : Nat} {xs : List (List UInt8)} (h : Mine w base A n c (Sp.vals xs)) : Tx w A n c xs := by
  have hl : xs.length = n := by have := h.len; simpa using this
  refine ⟨h.cap, hl, ?_⟩
  by_cases h0 : n = 0
  · exact .inl h0
  · obtain ⟨g, hA, hg, hlt, hc⟩ := h.cell (by omega)
    exact .inr ⟨g, 0, hA, hlt, fun j x hj => hc j _ (by rw [List.getElem?_map, hj]; rfl)⟩
/-- a letter of a text -/
theorem bs_at {s : List UInt8} {k : Nat} {x : UInt8} (hx : s[k]? = some x) : ∀ h, (Sp.bs s)[k]'h = x := by
  intro h
  have hlt := (List.getElem?_eq_some_iff.1 hx).1
  have e : (Sp.bs s)[k]'h = (Sp.bs s).data.toList[k]'(by rw [Sp.bs_list]; exact hlt) := rfl
  rw [e]
  simp only [Sp.bs_list]
  have := List.getElem?_eq_getElem hlt
  rw [hx] at this
  exact (Option.some.inj this).symm
set_option maxHeartbeats 2000000
theorem bytes_calls (A : Option Addr) (n c : Nat) (xs : List (List UInt8)) (w : World) (h : Tx w A n c xs) (hb : Sp.tot xs ≤ 4194304) :
    Calls Try.prog 20 #[.slice A n c] w fun e w' => e = .returned (.int .i64 (Sp.tot xs : Int)) ∧ w' = w := by
  have hn := h.len
  have hnt := Sp.tot_len xs
  go_enter Try.func20, Try.ntmps20
  go_wp2_with fail
  go_loop [3, 8] (fun t i => ∃ k : Nat, k ≤ n ∧ i = .int .i64 k ∧ t = .int .i64 (Sp.tot (xs.take k) : Int)) (fun _ i => n - (intOf i).toNat)
  case atStart => exact ⟨0, by omega, rfl, rfl⟩
  case round =>
    obtain ⟨k, hk, rfl, rfl⟩ := hrel
    by_cases hlt : k < n
    · obtain ⟨x, hx⟩ : ∃ x, xs[k]? = some x := ⟨_, List.getElem?_eq_getElem (by omega)⟩
      obtain ⟨b, o, rfl, hbl, hc⟩ := h.cells.resolve_left (by omega)
      have hcx := hc k x hx
      have ht := Sp.tot_take xs k x hx
      have htl := Sp.tot_take_le xs (k + 1)
      have c0 : (0 : Int) ≤ (k : Int) := by omega
      have c1 : (k : Int) < (n : Int) := by omega
      have hz := Sp.bs_size x
      have hw1 : IntKind.i64.wrap ((k : Int) + 1) = (k : Int) + 1 := IntWalk.i64_in _ (by omega)
      have hw2 : IntKind.i64.wrap (1 + (x.length : Int)) = 1 + (x.length : Int) := IntWalk.i64_in _ (by omega)
      have hw3 : IntKind.i64.wrap ((Sp.tot (xs.take k) : Int) + (1 + (x.length : Int))) = (Sp.tot (xs.take (k + 1)) : Int) := by
        rw [IntWalk.i64_in _ (by omega)]; omega
      clear ht htl hx hc h
      go_wp2
      go_round
      case rel => exact ⟨k + 1, by omega, by go_num, rfl⟩
      case measure => simp [intOf]; omega
    · obtain rfl : k = n := by omega
      have e : xs.take k = xs := List.take_of_length_le (by omega)
      rw [e] at *
      have c1 : ¬ (k : Int) < (k : Int) := by omega
      go_wp2
      go_ret
      exact ⟨rfl, rfl⟩
theorem refName_calls (s : List UInt8) (w : World) : Calls Try.prog 21 #[.string (Sp.bs s)] w fun e w' => e = .returned (.string (Sp.bs (s.take 3))) ∧ w' = w := by
  have hz := Sp.bs_size s
  by_cases h3 : s.length < 3
  · have c1 : (s.length : Int) < 3 := by omega
    have e : s.take 3 = s := List.take_of_length_le (by omega)
    rw [e]
    clear e
    go_enter Try.func21, Try.ntmps21
    go_wp2
    go_ret
    exact ⟨rfl, rfl⟩
  · have c1 : ¬ (s.length : Int) < 3 := by omega
    have c2 : (3 : Int) ≤ (s.length : Int) := by omega
    have e : (Sp.bs s).extract 0 3 = Sp.bs (s.take 3) := by rw [Sp.bs_extract]; rfl
    rw [← e]
    clear e
    go_enter Try.func21, Try.ntmps21
    go_wp2
    go_ret
    exact ⟨rfl, rfl⟩
theorem refJoin_calls (A : Option Addr) (n c : Nat) (xs : List (List UInt8)) (w : World) (h : Tx w A n c xs) (hb : Sp.tot xs ≤ 4194304) :
    Calls Try.prog 26 #[.slice A n c] w fun e w' => e = .returned (.string (Sp.bs (Sp.joinT xs))) ∧ w' = w := by
  have hn := h.len
  have hnt := Sp.tot_len xs
  go_enter Try.func26, Try.ntmps26
  go_wp2_with fail
  go_loop [3, 4] (fun t i => ∃ k : Nat, k ≤ n ∧ i = .int .i64 k ∧ t = .string (Sp.bs (Sp.joinT (xs.take k)))) (fun _ i => n - (intOf i).toNat)
  case atStart => exact ⟨0, by omega, rfl, rfl⟩
  case round =>
    obtain ⟨k, hk, rfl, rfl⟩ := hrel
    by_cases hlt : k < n
    · obtain ⟨x, hx⟩ : ∃ x, xs[k]? = some x := ⟨_, List.getElem?_eq_getElem (by omega)⟩
      obtain ⟨b, o, rfl, hbl, hc⟩ := h.cells.resolve_left (by omega)
      have hcx := hc k x hx
      have ht := Sp.tot_take xs k x hx
      have htl := Sp.tot_take_le xs (k + 1)
      have c0 : (0 : Int) ≤ (k : Int) := by omega
      have c1 : (k : Int) < (n : Int) := by omega
      have hz1 : (Sp.bs (Sp.joinT (xs.take k))).size = Sp.tot (xs.take k) := by rw [Sp.bs_size, Sp.joinT_length]
      have hz2 := Sp.bs_size x
      have hz3 : (Sp.bs (Sp.joinT (xs.take k) ++ x)).size = Sp.tot (xs.take k) + x.length := by rw [Sp.bs_size, List.length_append, Sp.joinT_length]
      have ha1 : Sp.bs (Sp.joinT (xs.take k)) ++ Sp.bs x = Sp.bs (Sp.joinT (xs.take k) ++ x) := Sp.bs_append _ _
      have ha2 : Sp.bs (Sp.joinT (xs.take k) ++ x) ++ (⟨#[13]⟩ : ByteArray) = Sp.bs (Sp.joinT (xs.take (k + 1))) := by
        rw [Sp.joinT_take xs k x hx]; exact Sp.bs_append _ [13]
      have hw1 : IntKind.i64.wrap ((k : Int) + 1) = (k : Int) + 1 := IntWalk.i64_in _ (by omega)
      generalize Sp.tot (xs.take k) = T at *
      have hT : T ≤ 4194304 := by omega
      have hxl : x.length ≤ 4194304 := by omega
      clear ht htl hx hc h
      go_wp2
      go_round
      case rel => exact ⟨k + 1, by omega, by go_num, rfl⟩
      case measure => simp [intOf]; omega
    · obtain rfl : k = n := by omega
      have e : xs.take k = xs := List.take_of_length_le (by omega)
      rw [e] at *
      have c1 : ¬ (k : Int) < (k : Int) := by omega
      go_wp2
      go_ret
      exact ⟨rfl, rfl⟩
end Sg
end Go.Proofs.Ytcldnibedimepaa
