/-
  A part of the proof of this seat's laws: SegmentSplits.
-/
import Derived.Deep.RegionWith
import Derived.Test.YtcldnibedimepaaSg12
import Derived.Test.YtcldnibedimepaaIn
namespace Go.Proofs.Ytcldnibedimepaa
set_option linter.unusedVariables false
set_option linter.unusedSimpArgs false
open Go.RowKit Go.Shelf
namespace Sg
open Ap
set_option maxHeartbeats 4000000
theorem stepB {w a b : World} (h : Below w.heap.size w a) (hb : Below a.heap.size a b) : Below w.heap.size w b := h.trans (hb.mono h.size)
theorem same_self (A B : Option Addr) (n c d : Nat) (xs : List (List UInt8)) (w : World) (hx : Tx w A n c xs) (hy : Tx w B n d xs) (hs : n ≤ 4194304) :
    Calls Try.prog 22 #[.slice A n c, .slice B n d] w fun e w' => e = .returned (.bool true) ∧ Below w.heap.size w w' := by
  refine (same_calls A B n n c d xs xs w hx hy hs).mono ?_
  rintro e w' ⟨rfl, k, rfl⟩
  exact ⟨by simp, below_drewN (Below.refl _ _) _⟩
section
variable (s : List UInt8) (A B : Option Addr) (c m d : Nat) (xs : List (List UInt8)) (w : World)
theorem splits_long (n : Nat) (h : 3000 < n) (hx : Tx w B m d xs) (hb : Sp.tot xs ≤ 4194304) :
    Calls Try.prog 6 #[.slice A n c, .slice B m d] w fun e w' => e = .returned (.bool true) ∧ Below w.heap.size w w' := by
  have h1 : (3000 : Int) < (n : Int) := by omega
  go_enter Try.func6, Try.ntmps6
  go_wp2_with fail
  refine (alive_calls _).mono ?_
  rintro e w1 ⟨rfl, b1⟩
  go_wp2_with fail
  go_ret
  exact ⟨rfl, b1⟩
theorem splits_many (n : Nat) (h : n ≤ 3000) (hx : Tx w B m d xs) (hb : Sp.tot xs ≤ 4194304) (ht : 3000 < Sp.tot xs) :
    Calls Try.prog 6 #[.slice A n c, .slice B m d] w fun e w' => e = .returned (.bool true) ∧ Below w.heap.size w w' := by
  have h1 : ¬ (3000 : Int) < (n : Int) := by omega
  have h2 : (3000 : Int) < (Sp.tot xs : Int) := by omega
  have Hb := Lib.hid (bytes_calls B m d xs w hx hb)
  clear hx
  go_enter Try.func6, Try.ntmps6
  go_wp2_with fail
  refine Hb.out.mono ?_
  rintro e w' ⟨rfl, rfl⟩
  go_wp2_with fail
  refine (alive_calls _).mono ?_
  rintro e w1 ⟨rfl, b1⟩
  go_wp2_with fail
  go_ret
  exact ⟨rfl, b1⟩
theorem splits_in (h : s.length ≤ 3000) (hx : Tx w B m d xs) (ht : Sp.tot xs ≤ 3000)
    (hconv : ∀ w', Below w.heap.size w w' → (convert 39 9 (.slice A s.length c)).run Try.prog w' = .ok (.string (Sp.bs s)) w') :
    Calls Try.prog 6 #[.slice A s.length c, .slice B m d] w fun e w' => e = .returned (.bool true) ∧ Below w.heap.size w w' := by
  have h1 : ¬ (3000 : Int) < (s.length : Int) := by omega
  have h2 : ¬ (3000 : Int) < (Sp.tot xs : Int) := by omega
  have hxl := hx.len
  have hxt := Sp.tot_len xs
  have Hb := Lib.hid (bytes_calls B m d xs w hx (by omega))
  have Hx := Lib.hid hx
  have Hconv := Lib.hid hconv
  have hsl : Hid ((Sp.split s).length ≤ 4194304) := Lib.hid (by
    have h1 := Sp.cutL_length 13 s
    have h2 := List.count_le_length (a := 13) (l := s)
    unfold Sp.split
    split
    · rw [List.length_dropLast]; omega
    · omega)
  clear hx hconv
  go_enter Try.func6, Try.ntmps6
  go_wp2_with fail
  refine Hb.out.mono ?_
  rintro e w' ⟨rfl, rfl⟩
  clear Hb
  go_wp2_with fail
  go_loop [6, 18] (fun _ i => ∃ k : Nat, k ≤ m ∧ i = .int .i64 k) (fun _ i => m - (intOf i).toNat)
  case atStart => exact ⟨0, by omega, rfl⟩
  case round =>
    obtain ⟨k, hk, rfl⟩ := hrel
    by_cases hlt : k < m
    · obtain ⟨x, hxk⟩ : ∃ x, xs[k]? = some x := ⟨_, List.getElem?_eq_getElem (by omega)⟩
      obtain ⟨b, o, rfl, hbl, hc⟩ := Hx.out.cells.resolve_left (by omega)
      have hcx := hc k x hxk
      have hxs : x.length ≤ 140737488351232 := by
        have := Sp.tot_take xs k x hxk
        have := Sp.tot_take_le xs (k + 1)
        omega
      have c0 : (0 : Int) ≤ (k : Int) := by omega
      have c1 : (k : Int) < (m : Int) := by omega
      have hw1 : IntKind.i64.wrap ((k : Int) + 1) = (k : Int) + 1 := IntWalk.i64_in _ (by omega)
      have Hn1 := Lib.hid (name_calls x hxs)
      have Hn2 := Lib.hid (refName_calls x)
      clear hxk hc
      go_wp2_with fail
      refine (Hn1.out _).mono ?_
      rintro e w1 ⟨rfl, rfl⟩
      go_wp2_with fail
      refine (Hn2.out _).mono ?_
      rintro e w1 ⟨rfl, rfl⟩
      go_wp2_with fail
      go_round
      case rel => exact ⟨k + 1, by omega, by go_num⟩
      case measure => simp [intOf]; omega
    · obtain rfl : k = m := by omega
      have c1 : ¬ (k : Int) < (k : Int) := by omega
      go_wp2_with fail
      have hk0 := (Below.refl w'.heap.size w').drew
      go_region_with
        (first
          | (go_at_call 12; refine (alive_calls _).mono ?_; rintro e w1 ⟨rfl, b1⟩; have hk1 := stepB (by assumption) b1)
          | (go_at_call 23; refine (split_calls s (by omega) A s.length c _ (fun w'' hb => Hconv.out _ (stepB (by assumption) hb))).mono ?_; rintro e w2 ⟨A2, C2, rfl, t2, b2⟩; have hk2 := stepB (by assumption) b2)
          | (go_at_call 24; refine (refSplit_calls s (by omega) A s.length c _ (fun w'' hb => Hconv.out _ (stepB (by assumption) hb))).mono ?_; rintro e w3 ⟨A3, C3, rfl, t3, b3⟩; have hk3 := stepB (by assumption) b3)
          | (go_at_call 22; refine (same_self A2 A3 _ C2 C3 (Sp.split s) _ (by first | exact t2 | exact t2.below b3) (by first | exact t3 | exact t3.below b2) hsl.out).mono ?_; rintro e w4 ⟨rfl, b4⟩; have hk4 := stepB (by assumption) b4)
          | (go_at_call 25; refine (join_calls B _ d xs _ (Hx.out.below (by assumption)) (by omega)).mono ?_; rintro e w5 ⟨v5, rfl, o5⟩; have hk5 := stepB (by assumption) o5.2.1; have hcv5 := own_text o5)
          | (go_at_call 26; refine (refJoin_calls B _ d xs _ (Hx.out.below (by assumption)) (by omega)).mono ?_; rintro e w6 ⟨rfl, rfl⟩))
      all_goals go_wp2_with fail
      all_goals go_ret
      all_goals exact ⟨rfl, by assumption⟩
end
theorem splits_calls (s : List UInt8) (A B : Option Addr) (n c m d : Nat) (xs : List (List UInt8)) (w : World) (hs : s.length = n) (hx : Tx w B m d xs) (ht : Sp.tot xs ≤ 4194304)
    (hconv : ∀ w', Below w.heap.size w w' → (convert 39 9 (.slice A n c)).run Try.prog w' = .ok (.string (Sp.bs s)) w') :
    Calls Try.prog 6 #[.slice A n c, .slice B m d] w fun e w' => e = .returned (.bool true) ∧ Below w.heap.size w w' := by
  subst hs
  by_cases h : 3000 < s.length
  · exact splits_long A B c m d xs w s.length h hx ht
  by_cases h2 : 3000 < Sp.tot xs
  · exact splits_many A B c m d xs w s.length (by omega) hx ht h2
  · exact splits_in s A B c m d xs w (by omega) hx (by omega) hconv
/-- bytes that came in, as a text -/
theorem conv_in {w : World} {A : Option Addr} {n c : Nat} {xs : List Int} (h : Opn.Bytes w A n c xs) : ∃ s : List UInt8, s.length = n ∧ ∀ w', Below w.heap.size w w' → (convert 39 9 (.slice A n c)).run Try.prog w' = .ok (.string (Sp.bs s)) w' := by
  refine ⟨xs.map fun x => UInt8.ofNat x.toNat, by simpa using h.len, fun w' hb => ?_⟩
  have h' := h.below hb
  rcases h'.cells with h0 | ⟨b, o, rfl, hc⟩
  · subst h0
    have : xs = [] := List.eq_nil_of_length_eq_zero h.len
    subst this
    cases A with
    | none => exact run_convert_bytes_nil w' 39 5 Try.underlying39 Try.underlying5 0 c 9 Try.underlying9
    | some a => exact run_convert_bytes_back w' 39 9 5 a c [] Try.underlying39 Try.underlying5 Try.underlying9 (fun j hj => by simp at hj)
  · have hl := h.len
    subst hl
    have := run_convert_bytes_back w' 39 9 5 ⟨b, o, none⟩ c (xs.map fun x => UInt8.ofNat x.toNat) Try.underlying39 Try.underlying5 Try.underlying9 (fun j hj => by
      have hj' : j < xs.length := by simpa using hj
      have hby := h.byte j hj'
      rw [Addr.add_lit, hc j hj']
      simp only [List.getElem_map]
      have e : xs.getD j 0 = xs[j] := by rw [List.getD_eq_getElem?_getD, List.getElem?_eq_getElem hj']; rfl
      rw [e] at hby ⊢
      obtain ⟨h1, h2⟩ := hby
      congr 2
      simp [UInt8.toNat_ofNat]
      omega)
    rw [List.length_map] at this
    exact this
theorem splits_at (A : Option Addr) (n c : Nat) (bs : List Int) (B : Option Addr) (m d : Nat) (xs : List (List UInt8)) (w : World) (hb : Opn.Bytes w A n c bs) (hn : n ≤ 1048576) (hx : Tx w B m d xs) (ht : Sp.tot xs ≤ 1048576) :
    Calls Try.prog 6 #[.slice A n c, .slice B m d] w fun e w' => e = .returned (.bool true) ∧ Below w.heap.size w w' := by
  obtain ⟨s, hs, hconv⟩ := conv_in hb
  exact splits_calls s A B n c m d xs w hs hx (by omega) hconv
end Sg
end Go.Proofs.Ytcldnibedimepaa
