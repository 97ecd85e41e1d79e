/-
  A part of the proof of this seat's laws: the map of what escapes are.
-/
import Derived.Test.YtkiloebfjooogaaDoorMp
import Derived.Test.YtkiloebfjooogaaDoorDelB
namespace Go.Proofs.YtkiloebfjooogaaDoor
set_option linter.unusedVariables false
set_option linter.unusedSimpArgs false
open Go.RowKit Go.Shelf
namespace Sp
/-- the three bytes -/
def ins0 (y : UInt8) : Option (List UInt8) := if y = 11 then some [88, 48, 66] else if y = 13 then some [88, 48, 68] else if y = 28 then some [88, 49, 67] else none
/-- and k of the signs -/
def insK (S : List UInt8) : Nat → UInt8 → Option (List UInt8)
  | 0 => ins0
  | k + 1 => fun y => (insK S k y).or (if S[k]? = some y then some [([70, 83, 84, 82, 69] : List UInt8).getD k 0] else none)
theorem insK_succ (S : List UInt8) (k : Nat) (y : UInt8) : insK S (k + 1) y = (insK S k y).or (if S[k]? = some y then some [([70, 83, 84, 82, 69] : List UInt8).getD k 0] else none) := rfl
theorem insK_new {S : List UInt8} {k : Nat} {c : UInt8} (hc : S[k]? = some c) (h : insK S k c = none) : Mp.updF (insK S k) c [([70, 83, 84, 82, 69] : List UInt8).getD k 0] = insK S (k + 1) := by
  funext y
  rw [insK_succ]
  by_cases hy : y = c
  · subst hy; rw [Mp.updF_same, h, hc]; simp
  · rw [Mp.updF_other _ _ hy, hc, if_neg (fun e => hy (Option.some.inj e).symm)]
    simp
theorem insK_old {S : List UInt8} {k : Nat} {c : UInt8} (hc : S[k]? = some c) (h : (insK S k c).isSome = true) : insK S (k + 1) = insK S k := by
  funext y
  rw [insK_succ]
  by_cases hy : y = c
  · subst hy
    obtain ⟨x, hx⟩ := Option.isSome_iff_exists.1 h
    rw [hx]; rfl
  · rw [hc, if_neg (fun e => hy (Option.some.inj e).symm)]
    simp
/-- what escapes are, by the bytes that they tell -/
def ins (F P R E U : UInt8) : UInt8 → Option (List UInt8) := insK [F, P, U, R, E] 5
end Sp
namespace Es
open Ap Mp
abbrev dv (F P R E U : UInt8) : Value := .agg #[.int .u8 (F.toNat : Int), .int .u8 (P.toNat : Int), .int .u8 (R.toNat : Int), .int .u8 (E.toNat : Int), .int .u8 (U.toNat : Int)]
/-- a block of bytes -/
theorem row_cells (w : World) (S : List UInt8) (t : TypeId) : ∀ j x, S[j]? = some x → (w.alloc (.cells (S.map fun b => Value.int .u8 (b.toNat : Int)).toArray t)).cell? ⟨w.heap.size, j, none⟩ = some (.int .u8 (x.toNat : Int)) := by
  intro j x hj
  have h := World.cell?_alloc_mark w (S.map fun b => Value.int .u8 (b.toNat : Int)).toArray t (0, 0) j
  refine h.trans ?_
  simp [hj]
set_option maxHeartbeats 2000000
theorem below_grown {W w w' : World} {b : Nat} (h : Below W.heap.size W w) (hg : w.grownBy w' (some b)) (hb : W.heap.size ≤ b) : Below W.heap.size W w' :=
  h.grown hg h.size (fun k hk => by cases hk; exact hb)
/-- a row of bytes lies at the head of a block -/
def RowAt (w : World) (g : Nat) (S : List UInt8) : Prop := ∀ j x, S[j]? = some x → w.cell? ⟨g, j, none⟩ = some (.int .u8 (x.toNat : Int))
theorem RowAt.grown {w w' : World} {g b : Nat} {S : List UInt8} (h : RowAt w g S) (hg : w.grownBy w' (some b)) (hne : g ≠ b) (hlt : g < w.heap.size) : RowAt w' g S := by
  intro j x hj
  have := h j x hj
  unfold World.cell? at this ⊢
  rw [hg.block g hlt (fun e => hne (Option.some.inj e))]
  exact this
theorem after3 {W w1 w2 w3 : World} {m : Nat} (X : Obj) (hm : W.heap.size = m) (hg1 : (W.alloc X).grownBy w1 (some m)) (hg2 : w1.grownBy w2 (some m)) (hg3 : w2.grownBy w3 (some m)) : Below m W w3 := by
  subst hm
  have h0 : Below W.heap.size W (W.alloc X) := (Below.refl _ _).alloc (Nat.le_refl _) X
  have h1 := h0.grown hg1 h0.size (fun k hk => by cases hk; exact Nat.le_refl _)
  have h2 := h1.grown hg2 h1.size (fun k hk => by cases hk; exact Nat.le_refl _)
  exact h2.grown hg3 h2.size (fun k hk => by cases hk; exact Nat.le_refl _)
theorem tells3 {w : World} {b n : Nat} {S : List UInt8} (h : Tells w b n (updF (updF (updF (fun _ => none) 11 [88, 48, 66]) 13 [88, 48, 68]) 28 [88, 49, 67])) : Tells w b n (Sp.insK S 0) := by
  have e : updF (updF (updF (fun _ => none) 11 [88, 48, 66]) 13 [88, 48, 68]) 28 [88, 49, 67] = Sp.insK S 0 := by
    funext y
    show _ = Sp.ins0 y
    unfold updF Sp.ins0
    by_cases h1 : y = 11
    · subst h1; rfl
    · by_cases h2 : y = 13
      · subst h2; rfl
      · by_cases h3 : y = 28 <;> simp [h1, h2, h3]
  rwa [← e]
set_option maxRecDepth 100000 in
theorem insides_calls (F P R E U : UInt8) (w : World) :
    Calls Tryd.prog 19 #[dv F P R E U] w fun e w' => ∃ b, e = .returned (.map (some b)) ∧ Tells w' b 8 (Sp.ins F P R E U) ∧ w.heap.size ≤ b ∧ Below w.heap.size w w' := by
  have huD := Tryd.underlying23
  have hmm := @run_makeMap Tryd.prog
  obtain ⟨S, hS⟩ : ∃ S, S = [F, P, U, R, E] := ⟨_, rfl⟩
  unfold Sp.ins
  rw [← hS]
  have HS := Lib.hid hS
  clear hS
  have hB0 : Below w.heap.size w (w.alloc (.cells #[.int .u8 (F.toNat : Int), .int .u8 (P.toNat : Int), .int .u8 (R.toNat : Int), .int .u8 (E.toNat : Int), .int .u8 (U.toNat : Int)] 23)) := (Below.refl _ _).alloc (Nat.le_refl _) _
  have f0 := Dl.Five.new (F.toNat : Int) (P.toNat : Int) (R.toNat : Int) (E.toNat : Int) (U.toNat : Int) w
  go_enter Tryd.func19, Tryd.ntmps19
  have ht0 := Tells.made (w.alloc (.cells #[.int .u8 (F.toNat : Int), .int .u8 (P.toNat : Int), .int .u8 (R.toNat : Int), .int .u8 (E.toNat : Int), .int .u8 (U.toNat : Int)] 23))
  rw [World.size_alloc] at ht0
  go_wp2_with (first
    | (refine Mp.wp_upd _ rfl (.tmp 8) _ _ (.inr rfl) _ 0 _ rfl (by assumption) (by unfold maxLen; omega) 11 rfl [88, 48, 66] rfl (by decide) ?_; intro w1 ht1 hg1)
    | (refine Mp.wp_upd _ rfl (.tmp 8) _ _ (.inr rfl) _ 1 _ rfl (by assumption) (by unfold maxLen; omega) 13 rfl [88, 48, 68] rfl (by decide) ?_; intro w2 ht2 hg2)
    | (refine Mp.wp_upd _ rfl (.tmp 8) _ _ (.inr rfl) _ 2 _ rfl (by assumption) (by unfold maxLen; omega) 28 rfl [88, 49, 67] rfl (by decide) ?_; intro w3 ht3 hg3; have hB3 := after3 _ (World.size_alloc _ _) hg1 hg2 hg3; have f3 := f0.below hB3 (Nat.lt_succ_self _); have hc3 := f3.cells; have hBw := Lib.hid (hB0.trans (hB3.mono (Nat.le_succ _))); have ht := Lib.hid (tells3 (S := S) ht3); clear hg1 hg2 hg3 ht1 ht2 ht3 ht0 hB3 f3 f0 hB0))
  have hrow : RowAt (w3.alloc (.cells #[.int .u8 (F.toNat : Int), .int .u8 (P.toNat : Int), .int .u8 (U.toNat : Int), .int .u8 (R.toNat : Int), .int .u8 (E.toNat : Int)] 5)) w3.heap.size S := by rw [HS.out]; exact row_cells w3 [F, P, U, R, E] 5
  have hbl := ht.out.lt
  have hal := (Below.refl w3.heap.size w3).alloc (Nat.le_refl _) (.cells #[.int .u8 (F.toNat : Int), .int .u8 (P.toNat : Int), .int .u8 (U.toNat : Int), .int .u8 (R.toNat : Int), .int .u8 (E.toNat : Int)] 5)
  have ht4 := Lib.hid (ht.out.kept hal)
  have hB4 := Lib.hid (hBw.out.trans (hal.mono hBw.out.size))
  have hg4 : w3.heap.size < (w3.alloc (.cells #[.int .u8 (F.toNat : Int), .int .u8 (P.toNat : Int), .int .u8 (U.toNat : Int), .int .u8 (R.toNat : Int), .int .u8 (E.toNat : Int)] 5)).heap.size := by rw [World.size_alloc]; exact Nat.lt_succ_self _
  have Hrow := Lib.hid hrow
  have hS5 : S.length = 5 := by rw [HS.out]; rfl
  generalize (w3.alloc (.cells #[.int .u8 (F.toNat : Int), .int .u8 (P.toNat : Int), .int .u8 (U.toNat : Int), .int .u8 (R.toNat : Int), .int .u8 (E.toNat : Int)] 5)) = W4 at *
  generalize w3.heap.size = g at *
  clear hrow hal ht hBw hc3
  go_loopw [4, 5, 6, 7, 22] (fun _ _ _ _ i wr => ∃ k : Nat, k ≤ 5 ∧ i = .int .i64 k ∧ Hid (Tells wr (w.heap.size + 1) (3 + k) (Sp.insK S k)) ∧ Hid (RowAt wr g S) ∧ g < wr.heap.size ∧ Hid (Below w.heap.size w wr)) (fun _ _ _ _ i _ => 5 - (intOf i).toNat)
  case atStart => exact ⟨0, by omega, rfl, ht4, Hrow, hg4, hB4⟩
  case round =>
    obtain ⟨k, hk, rfl, ht5, hrow, hgl, hB5⟩ := hrel
    clear ht4 Hrow hg4 hB4
    by_cases hlt : k < 5
    · obtain ⟨c, hc⟩ : ∃ c, S[k]? = some c := ⟨_, List.getElem?_eq_getElem (by omega)⟩
      have hcell := hrow.out k c hc
      have c0 : (0 : Int) ≤ (k : Int) := by omega
      have c1 : (k : Int) < 5 := by omega
      have hw1 : IntKind.i64.wrap ((k : Int) + 1) = (k : Int) + 1 := IntWalk.i64_in _ (by omega)
      cases hs : (Sp.insK S k c).isSome with
      | true =>
        have He := Lib.hid (Sp.insK_old hc hs)
        clear hc
        go_wp2_with (refine Mp.wp_look _ rfl (.tmp 28) (.tmp 29) rfl _ _ _ rfl ht5.out c rfl ?_)
        clear hs
        go_roundw
        case rel => exact ⟨k + 1, by omega, by go_num, by rw [He.out]; obtain ⟨D, h1, h2⟩ := ht5.out; exact ⟨D, h1.mono (by omega), h2⟩, hrow, hgl, hB5⟩
        case measure => simp [intOf]; omega
      | false =>
        have hn : Sp.insK S k c = none := Option.isNone_iff_eq_none.1 (by rw [← Option.not_isSome, hs]; rfl)
        have He := Lib.hid (Sp.insK_new hc hn)
        have hx : (⟨#[70, 83, 84, 82, 69]⟩ : ByteArray).extract k (k + 1) = Sp.bs [([70, 83, 84, 82, 69] : List UInt8).getD k 0] := by
          have : k = 0 ∨ k = 1 ∨ k = 2 ∨ k = 3 ∨ k = 4 := by omega
          rcases this with rfl | rfl | rfl | rfl | rfl <;> rfl
        have c2 : (k : Int) ≤ (k : Int) + 1 := by omega
        have c3 : (k : Int) + 1 ≤ 5 := by omega
        have c4 : (0 : Int) ≤ (k : Int) + 1 := by omega
        obtain ⟨L, hL⟩ : ∃ L : List UInt8, L = [([70, 83, 84, 82, 69] : List UInt8).getD k 0] := ⟨_, rfl⟩
        rw [← hL] at hx He
        have hLl : L.length ≤ 100 := by rw [hL]; exact (by decide : 1 ≤ 100)
        clear hc hn hL
        go_wp2_with (first
          | (refine Mp.wp_look _ rfl (.tmp 28) (.tmp 29) rfl _ _ _ rfl ht5.out c rfl ?_)
          | (refine Mp.wp_upd _ rfl (.tmp 35) (.tmp 36) (.tmp 40) (.inl rfl) _ _ _ rfl ht5.out (by unfold maxLen; omega) c rfl L rfl hLl ?_; intro w6 ht6 hg6))
        clear hs
        go_roundw
        case rel => exact ⟨k + 1, by omega, by go_num, by rw [← He.out]; exact ht6, hrow.out.grown hg6 (by omega) hgl, Nat.lt_of_lt_of_le hgl hg6.size, below_grown hB5.out hg6 (by omega)⟩
        case measure => simp [intOf]; omega
    · obtain rfl : k = 5 := by omega
      go_wp2_with fail
      go_ret
      exact ⟨_, rfl, ht5.out, by omega, hB5.out⟩
end Es
end Go.Proofs.YtkiloebfjooogaaDoor
