/-
  A part of the proof of this seat's laws: names, and a segment's fields.
-/
import Derived.Test.YtcldnibedimepaaSg4
import Derived.BigQuiet
import Derived.OwnWalk
import Derived.KernelRfl
namespace Go.Proofs.Ytcldnibedimepaa
set_option linter.unusedVariables false
set_option linter.unusedSimpArgs false
open Go.RowKit Go.Shelf
namespace Sp
/-- the name MSH -/
abbrev msh : List UInt8 := [77, 83, 72]
/-- a segment's fields -/
def fields (s : List UInt8) (F : UInt8) : List (List UInt8) :=
  if s.take 3 ≠ msh then (cutL F s).tail else if s.take 4 = msh ++ [F] then [F] :: cutL F (s.drop 4) else []
end Sp
namespace Sg
/-- signs as a value -/
abbrev dv (F P R E U : UInt8) : Value := .agg #[.int .u8 (F.toNat : Int), .int .u8 (P.toNat : Int), .int .u8 (R.toNat : Int), .int .u8 (E.toNat : Int), .int .u8 (U.toNat : Int)]
/-- a block of signs -/
structure Five (g : Nat) (F P R E U : UInt8) (w : World) : Prop where
  h : w.heap[g]? = some (.cells #[.int .u8 (F.toNat : Int), .int .u8 (P.toNat : Int), .int .u8 (R.toNat : Int), .int .u8 (E.toNat : Int), .int .u8 (U.toNat : Int)] 23 (0, 0))
theorem Five.cells {g : Nat} {F P R E U : UInt8} {w : World} (h : Five g F P R E U w) : w.cell? ⟨g, 0, none⟩ = some (.int .u8 (F.toNat : Int)) ∧ w.cell? ⟨g, 1, none⟩ = some (.int .u8 (P.toNat : Int)) ∧ w.cell? ⟨g, 2, none⟩ = some (.int .u8 (R.toNat : Int)) ∧
  w.cell? ⟨g, 3, none⟩ = some (.int .u8 (E.toNat : Int)) ∧ w.cell? ⟨g, 4, none⟩ = some (.int .u8 (U.toNat : Int)) := by
  refine ⟨?_, ?_, ?_, ?_, ?_⟩ <;> simp [World.cell?, h.h]
theorem Five.new (F P R E U : UInt8) (w : World) : Five w.heap.size F P R E U (w.alloc (.cells #[.int .u8 (F.toNat : Int), .int .u8 (P.toNat : Int), .int .u8 (R.toNat : Int), .int .u8 (E.toNat : Int), .int .u8 (U.toNat : Int)] 23)) := by
  constructor
  show (w.heap.push _)[w.heap.size]? = _
  simp
theorem Five.lt {g : Nat} {F P R E U : UInt8} {w : World} (h : Five g F P R E U w) : g < w.heap.size :=
  (Array.getElem?_eq_some_iff.1 h.h).1
theorem Five.below {g : Nat} {F P R E U : UInt8} {w w' : World} {B : Nat} (h : Five g F P R E U w) (hb : Below B w w') (hg : g < B) : Five g F P R E U w' :=
  ⟨(hb.block g hg).trans h.h⟩
theorem Five.drewN {g : Nat} {F P R E U : UInt8} {w : World} (h : Five g F P R E U w) (n : Nat) : Five g F P R E U (w.drewN n) := ⟨h.h⟩
theorem Five.alloc {g : Nat} {F P R E U : UInt8} {w : World} (h : Five g F P R E U w) (X : Obj) : Five g F P R E U (w.alloc X) := h.below ((Below.refl w.heap.size w).alloc (Nat.le_refl _) X) h.lt
set_option maxHeartbeats 1000000
theorem below_drewN {B : Nat} {a w : World} (h : Below B a w) (n : Nat) : Below B a (w.drewN n) := ⟨h.os, h.tape, h.output, h.size, h.block⟩
theorem name_calls (s : List UInt8) (hs : s.length ≤ 140737488351232) (w : World) : Calls Try.prog 13 #[.string (Sp.bs s)] w fun e w' => e = .returned (.string (Sp.bs (s.take 3))) ∧ w' = w := by
  have hz := Sp.bs_size s
  have he : (Sp.bs s).extract 0 (min (s.length : Int) 3).toNat = Sp.bs (s.take 3) := by
    rw [Sp.bs_extract]; congr 1; simp only [List.drop_zero, Nat.sub_zero]
    rw [List.take_eq_take_iff]; omega
  rw [← he]
  generalize Sp.bs s = x at *
  clear he
  go_enter Try.func13, Try.ntmps13
  go_wp2
  go_ret
  exact ⟨rfl, rfl⟩
theorem take3_no {s : List UInt8} (h : s.take 3 ≠ Sp.msh) : ((Sp.bs (s.take 3)).toList == [77, 83, 72]) = false := by
  rw [Sp.bs_toList, beq_eq_false_iff_ne]; exact h
theorem take3_yes {s : List UInt8} (h : s.take 3 = Sp.msh) : ((Sp.bs (s.take 3)).toList == [77, 83, 72]) = true := by
  rw [Sp.bs_toList, h]; rfl
/-- 'what a call of strings.Cut leaves' -/
theorem five_on {g : Nat} {F P R E U : UInt8} {w W : World} (h : Five g F P R E U W) (hb : Below w.heap.size w W) (n : Nat) (v : Value) :
    Below w.heap.size w ((W.alloc (.cells #[v] 5)).drewN n) ∧ Five g F P R E U ((W.alloc (.cells #[v] 5)).drewN n) :=
  ⟨below_drewN (hb.alloc hb.size _) n, (h.alloc _).drewN n⟩
theorem field_miss (s : List UInt8) (n : Int) (F P R E U : UInt8) (hs : s.length ≤ 140737488351232) (w : World) (h1 : s.take 3 ≠ Sp.msh) (h2 : Lib.indexByte s F = -1) :
    Calls Try.prog 31 #[.string (Sp.bs s), .int .i64 n, dv F P R E U] w fun e w' => e = .returned (.tuple #[.string ⟨#[]⟩, .int .i64 0]) ∧ Below w.heap.size w w' := by
  have huD := Try.underlying23
  have h5 := Five.new F P R E U w
  have hB : Below w.heap.size w (w.alloc (.cells #[.int .u8 (F.toNat : Int), .int .u8 (P.toNat : Int), .int .u8 (R.toNat : Int), .int .u8 (E.toNat : Int), .int .u8 (U.toNat : Int)] 23)) := (Below.refl _ _).alloc (Nat.le_refl _) _
  have H1 := take3_no h1
  have Hc := Lib.hid (fun w => cut_no s F w h2)
  have Hn := Lib.hid (name_calls s hs)
  have hsign := run_sign
  clear h1 h2
  go_enter Try.func31, Try.ntmps31
  go_wp2_with first
    | (go_at_call 13; refine (Hn.out _).mono ?_; rintro e w' ⟨rfl, rfl⟩; generalize (w.alloc (.cells #[.int .u8 (F.toNat : Int), .int .u8 (P.toNat : Int), .int .u8 (R.toNat : Int), .int .u8 (E.toNat : Int), .int .u8 (U.toNat : Int)] 23)) = W at *; have hc := h5.cells)
    | (go_at_call 38; refine (Hc.out _).mono ?_; rintro e w' ⟨rfl, m, rfl⟩)
  go_ret2
  exact ⟨rfl, (five_on h5 hB m _).1⟩
theorem field_hit (s : List UInt8) (n : Int) (F P R E U : UInt8) (hs : s.length ≤ 140737488351232) (w : World) (h1 : s.take 3 ≠ Sp.msh) (i : Nat) (h2 : Lib.indexByte s F = i) :
    Calls Try.prog 31 #[.string (Sp.bs s), .int .i64 n, dv F P R E U] w fun e w' =>
      e = .returned (.tuple #[.string (Sp.bs (Sp.pick (Sp.cutL F (s.drop (i + 1))) n)), .int .i64 ((Sp.cutL F (s.drop (i + 1))).length : Int)]) ∧ Below w.heap.size w w' := by
  have huD := Try.underlying23
  have h5 := Five.new F P R E U w
  have hB : Below w.heap.size w (w.alloc (.cells #[.int .u8 (F.toNat : Int), .int .u8 (P.toNat : Int), .int .u8 (R.toNat : Int), .int .u8 (E.toNat : Int), .int .u8 (U.toNat : Int)] 23)) := (Below.refl _ _).alloc (Nat.le_refl _) _
  have hil : i < s.length := by have h := (Lib.indexByte_some h2).1; exact (List.getElem?_eq_some_iff.1 h).1
  have H1 := take3_no h1
  have Hc := Lib.hid (fun w => cut_yes s F i w h2 hil hs)
  have Hn := Lib.hid (name_calls s hs)
  have Hh := Lib.hid (nth_calls (s.drop (i + 1)) F n (by rw [List.length_drop]; omega))
  have hsign := run_sign
  clear h1 h2
  go_enter Try.func31, Try.ntmps31
  go_wp2_with first
    | (go_at_call 13; refine (Hn.out _).mono ?_; rintro e w' ⟨rfl, rfl⟩; generalize (w.alloc (.cells #[.int .u8 (F.toNat : Int), .int .u8 (P.toNat : Int), .int .u8 (R.toNat : Int), .int .u8 (E.toNat : Int), .int .u8 (U.toNat : Int)] 23)) = W at *; have hc := h5.cells)
    | (go_at_call 38; refine (Hc.out _).mono ?_; rintro e w' ⟨rfl, m, rfl⟩; obtain ⟨hB2, h52⟩ := five_on h5 hB m (.int .u8 (F.toNat : Int)); generalize ((W.alloc (.cells #[.int .u8 (F.toNat : Int)] 5)).drewN m) = W2 at *; have hc2 := h52.cells)
    | (go_at_call 33; refine (Hh.out _).mono ?_; rintro e w' ⟨rfl, hb⟩)
  go_ret2
  exact ⟨rfl, hB2.trans (hb.mono hB2.size)⟩
theorem run_head (w : World) (c : UInt8) : (⟨#[77, 83, 72]⟩ : ByteArray) ++ (⟨#[c]⟩ : ByteArray) = Sp.bs (Sp.msh ++ [c]) := by
  show Sp.bs Sp.msh ++ Sp.bs [c] = _
  rw [Sp.bs_append]
theorem prefix_iff (s : List UInt8) (F : UInt8) : Lib.hasPrefix s (Sp.msh ++ [F]) = decide (s.take 4 = Sp.msh ++ [F]) := by
  rw [Bool.eq_iff_iff, decide_eq_true_eq]
  unfold Lib.hasPrefix
  rw [List.isPrefixOf_iff_prefix, List.prefix_iff_eq_take]
  exact ⟨fun h => h.symm, fun h => h.symm⟩
theorem slCutPrefix_no (s p : ByteArray) (w : World) (h : Lib.hasPrefix s.data.toList p.data.toList = false) :
    Calls Try.prog 45 #[.string s, .string p] w fun e w' => e = .returned (.tuple #[.string s, .bool false]) ∧ w' = w := by
  have hp := Try.stringslite_HasPrefix s p w
  rw [h] at hp
  have Hp := Lib.hid hp
  clear hp h
  go_enter Try.func45, Try.ntmps45
  go_wp2_with (go_at_call 49; refine Hp.out.mono ?_; rintro e w' ⟨rfl, rfl⟩)
  go_ret2
  exact ⟨rfl, rfl⟩
theorem slCutPrefix_yes (s p : ByteArray) (w : World) (h : Lib.hasPrefix s.data.toList p.data.toList = true) (hz : p.size ≤ s.size) (hs : s.size ≤ 140737488351232) :
    Calls Try.prog 45 #[.string s, .string p] w fun e w' => e = .returned (.tuple #[.string (s.extract p.size s.size), .bool true]) ∧ w' = w := by
  have hp := Try.stringslite_HasPrefix s p w
  rw [h] at hp
  have Hp := Lib.hid hp
  have c1 : (0 : Int) ≤ (p.size : Int) := by omega
  have c2 : (p.size : Int) ≤ (s.size : Int) := by omega
  clear hp h
  go_enter Try.func45, Try.ntmps45
  go_wp2_with (go_at_call 49; refine Hp.out.mono ?_; rintro e w' ⟨rfl, rfl⟩)
  go_ret2
  exact ⟨rfl, rfl⟩
theorem cutPrefix_no (s : List UInt8) (F : UInt8) (w : World) (h : s.take 4 ≠ Sp.msh ++ [F]) :
    Calls Try.prog 39 #[.string (Sp.bs s), .string (Sp.bs (Sp.msh ++ [F]))] w fun e w' => e = .returned (.tuple #[.string (Sp.bs s), .bool false]) ∧ w' = w := by
  have H := Lib.hid (slCutPrefix_no (Sp.bs s) (Sp.bs (Sp.msh ++ [F])) w (by rw [Sp.bs_list, Sp.bs_list, prefix_iff, decide_eq_false h]))
  clear h
  go_enter Try.func39, Try.ntmps39
  go_wp2_with (go_at_call 45; refine H.out.mono ?_; rintro e w' ⟨rfl, rfl⟩)
  go_ret2
  exact ⟨rfl, rfl⟩
theorem cutPrefix_yes (s : List UInt8) (F : UInt8) (w : World) (h : s.take 4 = Sp.msh ++ [F]) (hs : s.length ≤ 140737488351232) :
    Calls Try.prog 39 #[.string (Sp.bs s), .string (Sp.bs (Sp.msh ++ [F]))] w fun e w' => e = .returned (.tuple #[.string (Sp.bs (s.drop 4)), .bool true]) ∧ w' = w := by
  have h4 : 4 ≤ s.length := by have := congrArg List.length h; simp at this; omega
  have H := slCutPrefix_yes (Sp.bs s) (Sp.bs (Sp.msh ++ [F])) w (by rw [Sp.bs_list, Sp.bs_list, prefix_iff, decide_eq_true h]) (by rw [Sp.bs_size, Sp.bs_size]; simpa using h4) (by rw [Sp.bs_size]; exact hs)
  rw [Sp.bs_extract, Sp.bs_size, Sp.bs_size, List.take_of_length_le (by simp)] at H
  have H := Lib.hid H
  clear h
  go_enter Try.func39, Try.ntmps39
  go_wp2_with (go_at_call 45; refine H.out.mono ?_; rintro e w' ⟨rfl, rfl⟩)
  go_ret2
  exact ⟨rfl, rfl⟩
end Sg
end Go.Proofs.Ytcldnibedimepaa
