/-
  A part of the proof of this seat's laws.
-/
import Derived.Test.YtkiloebfjooogaaDoorDelA
import Derived.Test.YtkiloebfjooogaaDoorShelf
import Derived.Test.YtkiloebfjooogaaDoorSp6
import Derived.Deep.DeepFit
namespace Go.Proofs.YtkiloebfjooogaaDoor
set_option linter.unusedVariables false
set_option linter.unusedSimpArgs false
open Go.RowKit
namespace Dl
set_option maxHeartbeats 400000

/-- the block of a struct of five bytes, and its cells -/
structure Five (g : Nat) (a b c d f : Int) (w : World) : Prop where
  h : w.heap[g]? = some (.cells #[.int .u8 a, .int .u8 b, .int .u8 c, .int .u8 d, .int .u8 f] 23 (0, 0))

theorem Five.cells {g : Nat} {a b c d f : Int} {w : World} (h : Five g a b c d f w) : w.cell? ⟨g, 0, none⟩ = some (.int .u8 a) ∧ w.cell? ⟨g, 1, none⟩ = some (.int .u8 b) ∧ w.cell? ⟨g, 2, none⟩ = some (.int .u8 c) ∧
  w.cell? ⟨g, 3, none⟩ = some (.int .u8 d) ∧ w.cell? ⟨g, 4, none⟩ = some (.int .u8 f) := by
  refine ⟨?_, ?_, ?_, ?_, ?_⟩ <;> simp [World.cell?, h.h]
theorem Five.new (a b c d f : Int) (w : World) : Five w.heap.size a b c d f (w.alloc (.cells #[.int .u8 a, .int .u8 b, .int .u8 c, .int .u8 d, .int .u8 f] 23)) := by
  constructor
  show (w.heap.push _)[w.heap.size]? = _
  simp
theorem Five.lt {g : Nat} {a b c d f : Int} {w : World} (h : Five g a b c d f w) : g < w.heap.size :=
  (Array.getElem?_eq_some_iff.1 h.h).1
theorem Five.below {g : Nat} {a b c d f : Int} {w w' : World} {B : Nat} (h : Five g a b c d f w) (hb : Below B w w') (hg : g < B) : Five g a b c d f w' :=
  ⟨(hb.block g hg).trans h.h⟩
theorem Five.drew {g : Nat} {a b c d f : Int} {w : World} (h : Five g a b c d f w) : Five g a b c d f w.drew := ⟨h.h⟩
theorem Five.frozen {g : Nat} {a b c d f : Int} {w : World} (h : Five g a b c d f w) : w.frozen? ⟨g, 0, none⟩ = false ∧ w.frozen? ⟨g, 1, none⟩ = false ∧ w.frozen? ⟨g, 2, none⟩ = false ∧ w.frozen? ⟨g, 3, none⟩ = false ∧ w.frozen? ⟨g, 4, none⟩ = false := by
  refine ⟨?_, ?_, ?_, ?_, ?_⟩ <;> simp [World.frozen?, h.h]
theorem heap_set {g : Nat} {cs : Array Value} {t : TypeId} {fr : Nat × Nat} {w : World} (h : w.heap[g]? = some (.cells cs t fr)) (i : Nat) (v : Value) :
    (w.setCell ⟨g, i, none⟩ v).heap[g]? = some (.cells (cs.setIfInBounds i v) t fr) := by
  simp [World.setCell, Array.getElem?_modify, h]
/-- five stores into the block -/
theorem Five.store {g : Nat} {a b c d f : Int} {w : World} (h : Five g a b c d f w) (a' b' c' d' f' : Int) :
    Five g a' b' c' d' f' (((((w.setCell ⟨g, 0, none⟩ (.int .u8 a')).setCell ⟨g, 1, none⟩ (.int .u8 b')).setCell ⟨g, 2, none⟩ (.int .u8 c')).setCell ⟨g, 3, none⟩ (.int .u8 d')).setCell ⟨g, 4, none⟩ (.int .u8 f')) :=
  ⟨heap_set (heap_set (heap_set (heap_set (heap_set h.h 0 _) 1 _) 2 _) 3 _) 4 _⟩
theorem below_store {w0 w : World} {B g : Nat} (h : Below B w0 w) (hg : B ≤ g) (v0 v1 v2 v3 v4 : Value) :
    Below B w0 (((((w.setCell ⟨g, 0, none⟩ v0).setCell ⟨g, 1, none⟩ v1).setCell ⟨g, 2, none⟩ v2).setCell ⟨g, 3, none⟩ v3).setCell ⟨g, 4, none⟩ v4) :=
  ((((h.setCell (p := ⟨g, 0, none⟩) hg _).setCell (p := ⟨g, 1, none⟩) hg _).setCell (p := ⟨g, 2, none⟩) hg _).setCell (p := ⟨g, 3, none⟩) hg _).setCell (p := ⟨g, 4, none⟩) hg _
theorem Five.alloc {g : Nat} {a b c d f : Int} {w : World} (h : Five g a b c d f w) (X : Obj) : Five g a b c d f (w.alloc X) := h.below ((Below.refl w.heap.size w).alloc (Nat.le_refl _) X) h.lt
/-- what a region that calls keeps -/
theorem Five.keep {w W W' : World} {a b c d f : Int} (h : Below w.heap.size w W ∧ Five w.heap.size a b c d f W) (hb : Below W.heap.size W W') :
    Below w.heap.size w W' ∧ Five w.heap.size a b c d f W' :=
  ⟨h.1.trans (hb.mono h.1.size), h.2.below hb h.2.lt⟩


theorem ret_bool {a b : Bool} (h : a = b) : Ending.returned (.bool a) = .returned (.bool b) := by rw [h]
theorem right_plain (a b c d f : Int) (w : World) (hp : eq5 a b c d f 124 94 126 92 38 = true) : Calls Tryd.prog 18 #[.agg #[.int .u8 a, .int .u8 b, .int .u8 c, .int .u8 d, .int .u8 f]] w fun e w' => 
   e = .returned (.bool true) ∧ Below w.heap.size w w'  := by
  have huD := Tryd.underlying23
  have h5 := Five.new a b c d f w
  have hB : Below w.heap.size w (w.alloc (.cells #[.int .u8 a, .int .u8 b, .int .u8 c, .int .u8 d, .int .u8 f] 23)) := (Below.refl _ _).alloc (Nat.le_refl _) _
  have hq := fun n w => (eqD n w a b c d f 124 94 126 92 38).trans (by rw [hp])
  clear hp
  go_enter Tryd.func18, Tryd.ntmps18
  go_wp2_with fail
  generalize (w.alloc (.cells #[.int .u8 a, .int .u8 b, .int .u8 c, .int .u8 d, .int .u8 f] 23)) = W at *
  go_region_held3 (fun w' => (Below w.heap.size w w' ∧ Five w.heap.size a b c d f w') ∧ w'.cell? ⟨w.heap.size, 0, none⟩ = some (.int .u8 a) ∧ w'.cell? ⟨w.heap.size, 1, none⟩ = some (.int .u8 b) ∧ w'.cell? ⟨w.heap.size, 2, none⟩ = some (.int .u8 c) ∧
    w'.cell? ⟨w.heap.size, 3, none⟩ = some (.int .u8 d) ∧ w'.cell? ⟨w.heap.size, 4, none⟩ = some (.int .u8 f)) (first | exact ⟨⟨hB.drew, h5.drew⟩, h5.drew.cells⟩ | exact ⟨‹_›, Five.cells (And.right ‹_›)⟩)
    (first | (go_at_call 29; refine (plain_calls _).mono ?_; rintro e w' ⟨rfl, hb⟩; have hk := Five.keep (And.left ‹_›) hb))
  go_wp2_with fail
  go_ret
  exact ⟨rfl, hk.1⟩

set_option maxRecDepth 100000 in
theorem right_loop (a b c d f : Int) (w : World) (hp : eq5 a b c d f 124 94 126 92 38 = false) (r : Bool) (hr : r = true ↔ ∀ k, k < 5 → Sp.okAt [a, b, c, d, f] k) : Calls Tryd.prog 18 #[.agg #[.int .u8 a, .int .u8 b, .int .u8 c, .int .u8 d, .int .u8 f]] w fun e w' => 
   e = .returned (.bool r) ∧ Below w.heap.size w w'  := by
  have Hr := Lib.hid hr; clear hr
  have huD := Tryd.underlying23
  have h5 := Five.new a b c d f w
  have hB : Below w.heap.size w (w.alloc (.cells #[.int .u8 a, .int .u8 b, .int .u8 c, .int .u8 d, .int .u8 f] 23)) := (Below.refl _ _).alloc (Nat.le_refl _) _
  have hq := fun n w => (eqD n w a b c d f 124 94 126 92 38).trans (by rw [hp])
  clear hp
  go_enter Tryd.func18, Tryd.ntmps18
  go_wp2_with fail
  generalize (w.alloc (.cells #[.int .u8 a, .int .u8 b, .int .u8 c, .int .u8 d, .int .u8 f] 23)) = W at *
  go_region_held3 (fun w' => (Below w.heap.size w w' ∧ Five w.heap.size a b c d f w') ∧ w'.cell? ⟨w.heap.size, 0, none⟩ = some (.int .u8 a) ∧ w'.cell? ⟨w.heap.size, 1, none⟩ = some (.int .u8 b) ∧ w'.cell? ⟨w.heap.size, 2, none⟩ = some (.int .u8 c) ∧
    w'.cell? ⟨w.heap.size, 3, none⟩ = some (.int .u8 d) ∧ w'.cell? ⟨w.heap.size, 4, none⟩ = some (.int .u8 f)) (first | exact ⟨⟨hB.drew, h5.drew⟩, h5.drew.cells⟩ | exact ⟨‹_›, Five.cells (And.right ‹_›)⟩)
    (first | (go_at_call 29; refine (plain_calls _).mono ?_; rintro e w' ⟨rfl, hb⟩; have hk := Five.keep (And.left ‹_›) hb))
  go_wp2_with (first | (go_at_call 30; refine (five_calls _ _ _ _ _ _).mono ?_; rintro e w' ⟨rfl, rfl⟩))
  have hix : ∀ x : Int, Calls Tryd.prog 31 #[.slice (some ⟨w'.heap.size + 1, 0, none⟩) 5 5, .int .u8 x] ((w'.alloc (.cells #[.int .u8 a, .int .u8 b, .int .u8 c, .int .u8 d, .int .u8 f] 23)).alloc (.cells #[.int .u8 a, .int .u8 b, .int .u8 c, .int .u8 d, .int .u8 f] 5)) (fun e w2 => e = .returned (.int .i64 (Lib.indexByte (Lib.bytesOf [a, b, c, d, f]) x.toNat.toUInt8)) ∧ w2 = ((w'.alloc (.cells #[.int .u8 a, .int .u8 b, .int .u8 c, .int .u8 d, .int .u8 f] 23)).alloc (.cells #[.int .u8 a, .int .u8 b, .int .u8 c, .int .u8 d, .int .u8 f] 5))) :=
    fun x => Tryd.bytes_IndexByte_at _ 5 5 [a, b, c, d, f] x _ rfl (by
      intro i hi
      have e : i = 0 ∨ i = 1 ∨ i = 2 ∨ i = 3 ∨ i = 4 := by omega
      rcases e with rfl | rfl | rfl | rfl | rfl <;> go_simp <;> rfl)
  have hcell : ∀ i, i < 5 → ((w'.alloc (.cells #[.int .u8 a, .int .u8 b, .int .u8 c, .int .u8 d, .int .u8 f] 23)).alloc (.cells #[.int .u8 a, .int .u8 b, .int .u8 c, .int .u8 d, .int .u8 f] 5)).cell? ⟨w'.heap.size + 1, i, none⟩ = some (.int .u8 ([a, b, c, d, f].getD i 0)) := by
    intro i hi
    have e : i = 0 ∨ i = 1 ∨ i = 2 ∨ i = 3 ∨ i = 4 := by omega
    rcases e with rfl | rfl | rfl | rfl | rfl <;> go_simp <;> rfl
  have hb2 : Below w.heap.size w ((w'.alloc (.cells #[.int .u8 a, .int .u8 b, .int .u8 c, .int .u8 d, .int .u8 f] 23)).alloc (.cells #[.int .u8 a, .int .u8 b, .int .u8 c, .int .u8 d, .int .u8 f] 5)) :=
    (hk.1.alloc hk.1.size _).alloc (Nat.le_trans hk.1.size (by simp)) _
  generalize ((w'.alloc (.cells #[.int .u8 a, .int .u8 b, .int .u8 c, .int .u8 d, .int .u8 f] 23)).alloc (.cells #[.int .u8 a, .int .u8 b, .int .u8 c, .int .u8 d, .int .u8 f] 5)) = W2 at *
  have Hix := Lib.hid hix; clear hix
  have Hcell := Lib.hid hcell; clear hcell
  have Hb2 := Lib.hid hb2; clear hb2
  clear hk hb h5 hB hq

  go_loop [14] (fun i => ∃ k : Nat, k ≤ 5 ∧ i = .int .i64 k ∧ Hid (∀ j, j < k → Sp.okAt [a, b, c, d, f] j)) (fun i => 5 - (intOf i).toNat)
  case atStart => exact ⟨0, by omega, rfl, fun j hj => by omega⟩
  case round =>
    obtain ⟨k, hk5, rfl, Hk⟩ := hrel
    by_cases hlt : k < 5
    · have hx := Hcell.out k hlt
      have hcx := Hix.out ([a, b, c, d, f].getD k 0)
      obtain ⟨o, Ho⟩ : ∃ o, Hid (o = bits BinOp.or IntKind.u8 ([a, b, c, d, f].getD k 0) 32) := ⟨_, rfl⟩
      have Hok : Hid (Sp.okAt [a, b, c, d, f] k ↔ (32 < [a, b, c, d, f].getD k 0 ∧ [a, b, c, d, f].getD k 0 ≤ 126 ∧ (bits BinOp.or IntKind.u8 ([a, b, c, d, f].getD k 0) 32 < 97 ∨ 122 < bits BinOp.or IntKind.u8 ([a, b, c, d, f].getD k 0) 32) ∧
        ([a, b, c, d, f].getD k 0 < 48 ∨ 57 < [a, b, c, d, f].getD k 0) ∧ (k : Int) ≤ Lib.indexByte (Lib.bytesOf [a, b, c, d, f]) (UInt8.ofNat ([a, b, c, d, f].getD k 0).toNat))) := Iff.rfl
      generalize [a, b, c, d, f].getD k 0 = x at *
      have Hcx := Lib.hid hcx; clear hcx
      go_wp2_with (go_at_call 31; refine (Hcx.out).mono ?_; rintro e w' ⟨rfl, rfl⟩)
      all_goals first
        | (go_round
           case rel => exact ⟨k + 1, by omega, by go_num, fun j hj => by
              by_cases e : j = k
              · subst e; exact Hok.out.2 (by omega)
              · exact Hk.out j (by omega)⟩
           case measure => simp [intOf]; omega)
        | (go_ret
           have hno : ¬ Sp.okAt [a, b, c, d, f] k := fun h => by have := Hok.out.1 h; omega
           exact ⟨ret_bool (by
             cases hr : r with
             | false => rfl
             | true => exact absurd (Hr.out.1 hr k hlt) hno), Hb2.out⟩)
    · go_wp2
      go_ret
      exact ⟨ret_bool (Hr.out.2 fun j hj => Hk.out j (by omega)).symm, Hb2.out⟩

/-- delim.Right tells whether they may be -/
theorem right_calls (a b c d f : Int) (w : World) (ha : Sp.isByte a) (hb : Sp.isByte b) (hc : Sp.isByte c) (hd : Sp.isByte d) (hf : Sp.isByte f) :
    Calls Tryd.prog 18 #[.agg #[.int .u8 a, .int .u8 b, .int .u8 c, .int .u8 d, .int .u8 f]] w fun e w' =>
      e = .returned (.bool (Sp.right a b c d f)) ∧ Below w.heap.size w w' := by
  by_cases hp : eq5 a b c d f 124 94 126 92 38 = true
  · have h := hp
    simp only [eq5, Bool.and_eq_true, beq_iff_eq] at h
    obtain ⟨rfl, rfl, rfl, rfl, rfl, -⟩ := h
    exact right_plain _ _ _ _ _ w hp
  · exact right_loop _ _ _ _ _ w (by simpa using hp) _ (Sp.right_ok ha hb hc hd hf)
end Dl
end Go.Proofs.YtkiloebfjooogaaDoor
