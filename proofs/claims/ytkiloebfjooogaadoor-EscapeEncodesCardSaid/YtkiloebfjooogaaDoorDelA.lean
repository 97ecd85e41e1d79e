/-
  A part of the proof of this seat's laws.
-/
import Derived.Test.YtkiloebfjooogaaDoorProg
import Derived.Below
import Derived.WalkKit
import Derived.OwnWalk
import Derived.KernelRfl
import Derived.Deep.RegionHeld3
import Derived.Deep.DeepCutAuto
import Derived.BigQuiet
import Derived.Lib.Hide
import Derived.Laws.StructEq
namespace Go.Proofs.YtkiloebfjooogaaDoor
set_option linter.unusedVariables false
set_option linter.unusedSimpArgs false
open Go.RowKit
namespace Dl
set_option maxHeartbeats 400000

theorem plain_calls (w : World) : Calls Tryd.prog 29 #[] w fun e w' => e = .returned (.agg #[.int .u8 124, .int .u8 94, .int .u8 126, .int .u8 92, .int .u8 38]) ∧ Below w.heap.size w w' := by
  have huD := Tryd.underlying23
  go_enter Tryd.func29, Tryd.ntmps29
  go_wp2
  exact bodyPost_ret (v := .agg #[.int .u8 124, .int .u8 94, .int .u8 126, .int .u8 92, .int .u8 38]) (by simp [results, Tryd.results29, go_sem]) rfl ⟨rfl, (Below.refl _ _).alloc (Nat.le_refl _) _⟩
theorem five_calls (a b c d f : Int) (w : World) : Calls Tryd.prog 30 #[.agg #[.int .u8 a, .int .u8 b, .int .u8 c, .int .u8 d, .int .u8 f]] w fun e w' => 
   e = .returned (.slice (some ⟨w.heap.size + 1, 0, none⟩) 5 5) ∧ w' = (w.alloc (.cells #[.int .u8 a, .int .u8 b, .int .u8 c, .int .u8 d, .int .u8 f] 23)).alloc (.cells #[.int .u8 a, .int .u8 b, .int .u8 c, .int .u8 d, .int .u8 f] 5)  := by
  have huD := Tryd.underlying23
  go_enter Tryd.func30, Tryd.ntmps30
  go_wp2
  go_ret
  exact ⟨rfl, rfl⟩

theorem eqf_cons {P : Program} {d : Nat} {xs ys : Array Value} {f : Field} {fs : List Field} {a b : Value} {r s : Bool} {w : World}
    (hn : (f.name == "_") = false) (ha : (part f.type xs f.offset).run P w = .ok a w) (hb : (part f.type ys f.offset).run P w = .ok b w)
    (he : (Op.equalIn d f.type a b).run P w = .ok r w) (hr : (Op.eqFields d xs ys fs).run P w = .ok s w) :
    (Op.eqFields d xs ys (f :: fs)).run P w = .ok (r && s) w := by
  have hn' : f.name ≠ "_" := by simpa using hn
  rw [Op.eqFields]
  simp only [if_pos hn', Sem.run_bind, ha, hb, he, Result.andThen_ok]
  cases r
  · simp
  · simpa using hr
theorem eqA_of {P : Program} {d : Nat} {xs ys : Array Value} {r : Bool} {w : World} {t : TypeId} {fs : Array Field} (hu : P.underlying t = some (.struct fs)) (hp : P.stoodInHeld t = false)
    (h : (Op.eqFields d xs ys fs.toList).run P w = .ok r w) : (Op.equalIn (d + 1) t (.agg xs) (.agg ys)).run P w = .ok r w := by
  have hf : P.fieldsOf t = fs := by simp [Program.fieldsOf, hu]
  rw [run_equalIn_struct (P := P) w d t xs ys (by rw [hf]; exact hu) hp, hf]
  exact h
/-- are two of five bytes the same? -/
def eq5 (a b c d f a' b' c' d' f' : Int) : Bool := a == a' && (b == b' && (c == c' && (d == d' && (f == f' && true))))
theorem eqD (n : Nat) (w : World) (a b c d f a' b' c' d' f' : Int) :
    (Op.equalIn (n + 2) 23 (.agg #[.int .u8 a, .int .u8 b, .int .u8 c, .int .u8 d, .int .u8 f]) (.agg #[.int .u8 a', .int .u8 b', .int .u8 c', .int .u8 d', .int .u8 f'])).run Tryd.prog w =
      .ok (eq5 a b c d f a' b' c' d' f') w := by
  refine eqA_of Tryd.underlying23 (by kernel_rfl) ?_
  unfold eq5
  refine eqf_cons (by rfl) (by go_simp; rfl) (by go_simp; rfl) (by go_simp) ?_
  refine eqf_cons (by rfl) (by go_simp; rfl) (by go_simp; rfl) (by go_simp) ?_
  refine eqf_cons (by rfl) (by go_simp; rfl) (by go_simp; rfl) (by go_simp) ?_
  refine eqf_cons (by rfl) (by go_simp; rfl) (by go_simp; rfl) (by go_simp) ?_
  refine eqf_cons (by rfl) (by go_simp; rfl) (by go_simp; rfl) (by go_simp) ?_
  simp [Op.eqFields]
end Dl
end Go.Proofs.YtkiloebfjooogaaDoor
