/-
  A part of the proof of this seat's laws.
-/
import Derived.BigQuiet
import Derived.Below
import Derived.WalkKit
import Derived.KernelRfl
namespace Go.Proofs.YtpchfmeaplhodaaDoor
set_option linter.unusedVariables false
set_option linter.unusedSimpArgs false
open Go.RowKit
namespace Qr
theorem undrew {w w' : World} (h : Below w.drew.heap.size w.drew w') : Below w.heap.size w w' := ⟨h.os, h.tape, h.output, h.size, h.block⟩
/-- a world of which S holds -/
structure In (S : World → Prop) where
  w : World
  h : S w
abbrev Cls (S : World → Prop) : World → Prop := fun w' => ∃ x : In S, w' = x.w
/-- a region that draws its order, each of whose operations reads, or calls what keeps S and hands back one value -/
theorem region_in {P : Program} {S : World → Prop} {id : Nat} {Q : Exit → Act → World → Prop} {a : Act} {w : World} {l : List Oper}
    (hm : P.follows .mixedOrders = true) (hB : Region.lexB .any l.toArray = true) (hS : S w.drew)
    (h : wpQuiet P l.toArray (Cls S) (fun a' => ∀ w', Cls S w' → Q .normal a' w') l a) : (Code.region id l.toArray true).wp P Q a w :=
  wp_region_quiet (C := Cls S) hm hB ⟨⟨_, hS⟩, rfl⟩ (by simpa using h)
theorem call {P : Program} {S : World → Prop} {f : FuncId} {args : Array Value} {v : Value} {x : In S}
    (h : Calls P f args x.w fun e w' => e = .returned v ∧ Below x.w.heap.size x.w w') (hs : ∀ w w', S w → Below w.heap.size w w' → S w') :
    Calls P f args x.w fun e w'' => e = .returned v ∧ ∃ y : In S, w'' = y.w :=
  h.mono fun _ _ ⟨he, hb⟩ => ⟨he, ⟨_, hs _ _ x.h hb⟩, rfl⟩
theorem call_same {P : Program} {S : World → Prop} {f : FuncId} {args : Array Value} {v : Value} {x : In S}
    (h : Calls P f args x.w fun e w' => e = .returned v ∧ w' = x.w) :
    Calls P f args x.w fun e w'' => e = .returned v ∧ ∃ y : In S, w'' = y.w :=
  h.mono fun _ _ ⟨he, hb⟩ => ⟨he, x, hb⟩
end Qr
end Go.Proofs.YtpchfmeaplhodaaDoor
