/-
  A part of the proof of this seat's laws: what the kinds' variable holds; a block of cells.
-/
import Derived.Test.YtpchfmeaplhodaaDoorTr6
import Derived.Test.YtpchfmeaplhodaaDoorTr3
import Derived.Test.YtpchfmeaplhodaaDoorTpM
import Derived.Laws.Rows
namespace Go.Proofs.YtpchfmeaplhodaaDoor
set_option linter.unusedVariables false
set_option linter.unusedSimpArgs false
open Go.RowKit Go.Shelf
namespace Tr
open Ap Sg
set_option maxHeartbeats 8000000
/-- a block of cells, none frozen -/
def Blk (w : World) (b : Nat) (cs : Array Value) (T : TypeId) : Prop := w.heap[b]? = some (.cells cs T (0, 0))
theorem Blk.lt {w : World} {b : Nat} {cs : Array Value} {T : TypeId} (h : Blk w b cs T) : b < w.heap.size := (Array.getElem?_eq_some_iff.1 h).1
theorem Blk.below {w w' : World} {b : Nat} {cs : Array Value} {T : TypeId} (h : Blk w b cs T) (hb : Below w.heap.size w w') : Blk w' b cs T := (hb.block b h.lt).trans h
theorem Blk.low {w w' : World} {B b : Nat} {cs : Array Value} {T : TypeId} (h : Blk w b cs T) (hb : Below B w w') (hlt : b < B) : Blk w' b cs T := (hb.block b hlt).trans h
theorem Blk.cell {w : World} {b : Nat} {cs : Array Value} {T : TypeId} (h : Blk w b cs T) (i : Nat) (v : Value) (hi : cs[i]? = some v) : w.cell? ⟨b, i, none⟩ = some v := by
  unfold Blk at h
  simp [World.cell?, h, hi]
theorem Blk.frozen {w : World} {b : Nat} {cs : Array Value} {T : TypeId} (h : Blk w b cs T) (i : Nat) : w.frozen? ⟨b, i, none⟩ = false := by
  unfold Blk at h
  simp [World.frozen?, h]
theorem Blk.new (w : World) (cs : Array Value) (T : TypeId) : Blk (w.alloc (.cells cs T)) w.heap.size cs T := by
  show (w.heap.push _)[w.heap.size]? = _
  simp
theorem Blk.set {w : World} {b : Nat} {cs : Array Value} {T : TypeId} (h : Blk w b cs T) (i : Nat) (v : Value) : Blk (w.setCell ⟨b, i, none⟩ v) b (cs.setIfInBounds i v) T := heap_set h i v
theorem Blk.cells4 {w : World} {b : Nat} {a0 a1 a2 a3 : Value} {T : TypeId} (h : Blk w b #[a0, a1, a2, a3] T) : w.cell? ⟨b, 0, none⟩ = some a0 ∧ w.cell? ⟨b, 1, none⟩ = some a1 ∧ w.cell? ⟨b, 2, none⟩ = some a2 ∧ w.cell? ⟨b, 3, none⟩ = some a3 :=
  ⟨h.cell 0 _ rfl, h.cell 1 _ rfl, h.cell 2 _ rfl, h.cell 3 _ rfl⟩
/-- the kinds' cells -/
def KC : Array Value := #[.string ⟨#[105, 110]⟩, .bool true, .bool false, .bool false, .string ⟨#[111, 117, 116]⟩, .bool true, .bool false, .bool false, .string ⟨#[100, 114, 111, 112, 32, 105, 110]⟩, .bool false, .bool false, .bool false, .string ⟨#[100, 114, 111, 112, 32, 111, 117, 116]⟩, .bool false, .bool false, .bool false, .string ⟨#[116, 105, 99, 107]⟩, .bool false, .bool true, .bool false, .string ⟨#[114, 111, 111, 109]⟩, .bool false, .bool true, .bool false, .string ⟨#[102, 97, 105, 108, 115, 121, 110, 99]⟩, .bool false, .bool true, .bool false, .string ⟨#[97, 114, 109]⟩, .bool false, .bool true, .bool true, .string ⟨#[112, 111, 119, 101, 114]⟩, .bool false, .bool false, .bool true]
def Kn (w : World) : Prop := ∃ T fr, w.heap[0]? = some (.cells KC T fr)
theorem Kn.lt {w : World} (h : Kn w) : 0 < w.heap.size := by
  obtain ⟨T, fr, h⟩ := h
  exact (Array.getElem?_eq_some_iff.1 h).1
theorem Kn.below {w w' : World} (h : Kn w) (hb : Below w.heap.size w w') : Kn w' := by
  have hl := h.lt
  obtain ⟨T, fr, h⟩ := h
  exact ⟨T, fr, (hb.block _ hl).trans h⟩
theorem Kn.at_ {w : World} (h : Kn w) (i : Nat) (v : Value) (hi : KC[i]? = some v) : w.cell? ⟨0, i, none⟩ = some v := by
  obtain ⟨T, fr, h⟩ := h
  simp [World.cell?, h, hi]
theorem Kn.load {w : World} (h : Kn w) : (loadVar 69 ⟨0, 0, none⟩).run Tryd.prog w = .ok (.agg KC) w := by
  obtain ⟨T, fr, h⟩ := h
  exact run_loadVar_row w _ T _ KC fr _ h Tryd.underlying69 rfl (by kernel_rfl)
/-- all that the package-level variables hold -/
structure Gl (w : World) : Prop where
  ml : Ml w
  nv : Nv w
  kn : Kn w
theorem Gl.below {w w' : World} (h : Gl w) (hb : Below w.heap.size w w') : Gl w' := ⟨h.ml.below hb, h.nv.below hb, h.kn.below hb⟩
/-- an event by value -/
abbrev evA (k n keep : Int) (A : Option Addr) (len c : Nat) : Value := .agg #[.int .i64 k, .int .i64 n, .int .i64 keep, .slice A len c]
abbrev evC (k n keep : Int) (A : Option Addr) (len c : Nat) : Array Value := #[.int .i64 k, .int .i64 n, .int .i64 keep, .slice A len c]
end Tr
end Go.Proofs.YtpchfmeaplhodaaDoor
