/-
  A part of the proof of this seat's laws.
-/
import Derived.Lib.Bytes
import Derived.Lib.IndexLaws
import Derived.Below
import Derived.Laws.BitsLemmas
import Derived.WalkKit
namespace Go.Proofs.YtpchfmeaplhodaaDoor
set_option linter.unusedVariables false
set_option linter.unusedSimpArgs false
namespace Sp
/-- may a byte be a sign? -/
def sgn (c : Int) : Bool := decide (33 ≤ c ∧ c ≤ 126 ∧ ¬ (65 ≤ c ∧ c ≤ 90) ∧ ¬ (97 ≤ c ∧ c ≤ 122) ∧ ¬ (48 ≤ c ∧ c ≤ 57))
/-- may these five be signs? -/
def right (a b c d f : Int) : Bool :=
  sgn a && sgn b && sgn c && sgn d && sgn f && decide (a ≠ b ∧ a ≠ c ∧ a ≠ d ∧ a ≠ f ∧ b ≠ c ∧ b ≠ d ∧ b ≠ f ∧ c ≠ d ∧ c ≠ f ∧ d ≠ f)
/-- what the code asks of the k-th sign -/
def okAt (xs : List Int) (k : Nat) : Prop :=
  32 < xs.getD k 0 ∧ xs.getD k 0 ≤ 126 ∧ (bits BinOp.or IntKind.u8 (xs.getD k 0) 32 < 97 ∨ 122 < bits BinOp.or IntKind.u8 (xs.getD k 0) 32) ∧
  (xs.getD k 0 < 48 ∨ 57 < xs.getD k 0) ∧ (k : Int) ≤ Lib.indexByte (Lib.bytesOf xs) (UInt8.ofNat (xs.getD k 0).toNat)
/-- what the document's text asks of the k-th sign -/
def okRef (xs : List Int) (k : Nat) : Prop := sgn (xs.getD k 0) = true ∧ ∀ j, j < k → xs.getD j 0 ≠ xs.getD k 0
def isByte (x : Int) : Prop := 0 ≤ x ∧ x ≤ 255

theorem or32 (x : Int) (h : isByte x) : (bits BinOp.or IntKind.u8 x 32 < 97 ∨ 122 < bits BinOp.or IntKind.u8 x 32) ↔ ¬ (65 ≤ x ∧ x ≤ 90) ∧ ¬ (97 ≤ x ∧ x ≤ 122) := by
  obtain ⟨h0, h1⟩ := h
  have key : ∀ n : Fin 256, ((bits BinOp.or IntKind.u8 (n.val : Int) 32 < 97 ∨ 122 < bits BinOp.or IntKind.u8 (n.val : Int) 32) ↔ ¬ (65 ≤ (n.val : Int) ∧ (n.val : Int) ≤ 90) ∧ ¬ (97 ≤ (n.val : Int) ∧ (n.val : Int) ≤ 122)) := by decide +kernel
  have := key ⟨x.toNat, by omega⟩
  have e : ((x.toNat : Nat) : Int) = x := by omega
  simpa only [e] using this

theorem byte_inj {x y : Int} (hx : isByte x) (hy : isByte y) (h : UInt8.ofNat x.toNat = UInt8.ofNat y.toNat) : x = y := by
  have := congrArg UInt8.toNat h
  obtain ⟨h0, h1⟩ := hx
  obtain ⟨h2, h3⟩ := hy
  simp only [UInt8.toNat_ofNat'] at this
  omega

theorem idx_ge (l : List UInt8) (c : UInt8) (k : Nat) (hc : l[k]? = some c) : (k : Int) ≤ Lib.indexByte l c ↔ ∀ j, j < k → l[j]? ≠ some c := by
  have h1 := Lib.indexByte_ge l c
  by_cases hn : Lib.indexByte l c = -1
  · exact absurd hc (Lib.indexByte_none hn k)
  · obtain ⟨o, ho⟩ : ∃ o : Nat, Lib.indexByte l c = o := ⟨(Lib.indexByte l c).toNat, by omega⟩
    obtain ⟨h2, h3⟩ := Lib.indexByte_some ho
    rw [ho]
    constructor
    · intro hk j hj
      exact h3 j (by omega)
    · intro h
      by_cases hk : k ≤ o
      · omega
      · exact absurd h2 (h o (by omega))

theorem bytesOf_get (xs : List Int) (k : Nat) (h : k < xs.length) : (Lib.bytesOf xs)[k]? = some (UInt8.ofNat (xs.getD k 0).toNat) := by
  unfold Lib.bytesOf
  rw [List.getElem?_map, List.getElem?_eq_getElem h]
  simp [List.getD, h]

theorem okAt_ref (xs : List Int) (k : Nat) (hk : k < xs.length) (hb : ∀ j, j < xs.length → isByte (xs.getD j 0)) : okAt xs k ↔ okRef xs k := by
  unfold okAt okRef sgn
  rw [or32 _ (hb k hk), idx_ge _ _ k (bytesOf_get xs k hk), decide_eq_true_eq]
  have e : (∀ j, j < k → (Lib.bytesOf xs)[j]? ≠ some (UInt8.ofNat (xs.getD k 0).toNat)) ↔ ∀ j, j < k → xs.getD j 0 ≠ xs.getD k 0 := by
    constructor
    · intro h j hj he
      refine h j hj ?_
      rw [bytesOf_get xs j (by omega), he]
    · intro h j hj he
      rw [bytesOf_get xs j (by omega), Option.some.injEq] at he
      exact h j hj (byte_inj (hb j (by omega)) (hb k hk) he)
  rw [e]
  constructor
  · rintro ⟨a, b, ⟨c, d⟩, f, g⟩
    exact ⟨⟨by omega, b, c, d, by omega⟩, g⟩
  · rintro ⟨⟨a, b, c, d, f⟩, g⟩
    exact ⟨by omega, b, ⟨c, d⟩, by omega, g⟩

theorem all5 {p : Nat → Prop} : (∀ k, k < 5 → p k) ↔ p 0 ∧ p 1 ∧ p 2 ∧ p 3 ∧ p 4 := by
  constructor
  · intro h
    exact ⟨h 0 (by omega), h 1 (by omega), h 2 (by omega), h 3 (by omega), h 4 (by omega)⟩
  · rintro ⟨h0, h1, h2, h3, h4⟩ k hk
    have e : k = 0 ∨ k = 1 ∨ k = 2 ∨ k = 3 ∨ k = 4 := by omega
    rcases e with rfl | rfl | rfl | rfl | rfl <;> assumption

theorem right_ref (a b c d f : Int) : right a b c d f = true ↔ ∀ k, k < 5 → okRef [a, b, c, d, f] k := by
  rw [all5]
  unfold okRef right
  simp only [Bool.and_eq_true, decide_eq_true_eq]
  simp only [List.getD_eq_getElem?_getD, List.length_cons, List.getElem?_cons_zero, List.getElem?_cons_succ, Option.getD_some]
  constructor
  · rintro ⟨⟨⟨⟨⟨h0, h1⟩, h2⟩, h3⟩, h4⟩, h⟩
    refine ⟨⟨h0, fun j hj => by omega⟩, ⟨h1, ?_⟩, ⟨h2, ?_⟩, ⟨h3, ?_⟩, ⟨h4, ?_⟩⟩ <;> intro j hj
    · obtain rfl : j = 0 := by omega
      simp; omega
    · have e : j = 0 ∨ j = 1 := by omega
      rcases e with rfl | rfl <;> simp <;> omega
    · have e : j = 0 ∨ j = 1 ∨ j = 2 := by omega
      rcases e with rfl | rfl | rfl <;> simp <;> omega
    · have e : j = 0 ∨ j = 1 ∨ j = 2 ∨ j = 3 := by omega
      rcases e with rfl | rfl | rfl | rfl <;> simp <;> omega
  · rintro ⟨⟨h0, -⟩, ⟨h1, g1⟩, ⟨h2, g2⟩, ⟨h3, g3⟩, ⟨h4, g4⟩⟩
    refine ⟨⟨⟨⟨⟨h0, h1⟩, h2⟩, h3⟩, h4⟩, ?_⟩
    have a1 := g1 0 (by omega); have a2 := g2 0 (by omega); have a3 := g3 0 (by omega); have a4 := g4 0 (by omega)
    have b2 := g2 1 (by omega); have b3 := g3 1 (by omega); have b4 := g4 1 (by omega)
    have c3 := g3 2 (by omega); have c4 := g4 2 (by omega); have d4 := g4 3 (by omega)
    simp at a1 a2 a3 a4 b2 b3 b4 c3 c4 d4
    exact ⟨a1, a2, a3, a4, b2, b3, b4, c3, c4, d4⟩

theorem bytes5 {a b c d f : Int} (ha : isByte a) (hb : isByte b) (hc : isByte c) (hd : isByte d) (hf : isByte f) : ∀ j, j < [a, b, c, d, f].length → isByte ([a, b, c, d, f].getD j 0) := by
  intro j hj
  have e : j = 0 ∨ j = 1 ∨ j = 2 ∨ j = 3 ∨ j = 4 := by simp at hj; omega
  rcases e with rfl | rfl | rfl | rfl | rfl <;> assumption

theorem right_ok {a b c d f : Int} (ha : isByte a) (hb : isByte b) (hc : isByte c) (hd : isByte d) (hf : isByte f) :
    right a b c d f = true ↔ ∀ k, k < 5 → okAt [a, b, c, d, f] k := by
  rw [right_ref]
  have h := bytes5 ha hb hc hd hf
  constructor
  · intro g k hk; exact (okAt_ref _ k (by simpa using hk) h).2 (g k hk)
  · intro g k hk; exact (okAt_ref _ k (by simpa using hk) h).1 (g k hk)

theorem right_turned (a b c d f : Int) : right f d a b c = right a b c d f := by
  rw [Bool.eq_iff_iff]
  unfold right
  simp only [Bool.and_eq_true, decide_eq_true_eq]
  constructor
  · rintro ⟨⟨⟨⟨⟨h0, h1⟩, h2⟩, h3⟩, h4⟩, h⟩
    exact ⟨⟨⟨⟨⟨h2, h3⟩, h4⟩, h1⟩, h0⟩, by omega⟩
  · rintro ⟨⟨⟨⟨⟨h0, h1⟩, h2⟩, h3⟩, h4⟩, h⟩
    exact ⟨⟨⟨⟨⟨h4, h3⟩, h0⟩, h1⟩, h2⟩, by omega⟩
theorem right_twice (a c d f : Int) : right a a c d f = false := by
  unfold right; simp
theorem right_other (a b v d f : Int) (h : sgn v = false) : right a b v d f = false := by
  unfold right; simp [h]
theorem right_plain : right 124 94 126 92 38 = true := by decide
end Sp
end Go.Proofs.YtpchfmeaplhodaaDoor
