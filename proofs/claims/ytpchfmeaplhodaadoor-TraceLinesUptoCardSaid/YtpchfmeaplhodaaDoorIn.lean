/-
  A part of the proof of this seat's laws.
-/
import Derived.Test.YtpchfmeaplhodaaDoorSp6
import Derived.Lib.SmallJoins
import Derived.SizedLaws
import Derived.OpenShut
namespace Go.Proofs.YtpchfmeaplhodaaDoor
set_option linter.unusedVariables false
set_option linter.unusedSimpArgs false
open Go.Joins Go.ChangeShapes Go.WideShapes Go.RowKit Go.Deep
namespace Opn
/-- a slice of bytes that came in -/
structure Bytes (w : World) (A : Option Addr) (n c : Nat) (xs : List Int) : Prop where
  cap : n ≤ c
  len : xs.length = n
  small : n ≤ 140737488351232
  cells : n = 0 ∨ ∃ b o, A = some ⟨b, o, none⟩ ∧ ∀ i, i < n → w.cell? ⟨b, o + i, none⟩ = some (.int .u8 (xs.getD i 0))
  byte : ∀ i, i < n → Sp.isByte (xs.getD i 0)

theorem Bytes.below {w w' : World} {A : Option Addr} {n c : Nat} {xs : List Int} (h : Bytes w A n c xs) (hb : Below w.heap.size w w') : Bytes w' A n c xs := by
  refine ⟨h.cap, h.len, h.small, ?_, h.byte⟩
  rcases h.cells with h0 | ⟨b, o, hA, hc⟩
  · exact .inl h0
  · refine .inr ⟨b, o, hA, fun i hi => ?_⟩
    have h1 := hc i hi
    rw [← h1]
    exact hb.cell (p := ⟨b, o + i, none⟩) (World.block_lt_of_cell? _ _ h1)
theorem Bytes.at9 {w : World} {A : Option Addr} {n c : Nat} {xs : List Int} (h : Bytes w A n c xs) : n < 9 ∨ ∃ b o, A = some ⟨b, o, none⟩ ∧ ∀ i, i < n → w.cell? ⟨b, o + i, none⟩ = some (.int .u8 (xs.getD i 0)) :=
  h.cells.imp (fun h => by omega) id
theorem Bytes.news {w : World} {A : Option Addr} {n c : Nat} {xs : List Int} (h : Bytes w A n c xs) : n = 0 ∨ ∃ ad, A = some ad ∧ ∀ j u, (xs.map (Value.int .u8))[j]? = some u → w.cell? (ad.add j) = some u := by
  rcases h.cells with h0 | ⟨b, o, hA, hc⟩
  · exact .inl h0
  · refine .inr ⟨_, hA, fun j u hj => ?_⟩
    have hjl : j < xs.length := by
      have := (List.getElem?_eq_some_iff.1 hj).1
      simpa using this
    have hl := h.len
    rw [List.getElem?_map, List.getElem?_eq_getElem hjl] at hj
    simp only [Option.map_some, Option.some.injEq] at hj
    rw [Addr.add_lit, hc j (by omega), ← hj, List.getD_eq_getElem?_getD, List.getElem?_eq_getElem hjl]
    rfl
theorem isByte_of_wf {x : Int} (h : (Lit.int .u8 x).wf = true) : Sp.isByte x := by
  exact bounds_u8 h
section
variable {H : Type} {enc : TypeId × Value → H} {P : Program} {w : World} {base : Nat} {spare : Nat → Bool} {held : Bool}
theorem open_agg5 {r : Reach} {b0 : Nat} {t : TypeId} {f0 f1 f2 f3 f4 : Field} {v : Value} {d : DataW H} {p : List MemPlace} (hs : P.underlying t = some (.struct #[f0, f1, f2, f3, f4])) (hone : oneCellFields P #[f0, f1, f2, f3, f4] = true) (hC : P.cellsOf t = 5)
    (hv : Value.okWide P w r b0 t v) (h : DataW.Trod enc P w base spare held t v d p) :
    ∃ (v0 v1 v2 v3 v4 : Value) (y0 y1 y2 y3 y4 : DataW H × List MemPlace) (n : Nat), v = .agg #[v0, v1, v2, v3, v4] ∧ d = .agg [y0.1, y1.1, y2.1, y3.1, y4.1] ∧ p = y0.2 ++ (y1.2 ++ (y2.2 ++ (y3.2 ++ y4.2))) ∧
      DataW.trod enc P w base spare held n f0.type [v0] = some y0 ∧ DataW.trod enc P w base spare held n f1.type [v1] = some y1 ∧ DataW.trod enc P w base spare held n f2.type [v2] = some y2 ∧ DataW.trod enc P w base spare held n f3.type [v3] = some y3 ∧ DataW.trod enc P w base spare held n f4.type [v4] = some y4 := by
  obtain ⟨cs, rfl, hsz⟩ := okWide_struct hs hv
  obtain ⟨l⟩ := cs
  match l, hsz.trans hC with
  | [c0, c1, c2, c3, c4], _ =>
    obtain ⟨fuel, hf⟩ := h
    obtain ⟨xs, n, _, hx, _, hlen, hg⟩ := DataW.trod_struct hs hf
    obtain ⟨o0, k0⟩ := hone_of hone 0 f0 rfl
    obtain ⟨o1, k1⟩ := hone_of hone 1 f1 rfl
    obtain ⟨o2, k2⟩ := hone_of hone 2 f2 rfl
    obtain ⟨o3, k3⟩ := hone_of hone 3 f3 rfl
    obtain ⟨o4, k4⟩ := hone_of hone 4 f4 rfl
    match xs, hlen with
    | [y0, y1, y2, y3, y4], _ =>
      simp only [Prod.mk.injEq] at hx
      exact ⟨c0, c1, c2, c3, c4, y0, y1, y2, y3, y4, n, rfl, by simpa using hx.1, by simpa using hx.2, by simpa [Value.cells, o0, k0] using hg 0 f0 rfl, by simpa [Value.cells, o1, k1] using hg 1 f1 rfl, by simpa [Value.cells, o2, k2] using hg 2 f2 rfl, by simpa [Value.cells, o3, k3] using hg 3 f3 rfl, by simpa [Value.cells, o4, k4] using hg 4 f4 rfl⟩
/-- five bytes by value -/
theorem open_five {r : Reach} {b0 : Nat} {t e : TypeId} {f0 f1 f2 f3 f4 : Field} {v : Value} {d : DataW H} {p : List MemPlace} (hs : P.underlying t = some (.struct #[f0, f1, f2, f3, f4])) (hone : oneCellFields P #[f0, f1, f2, f3, f4] = true) (hC : P.cellsOf t = 5)
    (he : P.underlying e = some (.int .u8)) (t0 : f0.type = e) (t1 : f1.type = e) (t2 : f2.type = e) (t3 : f3.type = e) (t4 : f4.type = e)
    (hv : Value.okWide P w r b0 t v) (h : DataW.Trod enc P w base spare held t v d p) :
    ∃ a b c d' f : Int, v = .agg #[.int .u8 a, .int .u8 b, .int .u8 c, .int .u8 d', .int .u8 f] ∧ Sp.isByte a ∧ Sp.isByte b ∧ Sp.isByte c ∧ Sp.isByte d' ∧ Sp.isByte f := by
  obtain ⟨v0, v1, v2, v3, v4, y0, y1, y2, y3, y4, n, rfl, -, -, h0, h1, h2, h3, h4⟩ := open_agg5 hs hone hC hv h
  rw [t0] at h0; rw [t1] at h1; rw [t2] at h2; rw [t3] at h3; rw [t4] at h4
  obtain ⟨a, e0, -, wa⟩ := DataW.trod_int he h0
  obtain ⟨b, e1, -, wb⟩ := DataW.trod_int he h1
  obtain ⟨c, e2, -, wc⟩ := DataW.trod_int he h2
  obtain ⟨d', e3, -, wd⟩ := DataW.trod_int he h3
  obtain ⟨f, e4, -, wf⟩ := DataW.trod_int he h4
  simp at e0 e1 e2 e3 e4
  subst e0 e1 e2 e3 e4
  exact ⟨a, b, c, d', f, rfl, isByte_of_wf wa, isByte_of_wf wb, isByte_of_wf wc, isByte_of_wf wd, isByte_of_wf wf⟩
/-- a slice of bytes -/
theorem open_bytes {t e : TypeId} {fuel : Nat} {a : Option Addr} {n c : Nat} {x : DataW H × List MemPlace} (ht : P.underlying t = some (.slice e)) (he : P.underlying e = some (.int .u8)) (hE : P.cellsOf e = 1)
    (h : DataW.trod enc P w base spare held fuel t [.slice a n c] = some x) (hsmall : n ≤ 140737488351232) : ∃ xs, Bytes w a n c xs := by
  rcases open_ints ht he hE h with ⟨hcs, _⟩ | ⟨y, l, cc, zs, hcs, _, hl, hm, hz, _, hcell, hwz⟩
  · simp at hcs
    obtain ⟨rfl, rfl, rfl⟩ := hcs
    exact ⟨[], Nat.le_refl _, rfl, hsmall, .inl rfl, fun i hi => by omega⟩
  · simp at hcs
    obtain ⟨rfl, rfl, rfl⟩ := hcs
    have hz' : n ≤ zs.length := by
      rw [hz]; split <;> omega
    refine ⟨zs.take n, hl, by simp; omega, hsmall, ?_, ?_⟩
    · by_cases h0 : n = 0
      · exact .inl h0
      · right
        obtain ⟨b, o, rfl, hc⟩ := ints_at hcell (by omega)
        refine ⟨b, o, rfl, fun i hi => ?_⟩
        rw [hc i (by omega)]
        simp [List.getD_eq_getElem?_getD, List.getElem?_take, hi]
    · intro i hi
      have : (zs.take n).getD i 0 ∈ zs := by
        rw [List.getD_eq_getElem?_getD, List.getElem?_take, if_pos hi, List.getElem?_eq_getElem (by omega)]
        exact List.getElem_mem _
      exact isByte_of_wf (hwz _ this)
/-- how long a slice of one-cell whole numbers may be, off the row's weights -/
theorem sized_bytes {a : Option Addr} {len cap : Nat} {d : DataW H} {ps : List MemPlace} {ts : List TypeId} {ds : List (DataW H)} {j : Nat} {t e : TypeId}
    (hsz : (DataW.weightsEach P ts ds).all (· ≤ reachBytes) = true) (ht : ts[j]? = some t) (hd : ds[j]? = some d) (hu : P.underlying t = some (.slice e)) (he : P.underlying e = some (.int .u8)) (hc : P.cellsOf e = 1) (hB : P.bytesOf e = 1)
    (h : DataW.Trod enc P w base spare held t (.slice a len cap) d ps) : len ≤ 140737488351232 := by
  obtain ⟨fuel, hf⟩ := h
  rcases open_ints hu he hc hf with ⟨hcs, -⟩ | ⟨x, l, c, zs, hcs, -, hl, -, hz, hx, -, -⟩
  · simp [Value.cells] at hcs
    omega
  · simp [Value.cells] at hcs
    obtain ⟨-, rfl, rfl⟩ := hcs
    have hd' := (Prod.mk.inj hx).1
    rw [hd'] at hd
    have z := sized_slice hsz ht hd hu
    rw [hB, Nat.mul_one] at z
    have h1 : len ≤ zs.length := by rw [hz]; split <;> omega
    simp [lits] at z
    have hr := reachBytes_lt
    unfold reachBytes at z hr
    omega
end
end Opn
end Go.Proofs.YtpchfmeaplhodaaDoor
