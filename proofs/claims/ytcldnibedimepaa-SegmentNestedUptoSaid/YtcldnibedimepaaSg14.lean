/-
  A part of the proof of this seat's laws: the reference's fields.
-/
import Derived.Deep.RegionLaw
import Derived.Deep.RegionLawGrows
import Derived.Deep.RegionWith
import Derived.Test.YtcldnibedimepaaSg10
namespace Go.Proofs.Ytcldnibedimepaa
set_option linter.unusedVariables false
set_option linter.unusedSimpArgs false
open Go.RowKit Go.Shelf
namespace Sg
open Ap
theorem refName_three (s : List UInt8) (w : World) : Calls Try.prog 21 #[.string (Sp.bs s)] w fun e w' => e = .returned (.string (Sp.bs (s.take 3))) ∧ w' = w := refName_calls s w
set_option maxHeartbeats 4000000
/-- append onto a one-cell slice of one's own, as one step of a region that draws -/
theorem step_append_one {P : Program} {ops : Array Oper} {o : Oper} {a : Act} {w : World} {K : Act → World → Prop} {Q : Exit → Act → World → Prop} {E : Prop}
    (hg : o.guard = none) (s x : Operand) (t : TypeId) (hop : o.op = Op.call { callee := Callee.builtin Builtin.append, args := #[s, x], argTypes := #[t, t] })
    (e : TypeId) (i : TypeInfo) (z : Value) (bytes : Nat) (h1 : P.underlying t = some (.slice e)) (h2 : P.info? e = some i) (h3 : i.zero = some z) (h4 : i.size = 1) (h5 : i.bytes = bytes) (h6 : z.cells.size = 1)
    (base g : Nat) (u : Value) (hs : a.eval s = .slice (some ⟨g, 0, none⟩) 1 1) (hm : Mine w base (some ⟨g, 0, none⟩) 1 1 [u]) (hbase : base ≤ w.heap.size)
    (X : Option Addr) (m cx : Nat) (news : List Value) (hx : a.eval x = .slice X m cx) (hn : news.length = m) (hX : m = 0 ∨ ∃ ad, X = some ad ∧ ∀ j v, news[j]? = some v → w.cell? (ad.add j) = some v) (h1c : ∀ v ∈ news, v.oneCell' = true)
    (b1 : 1 + m ≤ maxLen) (b2 : (1 + m) * bytes ≤ 140737488355328)
    (hK : ∀ A' c' w', Mine w' base A' (1 + m) c' (u :: news) → Below w.heap.size w w' → K (a.put o.dst (.slice A' (1 + m) c')) w') :
    if Region.wanted o (yielded ops a.tmps) = true then Oper.wp P o a w K Q else E := by
  have hwan : Region.wanted o (yielded ops a.tmps) = true := by simp [Region.wanted, hg]
  obtain ⟨g', hA, -, -, hcell0⟩ := hm.cell (by omega)
  cases hA
  have hcell : ∀ j v, [u][j]? = some v → w.cell? ((⟨g, 0, none⟩ : Addr).add j) = some v := fun j v hj => by rw [Addr.add_lit]; exact hcell0 j v hj
  by_cases h0 : m = 0
  · subst h0
    obtain rfl := List.eq_nil_of_length_eq_zero hn
    rw [if_pos hwan]
    have hrun := run_append_zero (P := P) w t o.type e i h1 h2 (some ⟨g, 0, none⟩) X 1 1 cx (Nat.le_refl _)
    have hk := hK (some ⟨g, 0, none⟩) 1 w hm (Below.refl _ _)
    unfold Oper.wp
    simp [execOp, hop, resolve, invoke, builtin, hs, hx, hrun, Result.andThen]
    exact hk
  · obtain ⟨ad, rfl, hc⟩ := hX.resolve_left h0
    refine step_append_grows hg s x t hop e i z 1 bytes h1 h2 h3 h4 h5 h6 (by omega) (some ⟨g, 0, none⟩) 1 1 [u] hs (by simp) rfl (fun b hb => by cases hb; exact hcell) ad m cx news hx (by omega) hc h1c (by omega) b1 b2 ?_
    intro v' w' hown hgrow
    obtain ⟨A', c', rfl, hmine⟩ := mine_of_owns hown
    exact hK A' c' w' (hmine.mono hbase) ((Below.refl _ _).grown hgrow (Nat.le_refl _) (fun k hk => by cases hk))
/-- the cells of texts, at any road -/
theorem Tx.news {w : World} {A : Option Addr} {n c : Nat} {xs : List (List UInt8)} (h : Tx w A n c xs) : n = 0 ∨ ∃ ad, A = some ad ∧ ∀ j v, (Sp.vals xs)[j]? = some v → w.cell? (ad.add j) = some v := by
  rcases h.cells with h0 | ⟨b, o, rfl, -, hc⟩
  · exact .inl h0
  · refine .inr ⟨_, rfl, fun j v hj => ?_⟩
    rw [List.getElem?_map] at hj
    cases hx : xs[j]? with
    | none => rw [hx] at hj; cases hj
    | some x =>
      rw [hx] at hj
      cases hj
      rw [Addr.add_lit]
      exact hc j x hx
theorem vals_one (xs : List (List UInt8)) : ∀ v ∈ Sp.vals xs, v.oneCell' = true := by
  intro v hv
  obtain ⟨x, -, rfl⟩ := List.mem_map.1 hv
  rfl
section
variable (s : List UInt8) (F P R E U : UInt8) (hs : s.length ≤ 100000) (w : World)
include hs
theorem refFields_other (h1 : s.take 3 ≠ Sp.msh) :
    Calls Try.prog 27 #[.string (Sp.bs s), dv F P R E U] w fun e w' =>
      ∃ A C, e = .returned (.slice A (Sp.fields s F).length C) ∧ Tx w' A (Sp.fields s F).length C (Sp.fields s F) ∧ Below w.heap.size w w' := by
  have huD := Try.underlying23
  have h5 := Five.new F P R E U w
  have hB : Below w.heap.size w (w.alloc (.cells #[.int .u8 (F.toNat : Int), .int .u8 (P.toNat : Int), .int .u8 (R.toNat : Int), .int .u8 (E.toNat : Int), .int .u8 (U.toNat : Int)] 23)) := (Below.refl _ _).alloc (Nat.le_refl _) _
  have H1 := take3_no h1
  have Hn := Lib.hid (refName_calls s)
  have Hc := Lib.hid (refCut_calls s F hs)
  have hf : Hid (Sp.fields s F = (Sp.cutL F s).tail) := by unfold Sp.fields; rw [if_pos h1]; rfl
  obtain ⟨x, r, hxr⟩ : ∃ x r, Sp.cutL F s = x :: r := by
    cases h : Sp.cutL F s with
    | nil => exact (Sp.cutL_ne F s h).elim
    | cons x r => exact ⟨x, r, rfl⟩
  have hlen := Sp.cutL_length F s
  have hcnt := List.count_le_length (a := F) (l := s)
  rw [hxr] at hlen Hc hf
  rw [List.length_cons] at hlen Hc
  rw [List.tail_cons] at hf
  have c0 : (1 : Int) ≤ (r.length : Int) + 1 := by omega
  have c1 : (r.length : Int) ≤ 100000 := by omega
  clear h1 hlen hcnt hxr
  go_enter Try.func27, Try.ntmps27
  go_wp2_with fail
  have hc := h5.cells
  generalize (w.alloc (.cells #[.int .u8 (F.toNat : Int), .int .u8 (P.toNat : Int), .int .u8 (R.toNat : Int), .int .u8 (E.toNat : Int), .int .u8 (U.toNat : Int)] 23)) = W at *
  go_wp2_with fail
  refine (Hn.out _).mono ?_
  rintro e w' ⟨rfl, rfl⟩
  go_wp2_with fail
  refine (Hc.out _).mono ?_
  rintro e w1 ⟨A, C, rfl, hm, hb⟩
  have htx := Tx.of hm
  have hcap := hm.cap
  have c2 : (r.length : Int) + 1 ≤ (C : Int) := by omega
  clear hc hm
  obtain ⟨b, o, rfl, hbl, hcc⟩ := htx.cells.resolve_left (by omega)
  clear htx
  have hbb := hB.trans (hb.mono hB.size)
  have Hr : Hid (∀ j y, r[j]? = some y → w1.cell? ⟨b, o + 1 + j, none⟩ = some (.string (Sp.bs y))) := Lib.hid (fun j y hj => by
    have := hcc (j + 1) y (by rw [List.getElem?_cons_succ]; exact hj)
    rw [show o + 1 + j = o + (j + 1) by omega]; exact this)
  clear hcc hb hB h5
  go_wp2_with fail
  all_goals go_ret
  all_goals rw [hf.out]
  all_goals first
    | exact ⟨_, _, rfl, ⟨by omega, rfl, .inr ⟨b, o + 1, rfl, hbl, Hr.out⟩⟩, hbb⟩
    | exact ⟨_, _, rfl, ⟨by omega, rfl, .inl (by omega)⟩, hbb⟩
theorem refFields_none (h1 : s.take 3 = Sp.msh) (h2 : s.take 4 ≠ Sp.msh ++ [F]) :
    Calls Try.prog 27 #[.string (Sp.bs s), dv F P R E U] w fun e w' => e = .returned (.slice none 0 0) ∧ Below w.heap.size w w' := by
  have huD := Try.underlying23
  have h5 := Five.new F P R E U w
  have hB : Below w.heap.size w (w.alloc (.cells #[.int .u8 (F.toNat : Int), .int .u8 (P.toNat : Int), .int .u8 (R.toNat : Int), .int .u8 (E.toNat : Int), .int .u8 (U.toNat : Int)] 23)) := (Below.refl _ _).alloc (Nat.le_refl _) _
  have H1 := take3_yes h1
  have Hn := Lib.hid (refName_calls s)
  have hz := Sp.bs_size s
  by_cases h4 : s.length < 4
  · have c1 : (s.length : Int) < 4 := by omega
    clear h1 h2
    go_enter Try.func27, Try.ntmps27
    go_wp2_with fail
    have hc := h5.cells
    generalize (w.alloc (.cells #[.int .u8 (F.toNat : Int), .int .u8 (P.toNat : Int), .int .u8 (R.toNat : Int), .int .u8 (E.toNat : Int), .int .u8 (U.toNat : Int)] 23)) = W at *
    go_wp2_with fail
    refine (Hn.out _).mono ?_
    rintro e w' ⟨rfl, rfl⟩
    go_wp2_with fail
    go_quiet (fail)
    all_goals go_wp2_with fail
    all_goals go_ret
    all_goals exact ⟨rfl, below_drewN hB _⟩
  · have c1 : ¬ (s.length : Int) < 4 := by omega
    have c2 : (3 : Int) < (s.length : Int) := by omega
    obtain ⟨y, hy⟩ : ∃ y, s[3]? = some y := ⟨_, List.getElem?_eq_getElem (by omega)⟩
    have hyk := bs_at hy
    have hyF : ((y.toNat : Int) == (F.toNat : Int)) = false := by
      rw [beq_eq_false_iff_ne]
      intro e
      have : y = F := UInt8.toNat_inj.1 (by omega)
      subst this
      refine h2 ?_
      rw [List.take_add_one, hy, h1]; rfl
    have hyF' : ((y.toNat : Int) != (F.toNat : Int)) = true := by rw [bne, hyF]; rfl
    clear h1 h2 hy
    go_enter Try.func27, Try.ntmps27
    go_wp2_with fail
    have hc := h5.cells
    generalize (w.alloc (.cells #[.int .u8 (F.toNat : Int), .int .u8 (P.toNat : Int), .int .u8 (R.toNat : Int), .int .u8 (E.toNat : Int), .int .u8 (U.toNat : Int)] 23)) = W at *
    go_wp2_with fail
    refine (Hn.out _).mono ?_
    rintro e w' ⟨rfl, rfl⟩
    go_wp2_with fail
    go_quiet (fail)
    all_goals go_wp2_with fail
    all_goals go_ret
    all_goals exact ⟨rfl, below_drewN hB _⟩
omit hs in
theorem keepA {v : World} (X : Obj) (h : (Below w.heap.size w v ∧ Five w.heap.size F P R E U v) ∧ v.cell? ⟨w.heap.size, 0, none⟩ = some (.int .u8 (F.toNat : Int))) :
    (Below w.heap.size w (v.alloc X) ∧ Five w.heap.size F P R E U (v.alloc X)) ∧ (v.alloc X).cell? ⟨w.heap.size, 0, none⟩ = some (.int .u8 (F.toNat : Int)) :=
  ⟨⟨h.1.1.alloc h.1.1.size _, h.1.2.alloc _⟩, (h.1.2.alloc X).cells.1⟩
omit hs in
theorem keepB {v v' : World} (h : (Below w.heap.size w v ∧ Five w.heap.size F P R E U v) ∧ v.cell? ⟨w.heap.size, 0, none⟩ = some (.int .u8 (F.toNat : Int))) (hb : Below v.heap.size v v') :
    (Below w.heap.size w v' ∧ Five w.heap.size F P R E U v') ∧ v'.cell? ⟨w.heap.size, 0, none⟩ = some (.int .u8 (F.toNat : Int)) :=
  ⟨⟨h.1.1.trans (hb.mono h.1.1.size), h.1.2.below hb h.1.2.lt⟩, (h.1.2.below hb h.1.2.lt).cells.1⟩
set_option maxHeartbeats 8000000 in
theorem refFields_msh (h2 : s.take 4 = Sp.msh ++ [F]) :
    Calls Try.prog 27 #[.string (Sp.bs s), dv F P R E U] w fun e w' =>
      ∃ A C, e = .returned (.slice A (Sp.fields s F).length C) ∧ Tx w' A (Sp.fields s F).length C (Sp.fields s F) ∧ Below w.heap.size w w' := by
  have huD := Try.underlying23
  have h5 := Five.new F P R E U w
  have hB : Below w.heap.size w (w.alloc (.cells #[.int .u8 (F.toNat : Int), .int .u8 (P.toNat : Int), .int .u8 (R.toNat : Int), .int .u8 (E.toNat : Int), .int .u8 (U.toNat : Int)] 23)) := (Below.refl _ _).alloc (Nat.le_refl _) _
  have h1 : s.take 3 = Sp.msh := by
    have := congrArg (List.take 3) h2
    rw [List.take_take] at this
    exact this
  have H1 := take3_yes h1
  have hf : Hid (Sp.fields s F = [F] :: Sp.cutL F (s.drop 4)) := by unfold Sp.fields; rw [if_neg (not_not_intro h1), if_pos h2]; rfl
  have Hn := Lib.hid (refName_calls s)
  have hz := Sp.bs_size s
  have h4 : 4 ≤ s.length := by have := congrArg List.length h2; simp at this; omega
  have c1 : ¬ (s.length : Int) < 4 := by omega
  have c2 : (3 : Int) < (s.length : Int) := by omega
  have c3 : (4 : Int) ≤ (s.length : Int) := by omega
  have hyk : ∀ h, (Sp.bs s)[3]'h = F := bs_at (by
    have := congrArg (fun l => l[3]?) h2
    simpa using this)
  have e1 : (Sp.bs s).extract 3 4 = Sp.bs [F] := by
    rw [Sp.bs_extract]; congr 1
    have := congrArg (List.drop 3) h2
    simpa [List.drop_take] using this
  have e2 : (Sp.bs s).extract 4 s.length = Sp.bs (s.drop 4) := by
    rw [Sp.bs_extract, List.take_of_length_le (by simp)]
  have Hc := Lib.hid (refCut_calls (s.drop 4) F (by rw [List.length_drop]; omega))
  have hlen := Sp.cutL_length F (s.drop 4)
  have hcnt := List.count_le_length (a := F) (l := s.drop 4)
  rw [List.length_drop] at hcnt
  generalize Sp.cutL F (s.drop 4) = cl at *
  have hcl : cl.length ≤ 100001 := by omega
  obtain ⟨i0, hi, hz0, hz1, hz2⟩ := info_parts infoS
  clear h1 h2 hlen hcnt
  go_enter Try.func27, Try.ntmps27
  go_wp2_with fail
  have hc := h5.cells
  generalize (w.alloc (.cells #[.int .u8 (F.toNat : Int), .int .u8 (P.toNat : Int), .int .u8 (R.toNat : Int), .int .u8 (E.toNat : Int), .int .u8 (U.toNat : Int)] 23)) = W at *
  go_wp2_with fail
  refine (Hn.out _).mono ?_
  rintro e w' ⟨rfl, rfl⟩
  go_wp2_with fail
  go_quiet (fail)
  go_wp2_with fail
  have hB2 := below_drewN hB nq
  have f2 := h5.drewN nq
  generalize w'.drewN nq = W2 at *
  have k0 : (Below w.heap.size w W2.drew ∧ Five w.heap.size F P R E U W2.drew) ∧ W2.drew.cell? ⟨w.heap.size, 0, none⟩ = some (.int .u8 (F.toNat : Int)) := ⟨⟨hB2.drew, f2.drewN 1⟩, (f2.drewN 1).cells.1⟩
  have s0 : w.heap.size ≤ W2.drew.heap.size := hB2.size
  clear hB h5 hc hB2 f2
  go_region_held3 (fun v => (Below w.heap.size w v ∧ Five w.heap.size F P R E U v) ∧ v.cell? ⟨w.heap.size, 0, none⟩ = some (.int .u8 (F.toNat : Int)))
    (first | exact k0 | exact keepA F P R E U w _ (by assumption) | assumption)
    (first
      | (go_at_call 32; refine (Hc.out _).mono ?_; rintro e w4 ⟨A4, C4, rfl, hm4, hb4⟩; have t4 := Tx.of hm4; have k4 := keepB F P R E U w (by assumption) hb4; have s4 := k4.1.1.size)
      | (refine step_append_one rfl (.tmp 25) (.tmp 30) 31 rfl 9 i0 (.string ⟨#[]⟩) 16 Try.underlying31 hi hz0 hz1 hz2 rfl w.heap.size _ (.string (Sp.bs [F])) rfl ?hm ?hb A4 _ C4 (Sp.vals cl) rfl ?hn ?hX ?h1c ?b1 ?b2 ?_
         case hm => first | exact ((mine_lit _ _ #[.string (Sp.bs [F])] 9 s0 (by simp [maxLen])).below hb4) | exact mine_lit _ _ #[.string (Sp.bs [F])] 9 s4 (by simp [maxLen])
         case hb => first | exact s4 | (simp; omega)
         case hn => simp
         case hX => first | exact t4.news | exact (t4.below ((Below.refl _ _).alloc (Nat.le_refl _) _)).news
         case h1c => exact vals_one _
         case b1 => simp only [maxLen]; omega
         case b2 => omega
         intro A5 C5 w5 hm5 hb5
         have k5 := keepB F P R E U w (by assumption) hb5))
  all_goals go_wp2_with fail
  all_goals go_ret
  all_goals rw [hf.out, show ([F] :: cl).length = 1 + cl.length by rw [List.length_cons]; omega]
  all_goals exact ⟨_, _, rfl, Tx.of hm5, k5.1.1⟩
/-- the reference's fields -/
theorem refFields_calls :
    Calls Try.prog 27 #[.string (Sp.bs s), dv F P R E U] w fun e w' =>
      ∃ A C, e = .returned (.slice A (Sp.fields s F).length C) ∧ Tx w' A (Sp.fields s F).length C (Sp.fields s F) ∧ Below w.heap.size w w' := by
  by_cases h1 : s.take 3 = Sp.msh
  · by_cases h2 : s.take 4 = Sp.msh ++ [F]
    · exact refFields_msh s F P R E U hs w h2
    · refine (refFields_none s F P R E U hs w h1 h2).mono ?_
      rintro e w' ⟨rfl, hb⟩
      have hf : Sp.fields s F = [] := by unfold Sp.fields; rw [if_neg (not_not_intro h1), if_neg h2]
      rw [hf]
      exact ⟨none, 0, rfl, ⟨Nat.le_refl _, rfl, .inl rfl⟩, hb⟩
  · exact refFields_other s F P R E U hs w h1
end
end Sg
end Go.Proofs.Ytcldnibedimepaa
