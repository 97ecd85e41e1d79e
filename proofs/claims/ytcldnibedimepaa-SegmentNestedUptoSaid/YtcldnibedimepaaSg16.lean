/-
  A part of the proof of this seat's laws: what is made of fields.
-/
import Derived.Test.YtcldnibedimepaaSg15
namespace Go.Proofs.Ytcldnibedimepaa
set_option linter.unusedVariables false
set_option linter.unusedSimpArgs false
open Go.RowKit Go.Shelf
namespace Sp
theorem tail_len (F : UInt8) (l : List (List UInt8)) : (Lib.joinTail [F] l).length = tot l := by
  unfold Lib.joinTail
  induction l with
  | nil => rfl
  | cons x l ih => rw [tot_cons, ← ih]; simp; omega
theorem join_len (x : List UInt8) (F : UInt8) (l : List (List UInt8)) : (Lib.join (x :: l) [F]).length = x.length + tot l := by
  rw [Lib.join_cons, List.length_append, tail_len]
theorem flat_len (l : List (List UInt8)) : l.flatten.length ≤ tot l := by
  induction l with
  | nil => exact Nat.le_refl _
  | cons x l ih => rw [tot_cons]; simp; simp at ih; omega
theorem join_empty (l : List (List UInt8)) : Lib.join l [] = l.flatten := by
  cases l with
  | nil => rfl
  | cons x l => rw [Lib.join_cons]; simp [Lib.joinTail]
/-- what is made of a name and fields -/
def make (F : UInt8) (nm : List UInt8) (l : List (List UInt8)) : List UInt8 :=
  if nm = msh then nm ++ (l.take 2).flatten ++ Lib.joinTail [F] (l.drop 2) else nm ++ Lib.joinTail [F] l
theorem tail_snoc (F : UInt8) (l : List (List UInt8)) (x : List UInt8) : Lib.joinTail [F] (l ++ [x]) = Lib.joinTail [F] l ++ ([F] ++ x) := by simp [Lib.joinTail]
theorem make_nil (F : UInt8) (nm : List UInt8) : make F nm [] = nm := by unfold make; split <;> simp [Lib.joinTail]
theorem make_sep {F : UInt8} {nm : List UInt8} {l : List (List UInt8)} {k : Nat} {x : List UInt8} (h : l[k]? = some x) (hc : nm ≠ msh ∨ 2 ≤ k) : make F nm (l.take (k + 1)) = make F nm (l.take k) ++ [F] ++ x := by
  have hk := (List.getElem?_eq_some_iff.1 h).1
  have e : l.take (k + 1) = l.take k ++ [x] := by rw [List.take_add_one, h]; rfl
  unfold make
  rw [e]
  split
  · rename_i hn
    have h2 : 2 ≤ k := hc.resolve_left (not_not_intro hn)
    have hl : 2 ≤ (l.take k).length := by rw [List.length_take]; omega
    rw [List.take_append_of_le_length hl, List.drop_append_of_le_length hl, tail_snoc]
    simp
  · rw [tail_snoc]; simp
theorem make_bare {F : UInt8} {nm : List UInt8} {l : List (List UInt8)} {k : Nat} {x : List UInt8} (h : l[k]? = some x) (hn : nm = msh) (hc : k < 2) : make F nm (l.take (k + 1)) = make F nm (l.take k) ++ x := by
  have hk := (List.getElem?_eq_some_iff.1 h).1
  have e : l.take (k + 1) = l.take k ++ [x] := by rw [List.take_add_one, h]; rfl
  unfold make
  rw [e, if_pos hn, if_pos hn]
  have hl : (l.take k).length = k := by rw [List.length_take]; omega
  rw [List.take_of_length_le (l := l.take k ++ [x]) (by simp; omega), List.drop_of_length_le (l := l.take k ++ [x]) (by simp; omega),
    List.take_of_length_le (l := l.take k) (by omega), List.drop_of_length_le (l := l.take k) (by omega)]
  simp [Lib.joinTail]
theorem make_len (F : UInt8) (nm : List UInt8) (l : List (List UInt8)) : (make F nm l).length ≤ nm.length + tot l := by
  unfold make
  split
  · have h1 := flat_len (l.take 2)
    have h2 := tail_len F (l.drop 2)
    have h3 : tot (l.take 2) + tot (l.drop 2) = tot l := by rw [← tot_append, List.take_append_drop]
    simp only [List.length_append]
    omega
  · rw [List.length_append, tail_len]; exact Nat.le_refl _
end Sp
namespace Sg
open Ap
theorem nm_yes {nm : List UInt8} (h : nm = Sp.msh) : ((Sp.bs nm).toList == [77, 83, 72]) = true := by rw [Sp.bs_toList, h]; rfl
theorem nm_no {nm : List UInt8} (h : nm ≠ Sp.msh) : ((Sp.bs nm).toList == [77, 83, 72]) = false := by rw [Sp.bs_toList, beq_eq_false_iff_ne]; exact h
set_option maxHeartbeats 8000000
theorem make_other (F P R E U : UInt8) (nm : List UInt8) (A : Option Addr) (n c : Nat) (l : List (List UInt8)) (w : World) (h : Tx w A n c l) (ht : Sp.tot l ≤ 4194304) (hnm : nm.length ≤ 4194304) (hne : nm ≠ Sp.msh) :
    Calls Try.prog 29 #[dv F P R E U, .string (Sp.bs nm), .slice A n c] w fun e w' => e = .returned (.string (Sp.bs (Sp.make F nm l))) ∧ Below w.heap.size w w' := by
  have huD := Try.underlying23
  have h5 := Five.new F P R E U w
  have hB : Below w.heap.size w (w.alloc (.cells #[.int .u8 (F.toNat : Int), .int .u8 (P.toNat : Int), .int .u8 (R.toNat : Int), .int .u8 (E.toNat : Int), .int .u8 (U.toNat : Int)] 23)) := (Below.refl _ _).alloc (Nat.le_refl _) _
  have hnl := h.len
  have htl := Sp.tot_len l
  obtain ⟨i0, hi, hz0, hz1, hz2⟩ := info_parts infoS
  have H1 := nm_no hne
  have Hf : Hid (Sp.make F nm l = Lib.join (nm :: l) [F]) := Lib.hid (by unfold Sp.make; rw [if_neg hne, Lib.join_cons])
  have Htx := Lib.hid h
  clear hne h
  go_enter Try.func29, Try.ntmps29
  go_wp2_with fail
  have hB2 := hB
  have f2 := h5
  have Htx2 := Lib.hid (Htx.out.below ((Below.refl w.heap.size w).alloc (Nat.le_refl _) (.cells #[.int .u8 (F.toNat : Int), .int .u8 (P.toNat : Int), .int .u8 (R.toNat : Int), .int .u8 (E.toNat : Int), .int .u8 (U.toNat : Int)] 23)))
  clear hB h5 Htx
  generalize (w.alloc (.cells #[.int .u8 (F.toNat : Int), .int .u8 (P.toNat : Int), .int .u8 (R.toNat : Int), .int .u8 (E.toNat : Int), .int .u8 (U.toNat : Int)] 23)) = W2 at *
  have k0 : (Below w.heap.size w W2.drew ∧ Five w.heap.size F P R E U W2.drew) ∧ W2.drew.cell? ⟨w.heap.size, 0, none⟩ = some (.int .u8 (F.toNat : Int)) := ⟨⟨hB2.drew, f2.drewN 1⟩, (f2.drewN 1).cells.1⟩
  have s0 : w.heap.size ≤ W2.drew.heap.size := hB2.size
  clear hB2 f2
  go_region_held3 (fun v => (Below w.heap.size w v ∧ Five w.heap.size F P R E U v) ∧ v.cell? ⟨w.heap.size, 0, none⟩ = some (.int .u8 (F.toNat : Int)))
    (first | exact k0 | exact keepA F P R E U w _ (by assumption) | assumption)
    (first
      | (go_at_call 37; refine (delimJoin_calls F A5 _ C5 (nm :: l) _ (Tx.of hm5) (by rw [Sp.join_len]; omega) (by omega)).mono ?_; rintro e w6 ⟨rfl, hb6⟩; have k6 := keepB F P R E U w (by assumption) hb6)
      | (refine step_append_one rfl (.tmp 25) (.tmp 26) 31 rfl 9 i0 (.string ⟨#[]⟩) 16 Try.underlying31 hi hz0 hz1 hz2 rfl w.heap.size _ (.string (Sp.bs nm)) rfl ?hm ?hb A n c (Sp.vals l) rfl ?hn ?hX ?h1c ?b1 ?b2 ?_
         case hm => exact mine_lit _ _ #[.string (Sp.bs nm)] 9 s0 (by simp [maxLen])
         case hb => exact Nat.le_trans s0 (by simp)
         case hn => (have := Htx2.out.len; simpa using this)
         case hX => exact (Htx2.out.below (((Below.refl _ _).drew).alloc (Nat.le_refl _) _)).news
         case h1c => exact vals_one _
         case b1 => simp only [maxLen]; omega
         case b2 => omega
         intro A5 C5 w5 hm5 hb5
         have k5 := keepB F P R E U w (by assumption) hb5))

  all_goals go_wp2_with fail
  all_goals go_ret
  all_goals rw [Hf.out]
  all_goals exact ⟨rfl, k6.1.1⟩
theorem make_msh (F P R E U : UInt8) (nm : List UInt8) (A : Option Addr) (n c : Nat) (l : List (List UInt8)) (w : World) (h : Tx w A n c l) (ht : Sp.tot l ≤ 4194304) (hnm : nm.length ≤ 4194304) (he : nm = Sp.msh) :
    Calls Try.prog 29 #[dv F P R E U, .string (Sp.bs nm), .slice A n c] w fun e w' => e = .returned (.string (Sp.bs (Sp.make F nm l))) ∧ Below w.heap.size w w' := by
  have huD := Try.underlying23
  have h5 := Five.new F P R E U w
  have hB : Below w.heap.size w (w.alloc (.cells #[.int .u8 (F.toNat : Int), .int .u8 (P.toNat : Int), .int .u8 (R.toNat : Int), .int .u8 (E.toNat : Int), .int .u8 (U.toNat : Int)] 23)) := (Below.refl _ _).alloc (Nat.le_refl _) _
  have hnl := h.len
  have htl := Sp.tot_len l
  obtain ⟨i0, hi, hz0, hz1, hz2⟩ := info_parts infoS
  have H1 := nm_yes he
  have Hf : Hid (Sp.make F nm l = Lib.join ((nm ++ (l.take 2).flatten) :: l.drop 2) [F]) := Lib.hid (by unfold Sp.make; rw [if_pos he, Lib.join_cons])
  have hq := Sp.flat_len (l.take 2)
  have hq3 : Sp.tot (l.take 2) + Sp.tot (l.drop 2) = Sp.tot l := by rw [← Sp.tot_append, List.take_append_drop]
  obtain ⟨k, hk⟩ : ∃ k : Nat, min n 2 = k := ⟨_, rfl⟩
  have hkn : k ≤ n := by omega
  have hk2 : (l.take 2).length = k := by rw [List.length_take]; omega
  have hdl : (l.drop 2).length = n - k := by rw [List.length_drop]; omega
  have hT := h.below ((Below.refl w.heap.size w).alloc (Nat.le_refl _) (.cells #[.int .u8 (F.toNat : Int), .int .u8 (P.toNat : Int), .int .u8 (R.toNat : Int), .int .u8 (E.toNat : Int), .int .u8 (U.toNat : Int)] 23))
  have hcap := h.cap
  have Htk : Hid (Tx (w.alloc (.cells #[.int .u8 (F.toNat : Int), .int .u8 (P.toNat : Int), .int .u8 (R.toNat : Int), .int .u8 (E.toNat : Int), .int .u8 (U.toNat : Int)] 23)) A k c (l.take 2)) := Lib.hid ⟨by omega, hk2, by
    rcases hT.cells with h0 | ⟨b, o, hA, hb, hc⟩
    · exact .inl (by omega)
    · exact .inr ⟨b, o, hA, hb, fun j x hj => hc j x (by
        rw [List.getElem?_take] at hj
        split at hj
        · exact hj
        · cases hj)⟩⟩
  have Hdr : Hid (∀ j x, (l.drop 2)[j]? = some x → ∃ b o, A = some ⟨b, o, none⟩ ∧ b < (w.alloc (.cells #[.int .u8 (F.toNat : Int), .int .u8 (P.toNat : Int), .int .u8 (R.toNat : Int), .int .u8 (E.toNat : Int), .int .u8 (U.toNat : Int)] 23)).heap.size ∧ (w.alloc (.cells #[.int .u8 (F.toNat : Int), .int .u8 (P.toNat : Int), .int .u8 (R.toNat : Int), .int .u8 (E.toNat : Int), .int .u8 (U.toNat : Int)] 23)).cell? ⟨b, o + k + j, none⟩ = some (.string (Sp.bs x))) := Lib.hid (fun j x hj => by
    rw [List.getElem?_drop] at hj
    have hjl := (List.getElem?_eq_some_iff.1 hj).1
    obtain ⟨b, o, hA, hb, hc⟩ := hT.cells.resolve_left (by omega)
    have := hc (2 + j) x hj
    exact ⟨b, o, hA, hb, by rw [show o + k + j = o + (2 + j) by omega]; exact this⟩)
  have hmin : min (n : Int) 2 = (k : Int) := by omega
  have q0 : (0 : Int) ≤ (k : Int) := by omega
  have q1 : (k : Int) ≤ (n : Int) := by omega
  have q2 : (k : Int) ≤ (c : Int) := by omega
  have q3 : (n : Int) ≤ (c : Int) := by omega
  clear he h hT hk hk2
  go_enter Try.func29, Try.ntmps29
  go_wp2_with fail
  generalize (w.alloc (.cells #[.int .u8 (F.toNat : Int), .int .u8 (P.toNat : Int), .int .u8 (R.toNat : Int), .int .u8 (E.toNat : Int), .int .u8 (U.toNat : Int)] 23)) = W1 at *
  have Hj := joinS_calls A k c (l.take 2) [] W1 Htk.out (by rw [Sp.join_empty]; omega) (by omega)
  rw [Sp.join_empty] at Hj
  refine Hj.mono ?_
  rintro e W2 ⟨rfl, b2⟩
  have hB2 := hB.trans (b2.mono hB.size)
  have f2 := h5.below b2 h5.lt
  have hap : Sp.bs nm ++ Sp.bs (l.take 2).flatten = Sp.bs (nm ++ (l.take 2).flatten) := Sp.bs_append _ _
  have hz1' := Sp.bs_size nm
  have hz2' := Sp.bs_size (l.take 2).flatten
  have Hdr2 : Hid (∀ j x, (l.drop 2)[j]? = some x → ∃ b o, A = some ⟨b, o, none⟩ ∧ b < W2.heap.size ∧ W2.cell? ⟨b, o + k + j, none⟩ = some (.string (Sp.bs x))) := Lib.hid (fun j x hj => by
    obtain ⟨b, o, hA, hb, hc⟩ := Hdr.out j x hj
    exact ⟨b, o, hA, Nat.lt_of_lt_of_le hb b2.size, (b2.cell (p := ⟨b, o + k + j, none⟩) hb).trans hc⟩)
  have hfl : (l.take 2).flatten.length ≤ 4194304 := by omega
  have htd : Sp.tot (l.drop 2) ≤ 4194304 := by omega
  clear Hdr Htk Hj hB h5 b2
  generalize (l.take 2).flatten = fl at *
  generalize l.drop 2 = dl at *
  have hm5p : (nm ++ fl).length ≤ 8388608 := by rw [List.length_append]; omega
  go_wp2_with fail
  · have Htx2 : Hid (Tx W2 A (n - k) 0 dl) := Lib.hid ⟨by omega, hdl, .inl (by omega)⟩
    clear Hdr2
    have k0 : (Below w.heap.size w W2.drew ∧ Five w.heap.size F P R E U W2.drew) ∧ W2.drew.cell? ⟨w.heap.size, 0, none⟩ = some (.int .u8 (F.toNat : Int)) := ⟨⟨hB2.drew, f2.drewN 1⟩, (f2.drewN 1).cells.1⟩
    have s0 : w.heap.size ≤ W2.drew.heap.size := hB2.size
    clear hB2 f2
    go_region_held3 (fun v => (Below w.heap.size w v ∧ Five w.heap.size F P R E U v) ∧ v.cell? ⟨w.heap.size, 0, none⟩ = some (.int .u8 (F.toNat : Int)))
      (first | exact k0 | exact keepA F P R E U w _ (by assumption) | assumption)
      (first
        | (go_at_call 37; refine (delimJoin_calls F A5 _ C5 ((nm ++ fl) :: dl) _ (Tx.of hm5) (by rw [Sp.join_len]; omega) (by omega)).mono ?_; rintro e w6 ⟨rfl, hb6⟩; have k6 := keepB F P R E U w (by assumption) hb6)
        | (refine step_append_one rfl (.tmp 25) (.tmp 26) 31 rfl 9 i0 (.string ⟨#[]⟩) 16 Try.underlying31 hi hz0 hz1 hz2 rfl w.heap.size _ (.string (Sp.bs (nm ++ fl))) rfl ?hm ?hb A (n - k) 0 (Sp.vals dl) rfl ?hn ?hX ?h1c ?b1 ?b2 ?_
           case hm => exact mine_lit _ _ #[.string (Sp.bs (nm ++ fl))] 9 s0 (by simp [maxLen])
           case hb => exact Nat.le_trans s0 (by simp)
           case hn => (have := Htx2.out.len; simpa using this)
           case hX => exact (Htx2.out.below (((Below.refl _ _).drew).alloc (Nat.le_refl _) _)).news
           case h1c => exact vals_one _
           case b1 => simp only [maxLen]; omega
           case b2 => omega
           intro A5 C5 w5 hm5 hb5
           have k5 := keepB F P R E U w (by assumption) hb5))

    all_goals go_wp2_with fail
    all_goals go_ret
    all_goals rw [Hf.out]
    all_goals exact ⟨rfl, k6.1.1⟩
  · have Htx2 : Hid (Tx W2 (Option.map (fun x => x.add k) A) (n - k) (c - k) dl) := Lib.hid ⟨by omega, hdl, by
      by_cases h0 : n - k = 0
      · exact .inl h0
      · right
        obtain ⟨x0, hx0⟩ : ∃ x, dl[0]? = some x := ⟨_, List.getElem?_eq_getElem (by omega)⟩
        obtain ⟨b, o, rfl, hb, -⟩ := Hdr2.out 0 x0 hx0
        refine ⟨b, o + k, by rw [Option.map_some, Addr.add_lit], hb, fun j x hj => ?_⟩
        obtain ⟨b', o', hA, -, hc⟩ := Hdr2.out j x hj
        cases hA
        exact hc⟩
    clear Hdr2
    have k0 : (Below w.heap.size w W2.drew ∧ Five w.heap.size F P R E U W2.drew) ∧ W2.drew.cell? ⟨w.heap.size, 0, none⟩ = some (.int .u8 (F.toNat : Int)) := ⟨⟨hB2.drew, f2.drewN 1⟩, (f2.drewN 1).cells.1⟩
    have s0 : w.heap.size ≤ W2.drew.heap.size := hB2.size
    clear hB2 f2
    go_region_held3 (fun v => (Below w.heap.size w v ∧ Five w.heap.size F P R E U v) ∧ v.cell? ⟨w.heap.size, 0, none⟩ = some (.int .u8 (F.toNat : Int)))
      (first | exact k0 | exact keepA F P R E U w _ (by assumption) | assumption)
      (first
        | (go_at_call 37; refine (delimJoin_calls F A5 _ C5 ((nm ++ fl) :: dl) _ (Tx.of hm5) (by rw [Sp.join_len]; omega) (by omega)).mono ?_; rintro e w6 ⟨rfl, hb6⟩; have k6 := keepB F P R E U w (by assumption) hb6)
        | (refine step_append_one rfl (.tmp 25) (.tmp 26) 31 rfl 9 i0 (.string ⟨#[]⟩) 16 Try.underlying31 hi hz0 hz1 hz2 rfl w.heap.size _ (.string (Sp.bs (nm ++ fl))) rfl ?hm ?hb (Option.map (fun x => x.add k) A) (n - k) (c - k) (Sp.vals dl) rfl ?hn ?hX ?h1c ?b1 ?b2 ?_
           case hm => exact mine_lit _ _ #[.string (Sp.bs (nm ++ fl))] 9 s0 (by simp [maxLen])
           case hb => exact Nat.le_trans s0 (by simp)
           case hn => (have := Htx2.out.len; simpa using this)
           case hX => exact (Htx2.out.below (((Below.refl _ _).drew).alloc (Nat.le_refl _) _)).news
           case h1c => exact vals_one _
           case b1 => simp only [maxLen]; omega
           case b2 => omega
           intro A5 C5 w5 hm5 hb5
           have k5 := keepB F P R E U w (by assumption) hb5))

    all_goals go_wp2_with fail
    all_goals go_ret
    all_goals rw [Hf.out]
    all_goals exact ⟨rfl, k6.1.1⟩
theorem make_calls (F P R E U : UInt8) (nm : List UInt8) (A : Option Addr) (n c : Nat) (l : List (List UInt8)) (w : World) (h : Tx w A n c l) (ht : Sp.tot l ≤ 4194304) (hnm : nm.length ≤ 4194304) :
    Calls Try.prog 29 #[dv F P R E U, .string (Sp.bs nm), .slice A n c] w fun e w' => e = .returned (.string (Sp.bs (Sp.make F nm l))) ∧ Below w.heap.size w w' := by
  by_cases he : nm = Sp.msh
  · exact make_msh F P R E U nm A n c l w h ht hnm he
  · exact make_other F P R E U nm A n c l w h ht hnm he
end Sg
end Go.Proofs.Ytcldnibedimepaa
