/-
  A part of the proof of this seat's laws: what the laws ask of texts and steps, plainly.
-/
import Derived.Test.YtpchfmeaplhodaaDoorTpM
namespace Go.Proofs.YtpchfmeaplhodaaDoor
set_option linter.unusedVariables false
set_option linter.unusedSimpArgs false
namespace Sp
theorem decDigits_inj {u v : Nat} (h : Lib.decDigits u = Lib.decDigits v) : u = v := by
  have h1 := decFrom_decDigits u
  rw [h, decFrom_decDigits v] at h1
  exact (Option.some.inj h1).symm
theorem itoa_inj {n m : Int} (h : Lib.itoa n = Lib.itoa m) : n = m := by
  rcases itoa_cases n with ⟨hn, e1⟩ | ⟨hn, -, e1⟩ <;> rcases itoa_cases m with ⟨hm, e2⟩ | ⟨hm, -, e2⟩
  · rw [e1, e2] at h
    have := decDigits_inj h
    omega
  · rw [e1, e2] at h
    exact absurd (by rw [h]; rfl) (head45_decDigits n.natAbs)
  · rw [e1, e2] at h
    exact absurd (by rw [← h]; rfl) (head45_decDigits m.natAbs)
  · rw [e1, e2] at h
    have := decDigits_inj (List.cons.inj h).2
    omega
theorem numT_small {n m : Int} (h : numT (Lib.itoa n) = some m) : small n := by
  obtain ⟨e, hs⟩ := numT_some h
  rw [itoa_inj e]; exact hs
/-- what is read has small numbers -/
theorem read_small {s : List UInt8} {ev ev' : Evt} (h : evT ev = .ok s) (hr : readS s = some ev') : small ev.n ∧ small ev.keep := by
  obtain ⟨kind, n, keep, data⟩ := ev
  have h' := h
  unfold evT at h'
  split at h'
  · cases h'
  · rename_i hr0
    split at h'
    · cases h'
    · rename_i hg
      rw [not_or, not_or] at hg
      obtain ⟨g1, g2, g3⟩ := hg
      simp only at hr0 g1 g2 g3 h'
      have hh : kind = 0 ∨ kind = 1 ∨ kind = 2 ∨ kind = 3 ∨ kind = 4 ∨ kind = 5 ∨ kind = 6 ∨ kind = 7 ∨ kind = 8 := by omega
      have two : ∀ (w : List UInt8) (m : Int), cutL 32 w = [w] → s = w ++ 32 :: Lib.itoa m → readW [w, Lib.itoa m] = some ev' := fun w m h1 h2 => by
        have := hr
        rw [readS_eq, h2, cutL_mid, h1, cutL_none (itoa_free m)] at this
        exact this
      rcases hh with rfl | rfl | rfl | rfl | rfl | rfl | rfl | rfl | rfl
      all_goals simp [kd, kc, kk, kw] at g1 g2 g3 h'
      · subst g2 g3; exact ⟨small_zero, small_zero⟩
      · subst g2 g3; exact ⟨small_zero, small_zero⟩
      · subst g2 g3; exact ⟨small_zero, small_zero⟩
      · subst g2 g3; exact ⟨small_zero, small_zero⟩
      · subst g3
        have := two [116, 105, 99, 107] n (by decide) h'.symm
        simp [readW] at this
        obtain ⟨a, ha, -⟩ := this
        exact ⟨numT_small ha, small_zero⟩
      · subst g3
        have := two [114, 111, 111, 109] n (by decide) h'.symm
        simp [readW] at this
        obtain ⟨a, ha, -⟩ := this
        exact ⟨numT_small ha, small_zero⟩
      · subst g3
        have := two [102, 97, 105, 108, 115, 121, 110, 99] n (by decide) h'.symm
        simp [readW] at this
        obtain ⟨a, ha, -⟩ := this
        exact ⟨numT_small ha, small_zero⟩
      · have hs : s = [97, 114, 109] ++ 32 :: (Lib.itoa n ++ 32 :: Lib.itoa keep) := by rw [← h']; rfl
        rw [readS_eq, hs, cutL_mid, cutL_mid, show cutL 32 [97, 114, 109] = [[97, 114, 109]] by decide, cutL_none (itoa_free n), cutL_none (itoa_free keep)] at hr
        simp [readW] at hr
        cases h1 : numT (Lib.itoa n) with
        | none => rw [h1] at hr; simp at hr
        | some a =>
          rw [h1] at hr
          simp at hr
          obtain ⟨c, hc, -⟩ := hr
          exact ⟨numT_small h1, numT_small hc⟩
      · subst g2
        have := two [112, 111, 119, 101, 114] keep (by decide) h'.symm
        simp [readW] at this
        obtain ⟨a, ha, -⟩ := this
        exact ⟨small_zero, numT_small ha⟩
/-- how an event's text begins -/
theorem ev_two {ev : Evt} {t : List UInt8} (h : evT ev = .ok t) : ∃ k, k < 9 ∧ t.take 2 = (kw k).take 2 := by
  unfold evT at h
  split at h
  · cases h
  · rename_i hr
    split at h
    · cases h
    · cases h
      refine ⟨ev.kind.toNat, by omega, ?_⟩
      have : ∀ k : Nat, 2 ≤ (kw k).length := by
        intro k; unfold kw; split <;> decide
      rw [List.take_append_of_le_length (this _)]
theorem kw_two (k : Nat) : (kw k).take 2 ≠ [98, 97] ∧ (kw k).take 2 ≠ [111, 110] ∧ (kw k).take 2 ≠ [103, 111] := by
  unfold kw
  split <;> decide
theorem ev_line {ev : Evt} {t : List UInt8} (h : evT ev = .ok t) : t ≠ [103, 111, 110, 101] ∧ outS t = none := by
  obtain ⟨k, -, hk⟩ := ev_two h
  obtain ⟨h1, h2, h3⟩ := kw_two k
  refine ⟨fun e => ?_, ?_⟩
  · rw [e] at hk
    exact h3 hk.symm
  · cases ho : outS t with
    | none => rfl
    | some o =>
      exfalso
      have e := outS_inv ho
      obtain ⟨b, d⟩ := o
      rw [e] at hk
      cases b with
      | true => exact h1 hk.symm
      | false => exact h2 hk.symm
theorem line_ev {ev : Evt} {t : List UInt8} {acc l : List Stp} (h : evT ev = .ok t) (hl : lineS acc t = some l) : small ev.n ∧ small ev.keep := by
  cases hr : readS t with
  | some ev' => exact read_small h hr
  | none =>
    exfalso
    obtain ⟨h1, h2⟩ := ev_line h
    rcases List.eq_nil_or_concat acc with rfl | ⟨a, st, rfl⟩
    · rw [lineS_nil hr] at hl; cases hl
    · rw [List.concat_eq_append] at *
      cases hg : st.gone with
      | true => rw [lineS_dead hr hg] at hl; cases hl
      | false =>
        rw [lineS_out hr hg h1, h2] at hl
        cases hl
theorem lines_small : ∀ {l : List Stp} {x : List UInt8} (acc l' : List Stp) (n : Nat), fmtT l = .ok x → runS n acc (lnS l) = .ok l' → ∀ s ∈ l, smallN s
  | [], _, _, _, _, _, _, s, hs => by cases hs
  | s :: l, x, acc, l', n, h, hr, y, hy => by
    unfold fmtT at h
    cases he : evT s.ev with
    | error c => unfold stepT at h; rw [he] at h; cases h
    | ok u =>
      rw [stepT_M he] at h
      cases hl : fmtT l with
      | error c => simp only [hl] at h; cases h
      | ok v =>
        unfold lnS at hr
        rw [he] at hr
        simp only at hr
        rw [runS_app] at hr
        cases h1 : runS n acc (stL u s) with
        | error i => rw [h1] at hr; cases hr
        | ok l1 =>
          rw [h1] at hr
          simp only at hr
          rcases List.mem_cons.1 hy with rfl | hy
          · unfold stL at h1
            rw [runS] at h1
            cases h2 : lineS acc u with
            | none => rw [h2] at h1; cases h1
            | some l2 => exact line_ev he h2
          · exact lines_small l1 l' _ hl hr y hy
/-- if steps' text is parsed, their numbers are small -/
theorem all_small {l l' : List Stp} {x : List UInt8} (h : fmtT l = .ok x) (hp : parseS x = .ok l') : ∀ s ∈ l, smallN s := by
  obtain ⟨ls, hc, hr⟩ := parse_ok hp
  rw [cut_fmt h] at hc
  have e : lnS l = ls := List.append_cancel_right hc
  rw [← e] at hr
  exact lines_small [] l' 0 h hr
theorem parse_same {l l' : List Stp} {x : List UInt8} (h : fmtT l = .ok x) (hp : parseS x = .ok l') : l' = l := by
  have := parse_fmt h (all_small h hp)
  rw [hp] at this
  exact Except.ok.inj this
theorem runS_big : ∀ (r : List (List UInt8)) (n k : Nat) (acc l : List Stp), runS n acc r = .ok l → acc.length ≤ k → (∀ s ∈ acc, s.outs.length ≤ k) → l.length ≤ k + r.length ∧ ∀ s ∈ l, s.outs.length ≤ k + r.length
  | [], n, k, acc, l, h, h1, h2 => by cases h; exact ⟨h1, h2⟩
  | x :: r, n, k, acc, l, h, h1, h2 => by
    unfold runS at h
    cases hx : lineS acc x with
    | none => rw [hx] at h; cases h
    | some l1 =>
      rw [hx] at h
      have hb := lineS_big hx h1 h2
      have := runS_big r (n + 1) (k + 1) l1 l h hb.1 hb.2
      rw [List.length_cons, show k + (r.length + 1) = k + 1 + r.length by omega]
      exact this
theorem parse_big {s : List UInt8} {l : List Stp} (h : parseS s = .ok l) : l.length ≤ s.length + 1 ∧ ∀ x ∈ l, x.outs.length ≤ s.length + 1 := by
  obtain ⟨ls, hc, hr⟩ := parse_ok h
  have hb := runS_big ls 0 0 [] l hr (Nat.le_refl _) (fun s hs => by cases hs)
  have h1 := cutL_length 10 s
  have h2 := List.count_le_length (a := (10 : UInt8)) (l := s)
  rw [hc] at h1
  simp only [List.length_append, List.length_singleton] at h1
  have hl : ls.length ≤ s.length + 1 := by omega
  exact ⟨by have := hb.1; omega, fun x hx => by have := hb.2 x hx; omega⟩
/-- how long the lines are -/
theorem lnS_len : ∀ {l : List Stp}, (∀ s ∈ l, nums s) → ∀ x ∈ lnS l, x.length ≤ 60 + 2 * wts l
  | [], _, x, hx => by cases hx
  | s :: l, hn, x, hx => by
    unfold lnS at hx
    rw [wts_cons, swt]
    rcases List.mem_append.1 hx with hx | hx
    · cases he : evT s.ev with
      | error c => rw [he] at hx; cases hx
      | ok u =>
        rw [he] at hx
        simp only at hx
        unfold stL at hx
        have hu := evT_len he (hn s (by simp)).1 (hn s (by simp)).2
        rcases List.mem_cons.1 hx with rfl | hx
        · omega
        · rcases List.mem_append.1 hx with hx | hx
          · obtain ⟨o, ho, rfl⟩ := List.mem_map.1 hx
            have h1 := outT_len o
            have h2 := owts_mem ho
            rw [owt] at h2
            omega
          · split at hx
            · simp only [List.mem_singleton] at hx; subst hx; simp; omega
            · cases hx
    · have := lnS_len (fun y hy => hn y (by simp [hy])) x hx
      omega
theorem lnS_app (a b : List Stp) : lnS (a ++ b) = lnS a ++ lnS b := by
  induction a with
  | nil => rfl
  | cons s a ih => rw [List.cons_append, lnS, lnS, ih, List.append_assoc]
theorem fmt_lines_len {l : List Stp} {t : List UInt8} (h : fmtT l = .ok t) (hn : ∀ s ∈ l, nums s) (hw : wts l ≤ 5000) : ∀ x ∈ cutL 10 t, x.length ≤ 50000 := by
  intro x hx
  rw [cut_fmt h] at hx
  rcases List.mem_append.1 hx with hx | hx
  · have := lnS_len hn x hx; omega
  · simp only [List.mem_singleton] at hx; subst hx; simp
/-- without the last byte -/
theorem cut_short {ls : List (List UInt8)} {x : List UInt8} (h : ∀ y ∈ ls ++ [x], 10 ∉ y) : cutL 10 ((M (ls ++ [x])).dropLast) = ls ++ [x] := by
  rw [M_app, M_one, ← List.append_assoc, List.dropLast_concat]
  have h1 : ∀ y ∈ ls, 10 ∉ y := fun y hy => h y (by simp [hy])
  have h2 : 10 ∉ x := h x (by simp)
  clear h
  induction ls with
  | nil => exact cutL_none h2
  | cons y l ih =>
    rw [M_cons, List.append_assoc, List.cons_append, cutL_mid, cutL_none (h1 y (by simp)), ih (fun z hz => h1 z (by simp [hz]))]
    rfl
theorem lnS_ne {s : Stp} {l : List Stp} {t : List UInt8} (h : fmtT (s :: l) = .ok t) : lnS (s :: l) ≠ [] := by
  unfold lnS
  cases he : evT s.ev with
  | error c => unfold fmtT stepT at h; rw [he] at h; cases h
  | ok u => simp [stL]
theorem line_ne : ∀ {l : List Stp} {t : List UInt8}, fmtT l = .ok t → ∀ x ∈ lnS l, x ≠ []
  | [], _, _, x, hx => by cases hx
  | s :: l, t, h, x, hx => by
    unfold fmtT at h
    cases he : evT s.ev with
    | error c => unfold stepT at h; rw [he] at h; cases h
    | ok u =>
      rw [stepT_M he] at h
      cases hl : fmtT l with
      | error c => simp only [hl] at h; cases h
      | ok v =>
        unfold lnS at hx
        rw [he] at hx
        simp only at hx
        rcases List.mem_append.1 hx with hx | hx
        · unfold stL at hx
          rcases List.mem_cons.1 hx with rfl | hx
          · rintro rfl
            obtain ⟨k, -, hk⟩ := ev_two he
            have : ∀ k : Nat, 2 ≤ (kw k).length := by intro k; unfold kw; split <;> decide
            have h2 := congrArg List.length hk
            have h3 := this k
            simp only [List.length_take, List.take_nil, List.length_nil] at h2
            omega
          · rcases List.mem_append.1 hx with hx | hx
            · obtain ⟨o, -, rfl⟩ := List.mem_map.1 hx
              unfold outT
              cases o.back <;> simp
            · split at hx
              · simp only [List.mem_singleton] at hx; subst hx; simp
              · cases hx
        · exact line_ne hl x hx
/-- without its last byte a text isn't one -/
theorem parse_short {l : List Stp} {t : List UInt8} (h : fmtT l = .ok t) (hn : ∀ s ∈ l, smallN s) (ht : t ≠ []) : parseS t.dropLast = .error ((cutL 10 t).length - 1 - 1) := by
  obtain ⟨hM, hno⟩ := fmtT_lines h
  have hr := runS_lines [] 0 h hn
  have hne := line_ne h
  rw [cut_fmt h]
  rcases List.eq_nil_or_concat (lnS l) with h0 | ⟨ls, x, hx⟩
  · rw [h0] at hM
    exact absurd hM ht
  · rw [List.concat_eq_append] at hx
    rw [hx] at hM hno hr hne ⊢
    have hc := cut_short hno
    rw [← hM] at hc
    rw [runS_app] at hr
    cases h1 : runS 0 [] ls with
    | error i => rw [h1] at hr; cases hr
    | ok l1 =>
      have := parse_open hc (hne x (by simp)) h1
      rw [this]
      simp
/-- as many ends as lines -/
theorem count_M : ∀ {ls : List (List UInt8)}, (∀ x ∈ ls, 10 ∉ x) → (M ls).count 10 = ls.length
  | [], _ => rfl
  | x :: l, h => by
    rw [M_cons, List.count_append, List.count_cons_self, count_M (fun y hy => h y (by simp [hy])), List.count_eq_zero_of_not_mem (h x (by simp)), List.length_cons]
    omega
/-- lines that a step has -/
def lnN (s : Stp) : Nat := 1 + s.outs.length + (if s.gone = true then 1 else 0)
def lnsN (l : List Stp) : Nat := (l.map lnN).sum
theorem lnsN_cons (s : Stp) (l : List Stp) : lnsN (s :: l) = lnN s + lnsN l := by simp [lnsN]
theorem stL_len (t : List UInt8) (s : Stp) : (stL t s).length = lnN s := by
  unfold stL lnN
  cases s.gone <;> simp <;> omega
theorem lnS_count : ∀ {l : List Stp} {t : List UInt8}, fmtT l = .ok t → (lnS l).length = lnsN l
  | [], _, _ => rfl
  | s :: l, t, h => by
    unfold fmtT at h
    cases he : evT s.ev with
    | error c => unfold stepT at h; rw [he] at h; cases h
    | ok u =>
      rw [stepT_M he] at h
      cases hl : fmtT l with
      | error c => simp only [hl] at h; cases h
      | ok v =>
        unfold lnS
        rw [he, List.length_append, lnS_count hl, lnsN_cons]
        simp only
        rw [stL_len]
theorem lnsN_snoc {l : List Stp} {k : Nat} {x : Stp} (h : l[k]? = some x) : lnsN (l.take (k + 1)) = lnsN (l.take k) + lnN x := by
  rw [take_snoc h]; simp [lnsN]
theorem lnsN_take (l : List Stp) (k : Nat) : lnsN (l.take k) ≤ lnsN l := by
  have : lnsN l = lnsN (l.take k) + lnsN (l.drop k) := by
    conv => lhs; rw [← List.take_append_drop k l]
    unfold lnsN
    rw [List.map_append, List.sum_append]
  omega
theorem lnsN_le (l : List Stp) : lnsN l ≤ 2 * wts l := by
  induction l with
  | nil => simp [lnsN]
  | cons s l ih =>
    rw [wts_cons, swt]
    have h1 := owts_len s.outs
    have h2 : lnsN (s :: l) = lnN s + lnsN l := by simp [lnsN]
    have h3 : lnN s ≤ 2 + s.outs.length := by unfold lnN; split <;> omega
    omega
theorem fmt_count {l : List Stp} {t : List UInt8} (h : fmtT l = .ok t) : t.count 10 = lnsN l ∧ (t = [] ∨ ∃ u, t = u ++ [10]) := by
  obtain ⟨hM, hno⟩ := fmtT_lines h
  rw [← lnS_count h]
  refine ⟨by rw [hM, count_M hno], ?_⟩
  rcases List.eq_nil_or_concat (lnS l) with h0 | ⟨ls, x, hx⟩
  · left; rw [hM, h0]; rfl
  · right
    rw [List.concat_eq_append] at hx
    exact ⟨M ls ++ x, by rw [hM, hx, M_app, M_one]; simp⟩
end Sp
end Go.Proofs.YtpchfmeaplhodaaDoor
