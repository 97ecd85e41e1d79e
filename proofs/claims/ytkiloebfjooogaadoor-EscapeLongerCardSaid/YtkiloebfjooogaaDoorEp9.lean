/-
  A part of the proof of this seat's laws: texts behind each other, encoded and decoded, plainly.
-/
import Derived.Test.YtkiloebfjooogaaDoorAl7
namespace Go.Proofs.YtkiloebfjooogaaDoor
set_option linter.unusedVariables false
set_option linter.unusedSimpArgs false
namespace Sp
theorem cutL_app (c : UInt8) (t : List UInt8) (hd : List UInt8) (tl : List (List UInt8)) (ht : cutL c t = hd :: tl) : ∀ (s : List UInt8) (init : List (List UInt8)) (last : List UInt8), cutL c s = init ++ [last] → cutL c (s ++ t) = init ++ (last ++ hd) :: tl
  | [], init, last, h => by
    cases init with
    | nil => simp [cutL] at h; subst h; simpa using ht
    | cons a b => simp [cutL] at h
  | x :: l, init, last, h => by
    by_cases hx : x = c
    · rw [cutL_eq _ hx] at h
      rw [List.cons_append, cutL_eq _ hx]
      cases init with
      | nil =>
        have h1 := cutL_pos c l
        have h2 := congrArg List.length h
        simp only [List.nil_append, List.length_cons, List.length_nil] at h2
        omega
      | cons z init =>
        simp only [List.cons_append, List.cons.injEq] at h
        rw [cutL_app c t hd tl ht l init last h.2, ← h.1]; rfl
    · rw [cutL_other _ hx] at h
      rw [List.cons_append, cutL_other _ hx]
      cases hc : cutL c l with
      | nil => exact (cutL_ne c l hc).elim
      | cons h' t' =>
        rw [hc] at h
        cases init with
        | nil =>
          simp at h
          have h3 := cutL_app c t hd tl ht l [] h' (by rw [hc, h.2]; rfl)
          rw [h3]; simp [← h.1]
        | cons z init =>
          simp only [List.headD_cons, List.tail_cons, List.cons_append, List.cons.injEq] at h
          have h3 := cutL_app c t hd tl ht l (h' :: init) last (by rw [hc, h.2]; rfl)
          rw [h3]; simp [← h.1]
section
variable {tl : List UInt8 → Option (List UInt8)}
theorem decF_shift : ∀ (ps : List (List UInt8)) (b : Bool) (out r : List UInt8) (a : Nat), decF tl b ps out a = .ok r → ∀ (o : List UInt8) (a' : Nat), decF tl b ps (o ++ out) a' = .ok (o ++ r)
  | [], b, out, r, a, h, o, a' => by
    rw [decF_end] at h ⊢
    cases h; rfl
  | x :: ps, false, out, r, a, h, o, a' => by
    rw [decF_text] at h ⊢
    rw [List.append_assoc]
    exact decF_shift ps true _ r _ h o _
  | [y], true, out, r, a, h, o, a' => by rw [decF_last] at h; cases h
  | y :: z :: ps, true, out, r, a, h, o, a' => by
    cases ht : tl y with
    | none => rw [decF_none ht] at h; cases h
    | some t =>
      rw [decF_some ht (by simp)] at h ⊢
      rw [List.append_assoc]
      exact decF_shift (z :: ps) false _ r _ h o _
theorem decF_app : ∀ (n : Nat) (ps : List (List UInt8)), ps.length ≤ n → ∀ (last out o : List UInt8) (a : Nat), decF tl false (ps ++ [last]) out a = .ok o → ∀ (hd : List UInt8) (tl' : List (List UInt8)), ∃ a', decF tl false (ps ++ (last ++ hd) :: tl') out a = decF tl false (hd :: tl') o a'
  | n, [], hn, last, out, o, a, h, hd, tl' => by
    rw [List.nil_append, decF_text, decF_end] at h
    cases h
    refine ⟨a + last.length, ?_⟩
    rw [List.nil_append, decF_text, decF_text, List.append_assoc, List.length_append, Nat.add_assoc]
  | n, [x], hn, last, out, o, a, h, hd, tl' => by
    have e : [x] ++ [last] = x :: [last] := rfl
    rw [e, decF_text, decF_last] at h
    cases h
  | n + 2, x :: y :: ps, hn, last, out, o, a, h, hd, tl' => by
    rw [List.cons_append, List.cons_append, decF_text] at h ⊢
    cases ht : tl y with
    | none => rw [decF_none ht] at h; cases h
    | some t =>
      rw [decF_some ht (by simp)] at h ⊢
      exact decF_app n ps (by simp at hn; omega) last _ o _ h hd tl'
  | 0, x :: y :: ps, hn, last, out, o, a, h, hd, tl' => by simp at hn
  | 1, x :: y :: ps, hn, last, out, o, a, h, hd, tl' => by simp at hn
/-- how long what is decoded is -/
theorem decF_len (htl : ∀ x t, tl x = some t → t.length ≤ x.length) : ∀ (ps : List (List UInt8)) (b : Bool) (out r : List UInt8) (a : Nat), decF tl b ps out a = .ok r → r.length + 1 ≤ out.length + tot ps + (if ps = [] then 1 else 0)
  | [], b, out, r, a, h => by
    rw [decF_end] at h
    cases h
    simp [tot]
  | x :: ps, false, out, r, a, h => by
    rw [decF_text] at h
    have := decF_len htl ps true _ r _ h
    rw [List.length_append] at this
    rw [tot_cons, if_neg (by simp)]
    split at this
    · rename_i h0; subst h0; simp only [tot, List.map_nil, List.sum_nil] at this ⊢; omega
    · omega
  | [y], true, out, r, a, h => by rw [decF_last] at h; cases h
  | y :: z :: ps, true, out, r, a, h => by
    cases ht : tl y with
    | none => rw [decF_none ht] at h; cases h
    | some t =>
      rw [decF_some ht (by simp)] at h
      have := decF_len htl (z :: ps) false _ r _ h
      have h2 := htl y t ht
      rw [List.length_append, if_neg (by simp)] at this
      rw [tot_cons, if_neg (by simp)]
      omega
end
theorem cut_cons (c : UInt8) : ∀ (s : List UInt8) (x y : List UInt8) (r : List (List UInt8)), cutL c s = x :: y :: r → ∃ s2, s = x ++ c :: s2 ∧ cutL c s2 = y :: r
  | [], x, y, r, h => by simp [cutL] at h
  | a :: l, x, y, r, h => by
    by_cases ha : a = c
    · rw [cutL_eq _ ha] at h
      simp only [List.cons.injEq] at h
      exact ⟨l, by rw [← h.1, ha]; rfl, h.2⟩
    · rw [cutL_other _ ha] at h
      have h0 := cutL_ne c l
      cases hc : cutL c l with
      | nil => exact (h0 hc).elim
      | cons h' t' =>
        rw [hc] at h
        simp only [List.headD_cons, List.tail_cons, List.cons.injEq] at h
        obtain ⟨s2, e1, e2⟩ := cut_cons c l h' y r (by rw [hc, h.2])
        exact ⟨s2, by rw [e1, ← h.1]; rfl, e2⟩
/-- where a text is wrong there is an escape's sign -/
theorem decF_at {tl : List UInt8 → Option (List UInt8)} (c : UInt8) : ∀ (n : Nat) (s : List UInt8), s.length ≤ n → ∀ (out : List UInt8) (a e : Nat), decF tl false (cutL c s) out a = .error e → ∃ i, e = a + i ∧ s[i]? = some c
  | n, s, hn, out, a, e, h => by
    cases hc : cutL c s with
    | nil => exact (cutL_ne c s hc).elim
    | cons x r =>
      rw [hc] at h
      cases r with
      | nil => rw [decF_text, decF_end] at h; cases h
      | cons y r =>
        obtain ⟨s2, e1, e2⟩ := cut_cons c s x y r hc
        have hx : s[x.length]? = some c := by rw [e1]; simp
        rw [decF_text] at h
        cases ht : tl y with
        | none => rw [decF_none ht] at h; cases h; exact ⟨_, rfl, hx⟩
        | some t =>
          cases r with
          | nil => rw [decF_last] at h; cases h; exact ⟨_, rfl, hx⟩
          | cons z r =>
            rw [decF_some ht (by simp)] at h
            obtain ⟨s3, e3, e4⟩ := cut_cons c s2 y z r e2
            rw [← e4] at h
            have hlen : s3.length < s.length := by rw [e1, e3]; simp; omega
            match n, hn with
            | 0, hn => omega
            | n + 1, hn =>
              obtain ⟨i, h1, h2⟩ := decF_at c n s3 (by omega) _ _ _ h
              refine ⟨x.length + y.length + 2 + i, by omega, ?_⟩
              rw [e1, e3]
              rw [List.getElem?_append_right (by omega), show x.length + y.length + 2 + i - x.length = (y.length + 1 + i) + 1 by omega, List.getElem?_cons_succ, List.getElem?_append_right (by omega), show y.length + 1 + i - y.length = i + 1 by omega, List.getElem?_cons_succ]
              exact h2
section
variable {F P R E U : UInt8}
theorem enc_app (s t : List UInt8) : enc F P R E U (s ++ t) = enc F P R E U s ++ enc F P R E U t := by simp [enc]
theorem dec_app {s t x y : List UInt8} (hs : dec F P R E U s = .ok x) (ht : dec F P R E U t = .ok y) : dec F P R E U (s ++ t) = .ok (x ++ y) := by
  unfold dec at *
  obtain ⟨init, last, h1⟩ := cutL_last E s
  cases h2 : cutL E t with
  | nil => exact (cutL_ne E t h2).elim
  | cons hd tl' =>
    rw [cutL_app E t hd tl' h2 s init last h1]
    rw [h1] at hs
    rw [h2] at ht
    obtain ⟨a', e⟩ := decF_app init.length init (Nat.le_refl _) last [] x 0 hs hd tl'
    rw [e]
    have := decF_shift _ _ _ _ _ ht x a'
    simpa using this
theorem dec_len {s x : List UInt8} (h : dec F P R E U s = .ok x) : x.length ≤ s.length := by
  have := decF_len (fun _ _ h => tell_len h) _ _ _ _ _ h
  rw [cutL_tot, if_neg (cutL_ne E s)] at this
  simp at this
  omega
theorem dec_err {s : List UInt8} {e : Nat} (h : dec F P R E U s = .error e) : s[e]? = some E := by
  obtain ⟨i, h1, h2⟩ := decF_at E s.length s (Nat.le_refl _) [] 0 e h
  rw [h1, Nat.zero_add]; exact h2
end
/-- how many bytes more -/
def more (c : UInt8) : Nat := if c = 124 ∨ c = 94 ∨ c = 126 ∨ c = 92 ∨ c = 38 then 2 else if c = 11 ∨ c = 13 ∨ c = 28 then 4 else 0
def mores (s : List UInt8) : Nat := (s.map more).sum
theorem mores_snoc (s : List UInt8) (c : UInt8) : mores (s ++ [c]) = mores s + more c := by simp [mores]
theorem encB_more (c : UInt8) : (encB 124 94 126 92 38 c).length = 1 + more c := by
  have key : ∀ n : Fin 256, (encB 124 94 126 92 38 (UInt8.ofNat n.val)).length = 1 + more (UInt8.ofNat n.val) := by decide +kernel
  have := key ⟨c.toNat, c.toNat_lt⟩
  simpa using this
theorem enc_more (s : List UInt8) : (enc 124 94 126 92 38 s).length = s.length + mores s := by
  induction s with
  | nil => rfl
  | cons c s ih =>
    rw [enc_cons, List.length_append, encB_more, ih]
    simp only [mores, List.map_cons, List.sum_cons, List.length_cons]
    omega
theorem mores_le (s : List UInt8) : mores s ≤ 4 * s.length := by
  induction s with
  | nil => simp [mores]
  | cons c s ih =>
    simp only [mores, List.map_cons, List.sum_cons, List.length_cons] at *
    have : more c ≤ 4 := by unfold more; split <;> (try split) <;> omega
    omega
end Sp
end Go.Proofs.YtkiloebfjooogaaDoor
