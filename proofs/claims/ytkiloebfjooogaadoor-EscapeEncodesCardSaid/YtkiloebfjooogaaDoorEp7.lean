/-
  A part of the proof of this seat's laws: escapes, plainly.
-/
import Derived.Test.YtkiloebfjooogaaDoorEs2
import Derived.Lib.SlTrimSet
namespace Go.Proofs.YtkiloebfjooogaaDoor
set_option linter.unusedVariables false
set_option linter.unusedSimpArgs false
namespace Sp
/-- a sign: graphic, no capital letter, no digit -/
def Sg (c : UInt8) : Prop := 33 ≤ c.toNat ∧ c.toNat ≤ 126 ∧ ¬ (65 ≤ c.toNat ∧ c.toNat ≤ 90) ∧ ¬ (48 ≤ c.toNat ∧ c.toNat ≤ 57)
theorem sg_of {c : UInt8} (h : sgn (c.toNat : Int) = true) : Sg c := by
  unfold sgn at h
  rw [decide_eq_true_eq] at h
  exact ⟨by omega, by omega, by omega, by omega⟩
/-- signs that may be -/
structure Rt (F P R E U : UInt8) : Prop where
  sF : Sg F
  sP : Sg P
  sR : Sg R
  sE : Sg E
  sU : Sg U
  FP : F ≠ P
  FR : F ≠ R
  FE : F ≠ E
  FU : F ≠ U
  PR : P ≠ R
  PE : P ≠ E
  PU : P ≠ U
  RE : R ≠ E
  RU : R ≠ U
  EU : E ≠ U
theorem rt_of {F P R E U : UInt8} (h : right (F.toNat : Int) (P.toNat : Int) (R.toNat : Int) (E.toNat : Int) (U.toNat : Int) = true) : Rt F P R E U := by
  unfold right at h
  simp only [Bool.and_eq_true, decide_eq_true_eq] at h
  obtain ⟨⟨⟨⟨⟨h0, h1⟩, h2⟩, h3⟩, h4⟩, d1, d2, d3, d4, d5, d6, d7, d8, d9, d10⟩ := h
  exact ⟨sg_of h0, sg_of h1, sg_of h2, sg_of h3, sg_of h4, fun e => d1 (by rw [e]), fun e => d2 (by rw [e]), fun e => d3 (by rw [e]), fun e => d4 (by rw [e]), fun e => d5 (by rw [e]), fun e => d6 (by rw [e]), fun e => d7 (by rw [e]), fun e => d8 (by rw [e]), fun e => d9 (by rw [e]), fun e => d10 (by rw [e])⟩
/-- the three bytes are no signs -/
theorem Sg.ne {c : UInt8} (h : Sg c) : c ≠ 11 ∧ c ≠ 13 ∧ c ≠ 28 :=
  ⟨fun e => by subst e; exact absurd h.1 (by decide), fun e => by subst e; exact absurd h.1 (by decide), fun e => by subst e; exact absurd h.1 (by decide)⟩
/-- a capital letter or a digit -/
def An (c : UInt8) : Prop := (65 ≤ c.toNat ∧ c.toNat ≤ 90) ∨ (48 ≤ c.toNat ∧ c.toNat ≤ 57)
theorem An.ne {c x : UInt8} (h : Sg c) (hx : An x) : x ≠ c := by
  rintro rfl
  obtain ⟨_, _, h1, h2⟩ := h
  rcases hx with hx | hx
  · exact h1 hx
  · exact h2 hx
section
variable (F P R E U : UInt8)
theorem ins_eq (y : UInt8) : ins F P R E U y = if y = 11 then some [88, 48, 66] else if y = 13 then some [88, 48, 68] else if y = 28 then some [88, 49, 67] else
    if y = F then some [70] else if y = P then some [83] else if y = U then some [84] else if y = R then some [82] else if y = E then some [69] else none := by
  show (((((ins0 y).or (if some F = some y then some [70] else none)).or (if some P = some y then some [83] else none)).or (if some U = some y then some [84] else none)).or (if some R = some y then some [82] else none)).or (if some E = some y then some [69] else none) = _
  unfold ins0
  by_cases h1 : y = 11
  · subst h1; simp
  by_cases h2 : y = 13
  · subst h2; simp
  by_cases h3 : y = 28
  · subst h3; simp
  by_cases h4 : y = F
  · subst h4; simp [h1, h2, h3]
  by_cases h5 : y = P
  · subst h5; simp [h1, h2, h3, h4, Ne.symm h4]
  by_cases h6 : y = U
  · subst h6; simp [h1, h2, h3, h4, h5, Ne.symm h4, Ne.symm h5]
  by_cases h7 : y = R
  · subst h7; simp [h1, h2, h3, h4, h5, h6, Ne.symm h4, Ne.symm h5, Ne.symm h6]
  by_cases h8 : y = E
  · subst h8; simp [h1, h2, h3, h4, h5, h6, h7, Ne.symm h4, Ne.symm h5, Ne.symm h6, Ne.symm h7]
  simp [h1, h2, h3, h4, h5, h6, h7, h8, Ne.symm h4, Ne.symm h5, Ne.symm h6, Ne.symm h7, Ne.symm h8]
/-- the byte that an escape's inside tells by name -/
def inv (x : List UInt8) : Option UInt8 :=
  if x = [88, 48, 66] then some 11 else if x = [88, 48, 68] then some 13 else if x = [88, 49, 67] then some 28 else
  if x = [70] then some F else if x = [83] then some P else if x = [84] then some U else if x = [82] then some R else if x = [69] then some E else none
variable {F P R E U}
theorem ins_inv {y : UInt8} {x : List UInt8} (h : ins F P R E U y = some x) : inv F P R E U x = some y := by
  rw [ins_eq] at h
  unfold inv
  split at h
  · subst_vars; cases h; rfl
  split at h
  · subst_vars; cases h; rfl
  split at h
  · subst_vars; cases h; rfl
  split at h
  · subst_vars; cases h; rfl
  split at h
  · subst_vars; cases h; rfl
  split at h
  · subst_vars; cases h; rfl
  split at h
  · subst_vars; cases h; rfl
  split at h
  · subst_vars; cases h; rfl
  · cases h
theorem inv_ins (r : Rt F P R E U) {y : UInt8} {x : List UInt8} (h : inv F P R E U x = some y) : ins F P R E U y = some x := by
  have nF := r.sF.ne
  have nP := r.sP.ne
  have nR := r.sR.ne
  have nE := r.sE.ne
  have nU := r.sU.ne
  have a1 := r.FP; have a2 := r.FR; have a3 := r.FE; have a4 := r.FU; have a5 := r.PR; have a6 := r.PE; have a7 := r.PU; have a8 := r.RE; have a9 := r.RU; have a10 := r.EU
  unfold inv at h
  rw [ins_eq]
  split at h
  · cases h; subst_vars; rfl
  split at h
  · cases h; subst_vars; rfl
  split at h
  · cases h; subst_vars; rfl
  split at h
  · cases h; subst_vars; simp [nF]
  split at h
  · cases h; subst_vars; simp [nP, Ne.symm a1]
  split at h
  · cases h; subst_vars; simp [nU, Ne.symm a4, Ne.symm a7]
  split at h
  · cases h; subst_vars; simp [nR, Ne.symm a2, Ne.symm a5, a9]
  split at h
  · cases h; subst_vars; simp [nE, Ne.symm a3, Ne.symm a6, Ne.symm a8, a10]
  · cases h
/-- escapes' insides are letters and digits -/
theorem ins_an {y : UInt8} {x : List UInt8} (h : ins F P R E U y = some x) : (∀ c ∈ x, An c) ∧ x ≠ [] ∧ x.length ≤ 3 := by
  rw [ins_eq] at h
  have key : ∀ z : List UInt8, z.all (fun c => decide ((65 ≤ c.toNat ∧ c.toNat ≤ 90) ∨ (48 ≤ c.toNat ∧ c.toNat ≤ 57))) = true → ∀ c ∈ z, An c := fun z hz c hc => by
    have h := List.all_eq_true.1 hz c hc
    rw [decide_eq_true_eq] at h
    exact h
  split at h
  · cases h; exact ⟨key _ (by decide), by decide, by decide⟩
  split at h
  · cases h; exact ⟨key _ (by decide), by decide, by decide⟩
  split at h
  · cases h; exact ⟨key _ (by decide), by decide, by decide⟩
  split at h
  · cases h; exact ⟨key _ (by decide), by decide, by decide⟩
  split at h
  · cases h; exact ⟨key _ (by decide), by decide, by decide⟩
  split at h
  · cases h; exact ⟨key _ (by decide), by decide, by decide⟩
  split at h
  · cases h; exact ⟨key _ (by decide), by decide, by decide⟩
  split at h
  · cases h; exact ⟨key _ (by decide), by decide, by decide⟩
  · cases h
/-- a byte without an escape is none of them -/
theorem ins_none {y : UInt8} (h : ins F P R E U y = none) : y ≠ 11 ∧ y ≠ 13 ∧ y ≠ 28 ∧ y ≠ F ∧ y ≠ P ∧ y ≠ U ∧ y ≠ R ∧ y ≠ E := by
  rw [ins_eq] at h
  by_cases h1 : y = 11
  · simp [h1] at h
  by_cases h2 : y = 13
  · simp [h2] at h
  by_cases h3 : y = 28
  · simp [h3] at h
  rw [if_neg h1, if_neg h2, if_neg h3] at h
  by_cases h4 : y = F
  · rw [if_pos h4] at h; cases h
  rw [if_neg h4] at h
  by_cases h5 : y = P
  · rw [if_pos h5] at h; cases h
  rw [if_neg h5] at h
  by_cases h6 : y = U
  · rw [if_pos h6] at h; cases h
  rw [if_neg h6] at h
  by_cases h7 : y = R
  · rw [if_pos h7] at h; cases h
  rw [if_neg h7] at h
  by_cases h8 : y = E
  · rw [if_pos h8] at h; cases h
  exact ⟨h1, h2, h3, h4, h5, h6, h7, h8⟩
end
/-- pairs of digits -/
def unhex : List UInt8 → Option (List UInt8)
  | [] => some []
  | [_] => none
  | a :: b :: l => match hdv a, hdv b, unhex l with
    | some x, some y, some t => some (UInt8.ofNat (16 * x + y) :: t)
    | _, _, _ => none
/-- what an escape's inside tells by numbers -/
def hexT : List UInt8 → Option (List UInt8)
  | c :: h => if c = 88 ∧ h ≠ [] then unhex h else none
  | [] => none
/-- what an escape's inside tells -/
def tell (F P R E U : UInt8) (x : List UInt8) : Option (List UInt8) :=
  match inv F P R E U x with
  | some c => some [c]
  | none => hexT x
theorem unhex_len : ∀ {h t : List UInt8}, unhex h = some t → h.length = 2 * t.length
  | [], t, e => by simp [unhex] at e; subst e; rfl
  | [_], t, e => by simp [unhex] at e
  | a :: b :: l, t, e => by
    unfold unhex at e
    split at e
    · rename_i x y r h1 h2 h3
      cases e
      have := unhex_len h3
      simp only [List.length_cons]; omega
    · cases e
theorem tell_len {F P R E U : UInt8} {x t : List UInt8} (h : tell F P R E U x = some t) : t.length ≤ x.length := by
  unfold tell at h
  split at h
  · rename_i c hc
    cases h
    have : x ≠ [] := by rintro rfl; simp [inv] at hc
    have := List.length_pos_iff.2 this
    simp; omega
  · unfold hexT at h
    split at h
    · split at h
      · have := unhex_len h
        simp; omega
      · cases h
    · cases h
/-- of parts: ahead of, in, and behind escapes -/
def decF (tl : List UInt8 → Option (List UInt8)) : Bool → List (List UInt8) → List UInt8 → Nat → Except Nat (List UInt8)
  | _, [], out, _ => .ok out
  | false, x :: r, out, a => decF tl true r (out ++ x) (a + x.length)
  | true, [_], _, a => .error a
  | true, y :: z :: r, out, a => match tl y with
    | none => .error a
    | some t => decF tl false (z :: r) (out ++ t) (a + y.length + 2)
/-- a text decoded -/
def dec (F P R E U : UInt8) (s : List UInt8) : Except Nat (List UInt8) := decF (tell F P R E U) false (cutL E s) [] 0
/-- a byte as it may stand in a field -/
def encB (F P R E U : UInt8) (y : UInt8) : List UInt8 := match ins F P R E U y with
  | some x => [E] ++ x ++ [E]
  | none => [y]
def enc (F P R E U : UInt8) (s : List UInt8) : List UInt8 := s.flatMap (encB F P R E U)
theorem enc_nil (F P R E U : UInt8) : enc F P R E U [] = [] := rfl
theorem enc_cons (F P R E U : UInt8) (y : UInt8) (s : List UInt8) : enc F P R E U (y :: s) = encB F P R E U y ++ enc F P R E U s := by simp [enc]
theorem enc_snoc (F P R E U : UInt8) (s : List UInt8) (y : UInt8) : enc F P R E U (s ++ [y]) = enc F P R E U s ++ encB F P R E U y := by simp [enc]
theorem encB_some {F P R E U : UInt8} {y : UInt8} {x : List UInt8} (h : ins F P R E U y = some x) : encB F P R E U y = [E] ++ x ++ [E] := by unfold encB; rw [h]
theorem encB_none {F P R E U : UInt8} {y : UInt8} (h : ins F P R E U y = none) : encB F P R E U y = [y] := by unfold encB; rw [h]
theorem encB_len (F P R E U : UInt8) (y : UInt8) : 1 ≤ (encB F P R E U y).length ∧ (encB F P R E U y).length ≤ 5 := by
  cases h : ins F P R E U y with
  | none => rw [encB_none h]; simp
  | some x =>
    have := (ins_an h).2.2
    rw [encB_some h]; simp; omega
theorem enc_len (F P R E U : UInt8) : ∀ s : List UInt8, s.length ≤ (enc F P R E U s).length ∧ (enc F P R E U s).length ≤ 5 * s.length
  | [] => by simp [enc]
  | y :: s => by
    have h1 := encB_len F P R E U y
    have h2 := enc_len F P R E U s
    rw [enc_cons, List.length_append, List.length_cons]
    omega
/-- without escapes -/
def clean (F P R E U : UInt8) (s : List UInt8) : Bool := s.all fun y => (ins F P R E U y).isNone
theorem clean_iff (F P R E U : UInt8) : ∀ s : List UInt8, clean F P R E U s = true ↔ enc F P R E U s = s
  | [] => by simp [clean, enc]
  | y :: s => by
    have ih := clean_iff F P R E U s
    have hc : clean F P R E U (y :: s) = ((ins F P R E U y).isNone && clean F P R E U s) := rfl
    rw [hc, enc_cons]
    cases h : ins F P R E U y with
    | none => rw [encB_none h]; simp [ih]
    | some x =>
      rw [encB_some h]
      simp only [Option.isNone_some, Bool.false_and, Bool.false_eq_true, false_iff]
      intro e
      have := congrArg List.length e
      have h3 := (enc_len F P R E U s).1
      simp at this
      omega
section
variable {F P R E U : UInt8} (r : Rt F P R E U)
include r
/-- what is encoded tells what it was -/
theorem dec_enc : ∀ (s out : List UInt8) (a : Nat), decF (tell F P R E U) false (cutL E (enc F P R E U s)) out a = .ok (out ++ s)
  | [], out, a => by
    rw [enc_nil]
    show decF (tell F P R E U) true [] (out ++ []) (a + 0) = _
    rw [decF]
  | y :: s, out, a => by
    have ih := dec_enc s
    have h0 := cutL_ne E (enc F P R E U s)
    cases hq : cutL E (enc F P R E U s) with
    | nil => exact (h0 hq).elim
    | cons hd tl =>
      rw [hq] at ih
      rw [enc_cons]
      cases h : ins F P R E U y with
      | none =>
        have hyE := (ins_none h).2.2.2.2.2.2.2
        rw [encB_none h, List.singleton_append, cutL_other _ hyE, hq]
        have := ih (out ++ [y]) (a + 1)
        rw [decF] at this ⊢
        rw [List.headD_cons, List.tail_cons]
        rw [show out ++ y :: hd = out ++ [y] ++ hd by simp, show a + (y :: hd).length = a + 1 + hd.length by simp; omega, this]
        simp
      | some x =>
        have hx := (ins_an h).1
        have hE : E ∉ x := fun hm => An.ne r.sE (hx E hm) rfl
        have ht : tell F P R E U x = some [y] := by unfold tell; rw [ins_inv h]
        rw [encB_some h, show [E] ++ x ++ [E] ++ enc F P R E U s = E :: (x ++ E :: enc F P R E U s) by simp, cutL_eq _ rfl, cutL_mid, cutL_none hE, hq]
        show decF (tell F P R E U) false ([] :: x :: hd :: tl) out a = _
        rw [decF, decF, ht]
        have := ih (out ++ [y]) (a + x.length + 2)
        simpa using this
theorem dec_back (s : List UInt8) : dec F P R E U (enc F P R E U s) = .ok s := by
  unfold dec
  rw [dec_enc r]; simp
/-- no signs but the escape's, none of the three bytes -/
theorem enc_free : ∀ (s : List UInt8), ∀ c ∈ enc F P R E U s, c ≠ F ∧ c ≠ P ∧ c ≠ R ∧ c ≠ U ∧ c ≠ 11 ∧ c ≠ 13 ∧ c ≠ 28
  | [], c, hc => by simp [enc] at hc
  | y :: s, c, hc => by
    rw [enc_cons, List.mem_append] at hc
    rcases hc with hc | hc
    · cases h : ins F P R E U y with
      | none =>
        rw [encB_none h, List.mem_singleton] at hc
        subst hc
        obtain ⟨h1, h2, h3, h4, h5, h6, h7, h8⟩ := ins_none h
        exact ⟨h4, h5, h7, h6, h1, h2, h3⟩
      | some x =>
        rw [encB_some h] at hc
        have hx := (ins_an h).1
        simp only [List.mem_append, List.mem_singleton] at hc
        have hEE : c = E → c ≠ F ∧ c ≠ P ∧ c ≠ R ∧ c ≠ U ∧ c ≠ 11 ∧ c ≠ 13 ∧ c ≠ 28 := by
          intro e
          rw [e]
          exact ⟨Ne.symm r.FE, Ne.symm r.PE, Ne.symm r.RE, r.EU, r.sE.ne⟩
        rcases hc with (hc | hc) | hc
        · exact hEE hc
        · have ha := hx c hc
          refine ⟨An.ne r.sF ha, An.ne r.sP ha, An.ne r.sR ha, An.ne r.sU ha, ?_⟩
          refine ⟨fun e => ?_, fun e => ?_, fun e => ?_⟩ <;> subst e <;> rcases ha with ha | ha <;> exact absurd ha (by decide)
        · exact hEE hc
    · exact enc_free s c hc
end
/-- the digits -/
abbrev digs : List UInt8 := [48, 49, 50, 51, 52, 53, 54, 55, 56, 57, 65, 66, 67, 68, 69, 70]
theorem hdv_dig (c : UInt8) : (hdv c).isSome = digs.contains c := by
  have key : ∀ n : Fin 256, (hdv (UInt8.ofNat n.val)).isSome = digs.contains (UInt8.ofNat n.val) := by decide +kernel
  have := key ⟨c.toNat, c.toNat_lt⟩
  simpa using this
theorem trim_empty (l cs : List UInt8) : (Lib.trimS l cs = []) ↔ ∀ c ∈ l, cs.contains c = true := by
  have dw : ∀ m : List UInt8, m.dropWhile (cs.contains ·) = [] ↔ ∀ c ∈ m, cs.contains c = true := by
    intro m
    induction m with
    | nil => simp
    | cons x m ih =>
      rw [List.dropWhile_cons]
      by_cases h : cs.contains x = true
      · rw [if_pos h, ih]; simp at h; simp [h]
      · rw [if_neg h]; simp at h; simp [h]
  unfold Lib.trimS Lib.trimLeftS Lib.trimRightS
  rw [dw]
  constructor
  · intro h
    by_cases h0 : l.reverse.dropWhile (cs.contains ·) = []
    · rw [dw] at h0
      intro c hc
      exact h0 c (List.mem_reverse.2 hc)
    · obtain ⟨x, m, hm⟩ := List.exists_cons_of_ne_nil h0
      have hx : ¬ cs.contains x = true := by
        have := List.head?_dropWhile_not (cs.contains ·) l.reverse
        rw [hm] at this
        simpa using this
      exact absurd (h x (by rw [hm]; simp)) hx
  · intro h c hc
    rw [List.mem_reverse] at hc
    exact h c (List.mem_reverse.1 ((List.dropWhile_sublist _).subset hc))
theorem unhex_some : ∀ (h : List UInt8), h.length % 2 = 0 → (∀ c ∈ h, digs.contains c = true) → ∃ t, unhex h = some t
  | [], _, _ => ⟨[], rfl⟩
  | [_], h, _ => by simp at h
  | a :: b :: l, h, hd => by
    obtain ⟨t, ht⟩ := unhex_some l (by simp at h; omega) (fun c hc => hd c (by simp [hc]))
    have ha := hd a (by simp)
    have hb := hd b (by simp)
    rw [← hdv_dig, Option.isSome_iff_exists] at ha hb
    obtain ⟨x, hx⟩ := ha
    obtain ⟨y, hy⟩ := hb
    exact ⟨_, by rw [unhex, hx, hy, ht]⟩
theorem unhex_dig : ∀ (h t : List UInt8), unhex h = some t → h.length % 2 = 0 ∧ ∀ c ∈ h, digs.contains c = true
  | [], t, _ => by simp
  | [_], t, h => by simp [unhex] at h
  | a :: b :: l, t, h => by
    unfold unhex at h
    split at h
    · rename_i x y r h1 h2 h3
      obtain ⟨i1, i2⟩ := unhex_dig l r h3
      refine ⟨by simp; omega, fun c hc => ?_⟩
      rcases List.mem_cons.1 hc with rfl | hc
      · rw [← hdv_dig, h1]; rfl
      rcases List.mem_cons.1 hc with rfl | hc
      · rw [← hdv_dig, h2]; rfl
      · exact i2 c hc
    · cases h
end Sp
end Go.Proofs.YtkiloebfjooogaaDoor
