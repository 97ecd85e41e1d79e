/-
  A part of the proof of this seat's laws: events and steps and their texts, plainly.
-/
import Derived.Test.YtpchfmeaplhodaaDoorTp2
import Derived.Test.YtpchfmeaplhodaaDoorSp8
import Derived.Lib.IndexMore
import Derived.Lib.ItoaLen
namespace Go.Proofs.YtpchfmeaplhodaaDoor
set_option linter.unusedVariables false
set_option linter.unusedSimpArgs false
namespace Sp
/-- the words of a kind -/
def kw : Nat → List UInt8
  | 0 => [105, 110]
  | 1 => [111, 117, 116]
  | 2 => [100, 114, 111, 112, 32, 105, 110]
  | 3 => [100, 114, 111, 112, 32, 111, 117, 116]
  | 4 => [116, 105, 99, 107]
  | 5 => [114, 111, 111, 109]
  | 6 => [102, 97, 105, 108, 115, 121, 110, 99]
  | 7 => [97, 114, 109]
  | _ => [112, 111, 119, 101, 114]
def kd : Nat → Bool
  | 0 => true
  | 1 => true
  | _ => false
def kc : Nat → Bool
  | 4 => true
  | 5 => true
  | 6 => true
  | 7 => true
  | _ => false
def kk : Nat → Bool
  | 7 => true
  | 8 => true
  | _ => false
/-- an event -/
structure Evt where
  kind : Int
  n : Int
  keep : Int
  data : List UInt8
/-- an event's text, or why there is none -/
def evT (e : Evt) : Except Int (List UInt8) :=
  if e.kind < 0 ∨ 9 ≤ e.kind then .error 17
  else if (kd e.kind.toNat = false ∧ e.data ≠ []) ∨ (kc e.kind.toNat = false ∧ e.n ≠ 0) ∨ (kk e.kind.toNat = false ∧ e.keep ≠ 0) then .error 10
  else .ok (kw e.kind.toNat ++ ((if kd e.kind.toNat = true then 32 :: hexT e.data else []) ++ ((if kc e.kind.toNat = true then 32 :: Lib.itoa e.n else []) ++ (if kk e.kind.toNat = true then 32 :: Lib.itoa e.keep else []))))
def evV : Except Int (List UInt8) → Value
  | .error c => .tuple #[.string ⟨#[]⟩, .int .i64 c]
  | .ok t => .tuple #[.string (bs t), .int .i64 0]
end Sp
end Go.Proofs.YtpchfmeaplhodaaDoor
namespace Go.Proofs.YtpchfmeaplhodaaDoor
set_option linter.unusedVariables false
set_option linter.unusedSimpArgs false
namespace Sp
/-- an event's fields of words -/
def fillD (k : Int) (ws : List (List UInt8)) : Option Evt := (bytesT (ws.headD [])).bind fun d => if ws.tail = [] then some ⟨k, 0, 0, d⟩ else none
def fillC (k : Int) (ws : List (List UInt8)) : Option Evt := (numT (ws.headD [])).bind fun n => if ws.tail = [] then some ⟨k, n, 0, []⟩ else none
def fillK (k : Int) (ws : List (List UInt8)) : Option Evt := (numT (ws.headD [])).bind fun n => if ws.tail = [] then some ⟨k, 0, n, []⟩ else none
def fillCK (k : Int) (ws : List (List UInt8)) : Option Evt := (numT (ws.headD [])).bind fun n => (numT (ws.tail.headD [])).bind fun m => if ws.tail.tail = [] then some ⟨k, n, m, []⟩ else none
def fill0 (k : Int) (ws : List (List UInt8)) : Option Evt := if ws = [] then some ⟨k, 0, 0, []⟩ else none
theorem bytesT_nil : bytesT [] = none := rfl
theorem numT_nil : numT [] = none := rfl
end Sp
end Go.Proofs.YtpchfmeaplhodaaDoor
namespace Go.Proofs.YtpchfmeaplhodaaDoor
set_option linter.unusedVariables false
set_option linter.unusedSimpArgs false
namespace Sp
theorem cutL_le (c : UInt8) : ∀ (l x : List UInt8), x ∈ cutL c l → x.length ≤ l.length
  | [], x, h => by simp [cutL] at h; subst h; exact Nat.le_refl _
  | y :: l, x, h => by
    by_cases hy : y = c
    · rw [cutL_eq _ hy, List.mem_cons] at h
      rcases h with rfl | h
      · simp
      · exact Nat.le_trans (cutL_le c l x h) (by simp)
    · rw [cutL_other _ hy, List.mem_cons] at h
      have hne := cutL_ne c l
      cases hl : cutL c l with
      | nil => exact absurd hl hne
      | cons a t =>
        rw [hl] at h
        rcases h with rfl | h
        · have := cutL_le c l a (by rw [hl]; exact List.mem_cons_self)
          simpa using this
        · have := cutL_le c l x (by rw [hl]; exact List.mem_cons_of_mem _ (by simpa using h))
          exact Nat.le_trans this (by simp)
def fillA (k : Nat) (K : Int) (ws : List (List UInt8)) : Option Evt := match k with
  | 0 => fillD K ws
  | 1 => fillD K ws
  | 2 => fill0 K ws
  | 3 => fill0 K ws
  | 4 => fillC K ws
  | 5 => fillC K ws
  | 6 => fillC K ws
  | 7 => fillCK K ws
  | _ => fillK K ws
theorem fillD_kind {K : Int} {ws : List (List UInt8)} {ev : Evt} (h : fillD K ws = some ev) : ev.kind = K := by
  unfold fillD at h
  cases hb : bytesT (ws.headD []) with
  | none => rw [hb] at h; cases h
  | some d =>
    rw [hb, Option.bind_some] at h
    split at h
    · cases h; rfl
    · cases h
theorem fillC_kind {K : Int} {ws : List (List UInt8)} {ev : Evt} (h : fillC K ws = some ev) : ev.kind = K := by
  unfold fillC at h
  cases hb : numT (ws.headD []) with
  | none => rw [hb] at h; cases h
  | some d =>
    rw [hb, Option.bind_some] at h
    split at h
    · cases h; rfl
    · cases h
theorem fillK_kind {K : Int} {ws : List (List UInt8)} {ev : Evt} (h : fillK K ws = some ev) : ev.kind = K := by
  unfold fillK at h
  cases hb : numT (ws.headD []) with
  | none => rw [hb] at h; cases h
  | some d =>
    rw [hb, Option.bind_some] at h
    split at h
    · cases h; rfl
    · cases h
theorem fillCK_kind {K : Int} {ws : List (List UInt8)} {ev : Evt} (h : fillCK K ws = some ev) : ev.kind = K := by
  unfold fillCK at h
  cases hb : numT (ws.headD []) with
  | none => rw [hb] at h; cases h
  | some d =>
    rw [hb, Option.bind_some] at h
    cases hc : numT (ws.tail.headD []) with
    | none => rw [hc] at h; cases h
    | some m =>
      rw [hc, Option.bind_some] at h
      split at h
      · cases h; rfl
      · cases h
theorem fill0_kind {K : Int} {ws : List (List UInt8)} {ev : Evt} (h : fill0 K ws = some ev) : ev.kind = K := by
  unfold fill0 at h
  split at h
  · cases h; rfl
  · cases h
theorem fillA_kind {k : Nat} {K : Int} {ws : List (List UInt8)} {ev : Evt} (h : fillA k K ws = some ev) : ev.kind = K := by
  unfold fillA at h
  split at h
  · exact fillD_kind h
  · exact fillD_kind h
  · exact fill0_kind h
  · exact fill0_kind h
  · exact fillC_kind h
  · exact fillC_kind h
  · exact fillC_kind h
  · exact fillCK_kind h
  · exact fillK_kind h
/-- the words behind a kind's -/
def rest (k : Nat) (s : List UInt8) : List (List UInt8) := (cutL 32 (Lib.trimPrefix (s ++ [32]) (kw k ++ [32]))).dropLast
def resK (k : Nat) (s : List UInt8) : Option Evt := if Lib.hasPrefix (s ++ [32]) (kw k ++ [32]) = true then fillA k k (rest k s) else none
def firsts (s : List UInt8) : Nat → Option Evt
  | 0 => none
  | n + 1 => (firsts s n).or (resK n s)
/-- an event of a text -/
def readS (s : List UInt8) : Option Evt := firsts s 9
theorem firsts_none {s : List UInt8} {k : Nat} (h : firsts s k = none) (h2 : resK k s = none) : firsts s (k + 1) = none := by
  show (firsts s k).or (resK k s) = none
  rw [h, h2]; rfl
theorem firsts_some {s : List UInt8} {k : Nat} {ev : Evt} (h : firsts s k = none) (h2 : resK k s = some ev) : ∀ n, k < n → firsts s n = some ev
  | 0, hn => by omega
  | n + 1, hn => by
    show (firsts s n).or (resK n s) = some ev
    by_cases e : n = k
    · subst e; rw [h, h2]; rfl
    · rw [firsts_some h h2 n (by omega)]; rfl
end Sp
end Go.Proofs.YtpchfmeaplhodaaDoor
namespace Go.Proofs.YtpchfmeaplhodaaDoor
set_option linter.unusedVariables false
set_option linter.unusedSimpArgs false
namespace Sp
/-- words, each with a blank behind -/
def J (l : List (List UInt8)) : List UInt8 := l.flatMap fun x => x ++ [32]
theorem J_app (a b : List (List UInt8)) : J (a ++ b) = J a ++ J b := by simp [J]
theorem J_cons (x : List UInt8) (l : List (List UInt8)) : J (x :: l) = x ++ 32 :: J l := by simp [J]
theorem J_cut : ∀ s : List UInt8, J (cutL 32 s) = s ++ [32]
  | [] => rfl
  | y :: s => by
    have ih := J_cut s
    by_cases hy : y = 32
    · rw [cutL_eq _ hy, J_cons, ih, hy]; rfl
    · rw [cutL_other _ hy]
      cases hl : cutL 32 s with
      | nil => exact absurd hl (cutL_ne 32 s)
      | cons a t =>
        rw [hl, J_cons] at ih
        rw [List.headD_cons, List.tail_cons, J_cons, List.cons_append, ih]; rfl
theorem cut_blank (s : List UInt8) : cutL 32 (s ++ [32]) = cutL 32 s ++ [[]] := by
  have := cutL_mid 32 [] s
  simpa [cutL] using this
theorem cut_mid (a b : List UInt8) : cutL 32 (a ++ 32 :: b) = cutL 32 a ++ cutL 32 b := cutL_mid 32 b a
/-- a row of words ahead -/
theorem pre_iff (s X : List UInt8) : Lib.hasPrefix (s ++ [32]) (X ++ [32]) = true ↔ ∃ wt, cutL 32 s = cutL 32 X ++ wt := by
  unfold Lib.hasPrefix
  rw [List.isPrefixOf_iff_prefix]
  constructor
  · rintro ⟨q, hq⟩
    refine ⟨(cutL 32 q).dropLast, ?_⟩
    have h := congrArg (cutL 32) hq
    rw [cut_blank, List.append_assoc, List.singleton_append, cut_mid] at h
    have hne := cutL_ne 32 q
    obtain ⟨i, l, hl⟩ : ∃ i l, cutL 32 q = i ++ [l] := ⟨_, _, (List.dropLast_concat_getLast hne).symm⟩
    rw [hl, ← List.append_assoc] at h
    have := List.append_inj' h (by rfl)
    rw [hl, List.dropLast_concat]
    exact this.1.symm
  · rintro ⟨wt, h⟩
    refine ⟨J wt, ?_⟩
    rw [← J_cut s, h, J_app, J_cut]
theorem rest_of {k : Nat} {s : List UInt8} (hp : Lib.hasPrefix (s ++ [32]) (kw k ++ [32]) = true) : cutL 32 s = cutL 32 (kw k) ++ rest k s := by
  unfold rest Lib.trimPrefix
  rw [if_pos hp]
  unfold Lib.hasPrefix at hp
  rw [List.isPrefixOf_iff_prefix] at hp
  obtain ⟨q, hq⟩ := hp
  rw [← hq, List.drop_left]
  have h := congrArg (cutL 32) hq
  rw [cut_blank, List.append_assoc, List.singleton_append, cut_mid] at h
  have hne := cutL_ne 32 q
  obtain ⟨i, l, hl⟩ : ∃ i l, cutL 32 q = i ++ [l] := ⟨_, _, (List.dropLast_concat_getLast hne).symm⟩
  rw [hl, ← List.append_assoc] at h
  have := List.append_inj' h (by rfl)
  rw [hl, List.dropLast_concat]
  exact this.1.symm
theorem rest_eq {k : Nat} {s : List UInt8} {wt : List (List UInt8)} (h : cutL 32 s = cutL 32 (kw k) ++ wt) : rest k s = wt := by
  have := rest_of ((pre_iff s (kw k)).2 ⟨wt, h⟩)
  rw [h] at this
  exact (List.append_cancel_left this).symm
/-- the words of a kind -/
def kx : Nat → List (List UInt8)
  | 0 => [[105, 110]]
  | 1 => [[111, 117, 116]]
  | 2 => [[100, 114, 111, 112], [105, 110]]
  | 3 => [[100, 114, 111, 112], [111, 117, 116]]
  | 4 => [[116, 105, 99, 107]]
  | 5 => [[114, 111, 111, 109]]
  | 6 => [[102, 97, 105, 108, 115, 121, 110, 99]]
  | 7 => [[97, 114, 109]]
  | _ => [[112, 111, 119, 101, 114]]
theorem kx_eq : ∀ k : Nat, cutL 32 (kw k) = kx k
  | 0 => by decide
  | 1 => by decide
  | 2 => by decide
  | 3 => by decide
  | 4 => by decide
  | 5 => by decide
  | 6 => by decide
  | 7 => by decide
  | n + 8 => by
    show cutL 32 [112, 111, 119, 101, 114] = [[112, 111, 119, 101, 114]]
    decide
theorem resK_some {k : Nat} {s : List UInt8} {ev : Evt} : resK k s = some ev ↔ ∃ wt, cutL 32 s = kx k ++ wt ∧ fillA k k wt = some ev := by
  unfold resK
  constructor
  · intro h
    split at h
    · rename_i hp
      exact ⟨rest k s, by rw [← kx_eq]; exact rest_of hp, h⟩
    · cases h
  · rintro ⟨wt, h1, h2⟩
    rw [← kx_eq] at h1
    rw [if_pos ((pre_iff s (kw k)).2 ⟨wt, h1⟩), rest_eq h1]
    exact h2
/-- an event of words -/
def readW (ws : List (List UInt8)) : Option Evt :=
  match ws with
  | [a, b] =>
    if a = [100, 114, 111, 112] ∧ b = [105, 110] then some ⟨2, 0, 0, []⟩
    else if a = [100, 114, 111, 112] ∧ b = [111, 117, 116] then some ⟨3, 0, 0, []⟩
    else if a = [105, 110] then (bytesT b).map fun d => ⟨0, 0, 0, d⟩
    else if a = [111, 117, 116] then (bytesT b).map fun d => ⟨1, 0, 0, d⟩
    else if a = [116, 105, 99, 107] then (numT b).map fun n => ⟨4, n, 0, []⟩
    else if a = [114, 111, 111, 109] then (numT b).map fun n => ⟨5, n, 0, []⟩
    else if a = [102, 97, 105, 108, 115, 121, 110, 99] then (numT b).map fun n => ⟨6, n, 0, []⟩
    else if a = [112, 111, 119, 101, 114] then (numT b).map fun n => ⟨8, 0, n, []⟩
    else none
  | [a, b, c] => if a = [97, 114, 109] then (numT b).bind fun n => (numT c).map fun m => ⟨7, n, m, []⟩ else none
  | _ => none
theorem fillD_some {K : Int} {wt : List (List UInt8)} {ev : Evt} : fillD K wt = some ev ↔ ∃ x d, wt = [x] ∧ bytesT x = some d ∧ ev = ⟨K, 0, 0, d⟩ := by
  unfold fillD
  constructor
  · intro h
    cases wt with
    | nil => rw [List.headD_nil, bytesT_nil] at h; cases h
    | cons x l =>
      rw [List.headD_cons] at h
      cases hb : bytesT x with
      | none => rw [hb] at h; cases h
      | some d =>
        rw [hb, Option.bind_some, List.tail_cons] at h
        split at h
        · rename_i hl; subst hl; cases h; exact ⟨x, d, rfl, hb, rfl⟩
        · cases h
  · rintro ⟨x, d, rfl, hb, rfl⟩
    rw [List.headD_cons, hb, Option.bind_some, List.tail_cons, if_pos rfl]
theorem fillC_some {K : Int} {wt : List (List UInt8)} {ev : Evt} : fillC K wt = some ev ↔ ∃ x n, wt = [x] ∧ numT x = some n ∧ ev = ⟨K, n, 0, []⟩ := by
  unfold fillC
  constructor
  · intro h
    cases wt with
    | nil => rw [List.headD_nil, numT_nil] at h; cases h
    | cons x l =>
      rw [List.headD_cons] at h
      cases hb : numT x with
      | none => rw [hb] at h; cases h
      | some d =>
        rw [hb, Option.bind_some, List.tail_cons] at h
        split at h
        · rename_i hl; subst hl; cases h; exact ⟨x, d, rfl, hb, rfl⟩
        · cases h
  · rintro ⟨x, d, rfl, hb, rfl⟩
    rw [List.headD_cons, hb, Option.bind_some, List.tail_cons, if_pos rfl]
theorem fillK_some {K : Int} {wt : List (List UInt8)} {ev : Evt} : fillK K wt = some ev ↔ ∃ x n, wt = [x] ∧ numT x = some n ∧ ev = ⟨K, 0, n, []⟩ := by
  unfold fillK
  constructor
  · intro h
    cases wt with
    | nil => rw [List.headD_nil, numT_nil] at h; cases h
    | cons x l =>
      rw [List.headD_cons] at h
      cases hb : numT x with
      | none => rw [hb] at h; cases h
      | some d =>
        rw [hb, Option.bind_some, List.tail_cons] at h
        split at h
        · rename_i hl; subst hl; cases h; exact ⟨x, d, rfl, hb, rfl⟩
        · cases h
  · rintro ⟨x, d, rfl, hb, rfl⟩
    rw [List.headD_cons, hb, Option.bind_some, List.tail_cons, if_pos rfl]
theorem fillCK_some {K : Int} {wt : List (List UInt8)} {ev : Evt} : fillCK K wt = some ev ↔ ∃ x y n m, wt = [x, y] ∧ numT x = some n ∧ numT y = some m ∧ ev = ⟨K, n, m, []⟩ := by
  unfold fillCK
  constructor
  · intro h
    cases wt with
    | nil => rw [List.headD_nil, numT_nil] at h; cases h
    | cons x l =>
      rw [List.headD_cons, List.tail_cons] at h
      cases hb : numT x with
      | none => rw [hb] at h; cases h
      | some n =>
        rw [hb, Option.bind_some] at h
        cases l with
        | nil => rw [List.headD_nil, numT_nil] at h; cases h
        | cons y l =>
          rw [List.headD_cons, List.tail_cons] at h
          cases hc : numT y with
          | none => rw [hc] at h; cases h
          | some m =>
            rw [hc, Option.bind_some] at h
            split at h
            · rename_i hl; subst hl; cases h; exact ⟨x, y, n, m, rfl, hb, hc, rfl⟩
            · cases h
  · rintro ⟨x, y, n, m, rfl, hb, hc, rfl⟩
    rw [List.headD_cons, hb, Option.bind_some, List.tail_cons, List.headD_cons, hc, Option.bind_some, List.tail_cons, if_pos rfl]
theorem fill0_some {K : Int} {wt : List (List UInt8)} {ev : Evt} : fill0 K wt = some ev ↔ wt = [] ∧ ev = ⟨K, 0, 0, []⟩ := by
  unfold fill0
  constructor
  · intro h
    split at h
    · rename_i hl; cases h; exact ⟨hl, rfl⟩
    · cases h
  · rintro ⟨rfl, rfl⟩; rfl
theorem readW_of {k : Nat} {ws wt : List (List UInt8)} {ev : Evt} (hk : k < 9) (h1 : ws = kx k ++ wt) (h2 : fillA k k wt = some ev) : readW ws = some ev := by
  have h : k = 0 ∨ k = 1 ∨ k = 2 ∨ k = 3 ∨ k = 4 ∨ k = 5 ∨ k = 6 ∨ k = 7 ∨ k = 8 := by omega
  rcases h with rfl | rfl | rfl | rfl | rfl | rfl | rfl | rfl | rfl
  · obtain ⟨x, d, rfl, hb, rfl⟩ := fillD_some.1 h2
    subst h1; simp [readW, kx, hb]
  · obtain ⟨x, d, rfl, hb, rfl⟩ := fillD_some.1 h2
    subst h1; simp [readW, kx, hb]
  · obtain ⟨rfl, rfl⟩ := fill0_some.1 h2
    subst h1; simp [readW, kx]
  · obtain ⟨rfl, rfl⟩ := fill0_some.1 h2
    subst h1; simp [readW, kx]
  · obtain ⟨x, d, rfl, hb, rfl⟩ := fillC_some.1 h2
    subst h1; simp [readW, kx, hb]
  · obtain ⟨x, d, rfl, hb, rfl⟩ := fillC_some.1 h2
    subst h1; simp [readW, kx, hb]
  · obtain ⟨x, d, rfl, hb, rfl⟩ := fillC_some.1 h2
    subst h1; simp [readW, kx, hb]
  · obtain ⟨x, y, n, m, rfl, hb, hc, rfl⟩ := fillCK_some.1 h2
    subst h1; simp [readW, kx, hb, hc]
  · obtain ⟨x, d, rfl, hb, rfl⟩ := fillK_some.1 h2
    subst h1; simp [readW, kx, hb]
theorem readW_inv {ws : List (List UInt8)} {ev : Evt} (h : readW ws = some ev) : ∃ k wt, k < 9 ∧ ws = kx k ++ wt ∧ fillA k k wt = some ev := by
  unfold readW at h
  split at h
  · rename_i a b
    split at h
    · rename_i hc; cases h; exact ⟨2, [], by decide, by rw [hc.1, hc.2]; rfl, rfl⟩
    · split at h
      · rename_i hc; cases h; exact ⟨3, [], by decide, by rw [hc.1, hc.2]; rfl, rfl⟩
      · split at h
        · rename_i hc
          obtain ⟨d, hd, rfl⟩ := Option.map_eq_some_iff.1 h
          exact ⟨0, [b], by decide, by rw [hc]; rfl, fillD_some.2 ⟨b, d, rfl, hd, rfl⟩⟩
        · split at h
          · rename_i hc
            obtain ⟨d, hd, rfl⟩ := Option.map_eq_some_iff.1 h
            exact ⟨1, [b], by decide, by rw [hc]; rfl, fillD_some.2 ⟨b, d, rfl, hd, rfl⟩⟩
          · split at h
            · rename_i hc
              obtain ⟨d, hd, rfl⟩ := Option.map_eq_some_iff.1 h
              exact ⟨4, [b], by decide, by rw [hc]; rfl, fillC_some.2 ⟨b, d, rfl, hd, rfl⟩⟩
            · split at h
              · rename_i hc
                obtain ⟨d, hd, rfl⟩ := Option.map_eq_some_iff.1 h
                exact ⟨5, [b], by decide, by rw [hc]; rfl, fillC_some.2 ⟨b, d, rfl, hd, rfl⟩⟩
              · split at h
                · rename_i hc
                  obtain ⟨d, hd, rfl⟩ := Option.map_eq_some_iff.1 h
                  exact ⟨6, [b], by decide, by rw [hc]; rfl, fillC_some.2 ⟨b, d, rfl, hd, rfl⟩⟩
                · split at h
                  · rename_i hc
                    obtain ⟨d, hd, rfl⟩ := Option.map_eq_some_iff.1 h
                    exact ⟨8, [b], by decide, by rw [hc]; rfl, fillK_some.2 ⟨b, d, rfl, hd, rfl⟩⟩
                  · cases h
  · rename_i a b c
    split at h
    · rename_i ha
      obtain ⟨n, hn, h⟩ := Option.bind_eq_some_iff.1 h
      obtain ⟨m, hm, rfl⟩ := Option.map_eq_some_iff.1 h
      exact ⟨7, [b, c], by decide, by rw [ha]; rfl, fillCK_some.2 ⟨b, c, n, m, rfl, hn, hm, rfl⟩⟩
    · cases h
  · cases h
theorem firsts_inv {s : List UInt8} {ev : Evt} : ∀ {n : Nat}, firsts s n = some ev → ∃ k, k < n ∧ resK k s = some ev
  | 0, h => by cases h
  | n + 1, h => by
    have h' : (firsts s n).or (resK n s) = some ev := h
    cases hf : firsts s n with
    | none => rw [hf] at h'; exact ⟨n, by omega, h'⟩
    | some e =>
      rw [hf] at h'
      cases h'
      obtain ⟨k, hk, hr⟩ := firsts_inv hf
      exact ⟨k, by omega, hr⟩
theorem firsts_all {s : List UInt8} : ∀ {n : Nat}, firsts s n = none → ∀ k, k < n → resK k s = none
  | 0, _, k, hk => by omega
  | n + 1, h, k, hk => by
    have h' : (firsts s n).or (resK n s) = none := h
    cases hf : firsts s n with
    | none =>
      rw [hf] at h'
      by_cases e : k = n
      · subst e; exact h'
      · exact firsts_all hf k (by omega)
    | some e => rw [hf] at h'; cases h'
/-- what is looked for is what the words say -/
theorem readS_eq (s : List UInt8) : readS s = readW (cutL 32 s) := by
  cases h : readS s with
  | some ev =>
    obtain ⟨k, hk, hr⟩ := firsts_inv h
    obtain ⟨wt, h1, h2⟩ := resK_some.1 hr
    exact (readW_of hk h1 h2).symm
  | none =>
    cases hw : readW (cutL 32 s) with
    | none => rfl
    | some ev =>
      obtain ⟨k, wt, hk, h1, h2⟩ := readW_inv hw
      have := firsts_all h k hk
      rw [resK_some.2 ⟨wt, h1, h2⟩] at this
      cases this
end Sp
end Go.Proofs.YtpchfmeaplhodaaDoor
namespace Go.Proofs.YtpchfmeaplhodaaDoor
set_option linter.unusedVariables false
set_option linter.unusedSimpArgs false
namespace Sp
open Lib
theorem cut_free : ∀ {x : List UInt8}, 32 ∉ x → cutL 32 x = [x]
  | [], _ => rfl
  | y :: l, h => by
    rw [List.mem_cons, not_or] at h
    rw [cutL_other _ (fun e => h.1 e.symm), cut_free h.2]
    rfl
theorem hexT_free (d : List UInt8) : 32 ∉ hexT d := by
  have key : ∀ n : Fin 256, (32 : UInt8) ∉ hl (UInt8.ofNat n.val) := by decide +kernel
  unfold hexT
  split
  · decide
  · intro h
    unfold hexs at h
    obtain ⟨c, hc, hm⟩ := List.mem_flatMap.1 h
    have := key ⟨c.toNat, c.toNat_lt⟩
    simp only [UInt8.ofNat_toNat] at this
    exact this hm
theorem decDigits_chars (u : Nat) : ∀ c ∈ decDigits u, 48 ≤ c.toNat ∧ c.toNat ≤ 57 := by
  have key : ∀ n : Fin 10, 48 ≤ (UInt8.ofNat (48 + n.val)).toNat ∧ (UInt8.ofNat (48 + n.val)).toNat ≤ 57 := by decide +kernel
  induction u using Nat.strongRecOn with
  | _ u ih =>
    by_cases h : u < 10
    · rw [decDigits_one h]
      intro c hc
      rw [List.mem_singleton] at hc
      subst hc
      exact key ⟨u, h⟩
    · rw [decDigits_big h]
      intro c hc
      rw [List.mem_append, List.mem_singleton] at hc
      rcases hc with hc | hc
      · exact ih (u / 10) (by omega) c hc
      · subst hc
        exact key ⟨u % 10, by omega⟩
theorem itoa_chars (n : Int) : ∀ c ∈ itoa n, c = 45 ∨ (48 ≤ c.toNat ∧ c.toNat ≤ 57) := by
  rcases itoa_cases n with ⟨_, e⟩ | ⟨_, _, e⟩
  · rw [e]; intro c hc; exact .inr (decDigits_chars _ c hc)
  · rw [e]
    intro c hc
    rw [List.mem_cons] at hc
    rcases hc with rfl | hc
    · exact .inl rfl
    · exact .inr (decDigits_chars _ c hc)
theorem itoa_free (n : Int) : 32 ∉ itoa n := by
  intro h
  rcases itoa_chars n 32 h with h | h
  · exact absurd h (by decide)
  · exact absurd h.1 (by decide)
theorem bytesT_inv {x d : List UInt8} (h : bytesT x = some d) : x = hexT d := by
  unfold bytesT at h
  split at h
  · rename_i hx; cases h; rw [hx]; rfl
  · split at h
    · cases h
    · rename_i hx
      have := unl_inv x d h
      unfold hexT
      rw [if_neg, ← this]
      rintro rfl
      exact hx this
theorem J_blank {s : List UInt8} {ws : List (List UInt8)} (h : cutL 32 s = ws) : s ++ [32] = J ws := by rw [← h, J_cut]
theorem s_of_one {s a b : List UInt8} (h : cutL 32 s = [a, b]) : s = a ++ 32 :: b := by
  have := J_blank h
  rw [J_cons, J_cons] at this
  have e : J [] = [] := rfl
  rw [e, show a ++ 32 :: (b ++ [32]) = (a ++ 32 :: b) ++ [32] by simp] at this
  exact (List.append_inj' this rfl).1
theorem s_of_two {s a b c : List UInt8} (h : cutL 32 s = [a, b, c]) : s = a ++ 32 :: (b ++ 32 :: c) := by
  have := J_blank h
  rw [J_cons, J_cons, J_cons] at this
  have e : J [] = [] := rfl
  rw [e, show a ++ 32 :: (b ++ 32 :: (c ++ [32])) = (a ++ 32 :: (b ++ 32 :: c)) ++ [32] by simp] at this
  exact (List.append_inj' this rfl).1
theorem small_zero : small 0 := ⟨by decide, by decide⟩
theorem read_inv {s : List UInt8} {ev : Evt} (h : readS s = some ev) : evT ev = .ok s ∧ small ev.n ∧ small ev.keep := by
  rw [readS_eq] at h
  obtain ⟨k, wt, hk, h1, h2⟩ := readW_inv h
  have hh : k = 0 ∨ k = 1 ∨ k = 2 ∨ k = 3 ∨ k = 4 ∨ k = 5 ∨ k = 6 ∨ k = 7 ∨ k = 8 := by omega
  rcases hh with rfl | rfl | rfl | rfl | rfl | rfl | rfl | rfl | rfl
  · obtain ⟨x, d, rfl, hb, rfl⟩ := fillD_some.1 h2
    have hx := bytesT_inv hb
    have hs := s_of_one h1
    refine ⟨?_, small_zero, small_zero⟩
    rw [hs, hx]; simp [evT, kd, kc, kk, kw]
  · obtain ⟨x, d, rfl, hb, rfl⟩ := fillD_some.1 h2
    have hx := bytesT_inv hb
    have hs := s_of_one h1
    refine ⟨?_, small_zero, small_zero⟩
    rw [hs, hx]; simp [evT, kd, kc, kk, kw]
  · obtain ⟨rfl, rfl⟩ := fill0_some.1 h2
    have hs := s_of_one h1
    refine ⟨?_, small_zero, small_zero⟩
    rw [hs]; simp [evT, kd, kc, kk, kw]
  · obtain ⟨rfl, rfl⟩ := fill0_some.1 h2
    have hs := s_of_one h1
    refine ⟨?_, small_zero, small_zero⟩
    rw [hs]; simp [evT, kd, kc, kk, kw]
  · obtain ⟨x, d, rfl, hb, rfl⟩ := fillC_some.1 h2
    obtain ⟨hx, hsm⟩ := numT_some hb
    have hs := s_of_one h1
    refine ⟨?_, hsm, small_zero⟩
    rw [hs, hx]; simp [evT, kd, kc, kk, kw]
  · obtain ⟨x, d, rfl, hb, rfl⟩ := fillC_some.1 h2
    obtain ⟨hx, hsm⟩ := numT_some hb
    have hs := s_of_one h1
    refine ⟨?_, hsm, small_zero⟩
    rw [hs, hx]; simp [evT, kd, kc, kk, kw]
  · obtain ⟨x, d, rfl, hb, rfl⟩ := fillC_some.1 h2
    obtain ⟨hx, hsm⟩ := numT_some hb
    have hs := s_of_one h1
    refine ⟨?_, hsm, small_zero⟩
    rw [hs, hx]; simp [evT, kd, kc, kk, kw]
  · obtain ⟨x, y, n, m, rfl, hb, hc, rfl⟩ := fillCK_some.1 h2
    obtain ⟨hx, hsm⟩ := numT_some hb
    obtain ⟨hy, hsm2⟩ := numT_some hc
    have hs := s_of_two h1
    refine ⟨?_, hsm, hsm2⟩
    rw [hs, hx, hy]; simp [evT, kd, kc, kk, kw]
  · obtain ⟨x, d, rfl, hb, rfl⟩ := fillK_some.1 h2
    obtain ⟨hx, hsm⟩ := numT_some hb
    have hs := s_of_one h1
    refine ⟨?_, small_zero, hsm⟩
    rw [hs, hx]; simp [evT, kd, kc, kk, kw]
theorem read_of {s : List UInt8} {ev : Evt} (h : evT ev = .ok s) (hn : small ev.n) (hk : small ev.keep) : readS s = some ev := by
  obtain ⟨kind, n, keep, data⟩ := ev
  have h' := h
  unfold evT at h'
  split at h'
  · cases h'
  · rename_i hr
    split at h'
    · cases h'
    · rename_i hg
      rw [not_or, not_or] at hg
      obtain ⟨g1, g2, g3⟩ := hg
      simp only at hr g1 g2 g3 h' hn hk
      have hh : kind = 0 ∨ kind = 1 ∨ kind = 2 ∨ kind = 3 ∨ kind = 4 ∨ kind = 5 ∨ kind = 6 ∨ kind = 7 ∨ kind = 8 := by omega
      have fin : ∀ (k : Nat) (wt : List (List UInt8)), k < 9 → cutL 32 s = kx k ++ wt → fillA k k wt = some ⟨kind, n, keep, data⟩ → readS s = some ⟨kind, n, keep, data⟩ := fun k wt h1 h2 h3 => by rw [readS_eq]; exact readW_of h1 h2 h3
      rcases hh with rfl | rfl | rfl | rfl | rfl | rfl | rfl | rfl | rfl
      all_goals simp [kd, kc, kk, kw] at g1 g2 g3 h'
      · subst g2 g3 h'
        exact fin 0 [hexT data] (by decide) (by show cutL 32 ([105, 110] ++ 32 :: hexT data) = _; rw [cut_mid, cut_free (hexT_free _)]; rfl) (fillD_some.2 ⟨_, _, rfl, bytesT_hexT _, rfl⟩)
      · subst g2 g3 h'
        exact fin 1 [hexT data] (by decide) (by show cutL 32 ([111, 117, 116] ++ 32 :: hexT data) = _; rw [cut_mid, cut_free (hexT_free _)]; rfl) (fillD_some.2 ⟨_, _, rfl, bytesT_hexT _, rfl⟩)
      · subst g1 g2 g3 h'
        exact fin 2 [] (by decide) (by decide) (fill0_some.2 ⟨rfl, rfl⟩)
      · subst g1 g2 g3 h'
        exact fin 3 [] (by decide) (by decide) (fill0_some.2 ⟨rfl, rfl⟩)
      · subst g1 g3 h'
        exact fin 4 [Lib.itoa n] (by decide) (by show cutL 32 ([116, 105, 99, 107] ++ 32 :: Lib.itoa n) = _; rw [cut_mid, cut_free (itoa_free _)]; rfl) (fillC_some.2 ⟨_, _, rfl, numT_itoa hn, rfl⟩)
      · subst g1 g3 h'
        exact fin 5 [Lib.itoa n] (by decide) (by show cutL 32 ([114, 111, 111, 109] ++ 32 :: Lib.itoa n) = _; rw [cut_mid, cut_free (itoa_free _)]; rfl) (fillC_some.2 ⟨_, _, rfl, numT_itoa hn, rfl⟩)
      · subst g1 g3 h'
        exact fin 6 [Lib.itoa n] (by decide) (by show cutL 32 ([102, 97, 105, 108, 115, 121, 110, 99] ++ 32 :: Lib.itoa n) = _; rw [cut_mid, cut_free (itoa_free _)]; rfl) (fillC_some.2 ⟨_, _, rfl, numT_itoa hn, rfl⟩)
      · subst g1 h'
        exact fin 7 [Lib.itoa n, Lib.itoa keep] (by decide) (by show cutL 32 ([97, 114, 109] ++ 32 :: (Lib.itoa n ++ 32 :: Lib.itoa keep)) = _; rw [cut_mid, cut_mid, cut_free (itoa_free _), cut_free (itoa_free _)]; rfl) (fillCK_some.2 ⟨_, _, _, _, rfl, numT_itoa hn, numT_itoa hk, rfl⟩)
      · subst g1 g2 h'
        exact fin 8 [Lib.itoa keep] (by decide) (by show cutL 32 ([112, 111, 119, 101, 114] ++ 32 :: Lib.itoa keep) = _; rw [cut_mid, cut_free (itoa_free _)]; rfl) (fillK_some.2 ⟨_, _, rfl, numT_itoa hk, rfl⟩)
end Sp
end Go.Proofs.YtpchfmeaplhodaaDoor
namespace Go.Proofs.YtpchfmeaplhodaaDoor
set_option linter.unusedVariables false
set_option linter.unusedSimpArgs false
namespace Sp
/-- what was sent -/
structure Out where
  back : Bool
  data : List UInt8
/-- a step -/
structure Stp where
  ev : Evt
  outs : List Out
  gone : Bool
def outT (o : Out) : List UInt8 := (if o.back = true then [98, 97, 99, 107, 32] else [111, 110, 32]) ++ hexT o.data
def outsT (l : List Out) : List UInt8 := l.flatMap fun o => outT o ++ [10]
def goneT (b : Bool) : List UInt8 := if b = true then [103, 111, 110, 101, 10] else []
/-- a step's text -/
def stepT (s : Stp) : Except Int (List UInt8) :=
  match evT s.ev with
  | .error c => .error c
  | .ok t => .ok (t ++ 10 :: (outsT s.outs ++ goneT s.gone))
/-- steps' text -/
def fmtT : List Stp → Except Int (List UInt8)
  | [] => .ok []
  | s :: l => match stepT s with
    | .error c => .error c
    | .ok t => match fmtT l with
      | .error c => .error c
      | .ok u => .ok (t ++ u)
theorem outsT_snoc (l : List Out) (o : Out) : outsT (l ++ [o]) = outsT l ++ (outT o ++ [10]) := by simp [outsT]
theorem outsT_cons (l : List Out) (o : Out) : outsT (o :: l) = (outT o ++ [10]) ++ outsT l := by simp [outsT]
theorem fmtT_app (b : List Stp) : ∀ (a : List Stp) (t : List UInt8), fmtT a = .ok t → fmtT (a ++ b) = match fmtT b with
    | .error c => .error c
    | .ok u => .ok (t ++ u)
  | [], t, h => by
    cases h
    rw [List.nil_append]
    cases fmtT b <;> rfl
  | s :: a, t, h => by
    unfold fmtT at h
    cases hs : stepT s with
    | error c => rw [hs] at h; cases h
    | ok x =>
      rw [hs] at h
      cases ha : fmtT a with
      | error c => simp only [ha] at h; cases h
      | ok u =>
        simp only [ha] at h
        cases h
        rw [List.cons_append, fmtT, hs, fmtT_app b a u ha]
        cases fmtT b with
        | error c => rfl
        | ok v => simp
theorem fmtT_one (s : Stp) : fmtT [s] = stepT s := by
  unfold fmtT
  cases stepT s with
  | error c => rfl
  | ok t => simp [fmtT]
theorem fmtT_snoc {a : List Stp} {s : Stp} {t u : List UInt8} (ha : fmtT a = .ok t) (hs : stepT s = .ok u) : fmtT (a ++ [s]) = .ok (t ++ u) := by
  rw [fmtT_app _ _ _ ha, fmtT_one, hs]
theorem fmtT_err {l : List Stp} {k : Nat} {s : Stp} {t : List UInt8} {c : Int} (ha : fmtT (l.take k) = .ok t) (hk : l[k]? = some s) (hs : stepT s = .error c) : fmtT l = .error c := by
  have h1 : l = l.take k ++ (s :: l.drop (k + 1)) := by
    have hlt := (List.getElem?_eq_some_iff.1 hk).1
    have e := (List.getElem?_eq_some_iff.1 hk).2
    rw [← e, ← List.drop_eq_getElem_cons hlt, List.take_append_drop]
  rw [h1, fmtT_app _ _ _ ha]
  unfold fmtT
  rw [hs]
theorem take_snoc {α : Type} {l : List α} {k : Nat} {x : α} (h : l[k]? = some x) : l.take (k + 1) = l.take k ++ [x] := by rw [List.take_add_one, h]; rfl
/-- an output of a text -/
def outS (s : List UInt8) : Option Out :=
  match cutL 32 s with
  | [a, b] => if a = [98, 97, 99, 107] then (bytesT b).map fun d => ⟨true, d⟩ else if a = [111, 110] then (bytesT b).map fun d => ⟨false, d⟩ else none
  | _ => none
/-- the steps behind a line -/
def lineS (l : List Stp) (s : List UInt8) : Option (List Stp) :=
  match readS s with
  | some ev => some (l ++ [⟨ev, [], false⟩])
  | none => match l.getLast? with
    | none => none
    | some st => if st.gone = true then none else if s = [103, 111, 110, 101] then some (l.dropLast ++ [⟨st.ev, st.outs, true⟩]) else (outS s).map fun o => l.dropLast ++ [⟨st.ev, st.outs ++ [o], st.gone⟩]
/-- the steps behind lines, or which is wrong -/
def runS (n : Nat) (l : List Stp) : List (List UInt8) → Except Nat (List Stp)
  | [] => .ok l
  | x :: r => match lineS l x with
    | none => .error n
    | some l' => runS (n + 1) l' r
/-- the steps of a text, or which line is wrong -/
def parseS (s : List UInt8) : Except Nat (List Stp) :=
  match runS 0 [] (cutL 10 s).dropLast with
  | .error i => .error i
  | .ok l => if (cutL 10 s).getLast? = some [] then .ok l else .error ((cutL 10 s).length - 1)
theorem lineS_read {l : List Stp} {s : List UInt8} {ev : Evt} (h : readS s = some ev) : lineS l s = some (l ++ [⟨ev, [], false⟩]) := by
  unfold lineS; rw [h]
theorem lineS_nil {s : List UInt8} (h : readS s = none) : lineS [] s = none := by
  unfold lineS; rw [h]; rfl
theorem lineS_dead {a : List Stp} {st : Stp} {s : List UInt8} (h : readS s = none) (hg : st.gone = true) : lineS (a ++ [st]) s = none := by
  unfold lineS; rw [h]; simp [hg]
theorem lineS_gone {a : List Stp} {st : Stp} {s : List UInt8} (h : readS s = none) (hg : st.gone = false) (hs : s = [103, 111, 110, 101]) : lineS (a ++ [st]) s = some (a ++ [⟨st.ev, st.outs, true⟩]) := by
  unfold lineS; rw [h]; simp [hg, hs]
theorem lineS_out {a : List Stp} {st : Stp} {s : List UInt8} (h : readS s = none) (hg : st.gone = false) (hs : s ≠ [103, 111, 110, 101]) : lineS (a ++ [st]) s = (outS s).map fun o => a ++ [⟨st.ev, st.outs ++ [o], false⟩] := by
  unfold lineS; rw [h]; simp [hg, hs]
theorem readS_gone : readS [103, 111, 110, 101] = none := by
  rw [readS_eq, show cutL 32 [103, 111, 110, 101] = [[103, 111, 110, 101]] by decide]; rfl
theorem outS_gone : outS [103, 111, 110, 101] = none := by
  unfold outS
  rw [show cutL 32 [103, 111, 110, 101] = [[103, 111, 110, 101]] by decide]
/-- an output is no event -/
theorem readS_out {s : List UInt8} {o : Out} (h : outS s = some o) : readS s = none := by
  rw [readS_eq]
  unfold outS at h
  split at h
  · rename_i a b hc
    rw [hc]
    by_cases h1 : a = [98, 97, 99, 107]
    · subst h1; simp [readW]
    · rw [if_neg h1] at h
      by_cases h2 : a = [111, 110]
      · subst h2; simp [readW]
      · rw [if_neg h2] at h; cases h
  · cases h
theorem runS_snoc (x : List UInt8) : ∀ (r : List (List UInt8)) (n : Nat) (l l' : List Stp), runS n l r = .ok l' → runS n l (r ++ [x]) = match lineS l' x with
    | none => .error (n + r.length)
    | some l'' => .ok l''
  | [], n, l, l', h => by
    cases h
    simp [runS]
  | y :: r, n, l, l', h => by
    unfold runS at h
    rw [List.cons_append, runS]
    cases hy : lineS l y with
    | none => rw [hy] at h; cases h
    | some l1 =>
      rw [hy] at h
      show runS (n + 1) l1 (r ++ [x]) = _
      rw [runS_snoc x r (n + 1) l1 l' h]
      simp only [List.length_cons]
      cases lineS l' x with
      | none => show Except.error _ = Except.error _; congr 1; omega
      | some l'' => rfl
theorem runS_app (r' : List (List UInt8)) : ∀ (r : List (List UInt8)) (n : Nat) (l : List Stp), runS n l (r ++ r') = match runS n l r with
    | .error i => .error i
    | .ok l' => runS (n + r.length) l' r'
  | [], n, l => by simp [runS]
  | y :: r, n, l => by
    rw [List.cons_append, runS, runS]
    cases lineS l y with
    | none => rfl
    | some l1 =>
      show runS (n + 1) l1 (r ++ r') = match runS (n + 1) l1 r with
        | .error i => .error i
        | .ok l' => runS (n + (y :: r).length) l' r'
      rw [runS_app r' r (n + 1) l1, List.length_cons, show n + 1 + r.length = n + (r.length + 1) by omega]
end Sp
end Go.Proofs.YtpchfmeaplhodaaDoor
namespace Go.Proofs.YtpchfmeaplhodaaDoor
set_option linter.unusedVariables false
set_option linter.unusedSimpArgs false
namespace Sp
theorem cut_cases (c : UInt8) (s : List UInt8) : (Lib.cut s [c] = (s, [], false) ∧ cutL c s = [s] ∧ c ∉ s) ∨ ∃ a b, Lib.cut s [c] = (a, b, true) ∧ cutL c s = a :: cutL c b ∧ s = a ++ c :: b ∧ c ∉ a := by
  unfold Lib.cut
  rw [Lib.index_one]
  have hge := Lib.indexByte_ge s c
  by_cases h : Lib.indexByte s c = -1
  · left
    rw [if_neg (by omega)]
    refine ⟨rfl, cutL_miss c s h, fun hm => ?_⟩
    obtain ⟨k, hk⟩ := List.getElem?_of_mem hm
    exact Lib.indexByte_none h k hk
  · right
    obtain ⟨i, hi⟩ : ∃ i : Nat, Lib.indexByte s c = i := ⟨(Lib.indexByte s c).toNat, by omega⟩
    rw [hi, if_pos (by omega)]
    obtain ⟨h1, h2⟩ := Lib.indexByte_some hi
    have hlt := (List.getElem?_eq_some_iff.1 h1).1
    have he := (List.getElem?_eq_some_iff.1 h1).2
    refine ⟨s.take i, s.drop (i + 1), by simp, cutL_hit c s i hi, ?_, fun hm => ?_⟩
    · rw [← he, ← List.drop_eq_getElem_cons hlt, List.take_append_drop]
    · obtain ⟨k, hk⟩ := List.getElem?_of_mem hm
      rw [List.getElem?_take] at hk
      split at hk
      · exact h2 k (by omega) hk
      · cases hk
theorem bytes_free {b t : List UInt8} (h : bytesT b = some t) : 32 ∉ b := by
  rw [bytesT_inv h]; exact hexT_free t
theorem outS_one {s : List UInt8} (h : cutL 32 s = [s]) : outS s = none := by
  unfold outS; rw [h]
theorem outS_bad {s a b : List UInt8} (h : cutL 32 s = a :: cutL 32 b) (hb : bytesT b = none) : outS s = none := by
  unfold outS
  rw [h]
  have hp := cutL_ne 32 b
  match hl : cutL 32 b with
  | [] => exact absurd hl hp
  | [x] =>
    have hx : x = b := by
      have := J_blank hl
      simp only [J, List.flatMap_cons, List.flatMap_nil, List.append_nil] at this
      exact (List.append_cancel_right this).symm
    subst hx
    simp [hb]
  | x :: y :: l => rfl
theorem outS_two {s a b t : List UInt8} (h : cutL 32 s = a :: cutL 32 b) (hb : bytesT b = some t) : outS s = if a = [98, 97, 99, 107] then some ⟨true, t⟩ else if a = [111, 110] then some ⟨false, t⟩ else none := by
  unfold outS
  rw [h, cutL_none (bytes_free hb)]
  simp only [hb, Option.map_some]
end Sp
end Go.Proofs.YtpchfmeaplhodaaDoor
namespace Go.Proofs.YtpchfmeaplhodaaDoor
set_option linter.unusedVariables false
set_option linter.unusedSimpArgs false
namespace Sp
theorem parse_done {s : List UInt8} {done : List (List UInt8)} {l : List Stp} (hc : cutL 10 s = done ++ [[]]) (hr : runS 0 [] done = .ok l) : parseS s = .ok l ∧ (cutL 10 s).length - 1 = done.length := by
  constructor
  · unfold parseS
    rw [hc, List.dropLast_concat, hr]
    simp
  · rw [hc]; simp
theorem parse_open {s x : List UInt8} {done : List (List UInt8)} {l : List Stp} (hc : cutL 10 s = done ++ [x]) (hx : x ≠ []) (hr : runS 0 [] done = .ok l) : parseS s = .error done.length := by
  unfold parseS
  rw [hc, List.dropLast_concat, hr]
  simp [hx]
theorem runS_bad {done r : List (List UInt8)} {a : List UInt8} {l : List Stp} (hr : runS 0 [] done = .ok l) (hl : lineS l a = none) : runS 0 [] (done ++ a :: r) = .error done.length := by
  rw [runS_app, hr]
  simp only
  rw [runS, hl, Nat.zero_add]
theorem parse_bad {s a : List UInt8} {done r : List (List UInt8)} {l : List Stp} (hc : cutL 10 s = done ++ a :: r) (hne : r ≠ []) (hr : runS 0 [] done = .ok l) (hl : lineS l a = none) : parseS s = .error done.length := by
  unfold parseS
  rw [hc, show (done ++ a :: r).dropLast = done ++ a :: r.dropLast by
    rw [List.dropLast_append_of_ne_nil (by simp), List.dropLast_cons_of_ne_nil hne], runS_bad hr hl]
theorem runS_one {done : List (List UInt8)} {a : List UInt8} {l l' : List Stp} (hr : runS 0 [] done = .ok l) (hl : lineS l a = some l') : runS 0 [] (done ++ [a]) = .ok l' := by
  rw [runS_snoc a done 0 [] l hr, hl]
theorem lineS_big {l l' : List Stp} {s : List UInt8} {k : Nat} (h : lineS l s = some l') (h1 : l.length ≤ k) (h2 : ∀ st ∈ l, st.outs.length ≤ k) : l'.length ≤ k + 1 ∧ ∀ st ∈ l', st.outs.length ≤ k + 1 := by
  cases hr : readS s with
  | some ev =>
    rw [lineS_read hr] at h
    cases h
    refine ⟨by simp; omega, fun st hst => ?_⟩
    rcases List.mem_append.1 hst with hst | hst
    · have := h2 st hst; omega
    · simp only [List.mem_singleton] at hst; subst hst; simp
  | none =>
    rcases List.eq_nil_or_concat l with rfl | ⟨a, st, rfl⟩
    · rw [lineS_nil hr] at h; cases h
    · rw [List.concat_eq_append] at *
      cases hg : st.gone with
      | true => rw [lineS_dead hr hg] at h; cases h
      | false =>
        have ha : ∀ x ∈ a, x.outs.length ≤ k + 1 := fun x hx => by have := h2 x (by simp [hx]); omega
        have hst := h2 st (by simp)
        simp only [List.length_append, List.length_singleton] at h1
        by_cases hs : s = [103, 111, 110, 101]
        · rw [lineS_gone hr hg hs] at h
          cases h
          refine ⟨by simp; omega, fun x hx => ?_⟩
          rcases List.mem_append.1 hx with hx | hx
          · exact ha x hx
          · simp only [List.mem_singleton] at hx; subst hx; simp; omega
        · rw [lineS_out hr hg hs] at h
          cases ho : outS s with
          | none => rw [ho] at h; cases h
          | some o =>
            rw [ho] at h
            simp only [Option.map_some, Option.some.injEq] at h
            subst h
            refine ⟨by simp; omega, fun x hx => ?_⟩
            rcases List.mem_append.1 hx with hx | hx
            · exact ha x hx
            · simp only [List.mem_singleton] at hx; subst hx; simp; omega
end Sp
end Go.Proofs.YtpchfmeaplhodaaDoor
namespace Go.Proofs.YtpchfmeaplhodaaDoor
set_option linter.unusedVariables false
set_option linter.unusedSimpArgs false
namespace Sp
def owt (o : Out) : Nat := 1 + o.data.length
def owts (l : List Out) : Nat := (l.map owt).sum
def swt (s : Stp) : Nat := 1 + s.ev.data.length + owts s.outs
def wts (l : List Stp) : Nat := (l.map swt).sum
theorem owts_cons (o : Out) (l : List Out) : owts (o :: l) = owt o + owts l := by simp [owts]
theorem owts_app (a b : List Out) : owts (a ++ b) = owts a + owts b := by simp [owts]
theorem wts_cons (s : Stp) (l : List Stp) : wts (s :: l) = swt s + wts l := by simp [wts]
theorem wts_app (a b : List Stp) : wts (a ++ b) = wts a + wts b := by simp [wts]
theorem owts_len (l : List Out) : l.length ≤ owts l := by
  induction l with
  | nil => simp
  | cons o l ih => rw [owts_cons, List.length_cons, owt]; omega
theorem wts_len (l : List Stp) : l.length ≤ wts l := by
  induction l with
  | nil => simp
  | cons s l ih => rw [wts_cons, List.length_cons, swt]; omega
theorem owts_mem {o : Out} {l : List Out} (h : o ∈ l) : owt o ≤ owts l := by
  induction l with
  | nil => cases h
  | cons x l ih =>
    rw [owts_cons]
    rcases List.mem_cons.1 h with rfl | h
    · omega
    · have := ih h; omega
theorem wts_mem {s : Stp} {l : List Stp} (h : s ∈ l) : swt s ≤ wts l := by
  induction l with
  | nil => cases h
  | cons x l ih =>
    rw [wts_cons]
    rcases List.mem_cons.1 h with rfl | h
    · omega
    · have := ih h; omega
theorem wts_take (l : List Stp) (k : Nat) : wts (l.take k) ≤ wts l := by
  conv => rhs; rw [← List.take_append_drop k l, wts_app]
  omega
theorem owts_take (l : List Out) (k : Nat) : owts (l.take k) ≤ owts l := by
  conv => rhs; rw [← List.take_append_drop k l, owts_app]
  omega
theorem hexT_len (d : List UInt8) : (hexT d).length ≤ 2 * d.length + 1 := by
  unfold hexT
  split
  · simp
  · rw [hexs_len]; omega
theorem outT_len (o : Out) : (outT o).length ≤ 2 * o.data.length + 6 := by
  unfold outT
  have := hexT_len o.data
  rw [List.length_append]
  split <;> simp <;> omega
theorem outsT_len (l : List Out) : (outsT l).length ≤ 8 * owts l := by
  induction l with
  | nil => simp [outsT]
  | cons o l ih =>
    rw [outsT_cons, owts_cons, List.length_append, List.length_append, List.length_singleton, owt]
    have := outT_len o
    omega
/-- whole numbers of 64 bits -/
def i64 (n : Int) : Prop := -9223372036854775808 ≤ n ∧ n ≤ 9223372036854775807
theorem kw_len8 (k : Nat) : (kw k).length ≤ 8 := by
  unfold kw
  split <;> decide
theorem evT_len {e : Evt} {t : List UInt8} (h : evT e = .ok t) (hn : i64 e.n) (hk : i64 e.keep) : t.length ≤ 60 + 2 * e.data.length := by
  unfold evT at h
  split at h
  · cases h
  · split at h
    · cases h
    · cases h
      have h1 := kw_len8 e.kind.toNat
      have h2 := hexT_len e.data
      have h3 := Lib.itoa_length_le e.n hn.1 hn.2
      have h4 := Lib.itoa_length_le e.keep hk.1 hk.2
      simp only [List.length_append]
      split <;> split <;> split <;> simp only [List.length_cons, List.length_nil] <;> omega
def nums (s : Stp) : Prop := i64 s.ev.n ∧ i64 s.ev.keep
theorem stepT_len {s : Stp} {t : List UInt8} (h : stepT s = .ok t) (hn : nums s) : t.length ≤ 70 * swt s := by
  unfold stepT at h
  cases he : evT s.ev with
  | error c => rw [he] at h; cases h
  | ok u =>
    rw [he] at h
    cases h
    have h1 := evT_len he hn.1 hn.2
    have h2 := outsT_len s.outs
    have h3 : (goneT s.gone).length ≤ 5 := by unfold goneT; split <;> simp
    simp only [List.length_append, List.length_cons, swt]
    omega
theorem fmtT_len : ∀ {l : List Stp} {t : List UInt8}, fmtT l = .ok t → (∀ s ∈ l, nums s) → t.length ≤ 70 * wts l
  | [], t, h, _ => by cases h; simp
  | s :: l, t, h, hn => by
    unfold fmtT at h
    cases hs : stepT s with
    | error c => rw [hs] at h; cases h
    | ok x =>
      rw [hs] at h
      cases hl : fmtT l with
      | error c => simp only [hl] at h; cases h
      | ok u =>
        simp only [hl] at h
        cases h
        have h1 := stepT_len hs (hn s (by simp))
        have h2 := fmtT_len hl (fun x hx => hn x (by simp [hx]))
        rw [wts_cons, List.length_append]
        omega
end Sp
end Go.Proofs.YtpchfmeaplhodaaDoor
namespace Go.Proofs.YtpchfmeaplhodaaDoor
set_option linter.unusedVariables false
set_option linter.unusedSimpArgs false
namespace Sp
/-- lines, each with its end -/
def M (l : List (List UInt8)) : List UInt8 := l.flatMap fun x => x ++ [10]
theorem M_app (a b : List (List UInt8)) : M (a ++ b) = M a ++ M b := by simp [M]
theorem M_cons (x : List UInt8) (l : List (List UInt8)) : M (x :: l) = x ++ 10 :: M l := by simp [M]
theorem M_one (x : List UInt8) : M [x] = x ++ [10] := by simp [M]
theorem M_cut : ∀ s : List UInt8, M (cutL 10 s) = s ++ [10]
  | [] => rfl
  | y :: s => by
    have ih := M_cut s
    by_cases hy : y = 10
    · rw [cutL_eq _ hy, M_cons, ih, hy]; rfl
    · rw [cutL_other _ hy]
      cases hl : cutL 10 s with
      | nil => exact absurd hl (cutL_ne 10 s)
      | cons a t =>
        rw [hl, M_cons] at ih
        rw [List.headD_cons, List.tail_cons, M_cons, List.cons_append, ih]; rfl
theorem cut_M : ∀ l : List (List UInt8), (∀ x ∈ l, 10 ∉ x) → cutL 10 (M l) = l ++ [[]]
  | [], _ => rfl
  | x :: l, h => by
    rw [M_cons, cutL_mid, cutL_none (h x (by simp)), cut_M l (fun y hy => h y (by simp [hy]))]; rfl
/-- a text whose last line is empty -/
theorem M_of {s : List UInt8} {ls : List (List UInt8)} (h : cutL 10 s = ls ++ [[]]) : s = M ls := by
  have := M_cut s
  rw [h, M_app, M_one, List.nil_append] at this
  exact (List.append_cancel_right this).symm
/-- lines of a step -/
def stL (t : List UInt8) (s : Stp) : List (List UInt8) := t :: (s.outs.map outT ++ (if s.gone = true then [[103, 111, 110, 101]] else []))
theorem M_outs (l : List Out) : M (l.map outT) = outsT l := by
  induction l with
  | nil => rfl
  | cons o l ih => rw [List.map_cons, M_cons, ih, outsT_cons]; simp
theorem M_gone (b : Bool) : M (if b = true then [[103, 111, 110, 101]] else []) = goneT b := by cases b <;> rfl
theorem stepT_M {s : Stp} {t : List UInt8} (h : evT s.ev = .ok t) : stepT s = .ok (M (stL t s)) := by
  unfold stepT stL
  rw [h, M_cons, M_app, M_outs, M_gone]
/-- signs of the texts -/
theorem ldigs_chars : ∀ n : Fin 16, ldigs.getD n.val 0 ≠ 10 := by decide
theorem hexs_no (b : List UInt8) : 10 ∉ hexs b := by
  unfold hexs
  rw [List.mem_flatMap]
  rintro ⟨c, -, h⟩
  unfold hl at h
  have h1 := ldigs_chars ⟨c.toNat / 16, by have := c.toNat_lt; omega⟩
  have h2 := ldigs_chars ⟨c.toNat % 16, by omega⟩
  rcases List.mem_cons.1 h with h | h
  · exact h1 h.symm
  · rcases List.mem_cons.1 h with h | h
    · exact h2 h.symm
    · cases h
theorem hexT_no (b : List UInt8) : 10 ∉ hexT b := by
  unfold hexT
  split
  · decide
  · exact hexs_no b
theorem outT_no (o : Out) : 10 ∉ outT o := by
  unfold outT
  rw [List.mem_append]
  rintro (h | h)
  · revert h
    split <;> decide
  · exact hexT_no _ h
theorem itoa_no (n : Int) : 10 ∉ Lib.itoa n := by
  intro h
  rcases itoa_chars n 10 h with h | h
  · exact absurd h (by decide)
  · exact absurd h (by decide)
theorem kw_no (k : Nat) : 10 ∉ kw k := by
  unfold kw
  split <;> decide
theorem evT_no {e : Evt} {t : List UInt8} (h : evT e = .ok t) : 10 ∉ t := by
  unfold evT at h
  split at h
  · cases h
  · split at h
    · cases h
    · cases h
      simp only [List.mem_append]
      rintro (h | h | h | h)
      · exact kw_no _ h
      · split at h
        · rcases List.mem_cons.1 h with h | h
          · exact absurd h (by decide)
          · exact hexT_no _ h
        · cases h
      · split at h
        · rcases List.mem_cons.1 h with h | h
          · exact absurd h (by decide)
          · exact itoa_no _ h
        · cases h
      · split at h
        · rcases List.mem_cons.1 h with h | h
          · exact absurd h (by decide)
          · exact itoa_no _ h
        · cases h
theorem stL_no {s : Stp} {t : List UInt8} (h : evT s.ev = .ok t) : ∀ x ∈ stL t s, 10 ∉ x := by
  intro x hx
  unfold stL at hx
  rcases List.mem_cons.1 hx with rfl | hx
  · exact evT_no h
  · rcases List.mem_append.1 hx with hx | hx
    · obtain ⟨o, -, rfl⟩ := List.mem_map.1 hx
      exact outT_no o
    · split at hx
      · simp only [List.mem_singleton] at hx; subst hx; decide
      · cases hx
/-- an output's text is read as it -/
theorem outS_outT (o : Out) : outS (outT o) = some o := by
  have hb := bytesT_hexT o.data
  have hf := cutL_none (c := 32) (hexT_free o.data)
  obtain ⟨bk, d⟩ := o
  cases bk with
  | true =>
    have hL : cutL 32 (outT ⟨true, d⟩) = [98, 97, 99, 107] :: cutL 32 (hexT d) := by
      show cutL 32 ([98, 97, 99, 107] ++ 32 :: hexT d) = _
      rw [cutL_mid]; rfl
    rw [outS_two hL hb, if_pos rfl]
  | false =>
    have hL : cutL 32 (outT ⟨false, d⟩) = [111, 110] :: cutL 32 (hexT d) := by
      show cutL 32 ([111, 110] ++ 32 :: hexT d) = _
      rw [cutL_mid]; rfl
    rw [outS_two hL hb, if_neg (by decide), if_pos rfl]
/-- what is read as an output is its text -/
theorem outS_inv {s : List UInt8} {o : Out} (h : outS s = some o) : s = outT o := by
  unfold outS at h
  split at h
  · rename_i a b hc
    have hs := s_of_one hc
    by_cases h1 : a = [98, 97, 99, 107]
    · rw [if_pos h1] at h
      cases hb : bytesT b with
      | none => rw [hb] at h; cases h
      | some d =>
        rw [hb] at h
        cases h
        rw [hs, h1, bytesT_inv hb]; rfl
    · rw [if_neg h1] at h
      by_cases h2 : a = [111, 110]
      · rw [if_pos h2] at h
        cases hb : bytesT b with
        | none => rw [hb] at h; cases h
        | some d =>
          rw [hb] at h
          cases h
          rw [hs, h2, bytesT_inv hb]; rfl
      · rw [if_neg h2] at h; cases h
  · cases h
theorem outT_gone (o : Out) : outT o ≠ [103, 111, 110, 101] := by
  intro e
  have := outS_outT o
  rw [e, outS_gone] at this
  cases this
theorem lineS_outT {a : List Stp} {st : Stp} (o : Out) (hg : st.gone = false) : lineS (a ++ [st]) (outT o) = some (a ++ [⟨st.ev, st.outs ++ [o], false⟩]) := by
  rw [lineS_out (readS_out (outS_outT o)) hg (outT_gone o), outS_outT]; rfl
theorem runS_outs (a : List Stp) (ev : Evt) : ∀ (l os : List Out) (n : Nat), runS n (a ++ [⟨ev, os, false⟩]) (l.map outT) = .ok (a ++ [⟨ev, os ++ l, false⟩])
  | [], os, n => by simp [runS]
  | o :: l, os, n => by
    rw [List.map_cons, runS, lineS_outT o rfl]
    show runS (n + 1) (a ++ [⟨ev, os ++ [o], false⟩]) (l.map outT) = _
    rw [runS_outs a ev l (os ++ [o]) (n + 1)]
    simp
/-- numbers that are told -/
def smallN (s : Stp) : Prop := small s.ev.n ∧ small s.ev.keep
theorem runS_step (a : List Stp) {s : Stp} {t : List UInt8} (h : evT s.ev = .ok t) (hn : smallN s) (n : Nat) : runS n a (stL t s) = .ok (a ++ [s]) := by
  obtain ⟨ev, outs, g⟩ := s
  unfold stL
  rw [runS, lineS_read (read_of h hn.1 hn.2)]
  show runS (n + 1) (a ++ [⟨ev, [], false⟩]) (outs.map outT ++ _) = _
  rw [runS_app, runS_outs, List.nil_append]
  cases g with
  | false => rfl
  | true =>
    show runS _ (a ++ [⟨ev, outs, false⟩]) [[103, 111, 110, 101]] = _
    rw [runS, lineS_gone readS_gone rfl rfl]; rfl
/-- lines of steps -/
def lnS : List Stp → List (List UInt8)
  | [] => []
  | s :: l => (match evT s.ev with
    | .ok t => stL t s
    | .error _ => []) ++ lnS l
theorem fmtT_lines : ∀ {l : List Stp} {t : List UInt8}, fmtT l = .ok t → t = M (lnS l) ∧ (∀ x ∈ lnS l, 10 ∉ x)
  | [], t, h => by cases h; exact ⟨rfl, fun x hx => by cases hx⟩
  | s :: l, t, h => by
    unfold fmtT at h
    cases he : evT s.ev with
    | error c => unfold stepT at h; rw [he] at h; cases h
    | ok u =>
      rw [stepT_M he] at h
      cases hl : fmtT l with
      | error c => simp only [hl] at h; cases h
      | ok v =>
        simp only [hl] at h
        cases h
        obtain ⟨h1, h2⟩ := fmtT_lines hl
        unfold lnS
        rw [he]
        refine ⟨by rw [M_app, ← h1], fun x hx => ?_⟩
        rcases List.mem_append.1 hx with hx | hx
        · exact stL_no he x hx
        · exact h2 x hx
theorem runS_lines : ∀ {l : List Stp} {t : List UInt8} (a : List Stp) (n : Nat), fmtT l = .ok t → (∀ s ∈ l, smallN s) → runS n a (lnS l) = .ok (a ++ l)
  | [], t, a, n, h, _ => by simp [lnS, runS]
  | s :: l, t, a, n, h, hn => by
    unfold fmtT at h
    cases he : evT s.ev with
    | error c => unfold stepT at h; rw [he] at h; cases h
    | ok u =>
      rw [stepT_M he] at h
      cases hl : fmtT l with
      | error c => simp only [hl] at h; cases h
      | ok v =>
        unfold lnS
        rw [he]
        simp only
        rw [runS_app, runS_step a he (hn s (by simp)) n]
        simp only
        rw [runS_lines (a ++ [s]) _ hl (fun x hx => hn x (by simp [hx]))]
        simp
theorem cut_fmt {l : List Stp} {t : List UInt8} (h : fmtT l = .ok t) : cutL 10 t = lnS l ++ [[]] := by
  obtain ⟨h1, h2⟩ := fmtT_lines h
  rw [h1, cut_M _ h2]
/-- steps' text is parsed as they are -/
theorem parse_fmt {l : List Stp} {t : List UInt8} (h : fmtT l = .ok t) (hn : ∀ s ∈ l, smallN s) : parseS t = .ok l := by
  have h1 := runS_lines [] 0 h hn
  exact (parse_done (cut_fmt h) h1).1
/-- a line more, the text longer by it -/
theorem lineS_fmt {l l' : List Stp} {x t : List UInt8} (h : lineS l x = some l') (ht : fmtT l = .ok t) : fmtT l' = .ok (t ++ (x ++ [10])) := by
  cases hr : readS x with
  | some ev =>
    rw [lineS_read hr] at h
    cases h
    have he := (read_inv hr).1
    refine fmtT_snoc ht ?_
    rw [stepT_M (s := ⟨ev, [], false⟩) he]
    simp [stL, M]
  | none =>
    rcases List.eq_nil_or_concat l with rfl | ⟨a, st, rfl⟩
    · rw [lineS_nil hr] at h; cases h
    · rw [List.concat_eq_append] at *
      cases ha : fmtT a with
      | error c =>
        exfalso
        have key : ∀ (a b : List Stp), fmtT a = .error c → fmtT (a ++ b) = .error c := by
          intro a
          induction a with
          | nil => intro b h; cases h
          | cons y a ih =>
            intro b h
            unfold fmtT at h
            rw [List.cons_append, fmtT]
            cases hy : stepT y with
            | error d => rw [hy] at h; exact h
            | ok u =>
              rw [hy] at h
              cases hb : fmtT a with
              | error d => simp only [hb] at h; cases h; simp only; rw [ih b hb]
              | ok v => simp only [hb] at h; cases h
        rw [key a [st] ha] at ht; cases ht
      | ok ta =>
        rw [fmtT_app _ _ _ ha, fmtT_one] at ht
        cases he : evT st.ev with
        | error c => unfold stepT at ht; rw [he] at ht; cases ht
        | ok u =>
          rw [stepT_M he] at ht
          cases hg : st.gone with
          | true => rw [lineS_dead hr hg] at h; cases h
          | false =>
            have hst : stL u st = u :: st.outs.map outT := by unfold stL; rw [hg]; simp
            rw [hst] at ht
            by_cases hs : x = [103, 111, 110, 101]
            · rw [lineS_gone hr hg hs] at h
              cases h
              rw [fmtT_app _ _ _ ha, fmtT_one, stepT_M (s := ⟨st.ev, st.outs, true⟩) he]
              cases ht
              have : stL u ⟨st.ev, st.outs, true⟩ = (u :: st.outs.map outT) ++ [x] := by unfold stL; rw [hs]; rfl
              rw [this, M_app, M_one, List.append_assoc]
            · rw [lineS_out hr hg hs] at h
              cases ho : outS x with
              | none => rw [ho] at h; cases h
              | some o =>
                rw [ho] at h
                simp only [Option.map_some, Option.some.injEq] at h
                subst h
                rw [fmtT_app _ _ _ ha, fmtT_one, stepT_M (s := ⟨st.ev, st.outs ++ [o], false⟩) he]
                cases ht
                have : stL u ⟨st.ev, st.outs ++ [o], false⟩ = (u :: st.outs.map outT) ++ [x] := by unfold stL; rw [outS_inv ho]; simp
                rw [this, M_app, M_one, List.append_assoc]
theorem runS_fmt : ∀ (r : List (List UInt8)) (n : Nat) {l l' : List Stp} {t : List UInt8}, runS n l r = .ok l' → fmtT l = .ok t → fmtT l' = .ok (t ++ M r)
  | [], n, l, l', t, h, ht => by cases h; simpa [M] using ht
  | x :: r, n, l, l', t, h, ht => by
    unfold runS at h
    cases hx : lineS l x with
    | none => rw [hx] at h; cases h
    | some l1 =>
      rw [hx] at h
      have := runS_fmt r (n + 1) h (lineS_fmt hx ht)
      rw [this, M_cons]; simp
theorem parse_ok {s : List UInt8} {l : List Stp} (h : parseS s = .ok l) : ∃ ls, cutL 10 s = ls ++ [[]] ∧ runS 0 [] ls = .ok l := by
  unfold parseS at h
  cases hr : runS 0 [] (cutL 10 s).dropLast with
  | error i => rw [hr] at h; cases h
  | ok l1 =>
    rw [hr] at h
    simp only at h
    split at h
    · rename_i hl
      cases h
      refine ⟨_, ?_, hr⟩
      obtain ⟨ys, hys⟩ := List.getLast?_eq_some_iff.1 hl
      rw [hys]; simp
    · cases h
/-- what is parsed is written as that text -/
theorem fmt_parse {s : List UInt8} {l : List Stp} (h : parseS s = .ok l) : fmtT l = .ok s := by
  obtain ⟨ls, hc, hr⟩ := parse_ok h
  have := runS_fmt ls 0 hr (t := []) rfl
  rw [this, M_of hc]; rfl
end Sp
end Go.Proofs.YtpchfmeaplhodaaDoor
namespace Go.Proofs.YtpchfmeaplhodaaDoor
set_option linter.unusedVariables false
set_option linter.unusedSimpArgs false
namespace Sp
theorem small_tmod (n : Int) : small (n.tmod 1000000000000000000) := by
  have h := Int.natAbs_tmod n 1000000000000000000
  have h2 : n.natAbs % (1000000000000000000 : Int).natAbs < 1000000000000000000 := Nat.mod_lt _ (by decide)
  rw [← h] at h2
  unfold small
  omega
theorem small_i64 {n : Int} (h : small n) : -9223372036854775808 ≤ n ∧ n ≤ 9223372036854775807 := by
  unfold small at h; omega
theorem ev_arm (a b : Int) : evT ⟨7, a, b, []⟩ = .ok ([97, 114, 109, 32] ++ (Lib.itoa a ++ 32 :: Lib.itoa b)) := by
  simp [evT, kd, kc, kk, kw]
theorem ev_tick (a : Int) : evT ⟨4, a, 0, []⟩ = .ok ([116, 105, 99, 107, 32] ++ Lib.itoa a) := by
  simp [evT, kd, kc, kk, kw]
theorem itoa_ne (n : Int) : Lib.itoa n ≠ [] := by
  rcases itoa_cases n with ⟨_, e⟩ | ⟨_, _, e⟩
  · rw [e]; exact decDigits_ne _
  · rw [e]; simp
theorem read_tick {b : List UInt8} (hf : 32 ∉ b) (hb : numT b = none) : readS ([116, 105, 99, 107] ++ 32 :: b) = none := by
  rw [readS_eq, cutL_mid, cutL_none hf, show cutL 32 [116, 105, 99, 107] = [[116, 105, 99, 107]] by decide]
  simp [readW, hb]
theorem num_nought (a : Int) : numT (48 :: Lib.itoa a) = none := by
  rw [← numR_eq]
  unfold numR
  rw [if_pos]
  right; right
  refine ⟨by simp, fun e => itoa_ne a (by simpa using e)⟩
theorem num_plus (a : Int) : numT (43 :: Lib.itoa a) = none := by
  rw [← numR_eq]
  unfold numR
  have h1 : (43 :: Lib.itoa a).head? ≠ some 45 := by simp
  simp only [if_neg h1]
  split
  · rfl
  · have : Lib.decFrom 0 (43 :: Lib.itoa a) = none := by
      simp [Lib.decFrom, Lib.digitVal]
    rw [this]; rfl
theorem read_nought (a : Int) : readS ([116, 105, 99, 107, 32, 48] ++ Lib.itoa a) = none := by
  have h := read_tick (b := 48 :: Lib.itoa a) (by simpa using itoa_free a) (num_nought a)
  exact h
theorem read_plus (a : Int) : readS ([116, 105, 99, 107, 32, 43] ++ Lib.itoa a) = none := by
  have h := read_tick (b := 43 :: Lib.itoa a) (by simpa using itoa_free a) (num_plus a)
  exact h
theorem read_twice (a : Int) : readS (([116, 105, 99, 107, 32] ++ Lib.itoa a) ++ ([32] ++ Lib.itoa a)) = none := by
  rw [readS_eq, show ([116, 105, 99, 107, 32] ++ Lib.itoa a) ++ ([32] ++ Lib.itoa a) = [116, 105, 99, 107] ++ 32 :: (Lib.itoa a ++ 32 :: Lib.itoa a) by simp, cutL_mid, cutL_mid, cutL_none (itoa_free a), show cutL 32 [116, 105, 99, 107] = [[116, 105, 99, 107]] by decide]
  simp [readW]
end Sp
end Go.Proofs.YtpchfmeaplhodaaDoor
