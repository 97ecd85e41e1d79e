/-
  A part of the proof of this seat's laws: the steps of a text, the program's.
-/
import Derived.Test.YtpchfmeaplhodaaDoorTpM
import Derived.Test.YtpchfmeaplhodaaDoorTr17
namespace Go.Proofs.YtpchfmeaplhodaaDoor
set_option linter.unusedVariables false
set_option linter.unusedSimpArgs false
open Go.RowKit Go.Shelf
namespace Tr
open Ap Sg
set_option maxHeartbeats 2000000
/-- how long a string in a slot is -/
def strOf : Value → Nat | .string b => b.size | _ => 0
/-- what the steps of a text are told as -/
def ParseRet (w : World) (s : List UInt8) (e : Ending) (w' : World) : Prop :=
  (∀ i, Sp.parseS s = .error i → e = .returned (.tuple #[.slice none 0 0, .int .i64 (i : Int), .int .i64 10])) ∧
  (∀ l, Sp.parseS s = .ok l → ∃ A n c, e = .returned (.tuple #[.slice A n c, .int .i64 (((Sp.cutL 10 s).length - 1 : Nat) : Int), .int .i64 0]) ∧ Sts w' A n c l) ∧ Below w.heap.size w w'
theorem ParseRet.no {w w' : World} {s : List UInt8} {i : Nat} (h : Sp.parseS s = .error i) (hb : Below w.heap.size w w') : ParseRet w s (.returned (.tuple #[.slice none 0 0, .int .i64 (i : Int), .int .i64 10])) w' :=
  ⟨(fun j h' => by rw [h] at h'; cases h'; rfl), (fun l h' => by rw [h] at h'; cases h'), hb⟩
theorem ParseRet.yes {w w' : World} {s : List UInt8} {l : List Sp.Stp} {A : Option Addr} {n c k : Nat} (h : Sp.parseS s = .ok l) (hk : (Sp.cutL 10 s).length - 1 = k) (ht : Sts w' A n c l) (hb : Below w.heap.size w w') : ParseRet w s (.returned (.tuple #[.slice A n c, .int .i64 (k : Int), .int .i64 0])) w' :=
  ⟨(fun j h' => by rw [h] at h'; cases h'), (fun l' h' => by rw [h] at h'; cases h'; rw [hk]; exact ⟨A, n, c, rfl, ht⟩), hb⟩
/-- the state of Parse -/
structure Pst (w wr : World) (s rest : List UInt8) (k : Nat) : Prop where
  ex : ∃ (done : List (List UInt8)) (l : List Sp.Stp) (A : Option Addr) (n c : Nat), done.length = k ∧ Sp.cutL 10 s = done ++ Sp.cutL 10 rest ∧ Sp.runS 0 [] done = .ok l ∧ l.length ≤ k ∧ (∀ st ∈ l, st.outs.length ≤ k) ∧
    Blk wr w.heap.size #[.slice A n c] 86 ∧ Os wr (w.heap.size + 1) A n c l
  len : rest.length + k ≤ s.length
  low : Below w.heap.size w wr
set_option maxRecDepth 100000 in
theorem parse_calls (s : List UInt8) (hs : s.length ≤ 400000) (hx : ∀ x ∈ Sp.cutL 10 s, x.length ≤ 50000) (w : World) (hg : Gl w) :
    Calls Tryd.prog 23 #[.string (Sp.bs s)] w fun e w' => ParseRet w s e w' := by
  have hz := Sp.bs_size s
  have hb0 : Below w.heap.size w (w.alloc (.cells #[.slice none 0 0] 86)) := (Below.refl _ _).alloc (Nat.le_refl _) _
  have HS0 : Hid (Pst w (w.alloc (.cells #[.slice none 0 0] 86)) s s 0) := ⟨⟨[], [], none, 0, 0, rfl, rfl, rfl, Nat.le_refl _, (fun st h => by cases h), Blk.new w _ _, Os.nil _ _⟩, by omega, hb0⟩
  have Hg := Lib.hid hg
  have Hx := Lib.hid hx
  clear hb0 hg hx
  go_enter Tryd.func23, Tryd.ntmps23
  go_wp2_with fail
  generalize (w.alloc (.cells #[.slice none 0 0] 86)) = W at *
  go_loopw [0, 6] (fun sv nv wr => ∃ (k : Nat) (rest : List UInt8), sv = .string (Sp.bs rest) ∧ nv = .int .i64 (k : Int) ∧ k ≤ s.length ∧ Hid (Pst w wr s rest k)) (fun sv _ _ => strOf sv)
  case atStart => exact ⟨0, s, rfl, rfl, by omega, HS0⟩
  case round =>
    obtain ⟨k, rest, rfl, rfl, hks, hst⟩ := hrel
    clear HS0
    have emp := str_emp rest
    have hzr := Sp.bs_size rest
    have hln := hst.len
    have Hln := Lib.hid hln
    obtain ⟨done, l, A, n, c, hdk, hcut, hrun, hlk, hok, hp, ho⟩ := hst.ex
    have Hdk := Lib.hid hdk
    have Hcut := Lib.hid hcut
    have Hrun := Lib.hid hrun
    have Hlow := Lib.hid hst.low
    have hpc := hp.cell 0 _ rfl
    have Hp := Lib.hid hp
    have Ho := Lib.hid ho
    have hnl := ho.len
    have Hnl := Lib.hid hnl
    have Hok := Lib.hid hok
    have Hlk := Lib.hid hlk
    have hn6 : n ≤ 1000000 := by omega
    by_cases hrest : rest = []
    · subst hrest
      have hcut2 : Sp.cutL 10 s = done ++ [[]] := hcut
      have h1 := Sp.parse_done hcut2 hrun
      have HY := Lib.hid (And.intro h1.1 (h1.2.trans hdk))
      rw [decide_eq_true rfl] at emp
      clear hln hdk hcut hrun hlk hok hp ho hnl hcut2 h1 hst
      go_wp2_with fail
      go_ret3
      exact ParseRet.yes HY.out.1 HY.out.2 Ho.out.sts Hlow.out
    · rw [decide_eq_false hrest] at emp
      have hw3 := (Hg.out.below Hlow.out)
      have hlr : rest.length ≤ 1000000 := by omega
      rcases Sp.cut_cases 10 rest with ⟨hc, hL, -⟩ | ⟨a, b, hc, hL, hsp, -⟩
      · have HC := Lib.hid (scut_calls rest 10 rest [] false hc hlr wr hw3.ml)
        have hcut2 : Sp.cutL 10 s = done ++ [rest] := by rw [hcut, hL]
        have hno := Sp.parse_open hcut2 hrest hrun
        rw [hdk] at hno
        have HN := Lib.hid hno
        clear hln hdk hcut hrun hlk hok hp ho hnl hcut2 hno hst hrest hc hL hw3
        go_wp2_with fail
        refine HC.out.mono ?_
        rintro e w3 ⟨rfl, b3⟩
        have B3 := Lib.hid (step Hlow.out b3)
        clear b3
        go_wp2_with fail
        go_ret3
        exact ParseRet.no HN.out B3.out
      · have HC := Lib.hid (scut_calls rest 10 a b true hc hlr wr hw3.ml)
        have hlb := congrArg List.length hsp
        rw [List.length_append, List.length_cons] at hlb
        have hcut2 : Sp.cutL 10 s = done ++ a :: Sp.cutL 10 b := by rw [hcut, hL]
        have hal : a.length ≤ 50000 := Hx.out a (by rw [hcut2]; simp)
        have HLi : Hid (∀ w3, Below wr.heap.size wr w3 → Calls Tryd.prog 41 #[.pointer (some ⟨w.heap.size, 0, none⟩), .string (Sp.bs a)] w3 fun e w' => LineRet w.heap.size (w.heap.size + 1) l a w3 e w') := fun w3 hb3 =>
          line_calls w.heap.size (w.heap.size + 1) (Nat.lt_succ_self _) A n c l a hal w3 (hw3.below hb3) (Hp.out.below hb3) (Ho.out.below hb3) (by have := Hp.out.lt; have := hb3.size; omega) hn6 (fun st hst => by have := Hok.out st hst; omega)
        have Hlb := Lib.hid hlb
        have Hal := Lib.hid hal
        cases hli : Sp.lineS l a with
        | none =>
          have hno := Sp.parse_bad hcut2 (Sp.cutL_ne 10 b) hrun hli
          rw [hdk] at hno
          have HN := Lib.hid hno
          have HLn := Lib.hid hli
          clear hln hdk hcut hrun hlk hok hp ho hnl hcut2 hno hst hrest hc hL hw3 hlb hal hli hsp
          go_wp2_with fail
          refine HC.out.mono ?_
          rintro e w3 ⟨rfl, b3⟩
          have B3 := Lib.hid b3
          clear b3
          go_wp2_with fail
          refine (HLi.out _ B3.out).mono ?_
          rintro e w4 ⟨rfl, -, b4⟩
          rw [show (Sp.lineS l a).isSome = false by rw [HLn.out]; rfl]
          have B4 := Lib.hid ((step Hlow.out B3.out).trans b4)
          clear b4
          go_wp2_with fail
          go_ret3
          exact ParseRet.no HN.out B4.out
        | some l' =>
          have HRn := Lib.hid (Sp.runS_one hrun hli)
          have HBg := Lib.hid (Sp.lineS_big hli hlk hok)
          have HLn := Lib.hid hli
          have Hc2 : Hid (Sp.cutL 10 s = (done ++ [a]) ++ Sp.cutL 10 b) := Lib.hid (by rw [hcut2]; simp)
          have hw1 : IntKind.i64.wrap ((k : Int) + 1) = (k : Int) + 1 := IntWalk.i64_in _ (by omega)
          have hbz := Sp.bs_size b
          clear hln hdk hcut hrun hlk hok hp ho hnl hcut2 hst hrest hc hL hw3 hlb hal hli hsp
          go_wp2_with fail
          refine HC.out.mono ?_
          rintro e w3 ⟨rfl, b3⟩
          have B3 := Lib.hid b3
          clear b3
          go_wp2_with fail
          refine (HLi.out _ B3.out).mono ?_
          rintro e w4 ⟨rfl, h4, b4⟩
          rw [show (Sp.lineS l a).isSome = true by rw [HLn.out]; rfl]
          have B4 := Lib.hid ((step Hlow.out B3.out).trans b4)
          have H4 := Lib.hid (h4 l' HLn.out)
          clear b4 h4
          go_wp2_with fail
          go_roundw
          case rel =>
            obtain ⟨A', n', c', hp', ho'⟩ := H4.out
            have h1 := Hln.out
            have h2 := Hlb.out
            exact ⟨k + 1, b, rfl, by go_num, by omega, ⟨⟨done ++ [a], l', A', n', c', by rw [List.length_append, Hdk.out]; rfl, Hc2.out, HRn.out, HBg.out.1, HBg.out.2, hp', ho'⟩, by omega, B4.out⟩⟩
          case measure =>
            have h2 := Hlb.out
            simp [strOf, Sp.bs_size]; omega
end Tr
end Go.Proofs.YtpchfmeaplhodaaDoor
