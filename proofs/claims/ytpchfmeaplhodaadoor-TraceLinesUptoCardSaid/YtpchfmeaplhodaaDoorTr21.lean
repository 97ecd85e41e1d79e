/-
  A part of the proof of this seat's laws: a step's text, the reference's.
-/
import Derived.Test.YtpchfmeaplhodaaDoorTr12
import Derived.Test.YtpchfmeaplhodaaDoorTpM
import Derived.Test.YtpchfmeaplhodaaDoorRvM
import Derived.Test.YtpchfmeaplhodaaDoorTr9
namespace Go.Proofs.YtpchfmeaplhodaaDoor
set_option linter.unusedVariables false
set_option linter.unusedSimpArgs false
open Go.RowKit Go.Shelf
namespace Sp
theorem evT_code {e : Evt} {c : Int} (h : evT e = .error c) : c = 17 ∨ c = 10 := by
  unfold evT at h
  split at h
  · cases h; exact .inl rfl
  · split at h
    · cases h; exact .inr rfl
    · cases h
theorem stepT_err {s : Stp} {c : Int} (h : evT s.ev = .error c) : stepT s = .error c := by unfold stepT; rw [h]
theorem stepT_code {s : Stp} {c : Int} (h : stepT s = .error c) : c = 17 ∨ c = 10 := by
  unfold stepT at h
  cases he : evT s.ev with
  | error d => rw [he] at h; cases h; exact evT_code he
  | ok t => rw [he] at h; cases h
/-- a step's text up to its j-th output -/
def pre (t : List UInt8) (l : List Out) : List UInt8 := t ++ 10 :: outsT l
theorem stepT_ok {s : Stp} {t : List UInt8} (h : evT s.ev = .ok t) : stepT s = .ok (pre t s.outs ++ goneT s.gone) := by
  unfold stepT pre; rw [h]; simp
theorem pre_snoc (t : List UInt8) (l : List Out) (o : Out) : pre t (l ++ [o]) = pre t l ++ (outT o ++ [10]) := by
  unfold pre; rw [outsT_snoc]; simp
def word (b : Bool) : List UInt8 := if b = true then [98, 97, 99, 107, 32] else [111, 110, 32]
theorem outT_word (o : Out) : outT o = word o.back ++ hexT o.data := rfl
end Sp
namespace Tr
open Ap Sg
set_option maxHeartbeats 2000000
/-- a step by value -/
abbrev stA (s : Sp.Stp) (Ad : Option Addr) (nd cd : Nat) (Ao : Option Addr) (no co : Nat) : Value := .agg #[.int .i64 s.ev.kind, .int .i64 s.ev.n, .int .i64 s.ev.keep, .slice Ad nd cd, .slice Ao no co, .bool s.gone]
abbrev stC (s : Sp.Stp) (Ad : Option Addr) (nd cd : Nat) (Ao : Option Addr) (no co : Nat) : Array Value := #[.int .i64 s.ev.kind, .int .i64 s.ev.n, .int .i64 s.ev.keep, .slice Ad nd cd, .slice Ao no co, .bool s.gone]
theorem Blk.cells6 {w : World} {b : Nat} {a0 a1 a2 a3 a4 a5 : Value} {T : TypeId} (h : Blk w b #[a0, a1, a2, a3, a4, a5] T) : w.cell? ⟨b, 0, none⟩ = some a0 ∧ w.cell? ⟨b, 1, none⟩ = some a1 ∧ w.cell? ⟨b, 2, none⟩ = some a2 ∧ w.cell? ⟨b, 3, none⟩ = some a3 ∧ w.cell? ⟨b, 4, none⟩ = some a4 ∧ w.cell? ⟨b, 5, none⟩ = some a5 :=
  ⟨h.cell 0 _ rfl, h.cell 1 _ rfl, h.cell 2 _ rfl, h.cell 3 _ rfl, h.cell 4 _ rfl, h.cell 5 _ rfl⟩
theorem Ou.below {w w' : World} {K : Nat → Prop} {A : Option Addr} {n c : Nat} {l : List Sp.Out} (h : Ou w K A n c l) (hb : Below w.heap.size w w') : Ou w' K A n c l := h.keep (Kp.of hb)
set_option maxRecDepth 100000 in
theorem rstep_bad (s : Sp.Stp) (Ad : Option Addr) (nd cd : Nat) (Ao : Option Addr) (no co : Nat) (w : World) (hd : By w Ad nd cd s.ev.data) (hn : Sp.nums s) (hw : Sp.swt s ≤ 50000) (c : Int) (he : Sp.evT s.ev = .error c) :
    Calls Tryd.prog 39 #[stA s Ad nd cd Ao no co] w fun e w' => e = .returned (Sp.evV (Sp.stepT s)) ∧ Below w.heap.size w w' := by
  have huS := Tryd.underlying42
  have huE := Tryd.underlying29
  have hb0 : Below w.heap.size w (w.alloc (.cells (stC s Ad nd cd Ao no co) 42)) := (Below.refl _ _).alloc (Nat.le_refl _) _
  have hdl := hd.len
  have hsw : nd ≤ 50000 := by unfold Sp.swt at hw; omega
  have HEv := Lib.hid (revent_calls s.ev.kind s.ev.n s.ev.keep Ad nd cd s.ev.data _ (hd.below hb0) (by omega) hn.1.1 hn.1.2 hn.2.1 hn.2.2)
  rw [show (⟨s.ev.kind, s.ev.n, s.ev.keep, s.ev.data⟩ : Sp.Evt) = s.ev from rfl, he] at HEv
  simp only [Sp.evV] at HEv
  rw [Sp.stepT_err he]
  have HB0 := Lib.hid hb0
  have hcc := Sp.evT_code he
  have hc : (c != 0) = true := by rw [bne_iff_ne]; omega
  clear hd hb0 hdl hn hw he hcc
  go_enter Tryd.func39, Tryd.ntmps39
  go_wp2_with fail
  refine HEv.out.mono ?_
  rintro e w1 ⟨rfl, b1⟩
  have B1 := Lib.hid (step HB0.out b1)
  clear b1
  go_wp2_with fail
  go_ret2
  exact ⟨rfl, B1.out⟩
set_option maxRecDepth 100000 in
theorem rstep_in (kd n kp : Int) (data : List UInt8) (L : List Sp.Out) (gn : Bool) (Ad : Option Addr) (nd cd : Nat) (Ao : Option Addr) (no co : Nat) (w : World) (hd : By w Ad nd cd data) (ho : Ou w (fun _ => True) Ao no co L) (hn : Sp.i64 n ∧ Sp.i64 kp) (hw : 1 + data.length + Sp.owts L ≤ 50000) (t : List UInt8) (he : Sp.evT ⟨kd, n, kp, data⟩ = .ok t) :
    Calls Tryd.prog 39 #[.agg #[.int .i64 kd, .int .i64 n, .int .i64 kp, .slice Ad nd cd, .slice Ao no co, .bool gn]] w fun e w' => e = .returned (Sp.evV (.ok (Sp.pre t L ++ Sp.goneT gn))) ∧ Below w.heap.size w w' := by
  have huS := Tryd.underlying42
  have huE := Tryd.underlying29
  have huO := Tryd.underlying56
  have hb0 : Below w.heap.size w (w.alloc (.cells #[.int .i64 kd, .int .i64 n, .int .i64 kp, .slice Ad nd cd, .slice Ao no co, .bool gn] 42)) := (Below.refl _ _).alloc (Nat.le_refl _) _
  have hdl := hd.len
  have hol := ho.len
  have hno := Sp.owts_len L
  have HEv := Lib.hid (revent_calls kd n kp Ad nd cd data _ (hd.below hb0) (by omega) hn.1.1 hn.1.2 hn.2.1 hn.2.2)
  rw [he] at HEv
  simp only [Sp.evV] at HEv
  have htl := Sp.evT_len he hn.1 hn.2
  simp only at htl
  have hpl : ∀ j, (Sp.pre t (L.take j)).length ≤ 1000000 := fun j => by
    unfold Sp.pre
    have h1 := Sp.outsT_len (L.take j)
    have h2 := Sp.owts_take L j
    rw [List.length_append, List.length_cons]
    omega
  have hpre0 : Sp.bs t ++ (⟨#[10]⟩ : ByteArray) = Sp.bs (Sp.pre t (L.take 0)) := Sp.bs_append t [10]
  have ht6 : t.length ≤ 1000000 := by omega
  have hzt := Sp.bs_size t
  have HB0 := Lib.hid hb0
  have HF0 := Lib.hid (Blk.new w #[.int .i64 kd, .int .i64 n, .int .i64 kp, .slice Ad nd cd, .slice Ao no co, .bool gn] 42)
  have Ho := Lib.hid ho
  have Hpl := Lib.hid hpl
  have hsz : ∀ (j : Nat) (x : Sp.Out), L[j]? = some x → x.data.length ≤ 100000 := fun j x hj => by
    have h1 := Sp.owts_mem (List.mem_of_getElem? hj)
    unfold Sp.owt at h1
    omega
  have Hsz := Lib.hid hsz
  have hno6 : no ≤ 100000 := by omega
  have Hol := Lib.hid hol
  clear hd hb0 hdl hn hw he htl hpl ho hsz hol hno
  go_enter Tryd.func39, Tryd.ntmps39
  go_wp2_with fail
  refine HEv.out.mono ?_
  rintro e w1 ⟨rfl, b1⟩
  have HF1 := Lib.hid (HF0.out.below b1)
  have Ho1 := Lib.hid ((Ho.out.below HB0.out).below b1)
  have B1 := Lib.hid (step HB0.out b1)
  clear b1
  go_wp2_with fail
  go_loopw [4, 6, 7] (fun sv iv _ wr => ∃ j : Nat, j ≤ no ∧ iv = .int .i64 (j : Int) ∧ sv = .string (Sp.bs (Sp.pre t (L.take j))) ∧ Hid (Below w1.heap.size w1 wr)) (fun _ iv _ _ => no - (intOf iv).toNat)
  case atStart => exact ⟨0, by omega, rfl, by first | rfl | (rw [hpre0]), Below.refl _ _⟩
  case round =>
    obtain ⟨j, hj, rfl, rfl, hb⟩ := hrel
    have hcs := (HF1.out.below hb.out).cells6
    by_cases hlt : j < no
    · have c1 : (j : Int) < (no : Int) := by omega
      have c0 : (0 : Int) ≤ (j : Int) := by omega
      have hw1 : IntKind.i64.wrap ((j : Int) + 1) = (j : Int) + 1 := IntWalk.i64_in _ (by omega)
      obtain ⟨x, hx⟩ : ∃ x, L[j]? = some x := ⟨_, List.getElem?_eq_getElem (by have := Hol.out; omega)⟩
      obtain ⟨b, o, A', n', c', rfl, hbl, k1, k2, hB⟩ := (Ho1.out.below hb.out).get hx
      have hxl := Hsz.out j x hx
      have hxn := hB.by_.len
      have HHx := Lib.hid (fun W h => rhex_calls A' n' c' x.data (by omega) W h)
      have hps := Sp.pre_snoc t (L.take j) x
      rw [← Sp.take_snoc hx, Sp.outT_word] at hps
      have hp0 := Hpl.out j
      have hp1 := Hpl.out (j + 1)
      generalize Sp.pre t (L.take j) = S0 at *
      generalize hS3 : Sp.pre t (L.take (j + 1)) = S3 at *
      have HS3 := Lib.hid hS3
      clear hS3
      generalize hhx : Sp.hexT x.data = X at *
      have hX : X.length ≤ 300000 := by rw [← hhx]; have := Sp.hexT_len x.data; omega
      have hz0 := Sp.bs_size S0
      have hzX := Sp.bs_size X
      have HB := Lib.hid hB.by_
      cases hbk : x.back with
      | true =>
        rw [hbk] at k1 hps
        have a1 : Sp.bs S0 ++ (⟨#[98, 97, 99, 107, 32]⟩ : ByteArray) = Sp.bs (S0 ++ [98, 97, 99, 107, 32]) := Sp.bs_append _ _
        generalize hS1 : S0 ++ [98, 97, 99, 107, 32] = S1 at *
        have hz1 : (Sp.bs S1).size = S0.length + 5 := by rw [Sp.bs_size, ← hS1]; simp
        have a2 : Sp.bs S1 ++ Sp.bs X = Sp.bs (S1 ++ X) := Sp.bs_append _ _
        generalize hS2 : S1 ++ X = S2 at *
        have hz2 : (Sp.bs S2).size = S0.length + 5 + X.length := by rw [Sp.bs_size, ← hS2, ← hS1]; simp; omega
        have a3 : Sp.bs S2 ++ (⟨#[10]⟩ : ByteArray) = Sp.bs S3 := by
          rw [hps, ← hS2, ← hS1]
          rw [show (⟨#[10]⟩ : ByteArray) = Sp.bs [10] from rfl, Sp.bs_append]
          simp [Sp.word]
        clear hps hS1 hS2 hx hxn hB hbk hhx
        go_wp2_with fail
        refine (HHx.out _ HB.out).mono ?_
        rintro e w5 ⟨rfl, q, rfl⟩
        have B5 := Lib.hid (step hb.out (below_drewN (Below.refl _ _) q))
        go_wp2_with fail
        go_roundw
        case rel => exact ⟨j + 1, by omega, by go_num, by rw [HS3.out], B5⟩
        case measure => simp [intOf]; omega
      | false =>
        rw [hbk] at k1 hps
        have a1 : Sp.bs S0 ++ (⟨#[111, 110, 32]⟩ : ByteArray) = Sp.bs (S0 ++ [111, 110, 32]) := Sp.bs_append _ _
        generalize hS1 : S0 ++ [111, 110, 32] = S1 at *
        have hz1 : (Sp.bs S1).size = S0.length + 3 := by rw [Sp.bs_size, ← hS1]; simp
        have a2 : Sp.bs S1 ++ Sp.bs X = Sp.bs (S1 ++ X) := Sp.bs_append _ _
        generalize hS2 : S1 ++ X = S2 at *
        have hz2 : (Sp.bs S2).size = S0.length + 3 + X.length := by rw [Sp.bs_size, ← hS2, ← hS1]; simp; omega
        have a3 : Sp.bs S2 ++ (⟨#[10]⟩ : ByteArray) = Sp.bs S3 := by
          rw [hps, ← hS2, ← hS1]
          rw [show (⟨#[10]⟩ : ByteArray) = Sp.bs [10] from rfl, Sp.bs_append]
          simp [Sp.word]
        clear hps hS1 hS2 hx hxn hB hbk hhx
        go_wp2_with fail
        refine (HHx.out _ HB.out).mono ?_
        rintro e w5 ⟨rfl, q, rfl⟩
        have B5 := Lib.hid (step hb.out (below_drewN (Below.refl _ _) q))
        go_wp2_with fail
        go_roundw
        case rel => exact ⟨j + 1, by omega, by go_num, by rw [HS3.out], B5⟩
        case measure => simp [intOf]; omega
    · obtain rfl : j = no := by omega
      have c1 : ¬ (j : Int) < (j : Int) := by omega
      have hLt : L.take j = L := List.take_of_length_le (by have := Hol.out; omega)
      have hp0 := Hpl.out j
      rw [hLt] at *
      obtain ⟨S0, hS0⟩ : ∃ S0, S0 = Sp.pre t L := ⟨_, rfl⟩
      have HS0 := Lib.hid hS0
      rw [← hS0] at hp0 ⊢
      clear hS0
      have hz0 := Sp.bs_size S0
      have B5 := Lib.hid (step B1.out hb.out)
      cases gn with
      | true =>
        have a1 : Sp.bs S0 ++ (⟨#[103, 111, 110, 101, 10]⟩ : ByteArray) = Sp.bs (S0 ++ Sp.goneT true) := Sp.bs_append _ _
        go_wp2_with fail
        go_ret2
        exact ⟨by rw [← HS0.out]; first | rfl | (rw [a1]; rfl), B5.out⟩
      | false =>
        go_wp2_with fail
        go_ret2
        exact ⟨by rw [← HS0.out, show S0 ++ Sp.goneT false = S0 from List.append_nil _]; rfl, B5.out⟩
theorem rstep_ok (s : Sp.Stp) (Ad : Option Addr) (nd cd : Nat) (Ao : Option Addr) (no co : Nat) (w : World) (hd : By w Ad nd cd s.ev.data) (ho : Ou w (fun _ => True) Ao no co s.outs) (hn : Sp.nums s) (hw : Sp.swt s ≤ 50000) (t : List UInt8) (he : Sp.evT s.ev = .ok t) :
    Calls Tryd.prog 39 #[stA s Ad nd cd Ao no co] w fun e w' => e = .returned (Sp.evV (Sp.stepT s)) ∧ Below w.heap.size w w' := by
  rw [Sp.stepT_ok he]
  exact rstep_in s.ev.kind s.ev.n s.ev.keep s.ev.data s.outs s.gone Ad nd cd Ao no co w hd ho hn hw t he
theorem rstep_calls (s : Sp.Stp) (Ad : Option Addr) (nd cd : Nat) (Ao : Option Addr) (no co : Nat) (w : World) (hd : By w Ad nd cd s.ev.data) (ho : Ou w (fun _ => True) Ao no co s.outs) (hn : Sp.nums s) (hw : Sp.swt s ≤ 50000) :
    Calls Tryd.prog 39 #[stA s Ad nd cd Ao no co] w fun e w' => e = .returned (Sp.evV (Sp.stepT s)) ∧ Below w.heap.size w w' := by
  cases he : Sp.evT s.ev with
  | error c => exact rstep_bad s Ad nd cd Ao no co w hd hn hw c he
  | ok t => exact rstep_ok s Ad nd cd Ao no co w hd ho hn hw t he
end Tr
end Go.Proofs.YtpchfmeaplhodaaDoor
