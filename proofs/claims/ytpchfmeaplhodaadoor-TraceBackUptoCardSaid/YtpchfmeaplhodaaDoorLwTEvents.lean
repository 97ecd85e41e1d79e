/-
  A part of the proof of this seat's laws: TraceEvents.
-/
import Derived.Test.YtpchfmeaplhodaaDoorTr20
import Derived.Test.YtpchfmeaplhodaaDoorTr25
import Derived.Test.YtpchfmeaplhodaaDoorEvM
import Derived.Test.YtpchfmeaplhodaaDoorRvM
import Derived.Test.YtpchfmeaplhodaaDoorRrM
import Derived.Test.YtpchfmeaplhodaaDoorIn
namespace Go.Proofs.YtpchfmeaplhodaaDoor
set_option linter.unusedVariables false
set_option linter.unusedSimpArgs false
open Go.RowKit Go.Shelf
namespace Sp
def evTx : Except Int (List UInt8) → List UInt8
  | .error _ => []
  | .ok t => t
def evCo : Except Int (List UInt8) → Int
  | .error c => c
  | .ok _ => 0
theorem evV_eq (r : Except Int (List UInt8)) : evV r = .tuple #[.string (bs (evTx r)), .int .i64 (evCo r)] := by cases r <;> rfl
def evOf (s : List UInt8) : Evt := (readS s).getD ⟨0, 0, 0, []⟩
def rdCo (s : List UInt8) : Int := if (readS s).isSome = true then 0 else 10
end Sp
namespace Tr
open Ap Sg
set_option maxHeartbeats 2000000
theorem read_all {w : World} {s : List UInt8} {e : Ending} {w' : World} (h : ReadRet w s e w') : ∃ A n c, e = .returned (.tuple #[evA (Sp.evOf s).kind (Sp.evOf s).n (Sp.evOf s).keep A n c, .int .i64 (Sp.rdCo s)]) ∧ By w' A n c (Sp.evOf s).data ∧ Below w.heap.size w w' := by
  unfold Sp.evOf Sp.rdCo
  cases hr : Sp.readS s with
  | none => exact ⟨none, 0, 0, h.1 hr, By.nil _, h.2.2⟩
  | some ev =>
    obtain ⟨A, n, c, he, hby, -⟩ := h.2.1 ev hr
    exact ⟨A, n, c, he, hby, h.2.2⟩
theorem sts_lit {w : World} {ev : Sp.Evt} {A : Option Addr} {n c : Nat} (h : By w A n c ev.data) : Sts (w.alloc (.cells (stC ⟨ev, [], false⟩ A n c none 0 0) 42)) (some ⟨w.heap.size, 0, none⟩) 1 1 [⟨ev, [], false⟩] := by
  have hb : Below w.heap.size w (w.alloc (.cells (stC ⟨ev, [], false⟩ A n c none 0 0) 42)) := (Below.refl _ _).alloc (Nat.le_refl _) _
  refine ⟨Nat.le_refl _, rfl, stV ⟨ev, [], false⟩ A n c none 0 0, StepsV.one (Bk.of (h.below hb)) (Ou.nil _ _), .inr ⟨w.heap.size, 0, rfl, by rw [World.size_alloc]; exact Nat.lt_succ_self _, fun j u hj => ?_⟩⟩
  have := step_cells w (stV ⟨ev, [], false⟩ A n c none 0 0) 42 w.heap.size rfl j u hj
  rw [Addr.add_lit] at this
  exact this
set_option maxRecDepth 100000 in
theorem te_small (k n keep : Int) (A : Option Addr) (len c : Nat) (data s : List UInt8) (w : World) (hby : By w A len c data) (hl : len ≤ 1000) (hs : s.length ≤ 1000) (hn0 : -9223372036854775808 ≤ n) (hn1 : n ≤ 9223372036854775807) (hk0 : -9223372036854775808 ≤ keep) (hk1 : keep ≤ 9223372036854775807) (hg : Gl w) :
    Calls Tryd.prog 4 #[evA k n keep A len c, .string (Sp.bs s)] w fun e w' => e = .returned (.bool true) ∧ Below w.heap.size w w' := by
  have huE := Tryd.underlying29
  have huS := Tryd.underlying42
  have hz := Sp.bs_size s
  have h1 : ¬ (1000 : Int) < (len : Int) := by omega
  have h2 : ¬ (1000 : Int) < (s.length : Int) := by omega
  have hb0 : Below w.heap.size w (w.alloc (.cells (evC k n keep A len c) 29)) := (Below.refl _ _).alloc (Nat.le_refl _) _
  have HB0 := Lib.hid hb0
  have HF0 := Lib.hid (Blk.new w (evC k n keep A len c) 29)
  have HEv := Lib.hid (event_calls k n keep A len c data _ (hg.below hb0) (hby.below hb0) (by omega) hn0 hn1 hk0 hk1)
  have HRv := Lib.hid (fun W h => revent_calls k n keep A len c data W h (by omega) hn0 hn1 hk0 hk1)
  rw [Sp.evV_eq] at HEv HRv
  generalize Sp.evTx (Sp.evT ⟨k, n, keep, data⟩) = T at *
  generalize Sp.evCo (Sp.evT ⟨k, n, keep, data⟩) = C at *
  have HRd := Lib.hid (fun W h => read_calls s (by omega) W h)
  have HRr := Lib.hid (fun W => rread_calls s (by omega) W)
  have hself : ((Sp.bs T).toList == (Sp.bs T).toList) = true := str_same T
  have Hby := Lib.hid hby
  have Hg := Lib.hid hg
  clear hby hg hb0 hn0 hn1 hk0 hk1
  go_enter Tryd.func4, Tryd.ntmps4
  go_wp2_with fail
  refine HEv.out.mono ?_
  rintro e w1 ⟨rfl, b1⟩
  have B1 := Lib.hid (step HB0.out b1)
  have k1 := (HF0.out.below b1).cells4
  have HF1 := Lib.hid (HF0.out.below b1)
  clear b1
  go_wp2_with fail
  refine (HRv.out _ (Hby.out.below B1.out)).mono ?_
  rintro e w2 ⟨rfl, b2⟩
  have B2 := Lib.hid (step B1.out b2)
  clear b2 k1
  go_wp2_with fail
  refine (HRd.out _ (Hg.out.below B2.out)).mono ?_
  rintro e w3 hr3
  obtain ⟨A3, n3, c3, rfl, hb3, b3⟩ := read_all hr3
  clear hr3
  have B3 := Lib.hid (step B2.out b3)
  have Hd3 := Lib.hid hb3
  clear hb3 b3
  generalize hEV : Sp.evOf s = EV at *
  generalize hRC : Sp.rdCo s = RC at *
  have hb4 : Below w3.heap.size w3 (w3.alloc (.cells (evC EV.kind EV.n EV.keep A3 n3 c3) 29)) := (Below.refl _ _).alloc (Nat.le_refl _) _
  have F4 := Lib.hid (Blk.new w3 (evC EV.kind EV.n EV.keep A3 n3 c3) 29)
  have B4 := Lib.hid (step B3.out hb4)
  have Hd4 := Lib.hid (Hd3.out.below hb4)
  clear hb4
  go_wp2_with fail
  refine (HRr.out _).mono ?_
  rintro e w5 hr5
  obtain ⟨A5, n5, c5, rfl, hb5, b5⟩ := read_all hr5
  clear hr5
  rw [hEV] at hb5 ⊢
  rw [hRC]
  have hb6 : Below w5.heap.size w5 (w5.alloc (.cells (evC EV.kind EV.n EV.keep A5 n5 c5) 29)) := (Below.refl _ _).alloc (Nat.le_refl _) _
  have b56 := step b5 hb6
  have F6 := Lib.hid (Blk.new w5 (evC EV.kind EV.n EV.keep A5 n5 c5) 29)
  have F46 := Lib.hid (F4.out.below b56)
  have B6 := Lib.hid (step B4.out b56)
  have Hd46 := Lib.hid (Hd4.out.below b56)
  have Hd56 := Lib.hid (hb5.below hb6)
  have HAl := Lib.hid (alive_calls _ (Hg.out.below B6.out))
  clear hb5 b5 hb6 b56
  go_wp2_with fail
  refine HAl.out.mono ?_
  rintro e w7 ⟨rfl, b7⟩
  have B7 := Lib.hid (step B6.out b7)
  have m1 := (F46.out.below b7).cells4
  have m2 := (F6.out.below b7).cells4
  have q1 := Hd46.out.below b7
  have q2 := Hd56.out.below b7
  have hsz7 := b7.size
  have s1 := sts_lit (ev := EV) q1
  have hbn : Below w7.heap.size w7 (w7.alloc (.cells (stC ⟨EV, [], false⟩ A3 n3 c3 none 0 0) 42)) := (Below.refl _ _).alloc (Nat.le_refl _) _
  have s2 := sts_lit (ev := EV) (q2.below hbn)
  have hbm : Below (w7.alloc (.cells (stC ⟨EV, [], false⟩ A3 n3 c3 none 0 0) 42)).heap.size (w7.alloc (.cells (stC ⟨EV, [], false⟩ A3 n3 c3 none 0 0) 42)) ((w7.alloc (.cells (stC ⟨EV, [], false⟩ A3 n3 c3 none 0 0) 42)).alloc (.cells (stC ⟨EV, [], false⟩ A5 n5 c5 none 0 0) 42)) := (Below.refl _ _).alloc (Nat.le_refl _) _
  have hsa := same_calls _ 1 1 _ 1 1 _ _ (s1.below hbm) s2 (by simp) (fun x hx => by simp only [List.mem_singleton] at hx; subst hx; simp)
  rw [World.size_alloc] at hsa
  have HSa := Lib.hid hsa
  have B9 := Lib.hid (step B7.out (step hbn hbm))
  have l1 : w3.heap.size < w7.heap.size := (F46.out.below b7).lt
  have l2 : w5.heap.size < w7.heap.size := (F6.out.below b7).lt
  clear b7 q1 q2 s1 s2 hbn hbm hsa
  go_wp2_with fail
  refine HSa.out.mono ?_
  rintro e w10 ⟨rfl, b10⟩
  go_wp2_with fail
  go_ret
  exact ⟨rfl, B9.out.trans (b10.mono (by have := B9.out.size; omega))⟩
set_option maxRecDepth 100000 in
theorem te_big (k n keep : Int) (A : Option Addr) (len c : Nat) (s : ByteArray) (w : World) (hb : 1000 < len ∨ 1000 < s.size) (hs : s.size ≤ 140737488351232) (hg : Gl w) :
    Calls Tryd.prog 4 #[evA k n keep A len c, .string s] w fun e w' => e = .returned (.bool true) ∧ Below w.heap.size w w' := by
  have huE := Tryd.underlying29
  have hb0 : Below w.heap.size w (w.alloc (.cells (evC k n keep A len c) 29)) := (Below.refl _ _).alloc (Nat.le_refl _) _
  have HAl := Lib.hid (alive_calls _ (hg.below hb0))
  have HB0 := Lib.hid hb0
  by_cases h : 1000 < len
  · have h1 : (1000 : Int) < (len : Int) := by omega
    clear hg hb h hb0
    go_enter Tryd.func4, Tryd.ntmps4
    go_wp2_with fail
    refine HAl.out.mono ?_
    rintro e w5 ⟨rfl, b5⟩
    go_wp2_with fail
    go_ret
    exact ⟨rfl, step HB0.out b5⟩
  · have h1 : ¬ (1000 : Int) < (len : Int) := by omega
    have h2 : (1000 : Int) < (s.size : Int) := by omega
    clear hg hb h hb0
    go_enter Tryd.func4, Tryd.ntmps4
    go_wp2_with fail
    refine HAl.out.mono ?_
    rintro e w5 ⟨rfl, b5⟩
    go_wp2_with fail
    go_ret
    exact ⟨rfl, step HB0.out b5⟩
theorem tevents_in (k n keep : Int) (A : Option Addr) (len c : Nat) (s : ByteArray) (w : World) (hn : Sp.i64 n) (hk : Sp.i64 keep) (hx : len ≤ 1000 → ∃ xs, Opn.Bytes w A len c xs) (hs : s.size ≤ 140737488351232) (hg : Gl w) :
    Calls Tryd.prog 4 #[evA k n keep A len c, .string s] w fun e w' => e = .returned (.bool true) ∧ Below w.heap.size w w' := by
  by_cases hb : 1000 < len ∨ 1000 < s.size
  · exact te_big k n keep A len c s w hb hs hg
  · obtain ⟨xs, hxs⟩ := hx (by omega)
    obtain ⟨b, hby⟩ := By.of hxs
    have h := te_small k n keep A len c b s.data.toList w hby (by omega) (by have : s.data.size = s.size := rfl; rw [Array.length_toList]; omega) hn.1 hn.2 hk.1 hk.2 hg
    rw [Sp.bs_data] at h
    exact h
end Tr
end Go.Proofs.YtpchfmeaplhodaaDoor
