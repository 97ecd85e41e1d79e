/-
  A part of the proof of this seat's laws: SegmentMakes.
-/
import Derived.Test.YtcldnibedimepaaSg18
namespace Go.Proofs.Ytcldnibedimepaa
set_option linter.unusedVariables false
set_option linter.unusedSimpArgs false
open Go.RowKit Go.Shelf
namespace Sg
open Ap
set_option maxHeartbeats 8000000
theorem stepE {w a b : World} (h : Below w.heap.size w a) (hb : Below a.heap.size a b) : Below w.heap.size w b := h.trans (hb.mono h.size)
section
variable (x0 x1 x2 : UInt8) (B : Option Addr) (m d : Nat) (xs : List (List UInt8)) (w : World)
abbrev arr3 : Value := .agg #[.int .u8 (x0.toNat : Int), .int .u8 (x1.toNat : Int), .int .u8 (x2.toNat : Int)]
abbrev arrB : Obj := .cells #[.int .u8 (x0.toNat : Int), .int .u8 (x1.toNat : Int), .int .u8 (x2.toNat : Int)] 50
theorem makes_many (hx : Tx w B m d xs) (ht : Sp.tot xs ≤ 4194304) (h2 : 1000 < Sp.tot xs) :
    Calls Try.prog 9 #[arr3 x0 x1 x2, .slice B m d] w fun e w' => e = .returned (.bool true) ∧ Below w.heap.size w w' := by
  have hu3 := Try.underlying50
  have hal := (Below.refl w.heap.size w).alloc (Nat.le_refl _) (arrB x0 x1 x2)
  have h3 : (1000 : Int) < (Sp.tot xs : Int) := by omega
  have Hb := Lib.hid (bytes_calls B m d xs _ (hx.below hal) ht)
  clear hx
  go_enter Try.func9, Try.ntmps9
  go_wp2_with fail
  refine Hb.out.mono ?_
  rintro e w' ⟨rfl, rfl⟩
  go_wp2_with fail
  refine (alive_calls _).mono ?_
  rintro e w1 ⟨rfl, b1⟩
  go_wp2_with fail
  go_ret
  exact ⟨rfl, stepE hal b1⟩
/-- the two names and their fields, in memory -/
structure MS (g0 : World) (g3 : Nat) (nm : ByteArray) (A : Option Addr) (n c : Nat) (l : List (List UInt8)) (A' : Option Addr) (n' c' : Nat) (W : World) : Prop where
  bel : Below g0.heap.size g0 W
  cells : W.cell? ⟨g3, 0, none⟩ = some (.string nm) ∧ W.cell? ⟨g3, 1, none⟩ = some (.slice A n c) ∧ W.cell? ⟨g3, 2, none⟩ = some (.string ⟨#[77, 83, 72]⟩) ∧ W.cell? ⟨g3, 3, none⟩ = some (.slice A' n' c')
  txc : Tx W A n c l
  txh : Tx W A' n' c' (Sp.two ++ l)
theorem MS.step {g0 : World} {g3 : Nat} {nm : ByteArray} {A : Option Addr} {n c : Nat} {l : List (List UInt8)} {A' : Option Addr} {n' c' : Nat} {W W' : World} (h : MS g0 g3 nm A n c l A' n' c' W) (hb : Below W.heap.size W W') : MS g0 g3 nm A n c l A' n' c' W' := by
  have hlt : g3 < W.heap.size := World.block_lt_of_cell? _ _ h.cells.1
  exact ⟨stepE h.bel hb, ⟨(hb.cell (p := ⟨g3, 0, none⟩) hlt).trans h.cells.1, (hb.cell (p := ⟨g3, 1, none⟩) hlt).trans h.cells.2.1, (hb.cell (p := ⟨g3, 2, none⟩) hlt).trans h.cells.2.2.1, (hb.cell (p := ⟨g3, 3, none⟩) hlt).trans h.cells.2.2.2⟩, h.txc.below hb, h.txh.below hb⟩
structure MS2 (g0 : World) (g3 : Nat) (nm : ByteArray) (A : Option Addr) (n c : Nat) (l : List (List UInt8)) (A' : Option Addr) (n' c' : Nat) (g4 : Nat) (v : ByteArray) (B : Option Addr) (m d : Nat) (W : World) : Prop where
  ms : MS g0 g3 nm A n c l A' n' c' W
  cells : W.cell? ⟨g4, 0, none⟩ = some (.string v) ∧ W.cell? ⟨g4, 1, none⟩ = some (.slice B m d)
theorem MS2.step {g0 : World} {g3 : Nat} {nm : ByteArray} {A : Option Addr} {n c : Nat} {l : List (List UInt8)} {A' : Option Addr} {n' c' : Nat} {g4 : Nat} {v : ByteArray} {B : Option Addr} {m d : Nat} {W W' : World} (h : MS2 g0 g3 nm A n c l A' n' c' g4 v B m d W) (hb : Below W.heap.size W W') : MS2 g0 g3 nm A n c l A' n' c' g4 v B m d W' := by
  have hlt : g4 < W.heap.size := World.block_lt_of_cell? _ _ h.cells.1
  exact ⟨h.ms.step hb, (hb.cell (p := ⟨g4, 0, none⟩) hlt).trans h.cells.1, (hb.cell (p := ⟨g4, 1, none⟩) hlt).trans h.cells.2⟩
theorem let_wrap (c : UInt8) : IntKind.u8.wrap (65 + (c.toNat : Int) % 26) = ((Sp.let_ c).toNat : Int) := by
  have h := Sp.let_nat c
  have := Nat.mod_lt c.toNat (show 0 < 26 by decide)
  rw [h, IntWalk.u8_in _ (by omega)]
  omega
set_option maxRecDepth 100000 in
theorem makes_in (hx : Tx w B m d xs) (ht : Sp.tot xs ≤ 1000) :
    Calls Try.prog 9 #[arr3 x0 x1 x2, .slice B m d] w fun e w' => e = .returned (.bool true) ∧ Below w.heap.size w w' := by
  have hu3 := Try.underlying50
  have hal := (Below.refl w.heap.size w).alloc (Nat.le_refl _) (arrB x0 x1 x2)
  have h3 : ¬ (1000 : Int) < (Sp.tot xs : Int) := by omega
  have hxl := hx.len
  have hxt := Sp.tot_len xs
  obtain ⟨i0, hi, hz0, hz1, hz2⟩ := info_parts infoS
  have Hb := Lib.hid (bytes_calls B m d xs _ (hx.below hal) (by omega))
  have Hx := Lib.hid (hx.below hal)
  have hsign := run_sign
  have l0 := let_wrap x0
  have l1 := let_wrap x1
  have l2 := let_wrap x2
  clear hx
  go_enter Try.func9, Try.ntmps9
  go_wp2_with fail
  refine Hb.out.mono ?_
  rintro e w' ⟨rfl, rfl⟩
  clear Hb
  go_wp2_with fail
  generalize (w.alloc (arrB x0 x1 x2)) = W at *
  have n0 : ∀ w : World, (Instr.index 50 (.agg #[.int .u8 (x0.toNat : Int), .int .u8 (x1.toNat : Int), .int .u8 (x2.toNat : Int)]) (.int .i64 0)).run Try.prog w = .ok (.int .u8 (x0.toNat : Int)) w := fun _ => by kernel_rfl
  have n1 : ∀ w : World, (Instr.index 50 (.agg #[.int .u8 (x0.toNat : Int), .int .u8 (x1.toNat : Int), .int .u8 (x2.toNat : Int)]) (.int .i64 1)).run Try.prog w = .ok (.int .u8 (x1.toNat : Int)) w := fun _ => by kernel_rfl
  have n2 : ∀ w : World, (Instr.index 50 (.agg #[.int .u8 (x0.toNat : Int), .int .u8 (x1.toNat : Int), .int .u8 (x2.toNat : Int)]) (.int .i64 2)).run Try.prog w = .ok (.int .u8 (x2.toNat : Int)) w := fun _ => by kernel_rfl
  go_loopw [5, 26] (fun t i wr => ((i = .int .i64 0 ∧ t = .string ⟨#[]⟩) ∨ (i = .int .i64 1 ∧ t = .string (Sp.bs [Sp.let_ x0])) ∨ (i = .int .i64 2 ∧ t = .string (Sp.bs [Sp.let_ x0, Sp.let_ x1])) ∨ (i = .int .i64 3 ∧ t = .string (Sp.bs [Sp.let_ x0, Sp.let_ x1, Sp.let_ x2]))) ∧ Below W.heap.size W wr) (fun _ i _ => (3 - intOf i).toNat)
  case atStart => exact ⟨.inl ⟨rfl, rfl⟩, Below.refl _ _⟩
  case round =>
    obtain ⟨hcase, hbk⟩ := hrel
    have q0 : (⟨#[]⟩ : ByteArray) ++ (⟨#[Sp.let_ x0]⟩ : ByteArray) = Sp.bs [Sp.let_ x0] := Sp.bs_append [] [Sp.let_ x0]
    have q1 : Sp.bs [Sp.let_ x0] ++ (⟨#[Sp.let_ x1]⟩ : ByteArray) = Sp.bs [Sp.let_ x0, Sp.let_ x1] := Sp.bs_append [Sp.let_ x0] [Sp.let_ x1]
    have q2 : Sp.bs [Sp.let_ x0, Sp.let_ x1] ++ (⟨#[Sp.let_ x2]⟩ : ByteArray) = Sp.bs [Sp.let_ x0, Sp.let_ x1, Sp.let_ x2] := Sp.bs_append [Sp.let_ x0, Sp.let_ x1] [Sp.let_ x2]
    have z1 : (Sp.bs [Sp.let_ x0]).size = 1 := Sp.bs_size [Sp.let_ x0]
    have z2 : (Sp.bs [Sp.let_ x0, Sp.let_ x1]).size = 2 := Sp.bs_size [Sp.let_ x0, Sp.let_ x1]
    have hb2 := hbk.alloc hbk.size (.cells #[.int .u8 ((Sp.let_ x0).toNat : Int)] 5)
    have hb3 := hbk.alloc hbk.size (.cells #[.int .u8 ((Sp.let_ x1).toNat : Int)] 5)
    have hb4 := hbk.alloc hbk.size (.cells #[.int .u8 ((Sp.let_ x2).toNat : Int)] 5)
    rcases hcase with ⟨rfl, rfl⟩ | ⟨rfl, rfl⟩ | ⟨rfl, rfl⟩ | ⟨rfl, rfl⟩
    · go_wp2
      go_roundw
      case rel => exact ⟨.inr (.inl ⟨rfl, rfl⟩), hb2⟩
      case measure => simp [intOf]
    · go_wp2
      go_roundw
      case rel => exact ⟨.inr (.inr (.inl ⟨rfl, rfl⟩)), hb3⟩
      case measure => simp [intOf]
    · go_wp2
      go_roundw
      case rel => exact ⟨.inr (.inr (.inr ⟨rfl, rfl⟩)), hb4⟩
      case measure => simp [intOf]
    · clear q0 q1 q2 z1 z2 hb2 hb3 hb4 n0 n1 n2 l0 l1 l2
      have hBk := stepE hal hbk
      have Hx2 := Lib.hid (Hx.out.below hbk)
      clear Hx hal hbk
      generalize wr = W0 at *
      go_wp2_with fail
      go_loopw [8, 11, 39] (fun l _ i wr => ∃ (k n C : Nat) (A' : Option Addr), k ≤ m ∧ i = .int .i64 k ∧ l = .slice A' n C ∧ n ≤ k ∧ Hid (Mine wr W0.heap.size A' n C (Sp.vals (Sp.clean 124 (xs.take k)))) ∧ Hid (Below W0.heap.size W0 wr)) (fun _ _ i _ => m - (intOf i).toNat)
      case atStart => exact ⟨0, 0, 0, none, by omega, rfl, rfl, by omega, Mine.nil _ _, Below.refl _ _⟩
      case round =>
        obtain ⟨k, n, C, A', hk, rfl, rfl, hnk, hm, hbl⟩ := hrel
        by_cases hlt : k < m
        · obtain ⟨x, hxk⟩ : ∃ x, xs[k]? = some x := ⟨_, List.getElem?_eq_getElem (by omega)⟩
          obtain ⟨b, o, rfl, hbl2, hc⟩ := Hx2.out.cells.resolve_left (by omega)
          have hcx := (hbl.out.cell (p := ⟨b, o + k, none⟩) hbl2).trans (hc k x hxk)
          have hxs : x.length ≤ 2000 := by
            have := Sp.tot_take xs k x hxk
            have := Sp.tot_take_le xs (k + 1)
            omega
          have Hct := Lib.hid (Sp.clean_take 124 xs k x hxk)
          have c0 : (0 : Int) ≤ (k : Int) := by omega
          have c1 : (k : Int) < (m : Int) := by omega
          have hw1 : IntKind.i64.wrap ((k : Int) + 1) = (k : Int) + 1 := IntWalk.i64_in _ (by omega)
          have hzx := Sp.bs_size x
          clear hxk hc
          go_wp2_with fail
          go_loop [11, 45] (fun h i => ∃ j : Nat, j ≤ x.length ∧ i = .int .i64 j ∧ h = .bool ((x.take j).contains 124)) (fun _ i => x.length - (intOf i).toNat)
          case atStart => exact ⟨0, by omega, rfl, rfl⟩
          case round =>
            obtain ⟨j, hj, rfl, rfl⟩ := hrel
            by_cases hjl : j < x.length
            · obtain ⟨y, hyj⟩ : ∃ y, x[j]? = some y := ⟨_, List.getElem?_eq_getElem hjl⟩
              have hyk := bs_at hyj
              have d0 : (0 : Int) ≤ (j : Int) := by omega
              have d1 : (j : Int) < (x.length : Int) := by omega
              have hwj : IntKind.i64.wrap ((j : Int) + 1) = (j : Int) + 1 := IntWalk.i64_in _ (by omega)
              have hct : (x.take (j + 1)).contains 124 = ((x.take j).contains 124 || y == 124) := by
                rw [List.take_add_one, hyj]; exact Sp.contains_snoc _ _ _
              cases hb13 : (x.take j).contains 124 with
              | true =>
                rw [hb13, Bool.true_or] at hct
                have Hc := Lib.hid hct
                clear hct hb13 hyj
                go_wp2_with fail
                go_round
                case rel => exact ⟨j + 1, by omega, by go_num, by rw [Hc.out]⟩
                case measure => simp [intOf]; omega
              | false =>
                rw [hb13, Bool.false_or] at hct
                by_cases hy : y = 124
                · subst hy
                  have Hc := Lib.hid hct
                  clear hct hb13 hyj
                  go_wp2_with fail
                  go_round
                  case rel => exact ⟨j + 1, by omega, by go_num, by rw [Hc.out]; rfl⟩
                  case measure => simp [intOf]; omega
                · have hq : ((y.toNat : Int) == 124) = false := by
                    rw [beq_eq_false_iff_ne]
                    intro e
                    exact hy (UInt8.toNat_inj.1 (by show y.toNat = 124; omega))
                  have hyq : (y == 124) = false := by rw [beq_eq_false_iff_ne]; exact hy
                  rw [hyq] at hct
                  have Hc := Lib.hid hct
                  clear hct hb13 hyj hy hyq
                  go_wp2_with fail
                  go_round
                  case rel => exact ⟨j + 1, by omega, by go_num, by rw [Hc.out]⟩
                  case measure => simp [intOf]; omega
            · obtain rfl : j = x.length := by omega
              have d1 : ¬ (x.length : Int) < (x.length : Int) := by omega
              rw [List.take_length]
              cases hb13 : x.contains 124 with
              | true =>
                have hct := Hct.out
                rw [hb13, if_pos rfl, List.append_nil] at hct
                have Hc := Lib.hid hct
                clear hct Hct hb13
                go_wp2_with fail
                go_roundw
                case rel => exact ⟨k + 1, n, C, A', by omega, by go_num, rfl, by omega, by rw [Hc.out]; exact hm, hbl⟩
                case measure => simp [intOf]; omega
              | false =>
                have hct := Hct.out
                rw [hb13, if_neg (by simp)] at hct
                have Hc := Lib.hid hct
                clear hct Hct hb13
                go_wp2_with (at_builtin; refine Ap.wpList_append_mine _ rfl (.tmp 58) (.tmp 60) 31 rfl 9 i0 (.string ⟨#[]⟩) 16 Try.underlying31 hi hz0 hz1 hz2 rfl W0.heap.size _ _ _ (Sp.vals (Sp.clean 124 (xs.take k))) rfl ?hm _ _ _ [.string (Sp.bs x)] rfl ?hn ?hX ?h1c ?b1 ?b2 ?hbase ?_; (case hm => exact (hm.out.below ((Below.refl _ _).alloc (Nat.le_refl _) _))); (case hn => rfl); (case hX => exact .inr ⟨_, rfl, one_cell _ _ _ _ rfl⟩); (case h1c => (simp [Value.oneCell'])); (case b1 => (simp only [maxLen]; omega)); (case b2 => omega); (case hbase => (have := hbl.out.size; simp; omega)); intro A1 c1 W1 hm1 hb1)
                go_roundw
                case rel => exact ⟨k + 1, n + 1, c1, A1, by omega, by go_num, rfl, by omega, by rw [Hc.out, Sp.vals, List.map_append]; exact hm1, hbl.out.trans (((Below.refl _ _).alloc hbl.out.size _).trans hb1)⟩
                case measure => simp [intOf]; omega
        · obtain rfl : k = m := by omega
          have c1 : ¬ (k : Int) < (k : Int) := by omega
          have e : xs.take k = xs := List.take_of_length_le (by omega)
          rw [e] at hm
          have hfree := Sp.clean_free (c := 124) (l := xs)
          have htc := Sp.tot_clean 124 xs
          generalize Sp.clean 124 xs = cl at *
          have hcl : cl.length = n := by have := hm.out.len; simpa using this
          subst hcl
          have hname := Sp.name3_ok x0 x1 x2
          have Tn := Lib.hid (Sp.tells_name hname.1 hname.2.1 hname.2.2 hfree)
          have Th := Lib.hid (Sp.tells_head hfree)
          have hB0 := stepE hBk hbl.out
          clear hname hfree e Hx2 hBk
          have hus := Try.underlying51
          have hul := Try.underlying52
          have htwo : Sp.tot Sp.two = 7 := rfl
          obtain ⟨nm, hnm⟩ : ∃ nm, nm = Sp.name3 x0 x1 x2 := ⟨_, rfl⟩
          have hnl : nm.length = 3 := by rw [hnm]; exact (Sp.name3_ok x0 x1 x2).1
          rw [← hnm] at Tn
          by_cases hN : [Sp.let_ x0, Sp.let_ x1, Sp.let_ x2] = Sp.msh
          · have e1 : (⟨#[77, 83, 65]⟩ : ByteArray) = Sp.bs nm := by rw [hnm]; unfold Sp.name3; rw [if_pos hN]; rfl
            have H1 := nm_yes hN
            have E1 := Lib.hid e1
            clear hN hnm e1
            go_wp2_with (at_builtin; refine Ap.wpList_append_mine _ rfl (.tmp 65) (.tmp 66) 31 rfl 9 i0 (.string ⟨#[]⟩) 16 Try.underlying31 hi hz0 hz1 hz2 rfl wr.heap.size _ _ _ [.string ⟨#[124]⟩, .string ⟨#[94, 126, 92, 38]⟩] rfl ?hm _ _ _ (Sp.vals cl) rfl ?hn ?hX ?h1c ?b1 ?b2 ?hbase ?_; (case hm => exact mine_lit _ _ #[.string ⟨#[124]⟩, .string ⟨#[94, 126, 92, 38]⟩] 9 (Nat.le_refl _) (by decide)); (case hn => simp); (case hX => exact ((Tx.of hm.out).below ((Below.refl _ _).alloc (Nat.le_refl _) _)).news); (case h1c => exact vals_one _); (case b1 => (simp only [maxLen]; omega)); (case b2 => omega); (case hbase => simp); intro A1 cc1 W1 hm1 hb1)
            generalize hnn : 2 + cl.length = nn at *
            have hbW := ((Below.refl wr.heap.size wr).alloc (Nat.le_refl _) (.cells #[.string ⟨#[124]⟩, .string ⟨#[94, 126, 92, 38]⟩] 9)).trans hb1
            have tc := (Tx.of hm.out).below hbW
            have hm1' : Mine W1 wr.heap.size A1 nn cc1 (Sp.vals (Sp.two ++ cl)) := hm1
            have th := Tx.of hm1'
            have hB1 := stepE hB0 hbW
            clear hm hm1 hm1' hb1 hbW
            rw [E1.out]
            go_wp2_with fail
            have hms : MS w W1.heap.size (Sp.bs nm) A' cl.length C cl A1 nn cc1 (W1.alloc (.cells #[.string (Sp.bs nm), .slice A' cl.length C, .string ⟨#[77, 83, 72]⟩, .slice A1 nn cc1] 51)) :=
              ⟨hB1.alloc hB1.size _, by refine ⟨?_, ?_, ?_, ?_⟩ <;> exact World.cell?_alloc_mark W1 _ _ (0, 0) _, tc.below ((Below.refl _ _).alloc (Nat.le_refl _) _), th.below ((Below.refl _ _).alloc (Nat.le_refl _) _)⟩
            clear tc th hB1 E1 H1
            generalize W1.alloc (.cells #[.string (Sp.bs nm), .slice A' cl.length C, .string ⟨#[77, 83, 72]⟩, .slice A1 nn cc1] 51) = W2 at *
            generalize W1.heap.size = g3 at *
            go_loopw [75] (fun i wr => (i = .int .i64 0 ∨ i = .int .i64 1 ∨ i = .int .i64 2) ∧ MS w g3 (Sp.bs nm) A' cl.length C cl A1 nn cc1 wr) (fun i _ => (2 - intOf i).toNat)
            case atStart => exact ⟨.inl rfl, hms⟩
            case round =>
              clear hms
              obtain ⟨hi3, hms⟩ := hrel
              have hc3 := hms.cells
              rcases hi3 with rfl | rfl | rfl
              · go_wp2_with fail
                have h4 : MS2 w g3 (Sp.bs nm) A' cl.length C cl A1 nn cc1 wr.heap.size (Sp.bs nm) A' cl.length C (wr.alloc (.cells #[.string (Sp.bs nm), .slice A' cl.length C] 51)) :=
                  ⟨hms.step ((Below.refl _ _).alloc (Nat.le_refl _) _), by refine ⟨?_, ?_⟩ <;> exact World.cell?_alloc_mark wr _ _ (0, 0) _⟩
                clear hms hc3
                generalize wr.alloc (.cells #[.string (Sp.bs nm), .slice A' cl.length C] 51) = W4 at *
                generalize wr.heap.size = g4 at *
                have Hmk : Hid (∀ x : Qr.In (MS2 w g3 (Sp.bs nm) A' cl.length C cl A1 nn cc1 g4 (Sp.bs nm) A' cl.length C), Calls Try.prog 29 #[pl, .string (Sp.bs nm), .slice A' cl.length C] x.w fun e w' => e = .returned (.string (Sp.bs (Sp.make 124 nm cl))) ∧ Below x.w.heap.size x.w w') :=
                  Lib.hid (fun x => make_calls 124 94 126 92 38 nm A' cl.length C cl x.w x.h.ms.txc (by first | omega | (rw [Sp.tot_append, htwo]; omega)) (by first | omega | decide))
                have hMl := Sp.make_len 124 nm cl
                have hMs : (Sp.make 124 nm cl).length ≤ 100000 := by first | omega | (rw [Sp.tot_append, htwo, show Sp.msh.length = 3 from rfl] at hMl; omega)
                have hT3 := Tn.out.1
                have hTf := Tn.out.2
                generalize Sp.make 124 nm cl = M at *
                have Hnm : Hid (∀ w, Calls Try.prog 13 #[.string (Sp.bs M)] w fun e w' => e = .returned (.string (Sp.bs nm)) ∧ w' = w) := Lib.hid (fun w => by
                  have h := name_calls M (by omega) w
                  rw [hT3] at h
                  exact h)
                have Hct : Hid (∀ w, Calls Try.prog 11 #[.string (Sp.bs M), pl] w fun e w' => e = .returned (.int .i64 ((cl.length : Nat) : Int)) ∧ Below w.heap.size w w') := Lib.hid (fun w => by
                  have h := count_calls M 124 94 126 92 38 (by omega) w
                  rw [hTf] at h
                  have e : (cl).length = cl.length := by first | rfl | (simp; omega)
                  rw [e] at h
                  exact h)
                have Hfd : Hid (∀ (j : Nat) (x : List UInt8), (cl)[j]? = some x → ∀ w, Calls Try.prog 14 #[.string (Sp.bs M), .int .i64 ((j : Int) + 1), pl] w fun e w' => e = .returned (.tuple #[.string (Sp.bs x), .bool true]) ∧ Below w.heap.size w w') := Lib.hid (fun j x hj w => by
                  have hjl := (List.getElem?_eq_some_iff.1 hj).1
                  have hll : (cl).length ≤ 2000 := by first | omega | (simp; omega)
                  have h := Field_calls M ((j : Int) + 1) (by omega) 124 94 126 92 38 (by omega) w
                  rw [hTf, decide_eq_true ⟨by omega, by omega⟩] at h
                  have e := Sp.pick_at hjl
                  rw [hj] at e
                  rw [← Option.some.inj e] at h
                  exact h)
                clear hMl hMs hT3 hTf
                have hl0 : ∀ x : Qr.In (MS2 w g3 (Sp.bs nm) A' cl.length C cl A1 nn cc1 g4 (Sp.bs nm) A' cl.length C), x.w.cell? ⟨g4, 0, none⟩ = some (.string (Sp.bs nm)) ∧ x.w.cell? ⟨g4, 1, none⟩ = some (.slice A' cl.length C) := fun x => x.h.cells
                have hne : Nonempty (Qr.In (MS2 w g3 (Sp.bs nm) A' cl.length C cl A1 nn cc1 g4 (Sp.bs nm) A' cl.length C)) := ⟨⟨_, h4⟩⟩
                refine Qr.region_in (S := MS2 w g3 (Sp.bs nm) A' cl.length C cl A1 nn cc1 g4 (Sp.bs nm) A' cl.length C) (by kernel_rfl) (by kernel_rfl) (h4.step (Below.refl _ _).drew) ?_
                repeat (go_big_quiet_step (first | (go_at_call 10; exact Qr.call (plain_calls _) (fun _ _ => MS2.step)) | (go_at_call 29; exact Qr.call (Hmk.out _) (fun _ _ => MS2.step))))
                refine wpQuiet_nil ?_
                rintro _ ⟨⟨W5, h5⟩, rfl⟩
                clear h4
                have hq1 : ((Sp.bs nm).toList == (Sp.bs nm).toList) = true := beq_self_eq_true _
                have hq2 : ((Sp.bs nm).toList != (Sp.bs nm).toList) = false := by rw [bne, hq1]; rfl
                have hq3 : (((cl.length : Nat) : Int) == ((cl.length : Nat) : Int)) = true := beq_self_eq_true _
                have hq4 : (((cl.length : Nat) : Int) != ((cl.length : Nat) : Int)) = false := by rw [bne, hq3]; rfl
                go_wp2_with fail
                refine Qr.region_in (S := MS2 w g3 (Sp.bs nm) A' cl.length C cl A1 nn cc1 g4 (Sp.bs nm) A' cl.length C) (by kernel_rfl) (by kernel_rfl) (h5.step (Below.refl _ _).drew) ?_
                repeat (go_big_quiet_step (first | (go_at_call 10; exact Qr.call (plain_calls _) (fun _ _ => MS2.step)) | (go_at_call 13; exact Qr.call_same (Hnm.out _)) | (go_at_call 11; exact Qr.call (Hct.out _) (fun _ _ => MS2.step))))
                refine wpQuiet_nil ?_
                rintro _ ⟨⟨W6, h6⟩, rfl⟩
                clear h5 hl0 hne Hmk Hnm Hct hq1 hq2 hq3 hq4
                have hc6 := h6.cells
                go_wp2_with fail
                go_loopw [102] (fun i wr => (∃ j : Nat, j ≤ cl.length ∧ i = .int .i64 j) ∧ MS2 w g3 (Sp.bs nm) A' cl.length C cl A1 nn cc1 g4 (Sp.bs nm) A' cl.length C wr) (fun i _ => cl.length - (intOf i).toNat)
                case atStart => exact ⟨⟨0, by omega, rfl⟩, h6⟩
                case round =>
                  clear h6 hc6
                  obtain ⟨⟨j, hj, rfl⟩, h7⟩ := hrel
                  have hj2000 : j ≤ 3000 := by omega
                  by_cases hjn : j < cl.length
                  · have hll : (cl).length = cl.length := h7.ms.txc.len
                    obtain ⟨x, hx⟩ : ∃ x, (cl)[j]? = some x := ⟨_, List.getElem?_eq_getElem (by omega)⟩
                    obtain ⟨b, o, rfl, hb7, hcc7⟩ := h7.ms.txc.cells.resolve_left (by omega)
                    have hcx := hcc7 j x hx
                    have Hf := Lib.hid (Hfd.out j x hx)
                    have d0 : (0 : Int) ≤ (j : Int) := by omega
                    have d1 : (j : Int) < ((cl.length : Nat) : Int) := by omega
                    have hwj : IntKind.i64.wrap ((j : Int) + 1) = (j : Int) + 1 := IntWalk.i64_in _ (by omega)
                    clear hx hll hcc7
                    go_wp2_with fail
                    refine (plain_calls _).mono ?_
                    rintro e w7 ⟨rfl, b7⟩
                    have h8 := h7.step b7
                    clear h7 b7 hcx
                    go_wp2_with fail
                    refine (Hf.out _).mono ?_
                    rintro e w8 ⟨rfl, b8⟩
                    have h9 := h8.step b8
                    clear h8 b8
                    go_wp2_with fail
                    go_roundw
                    case rel => exact ⟨⟨j + 1, by omega, by go_num⟩, h9⟩
                    case measure => simp [intOf]; omega
                  · have hjj : (j : Int) = ((cl.length : Nat) : Int) := by omega
                    have d1 : ¬ (j : Int) < ((cl.length : Nat) : Int) := by omega
                    clear hjj
                    go_wp2_with fail
                    go_roundw
                    case rel => exact ⟨.inr (.inl rfl), h7.ms⟩
                    case measure => simp [intOf]

              · go_wp2_with fail
                have h4 : MS2 w g3 (Sp.bs nm) A' cl.length C cl A1 nn cc1 wr.heap.size (⟨#[77, 83, 72]⟩ : ByteArray) A1 nn cc1 (wr.alloc (.cells #[.string (⟨#[77, 83, 72]⟩ : ByteArray), .slice A1 nn cc1] 51)) :=
                  ⟨hms.step ((Below.refl _ _).alloc (Nat.le_refl _) _), by refine ⟨?_, ?_⟩ <;> exact World.cell?_alloc_mark wr _ _ (0, 0) _⟩
                clear hms hc3
                generalize wr.alloc (.cells #[.string (⟨#[77, 83, 72]⟩ : ByteArray), .slice A1 nn cc1] 51) = W4 at *
                generalize wr.heap.size = g4 at *
                have Hmk : Hid (∀ x : Qr.In (MS2 w g3 (Sp.bs nm) A' cl.length C cl A1 nn cc1 g4 (⟨#[77, 83, 72]⟩ : ByteArray) A1 nn cc1), Calls Try.prog 29 #[pl, .string (⟨#[77, 83, 72]⟩ : ByteArray), .slice A1 nn cc1] x.w fun e w' => e = .returned (.string (Sp.bs (Sp.make 124 Sp.msh (Sp.two ++ cl)))) ∧ Below x.w.heap.size x.w w') :=
                  Lib.hid (fun x => make_calls 124 94 126 92 38 Sp.msh A1 nn cc1 (Sp.two ++ cl) x.w x.h.ms.txh (by first | omega | (rw [Sp.tot_append, htwo]; omega)) (by first | omega | decide))
                have hMl := Sp.make_len 124 Sp.msh (Sp.two ++ cl)
                have hMs : (Sp.make 124 Sp.msh (Sp.two ++ cl)).length ≤ 100000 := by first | omega | (rw [Sp.tot_append, htwo, show Sp.msh.length = 3 from rfl] at hMl; omega)
                have hT3 := Th.out.1
                have hTf := Th.out.2
                generalize Sp.make 124 Sp.msh (Sp.two ++ cl) = M at *
                have Hnm : Hid (∀ w, Calls Try.prog 13 #[.string (Sp.bs M)] w fun e w' => e = .returned (.string (⟨#[77, 83, 72]⟩ : ByteArray)) ∧ w' = w) := Lib.hid (fun w => by
                  have h := name_calls M (by omega) w
                  rw [hT3] at h
                  exact h)
                have Hct : Hid (∀ w, Calls Try.prog 11 #[.string (Sp.bs M), pl] w fun e w' => e = .returned (.int .i64 ((nn : Nat) : Int)) ∧ Below w.heap.size w w') := Lib.hid (fun w => by
                  have h := count_calls M 124 94 126 92 38 (by omega) w
                  rw [hTf] at h
                  have e : ((Sp.two ++ cl)).length = nn := by first | rfl | (simp; omega)
                  rw [e] at h
                  exact h)
                have Hfd : Hid (∀ (j : Nat) (x : List UInt8), ((Sp.two ++ cl))[j]? = some x → ∀ w, Calls Try.prog 14 #[.string (Sp.bs M), .int .i64 ((j : Int) + 1), pl] w fun e w' => e = .returned (.tuple #[.string (Sp.bs x), .bool true]) ∧ Below w.heap.size w w') := Lib.hid (fun j x hj w => by
                  have hjl := (List.getElem?_eq_some_iff.1 hj).1
                  have hll : ((Sp.two ++ cl)).length ≤ 2000 := by first | omega | (simp; omega)
                  have h := Field_calls M ((j : Int) + 1) (by omega) 124 94 126 92 38 (by omega) w
                  rw [hTf, decide_eq_true ⟨by omega, by omega⟩] at h
                  have e := Sp.pick_at hjl
                  rw [hj] at e
                  rw [← Option.some.inj e] at h
                  exact h)
                clear hMl hMs hT3 hTf
                have hl0 : ∀ x : Qr.In (MS2 w g3 (Sp.bs nm) A' cl.length C cl A1 nn cc1 g4 (⟨#[77, 83, 72]⟩ : ByteArray) A1 nn cc1), x.w.cell? ⟨g4, 0, none⟩ = some (.string (⟨#[77, 83, 72]⟩ : ByteArray)) ∧ x.w.cell? ⟨g4, 1, none⟩ = some (.slice A1 nn cc1) := fun x => x.h.cells
                have hne : Nonempty (Qr.In (MS2 w g3 (Sp.bs nm) A' cl.length C cl A1 nn cc1 g4 (⟨#[77, 83, 72]⟩ : ByteArray) A1 nn cc1)) := ⟨⟨_, h4⟩⟩
                refine Qr.region_in (S := MS2 w g3 (Sp.bs nm) A' cl.length C cl A1 nn cc1 g4 (⟨#[77, 83, 72]⟩ : ByteArray) A1 nn cc1) (by kernel_rfl) (by kernel_rfl) (h4.step (Below.refl _ _).drew) ?_
                repeat (go_big_quiet_step (first | (go_at_call 10; exact Qr.call (plain_calls _) (fun _ _ => MS2.step)) | (go_at_call 29; exact Qr.call (Hmk.out _) (fun _ _ => MS2.step))))
                refine wpQuiet_nil ?_
                rintro _ ⟨⟨W5, h5⟩, rfl⟩
                clear h4
                have hq1 : ((⟨#[77, 83, 72]⟩ : ByteArray).toList == (⟨#[77, 83, 72]⟩ : ByteArray).toList) = true := beq_self_eq_true _
                have hq2 : ((⟨#[77, 83, 72]⟩ : ByteArray).toList != (⟨#[77, 83, 72]⟩ : ByteArray).toList) = false := by rw [bne, hq1]; rfl
                have hq3 : (((nn : Nat) : Int) == ((nn : Nat) : Int)) = true := beq_self_eq_true _
                have hq4 : (((nn : Nat) : Int) != ((nn : Nat) : Int)) = false := by rw [bne, hq3]; rfl
                go_wp2_with fail
                refine Qr.region_in (S := MS2 w g3 (Sp.bs nm) A' cl.length C cl A1 nn cc1 g4 (⟨#[77, 83, 72]⟩ : ByteArray) A1 nn cc1) (by kernel_rfl) (by kernel_rfl) (h5.step (Below.refl _ _).drew) ?_
                repeat (go_big_quiet_step (first | (go_at_call 10; exact Qr.call (plain_calls _) (fun _ _ => MS2.step)) | (go_at_call 13; exact Qr.call_same (Hnm.out _)) | (go_at_call 11; exact Qr.call (Hct.out _) (fun _ _ => MS2.step))))
                refine wpQuiet_nil ?_
                rintro _ ⟨⟨W6, h6⟩, rfl⟩
                clear h5 hl0 hne Hmk Hnm Hct hq1 hq2 hq3 hq4
                have hc6 := h6.cells
                go_wp2_with fail
                go_loopw [102] (fun i wr => (∃ j : Nat, j ≤ nn ∧ i = .int .i64 j) ∧ MS2 w g3 (Sp.bs nm) A' cl.length C cl A1 nn cc1 g4 (⟨#[77, 83, 72]⟩ : ByteArray) A1 nn cc1 wr) (fun i _ => nn - (intOf i).toNat)
                case atStart => exact ⟨⟨0, by omega, rfl⟩, h6⟩
                case round =>
                  clear h6 hc6
                  obtain ⟨⟨j, hj, rfl⟩, h7⟩ := hrel
                  have hj2000 : j ≤ 3000 := by omega
                  by_cases hjn : j < nn
                  · have hll : ((Sp.two ++ cl)).length = nn := h7.ms.txh.len
                    obtain ⟨x, hx⟩ : ∃ x, ((Sp.two ++ cl))[j]? = some x := ⟨_, List.getElem?_eq_getElem (by omega)⟩
                    obtain ⟨b, o, rfl, hb7, hcc7⟩ := h7.ms.txh.cells.resolve_left (by omega)
                    have hcx := hcc7 j x hx
                    have Hf := Lib.hid (Hfd.out j x hx)
                    have d0 : (0 : Int) ≤ (j : Int) := by omega
                    have d1 : (j : Int) < ((nn : Nat) : Int) := by omega
                    have hwj : IntKind.i64.wrap ((j : Int) + 1) = (j : Int) + 1 := IntWalk.i64_in _ (by omega)
                    clear hx hll hcc7
                    go_wp2_with fail
                    refine (plain_calls _).mono ?_
                    rintro e w7 ⟨rfl, b7⟩
                    have h8 := h7.step b7
                    clear h7 b7 hcx
                    go_wp2_with fail
                    refine (Hf.out _).mono ?_
                    rintro e w8 ⟨rfl, b8⟩
                    have h9 := h8.step b8
                    clear h8 b8
                    go_wp2_with fail
                    go_roundw
                    case rel => exact ⟨⟨j + 1, by omega, by go_num⟩, h9⟩
                    case measure => simp [intOf]; omega
                  · have hjj : (j : Int) = ((nn : Nat) : Int) := by omega
                    have d1 : ¬ (j : Int) < ((nn : Nat) : Int) := by omega
                    clear hjj
                    go_wp2_with fail
                    go_roundw
                    case rel => exact ⟨.inr (.inr rfl), h7.ms⟩
                    case measure => simp [intOf]

              · go_wp2_with fail
                refine (alive_calls _).mono ?_
                rintro e w9 ⟨rfl, b9⟩
                go_wp2_with fail
                go_ret
                exact ⟨rfl, stepE hms.bel b9⟩

          · have e1 : Sp.bs [Sp.let_ x0, Sp.let_ x1, Sp.let_ x2] = Sp.bs nm := by rw [hnm]; unfold Sp.name3; rw [if_neg hN]
            have H1 := nm_no hN
            have E1 := Lib.hid e1
            clear hN hnm e1
            go_wp2_with (at_builtin; refine Ap.wpList_append_mine _ rfl (.tmp 65) (.tmp 66) 31 rfl 9 i0 (.string ⟨#[]⟩) 16 Try.underlying31 hi hz0 hz1 hz2 rfl wr.heap.size _ _ _ [.string ⟨#[124]⟩, .string ⟨#[94, 126, 92, 38]⟩] rfl ?hm _ _ _ (Sp.vals cl) rfl ?hn ?hX ?h1c ?b1 ?b2 ?hbase ?_; (case hm => exact mine_lit _ _ #[.string ⟨#[124]⟩, .string ⟨#[94, 126, 92, 38]⟩] 9 (Nat.le_refl _) (by decide)); (case hn => simp); (case hX => exact ((Tx.of hm.out).below ((Below.refl _ _).alloc (Nat.le_refl _) _)).news); (case h1c => exact vals_one _); (case b1 => (simp only [maxLen]; omega)); (case b2 => omega); (case hbase => simp); intro A1 cc1 W1 hm1 hb1)
            generalize hnn : 2 + cl.length = nn at *
            have hbW := ((Below.refl wr.heap.size wr).alloc (Nat.le_refl _) (.cells #[.string ⟨#[124]⟩, .string ⟨#[94, 126, 92, 38]⟩] 9)).trans hb1
            have tc := (Tx.of hm.out).below hbW
            have hm1' : Mine W1 wr.heap.size A1 nn cc1 (Sp.vals (Sp.two ++ cl)) := hm1
            have th := Tx.of hm1'
            have hB1 := stepE hB0 hbW
            clear hm hm1 hm1' hb1 hbW
            rw [E1.out]
            go_wp2_with fail
            have hms : MS w W1.heap.size (Sp.bs nm) A' cl.length C cl A1 nn cc1 (W1.alloc (.cells #[.string (Sp.bs nm), .slice A' cl.length C, .string ⟨#[77, 83, 72]⟩, .slice A1 nn cc1] 51)) :=
              ⟨hB1.alloc hB1.size _, by refine ⟨?_, ?_, ?_, ?_⟩ <;> exact World.cell?_alloc_mark W1 _ _ (0, 0) _, tc.below ((Below.refl _ _).alloc (Nat.le_refl _) _), th.below ((Below.refl _ _).alloc (Nat.le_refl _) _)⟩
            clear tc th hB1 E1 H1
            generalize W1.alloc (.cells #[.string (Sp.bs nm), .slice A' cl.length C, .string ⟨#[77, 83, 72]⟩, .slice A1 nn cc1] 51) = W2 at *
            generalize W1.heap.size = g3 at *
            go_loopw [75] (fun i wr => (i = .int .i64 0 ∨ i = .int .i64 1 ∨ i = .int .i64 2) ∧ MS w g3 (Sp.bs nm) A' cl.length C cl A1 nn cc1 wr) (fun i _ => (2 - intOf i).toNat)
            case atStart => exact ⟨.inl rfl, hms⟩
            case round =>
              clear hms
              obtain ⟨hi3, hms⟩ := hrel
              have hc3 := hms.cells
              rcases hi3 with rfl | rfl | rfl
              · go_wp2_with fail
                have h4 : MS2 w g3 (Sp.bs nm) A' cl.length C cl A1 nn cc1 wr.heap.size (Sp.bs nm) A' cl.length C (wr.alloc (.cells #[.string (Sp.bs nm), .slice A' cl.length C] 51)) :=
                  ⟨hms.step ((Below.refl _ _).alloc (Nat.le_refl _) _), by refine ⟨?_, ?_⟩ <;> exact World.cell?_alloc_mark wr _ _ (0, 0) _⟩
                clear hms hc3
                generalize wr.alloc (.cells #[.string (Sp.bs nm), .slice A' cl.length C] 51) = W4 at *
                generalize wr.heap.size = g4 at *
                have Hmk : Hid (∀ x : Qr.In (MS2 w g3 (Sp.bs nm) A' cl.length C cl A1 nn cc1 g4 (Sp.bs nm) A' cl.length C), Calls Try.prog 29 #[pl, .string (Sp.bs nm), .slice A' cl.length C] x.w fun e w' => e = .returned (.string (Sp.bs (Sp.make 124 nm cl))) ∧ Below x.w.heap.size x.w w') :=
                  Lib.hid (fun x => make_calls 124 94 126 92 38 nm A' cl.length C cl x.w x.h.ms.txc (by first | omega | (rw [Sp.tot_append, htwo]; omega)) (by first | omega | decide))
                have hMl := Sp.make_len 124 nm cl
                have hMs : (Sp.make 124 nm cl).length ≤ 100000 := by first | omega | (rw [Sp.tot_append, htwo, show Sp.msh.length = 3 from rfl] at hMl; omega)
                have hT3 := Tn.out.1
                have hTf := Tn.out.2
                generalize Sp.make 124 nm cl = M at *
                have Hnm : Hid (∀ w, Calls Try.prog 13 #[.string (Sp.bs M)] w fun e w' => e = .returned (.string (Sp.bs nm)) ∧ w' = w) := Lib.hid (fun w => by
                  have h := name_calls M (by omega) w
                  rw [hT3] at h
                  exact h)
                have Hct : Hid (∀ w, Calls Try.prog 11 #[.string (Sp.bs M), pl] w fun e w' => e = .returned (.int .i64 ((cl.length : Nat) : Int)) ∧ Below w.heap.size w w') := Lib.hid (fun w => by
                  have h := count_calls M 124 94 126 92 38 (by omega) w
                  rw [hTf] at h
                  have e : (cl).length = cl.length := by first | rfl | (simp; omega)
                  rw [e] at h
                  exact h)
                have Hfd : Hid (∀ (j : Nat) (x : List UInt8), (cl)[j]? = some x → ∀ w, Calls Try.prog 14 #[.string (Sp.bs M), .int .i64 ((j : Int) + 1), pl] w fun e w' => e = .returned (.tuple #[.string (Sp.bs x), .bool true]) ∧ Below w.heap.size w w') := Lib.hid (fun j x hj w => by
                  have hjl := (List.getElem?_eq_some_iff.1 hj).1
                  have hll : (cl).length ≤ 2000 := by first | omega | (simp; omega)
                  have h := Field_calls M ((j : Int) + 1) (by omega) 124 94 126 92 38 (by omega) w
                  rw [hTf, decide_eq_true ⟨by omega, by omega⟩] at h
                  have e := Sp.pick_at hjl
                  rw [hj] at e
                  rw [← Option.some.inj e] at h
                  exact h)
                clear hMl hMs hT3 hTf
                have hl0 : ∀ x : Qr.In (MS2 w g3 (Sp.bs nm) A' cl.length C cl A1 nn cc1 g4 (Sp.bs nm) A' cl.length C), x.w.cell? ⟨g4, 0, none⟩ = some (.string (Sp.bs nm)) ∧ x.w.cell? ⟨g4, 1, none⟩ = some (.slice A' cl.length C) := fun x => x.h.cells
                have hne : Nonempty (Qr.In (MS2 w g3 (Sp.bs nm) A' cl.length C cl A1 nn cc1 g4 (Sp.bs nm) A' cl.length C)) := ⟨⟨_, h4⟩⟩
                refine Qr.region_in (S := MS2 w g3 (Sp.bs nm) A' cl.length C cl A1 nn cc1 g4 (Sp.bs nm) A' cl.length C) (by kernel_rfl) (by kernel_rfl) (h4.step (Below.refl _ _).drew) ?_
                repeat (go_big_quiet_step (first | (go_at_call 10; exact Qr.call (plain_calls _) (fun _ _ => MS2.step)) | (go_at_call 29; exact Qr.call (Hmk.out _) (fun _ _ => MS2.step))))
                refine wpQuiet_nil ?_
                rintro _ ⟨⟨W5, h5⟩, rfl⟩
                clear h4
                have hq1 : ((Sp.bs nm).toList == (Sp.bs nm).toList) = true := beq_self_eq_true _
                have hq2 : ((Sp.bs nm).toList != (Sp.bs nm).toList) = false := by rw [bne, hq1]; rfl
                have hq3 : (((cl.length : Nat) : Int) == ((cl.length : Nat) : Int)) = true := beq_self_eq_true _
                have hq4 : (((cl.length : Nat) : Int) != ((cl.length : Nat) : Int)) = false := by rw [bne, hq3]; rfl
                go_wp2_with fail
                refine Qr.region_in (S := MS2 w g3 (Sp.bs nm) A' cl.length C cl A1 nn cc1 g4 (Sp.bs nm) A' cl.length C) (by kernel_rfl) (by kernel_rfl) (h5.step (Below.refl _ _).drew) ?_
                repeat (go_big_quiet_step (first | (go_at_call 10; exact Qr.call (plain_calls _) (fun _ _ => MS2.step)) | (go_at_call 13; exact Qr.call_same (Hnm.out _)) | (go_at_call 11; exact Qr.call (Hct.out _) (fun _ _ => MS2.step))))
                refine wpQuiet_nil ?_
                rintro _ ⟨⟨W6, h6⟩, rfl⟩
                clear h5 hl0 hne Hmk Hnm Hct hq1 hq2 hq3 hq4
                have hc6 := h6.cells
                go_wp2_with fail
                go_loopw [102] (fun i wr => (∃ j : Nat, j ≤ cl.length ∧ i = .int .i64 j) ∧ MS2 w g3 (Sp.bs nm) A' cl.length C cl A1 nn cc1 g4 (Sp.bs nm) A' cl.length C wr) (fun i _ => cl.length - (intOf i).toNat)
                case atStart => exact ⟨⟨0, by omega, rfl⟩, h6⟩
                case round =>
                  clear h6 hc6
                  obtain ⟨⟨j, hj, rfl⟩, h7⟩ := hrel
                  have hj2000 : j ≤ 3000 := by omega
                  by_cases hjn : j < cl.length
                  · have hll : (cl).length = cl.length := h7.ms.txc.len
                    obtain ⟨x, hx⟩ : ∃ x, (cl)[j]? = some x := ⟨_, List.getElem?_eq_getElem (by omega)⟩
                    obtain ⟨b, o, rfl, hb7, hcc7⟩ := h7.ms.txc.cells.resolve_left (by omega)
                    have hcx := hcc7 j x hx
                    have Hf := Lib.hid (Hfd.out j x hx)
                    have d0 : (0 : Int) ≤ (j : Int) := by omega
                    have d1 : (j : Int) < ((cl.length : Nat) : Int) := by omega
                    have hwj : IntKind.i64.wrap ((j : Int) + 1) = (j : Int) + 1 := IntWalk.i64_in _ (by omega)
                    clear hx hll hcc7
                    go_wp2_with fail
                    refine (plain_calls _).mono ?_
                    rintro e w7 ⟨rfl, b7⟩
                    have h8 := h7.step b7
                    clear h7 b7 hcx
                    go_wp2_with fail
                    refine (Hf.out _).mono ?_
                    rintro e w8 ⟨rfl, b8⟩
                    have h9 := h8.step b8
                    clear h8 b8
                    go_wp2_with fail
                    go_roundw
                    case rel => exact ⟨⟨j + 1, by omega, by go_num⟩, h9⟩
                    case measure => simp [intOf]; omega
                  · have hjj : (j : Int) = ((cl.length : Nat) : Int) := by omega
                    have d1 : ¬ (j : Int) < ((cl.length : Nat) : Int) := by omega
                    clear hjj
                    go_wp2_with fail
                    go_roundw
                    case rel => exact ⟨.inr (.inl rfl), h7.ms⟩
                    case measure => simp [intOf]

              · go_wp2_with fail
                have h4 : MS2 w g3 (Sp.bs nm) A' cl.length C cl A1 nn cc1 wr.heap.size (⟨#[77, 83, 72]⟩ : ByteArray) A1 nn cc1 (wr.alloc (.cells #[.string (⟨#[77, 83, 72]⟩ : ByteArray), .slice A1 nn cc1] 51)) :=
                  ⟨hms.step ((Below.refl _ _).alloc (Nat.le_refl _) _), by refine ⟨?_, ?_⟩ <;> exact World.cell?_alloc_mark wr _ _ (0, 0) _⟩
                clear hms hc3
                generalize wr.alloc (.cells #[.string (⟨#[77, 83, 72]⟩ : ByteArray), .slice A1 nn cc1] 51) = W4 at *
                generalize wr.heap.size = g4 at *
                have Hmk : Hid (∀ x : Qr.In (MS2 w g3 (Sp.bs nm) A' cl.length C cl A1 nn cc1 g4 (⟨#[77, 83, 72]⟩ : ByteArray) A1 nn cc1), Calls Try.prog 29 #[pl, .string (⟨#[77, 83, 72]⟩ : ByteArray), .slice A1 nn cc1] x.w fun e w' => e = .returned (.string (Sp.bs (Sp.make 124 Sp.msh (Sp.two ++ cl)))) ∧ Below x.w.heap.size x.w w') :=
                  Lib.hid (fun x => make_calls 124 94 126 92 38 Sp.msh A1 nn cc1 (Sp.two ++ cl) x.w x.h.ms.txh (by first | omega | (rw [Sp.tot_append, htwo]; omega)) (by first | omega | decide))
                have hMl := Sp.make_len 124 Sp.msh (Sp.two ++ cl)
                have hMs : (Sp.make 124 Sp.msh (Sp.two ++ cl)).length ≤ 100000 := by first | omega | (rw [Sp.tot_append, htwo, show Sp.msh.length = 3 from rfl] at hMl; omega)
                have hT3 := Th.out.1
                have hTf := Th.out.2
                generalize Sp.make 124 Sp.msh (Sp.two ++ cl) = M at *
                have Hnm : Hid (∀ w, Calls Try.prog 13 #[.string (Sp.bs M)] w fun e w' => e = .returned (.string (⟨#[77, 83, 72]⟩ : ByteArray)) ∧ w' = w) := Lib.hid (fun w => by
                  have h := name_calls M (by omega) w
                  rw [hT3] at h
                  exact h)
                have Hct : Hid (∀ w, Calls Try.prog 11 #[.string (Sp.bs M), pl] w fun e w' => e = .returned (.int .i64 ((nn : Nat) : Int)) ∧ Below w.heap.size w w') := Lib.hid (fun w => by
                  have h := count_calls M 124 94 126 92 38 (by omega) w
                  rw [hTf] at h
                  have e : ((Sp.two ++ cl)).length = nn := by first | rfl | (simp; omega)
                  rw [e] at h
                  exact h)
                have Hfd : Hid (∀ (j : Nat) (x : List UInt8), ((Sp.two ++ cl))[j]? = some x → ∀ w, Calls Try.prog 14 #[.string (Sp.bs M), .int .i64 ((j : Int) + 1), pl] w fun e w' => e = .returned (.tuple #[.string (Sp.bs x), .bool true]) ∧ Below w.heap.size w w') := Lib.hid (fun j x hj w => by
                  have hjl := (List.getElem?_eq_some_iff.1 hj).1
                  have hll : ((Sp.two ++ cl)).length ≤ 2000 := by first | omega | (simp; omega)
                  have h := Field_calls M ((j : Int) + 1) (by omega) 124 94 126 92 38 (by omega) w
                  rw [hTf, decide_eq_true ⟨by omega, by omega⟩] at h
                  have e := Sp.pick_at hjl
                  rw [hj] at e
                  rw [← Option.some.inj e] at h
                  exact h)
                clear hMl hMs hT3 hTf
                have hl0 : ∀ x : Qr.In (MS2 w g3 (Sp.bs nm) A' cl.length C cl A1 nn cc1 g4 (⟨#[77, 83, 72]⟩ : ByteArray) A1 nn cc1), x.w.cell? ⟨g4, 0, none⟩ = some (.string (⟨#[77, 83, 72]⟩ : ByteArray)) ∧ x.w.cell? ⟨g4, 1, none⟩ = some (.slice A1 nn cc1) := fun x => x.h.cells
                have hne : Nonempty (Qr.In (MS2 w g3 (Sp.bs nm) A' cl.length C cl A1 nn cc1 g4 (⟨#[77, 83, 72]⟩ : ByteArray) A1 nn cc1)) := ⟨⟨_, h4⟩⟩
                refine Qr.region_in (S := MS2 w g3 (Sp.bs nm) A' cl.length C cl A1 nn cc1 g4 (⟨#[77, 83, 72]⟩ : ByteArray) A1 nn cc1) (by kernel_rfl) (by kernel_rfl) (h4.step (Below.refl _ _).drew) ?_
                repeat (go_big_quiet_step (first | (go_at_call 10; exact Qr.call (plain_calls _) (fun _ _ => MS2.step)) | (go_at_call 29; exact Qr.call (Hmk.out _) (fun _ _ => MS2.step))))
                refine wpQuiet_nil ?_
                rintro _ ⟨⟨W5, h5⟩, rfl⟩
                clear h4
                have hq1 : ((⟨#[77, 83, 72]⟩ : ByteArray).toList == (⟨#[77, 83, 72]⟩ : ByteArray).toList) = true := beq_self_eq_true _
                have hq2 : ((⟨#[77, 83, 72]⟩ : ByteArray).toList != (⟨#[77, 83, 72]⟩ : ByteArray).toList) = false := by rw [bne, hq1]; rfl
                have hq3 : (((nn : Nat) : Int) == ((nn : Nat) : Int)) = true := beq_self_eq_true _
                have hq4 : (((nn : Nat) : Int) != ((nn : Nat) : Int)) = false := by rw [bne, hq3]; rfl
                go_wp2_with fail
                refine Qr.region_in (S := MS2 w g3 (Sp.bs nm) A' cl.length C cl A1 nn cc1 g4 (⟨#[77, 83, 72]⟩ : ByteArray) A1 nn cc1) (by kernel_rfl) (by kernel_rfl) (h5.step (Below.refl _ _).drew) ?_
                repeat (go_big_quiet_step (first | (go_at_call 10; exact Qr.call (plain_calls _) (fun _ _ => MS2.step)) | (go_at_call 13; exact Qr.call_same (Hnm.out _)) | (go_at_call 11; exact Qr.call (Hct.out _) (fun _ _ => MS2.step))))
                refine wpQuiet_nil ?_
                rintro _ ⟨⟨W6, h6⟩, rfl⟩
                clear h5 hl0 hne Hmk Hnm Hct hq1 hq2 hq3 hq4
                have hc6 := h6.cells
                go_wp2_with fail
                go_loopw [102] (fun i wr => (∃ j : Nat, j ≤ nn ∧ i = .int .i64 j) ∧ MS2 w g3 (Sp.bs nm) A' cl.length C cl A1 nn cc1 g4 (⟨#[77, 83, 72]⟩ : ByteArray) A1 nn cc1 wr) (fun i _ => nn - (intOf i).toNat)
                case atStart => exact ⟨⟨0, by omega, rfl⟩, h6⟩
                case round =>
                  clear h6 hc6
                  obtain ⟨⟨j, hj, rfl⟩, h7⟩ := hrel
                  have hj2000 : j ≤ 3000 := by omega
                  by_cases hjn : j < nn
                  · have hll : ((Sp.two ++ cl)).length = nn := h7.ms.txh.len
                    obtain ⟨x, hx⟩ : ∃ x, ((Sp.two ++ cl))[j]? = some x := ⟨_, List.getElem?_eq_getElem (by omega)⟩
                    obtain ⟨b, o, rfl, hb7, hcc7⟩ := h7.ms.txh.cells.resolve_left (by omega)
                    have hcx := hcc7 j x hx
                    have Hf := Lib.hid (Hfd.out j x hx)
                    have d0 : (0 : Int) ≤ (j : Int) := by omega
                    have d1 : (j : Int) < ((nn : Nat) : Int) := by omega
                    have hwj : IntKind.i64.wrap ((j : Int) + 1) = (j : Int) + 1 := IntWalk.i64_in _ (by omega)
                    clear hx hll hcc7
                    go_wp2_with fail
                    refine (plain_calls _).mono ?_
                    rintro e w7 ⟨rfl, b7⟩
                    have h8 := h7.step b7
                    clear h7 b7 hcx
                    go_wp2_with fail
                    refine (Hf.out _).mono ?_
                    rintro e w8 ⟨rfl, b8⟩
                    have h9 := h8.step b8
                    clear h8 b8
                    go_wp2_with fail
                    go_roundw
                    case rel => exact ⟨⟨j + 1, by omega, by go_num⟩, h9⟩
                    case measure => simp [intOf]; omega
                  · have hjj : (j : Int) = ((nn : Nat) : Int) := by omega
                    have d1 : ¬ (j : Int) < ((nn : Nat) : Int) := by omega
                    clear hjj
                    go_wp2_with fail
                    go_roundw
                    case rel => exact ⟨.inr (.inr rfl), h7.ms⟩
                    case measure => simp [intOf]

              · go_wp2_with fail
                refine (alive_calls _).mono ?_
                rintro e w9 ⟨rfl, b9⟩
                go_wp2_with fail
                go_ret
                exact ⟨rfl, stepE hms.bel b9⟩

end
theorem makes_at (a b c : Int) (B : Option Addr) (m d : Nat) (xs : List (List UInt8)) (w : World) (ha : 0 ≤ a ∧ a ≤ 255) (hb : 0 ≤ b ∧ b ≤ 255) (hc : 0 ≤ c ∧ c ≤ 255) (hx : Tx w B m d xs) (ht : Sp.tot xs ≤ 1048576) :
    Calls Try.prog 9 #[.agg #[.int .u8 a, .int .u8 b, .int .u8 c], .slice B m d] w fun e w' => e = .returned (.bool true) ∧ Below w.heap.size w w' := by
  have by_ : ∀ {a : Int}, (0 ≤ a ∧ a ≤ 255) → ∃ x : UInt8, a = (x.toNat : Int) := fun {a} h => ⟨UInt8.ofNat a.toNat, by simp [UInt8.toNat_ofNat]; omega⟩
  obtain ⟨x0, rfl⟩ := by_ ha
  obtain ⟨x1, rfl⟩ := by_ hb
  obtain ⟨x2, rfl⟩ := by_ hc
  by_cases h2 : 1000 < Sp.tot xs
  · exact makes_many x0 x1 x2 B m d xs w hx (by omega) h2
  · exact makes_in x0 x1 x2 B m d xs w hx (by omega)
end Sg
end Go.Proofs.Ytcldnibedimepaa
