/-
  A part of the proof of this seat's laws: the event of a text, the program's.
-/
import Derived.Test.YtpchfmeaplhodaaDoorTr10
import Derived.Test.YtpchfmeaplhodaaDoorTpM
import Derived.WalkMore
import Derived.Deep.RegionWith
namespace Go.Proofs.YtpchfmeaplhodaaDoor
set_option linter.unusedVariables false
set_option linter.unusedSimpArgs false
open Go.RowKit Go.Shelf
namespace Tr
open Ap Sg
set_option maxHeartbeats 2000000
theorem Kn.loadAt {w : World} (h : Kn w) : (Instr.loadAt 69 (.pointer (some ⟨0, 0, none⟩))).run Tryd.prog w = .ok (.agg KC) w := by
  simp only [Instr.loadAt, Instr.sureAddr, Sem.run_bind, Sem.run_pure, Result.andThen]
  exact h.load
theorem wpList_load_by {P : Program} {ops : Array Oper} {rest : List Oper} {op : Oper} {a : Act} {w : World} {Q : Exit → Act → World → Prop} (hgd : op.guard = none) (ty : TypeId) (x : Operand) (ho : op.op = .load ty x) (p : Value) (hx : a.eval x = p) (v : Value)
    (hl : (Instr.loadAt ty p).run P w = .ok v w) (h : wpList P ops Q rest (a.put op.dst v) w) : wpList P ops Q (op :: rest) a w :=
  wpList_plain hgd fun _ hK => by
    unfold Oper.wp execOp
    simp only [ho, hx, Sem.run_bind, hl, Result.andThen_ok, Sem.run_pure]
    exact hK _ _ h
/-- a kind's value -/
abbrev kv (k : Nat) : Value := .agg #[.string (Sp.bs (Sp.kw k)), .bool (Sp.kd k), .bool (Sp.kc k), .bool (Sp.kk k)]
theorem kind_0 (w : World) : (Instr.index 69 (.agg KC) (.int .i64 ((0 : Nat) : Int))).run Tryd.prog w = .ok (kv 0) w := by kernel_rfl
theorem kind_1 (w : World) : (Instr.index 69 (.agg KC) (.int .i64 ((1 : Nat) : Int))).run Tryd.prog w = .ok (kv 1) w := by kernel_rfl
theorem kind_2 (w : World) : (Instr.index 69 (.agg KC) (.int .i64 ((2 : Nat) : Int))).run Tryd.prog w = .ok (kv 2) w := by kernel_rfl
theorem kind_3 (w : World) : (Instr.index 69 (.agg KC) (.int .i64 ((3 : Nat) : Int))).run Tryd.prog w = .ok (kv 3) w := by kernel_rfl
theorem kind_4 (w : World) : (Instr.index 69 (.agg KC) (.int .i64 ((4 : Nat) : Int))).run Tryd.prog w = .ok (kv 4) w := by kernel_rfl
theorem kind_5 (w : World) : (Instr.index 69 (.agg KC) (.int .i64 ((5 : Nat) : Int))).run Tryd.prog w = .ok (kv 5) w := by kernel_rfl
theorem kind_6 (w : World) : (Instr.index 69 (.agg KC) (.int .i64 ((6 : Nat) : Int))).run Tryd.prog w = .ok (kv 6) w := by kernel_rfl
theorem kind_7 (w : World) : (Instr.index 69 (.agg KC) (.int .i64 ((7 : Nat) : Int))).run Tryd.prog w = .ok (kv 7) w := by kernel_rfl
theorem kind_8 (w : World) : (Instr.index 69 (.agg KC) (.int .i64 ((8 : Nat) : Int))).run Tryd.prog w = .ok (kv 8) w := by kernel_rfl
theorem kind_at (k : Nat) (hk : k < 9) (w : World) : (Instr.index 69 (.agg KC) (.int .i64 (k : Int))).run Tryd.prog w = .ok (kv k) w := by
  have h : k = 0 ∨ k = 1 ∨ k = 2 ∨ k = 3 ∨ k = 4 ∨ k = 5 ∨ k = 6 ∨ k = 7 ∨ k = 8 := by omega
  rcases h with rfl | rfl | rfl | rfl | rfl | rfl | rfl | rfl | rfl
  · exact kind_0 w
  · exact kind_1 w
  · exact kind_2 w
  · exact kind_3 w
  · exact kind_4 w
  · exact kind_5 w
  · exact kind_6 w
  · exact kind_7 w
  · exact kind_8 w
theorem fillA_calls (k : Nat) (hk : k < 9) (K : Int) (b gt o c : Nat) (ws : List (List UInt8)) (w : World) (hb : Blk w b (evC K 0 0 none 0 0) 29) (hne : gt ≠ b) (hw : Wd w gt o ws) (hc : ws.length ≤ c) (hl : ws.length ≤ 100000) (hx : (ws.headD []).length ≤ 100000) (hy : (ws.tail.headD []).length ≤ 100000) (hnv : ∀ w', Kt b w w' → Nv w') :
    Calls Tryd.prog 33 #[kv k, .pointer (some ⟨b, 0, none⟩), .slice (some ⟨gt, o, none⟩) ws.length c] w fun e w' => FillRet K (Sp.fillA k K ws) b w e w' := by
  have h : k = 0 ∨ k = 1 ∨ k = 2 ∨ k = 3 ∨ k = 4 ∨ k = 5 ∨ k = 6 ∨ k = 7 ∨ k = 8 := by omega
  rcases h with rfl | rfl | rfl | rfl | rfl | rfl | rfl | rfl | rfl
  · exact fillD_calls K _ b gt o c ws w hb hne hw hc hl hx hy hnv
  · exact fillD_calls K _ b gt o c ws w hb hne hw hc hl hx hy hnv
  · exact fill0_calls K _ b gt o c ws w hb hne hw hc hl hx hy hnv
  · exact fill0_calls K _ b gt o c ws w hb hne hw hc hl hx hy hnv
  · exact fillC_calls K _ b gt o c ws w hb hne hw hc hl hx hy hnv
  · exact fillC_calls K _ b gt o c ws w hb hne hw hc hl hx hy hnv
  · exact fillC_calls K _ b gt o c ws w hb hne hw hc hl hx hy hnv
  · exact fillCK_calls K _ b gt o c ws w hb hne hw hc hl hx hy hnv
  · exact fillK_calls K _ b gt o c ws w hb hne hw hc hl hx hy hnv
theorem cutP_calls (T X : List UInt8) (w : World) : Calls Tryd.prog 32 #[.string (Sp.bs T), .string (Sp.bs X)] w fun e w' => e = .returned (.tuple #[.string (Sp.bs (Lib.trimPrefix T X)), .bool (Lib.hasPrefix T X)]) ∧ w' = w := by
  have h := Tryd.strings_CutPrefix (Sp.bs T) (Sp.bs X) w
  rw [Sp.bs_list, Sp.bs_list] at h
  exact h
theorem count_calls (R : List UInt8) (w : World) : Calls Tryd.prog 35 #[.string (Sp.bs R), .string ⟨#[32]⟩] w fun e w' => e = .returned (.int .i64 ((R.count 32 : Nat) : Int)) ∧ w' = w := by
  have h := Tryd.strings_Count_one (Sp.bs R) 32 w
  rw [Sp.bs_list] at h
  exact h
theorem results_cell_tmp {fn : Func} {t u : Tmp} {T : TypeId} (h : fn.results = #[.cell t T, .tmp u]) (tmps : Array Value) (P : Program) (w : World) (p : Addr) (v : Value) (hp : tmps.getD t undef = .pointer (some p)) (hl : (loadVar T p).run P w = .ok v w) :
    (results fn tmps).run P w = .ok (.tuple #[v, tmps.getD u undef]) w := by
  rw [Array.getD_eq_getD_getElem?] at hp
  simp [results, h, hp, asAddr, hl, Sem.run_bind, Sem.run_pure, Result.andThen]
theorem Blk.four {W : World} {b : Nat} {a0 a1 a2 a3 : Value} {T : TypeId} (h : Blk W b #[a0, a1, a2, a3] T) (x0 x1 x2 x3 : Value) :
    Blk ((((W.setCell ⟨b, 0, none⟩ x0).setCell ⟨b, 1, none⟩ x1).setCell ⟨b, 2, none⟩ x2).setCell ⟨b, 3, none⟩ x3) b #[x0, x1, x2, x3] T ∧
    Kt b W ((((W.setCell ⟨b, 0, none⟩ x0).setCell ⟨b, 1, none⟩ x1).setCell ⟨b, 2, none⟩ x2).setCell ⟨b, 3, none⟩ x3) :=
  ⟨(((h.set 0 x0).set 1 x1).set 2 x2).set 3 x3, (((Kt.put b 0 W x0).trans (Kt.put b 1 _ x1)).trans (Kt.put b 2 _ x2)).trans (Kt.put b 3 _ x3)⟩
theorem ev_load {V : World} {b : Nat} {k n keep : Int} {A : Option Addr} {len c : Nat} (h : Blk V b (evC k n keep A len c) 29) : (loadVar 29 ⟨b, 0, none⟩).run Tryd.prog V = .ok (evA k n keep A len c) V :=
  run_loadVar_row V b _ _ _ _ _ h Tryd.underlying29 rfl (by kernel_rfl)
theorem kw_len (k : Nat) : (Sp.kw k).length ≤ 8 := by
  unfold Sp.kw
  split <;> decide
/-- what the event of a text is told as -/
def ReadRet (w : World) (s : List UInt8) (e : Ending) (w' : World) : Prop :=
  (Sp.readS s = none → e = .returned (.tuple #[evA 0 0 0 none 0 0, .int .i64 10])) ∧
  (∀ ev, Sp.readS s = some ev → ∃ A n c, e = .returned (.tuple #[evA ev.kind ev.n ev.keep A n c, .int .i64 0]) ∧ By w' A n c ev.data ∧ ∀ g o, A = some ⟨g, o, none⟩ → w.heap.size ≤ g) ∧ Below w.heap.size w w'
theorem ReadRet.no {w w' : World} {s : List UInt8} (h : Sp.readS s = none) (hb : Below w.heap.size w w') : ReadRet w s (.returned (.tuple #[evA 0 0 0 none 0 0, .int .i64 10])) w' :=
  ⟨fun _ => rfl, (fun ev h' => by rw [h] at h'; cases h'), hb⟩
theorem ReadRet.yes {w w' : World} {s : List UInt8} {ev : Sp.Evt} {k : Int} {A : Option Addr} {n c : Nat} (h : Sp.readS s = some ev) (hk : ev.kind = k) (hd : By w' A n c ev.data) (hA : ∀ g o, A = some ⟨g, o, none⟩ → w.heap.size ≤ g) (hb : Below w.heap.size w w') : ReadRet w s (.returned (.tuple #[evA k ev.n ev.keep A n c, .int .i64 0])) w' :=
  ⟨(fun h' => by rw [h] at h'; cases h'), (fun ev' h' => by rw [h] at h'; cases h'; rw [hk]; exact ⟨A, n, c, rfl, hd, hA⟩), hb⟩
set_option maxRecDepth 100000 in
theorem read_calls (s : List UInt8) (hs : s.length ≤ 50000) (w : World) (hg : Gl w) :
    Calls Tryd.prog 17 #[.string (Sp.bs s)] w fun e w' => ReadRet w s e w' := by
  have huE := Tryd.underlying29
  have huK := Tryd.underlying68
  have hz := Sp.bs_size s
  have b00 : Below w.heap.size w ((w.alloc (.cells #[.int .i64 0, .int .i64 0, .int .i64 0, .slice none 0 0] 29)).alloc (.cells #[.int .i64 0, .int .i64 0, .int .i64 0, .slice none 0 0] 29)) := ((Below.refl _ _).alloc (Nat.le_refl _) _).alloc (by rw [World.size_alloc]; exact Nat.le_succ _) _
  have hld := (hg.kn.below b00).loadAt
  have f0 : Blk ((w.alloc (.cells #[.int .i64 0, .int .i64 0, .int .i64 0, .slice none 0 0] 29)).alloc (.cells #[.int .i64 0, .int .i64 0, .int .i64 0, .slice none 0 0] 29)) w.heap.size (evC 0 0 0 none 0 0) 29 := (Blk.new w _ _).below ((Below.refl _ _).alloc (Nat.le_refl _) _)
  have f1 : Blk ((w.alloc (.cells #[.int .i64 0, .int .i64 0, .int .i64 0, .slice none 0 0] 29)).alloc (.cells #[.int .i64 0, .int .i64 0, .int .i64 0, .slice none 0 0] 29)) (w.heap.size + 1) (evC 0 0 0 none 0 0) 29 := by
    have h := Blk.new (w.alloc (.cells #[.int .i64 0, .int .i64 0, .int .i64 0, .slice none 0 0] 29)) (evC 0 0 0 none 0 0) 29
    rw [World.size_alloc] at h
    exact h
  have hs0 : w.heap.size + 2 ≤ ((w.alloc (.cells #[.int .i64 0, .int .i64 0, .int .i64 0, .slice none 0 0] 29)).alloc (.cells #[.int .i64 0, .int .i64 0, .int .i64 0, .slice none 0 0] 29)).heap.size := by rw [World.size_alloc, World.size_alloc]; exact Nat.le_refl _
  have Hg := Lib.hid hg
  have B0 := Lib.hid b00
  have F0 := Lib.hid f0
  have F1 := Lib.hid f1
  have S0 := Lib.hid hs0
  clear hg b00 f0 f1 hs0
  go_enter Tryd.func17, Tryd.ntmps17
  go_wp2_with fail
  go_step3
  go_wp2_with fail
  go_step3
  go_wp2_with (refine wpList_load_by rfl 69 (.global 0) rfl _ rfl _ hld ?_)
  clear hld
  generalize ((w.alloc (.cells #[.int .i64 0, .int .i64 0, .int .i64 0, .slice none 0 0] 29)).alloc (.cells #[.int .i64 0, .int .i64 0, .int .i64 0, .slice none 0 0] 29)) = WZ at *
  go_loopw [5, 6, 7, 8, 9, 10, 12] (fun v5 _ _ _ _ _ i wr => ∃ k : Nat, k ≤ 9 ∧ i = .int .i64 (k : Int) ∧ v5 = .int .i64 10 ∧ Hid (Sp.firsts s k = none) ∧ Hid (Below w.heap.size w wr) ∧ Hid (Blk wr w.heap.size (evC 0 0 0 none 0 0) 29) ∧ Hid (Blk wr (w.heap.size + 1) (evC 0 0 0 none 0 0) 29) ∧ Hid (w.heap.size + 2 ≤ wr.heap.size)) (fun _ _ _ _ _ _ i _ => 9 - (intOf i).toNat)
  case atStart => exact ⟨0, by omega, rfl, rfl, rfl, B0, F0, F1, S0⟩
  case round =>
    obtain ⟨k, hk, rfl, rfl, hfs, hb, hf0, hf1, hsz⟩ := hrel
    clear B0 F0 F1 S0
    by_cases hlt : k < 9
    · have c1 : (k : Int) < 9 := by omega
      have c0 : (0 : Int) ≤ (k : Int) := by omega
      have hw1 : IntKind.i64.wrap ((k : Int) + 1) = (k : Int) + 1 := IntWalk.i64_in _ (by omega)
      have hix := kind_at k hlt wr
      obtain ⟨T, hT⟩ : ∃ T, T = s ++ [32] := ⟨_, rfl⟩
      obtain ⟨X, hX⟩ : ∃ X, X = Sp.kw k ++ [32] := ⟨_, rfl⟩
      have ha1 : Sp.bs s ++ (⟨#[32]⟩ : ByteArray) = Sp.bs T := by rw [hT]; exact Sp.bs_append s [32]
      have ha2 : Sp.bs (Sp.kw k) ++ (⟨#[32]⟩ : ByteArray) = Sp.bs X := by rw [hX]; exact Sp.bs_append _ [32]
      have hzk := Sp.bs_size (Sp.kw k)
      have hkl := kw_len k
      have Hcp := Lib.hid (cutP_calls T X)
      have hres : Sp.resK k s = if Lib.hasPrefix T X = true then Sp.fillA k k ((Sp.cutL 32 (Lib.trimPrefix T X)).dropLast) else none := by rw [hT, hX]; rfl
      have htl : (Lib.trimPrefix T X).length ≤ 50001 := by
        have := Lib.trimPrefix_le T X
        have : T.length = s.length + 1 := by rw [hT, List.length_append]; rfl
        omega
      have Hres := Lib.hid hres
      clear hT hX hres
      obtain ⟨R, hR⟩ : ∃ R, R = Lib.trimPrefix T X := ⟨_, rfl⟩
      rw [← hR] at Hcp Hres htl
      have HZK := Lib.hid hzk
      cases hpre : Lib.hasPrefix T X with
      | false =>
        rw [hpre] at Hcp
        have Hn := Lib.hid (Sp.firsts_none hfs.out (show Sp.resK k s = none by rw [Hres.out, hpre]; rfl))
        clear hpre hR
        go_wp2_with fail
        refine (Hcp.out _).mono ?_
        rintro e w4 ⟨rfl, rfl⟩
        go_wp2_with fail
        go_roundw
        case rel =>
          have ba : Below wr.heap.size wr (wr.alloc (.cells #[.string (Sp.bs (Sp.kw k)), .bool (Sp.kd k), .bool (Sp.kc k), .bool (Sp.kk k)] 68)) := (Below.refl _ _).alloc (Nat.le_refl _) _
          exact ⟨k + 1, by omega, by go_num, rfl, Hn, Lib.hid (step hb.out ba), Lib.hid (hf0.out.below ba), Lib.hid (hf1.out.below ba), Lib.hid (Nat.le_trans hsz.out ba.size)⟩
        case measure => simp [intOf]; omega
      | true =>
        rw [hpre] at Hcp
        have hres2 : Sp.resK k s = Sp.fillA k k (Sp.cutL 32 R).dropLast := by rw [Hres.out, if_pos hpre]
        obtain ⟨W1, hW1⟩ : ∃ W1, W1 = (wr.alloc (.cells #[.string (Sp.bs (Sp.kw k)), .bool (Sp.kd k), .bool (Sp.kc k), .bool (Sp.kk k)] 68)).alloc (.cells (evC (k : Int) 0 0 none 0 0) 29) := ⟨_, rfl⟩
        have sz1 : W1.heap.size = wr.heap.size + 2 := by rw [hW1, World.size_alloc, World.size_alloc]
        have ba : Below wr.heap.size wr W1 := by
          rw [hW1]
          exact ((Below.refl _ _).alloc (Nat.le_refl _) _).alloc (by rw [World.size_alloc]; exact Nat.le_succ _) _
        have k1 : Blk W1 wr.heap.size #[.string (Sp.bs (Sp.kw k)), .bool (Sp.kd k), .bool (Sp.kc k), .bool (Sp.kk k)] 68 := by
          rw [hW1]
          exact (Blk.new wr _ _).below ((Below.refl _ _).alloc (Nat.le_refl _) _)
        have x1 : Blk W1 (wr.heap.size + 1) (evC (k : Int) 0 0 none 0 0) 29 := by
          rw [hW1]
          have h := Blk.new (wr.alloc (.cells #[.string (Sp.bs (Sp.kw k)), .bool (Sp.kd k), .bool (Sp.kc k), .bool (Sp.kk k)] 68)) (evC (k : Int) 0 0 none 0 0) 29
          rw [World.size_alloc] at h
          exact h
        obtain ⟨n, hn⟩ : ∃ n, n = R.count 32 := ⟨_, rfl⟩
        obtain ⟨L, hL⟩ : ∃ L, L = Sp.cutL 32 R := ⟨_, rfl⟩
        have hLn : L.length = n + 1 := by rw [hL, Sp.cutL_length, hn]
        have hnl : n ≤ 50001 := by rw [hn]; exact Nat.le_trans List.count_le_length htl
        obtain ⟨ws, hws⟩ : ∃ ws, ws = L.dropLast := ⟨_, rfl⟩
        have hwl : ws.length = n := by rw [hws, List.length_dropLast, hLn]; rfl
        have hsp0 := splitB_calls R 32 (by omega) W1.drew (((Hg.out.below hb.out).below ba).below (Below.refl _ _).drew).ml
        rw [← hL, hLn] at hsp0
        have HSp : Hid (Calls Tryd.prog 34 #[.string (Sp.bs R), .string ⟨#[32]⟩] W1.drew fun e w' => e = .returned (.slice (some ⟨W1.heap.size, 0, none⟩) (n + 1) (n + 1)) ∧ TxB w' W1.heap.size L ∧ Below W1.heap.size W1 w') := Lib.hid (hsp0.mono fun e w' h => ⟨h.1, h.2.1, Qr.undrew h.2.2⟩)
        have HCt := Lib.hid (count_calls R)
        rw [← hn] at HCt
        have hlen : ∀ x ∈ Sp.cutL 32 R, x.length ≤ 100000 := fun x hx => Nat.le_trans (Nat.le_trans (Sp.cutL_le 32 R x hx) htl) (by omega)
        have hwm : ∀ x ∈ ws, x.length ≤ 100000 := fun x hx => hlen x (by rw [hws, hL] at hx; exact (List.dropLast_sublist _).subset hx)
        have hx0 : (ws.headD []).length ≤ 100000 := by
          cases hws2 : ws with
          | nil => simp
          | cons a l => exact hwm a (by rw [hws2]; exact List.mem_cons_self)
        have hy0 : (ws.tail.headD []).length ≤ 100000 := by
          cases hws2 : ws with
          | nil => simp
          | cons a l =>
            cases l with
            | nil => simp
            | cons a' l => exact hwm a' (by rw [hws2]; exact List.mem_cons_of_mem _ List.mem_cons_self)
        have HFl : Hid (∀ w4, TxB w4 W1.heap.size L → Below W1.heap.size W1 w4 → Calls Tryd.prog 33 #[kv k, .pointer (some ⟨wr.heap.size + 1, 0, none⟩), .slice (some ⟨W1.heap.size, 0, none⟩) n (n + 1)] w4 fun e w' => FillRet (k : Int) (Sp.fillA k k ws) (wr.heap.size + 1) w4 e w') := Lib.hid (fun w4 ht hb4 => by
          have h := fillA_calls k hlt (k : Int) (wr.heap.size + 1) W1.heap.size 0 (n + 1) ws w4 (x1.below hb4) (by omega) ⟨by have := (Array.getElem?_eq_some_iff.1 ht).1; exact this, fun j x hj => by
            rw [Nat.zero_add]
            unfold TxB at ht
            have hj2 : L[j]? = some x := by
              rw [hws, List.getElem?_dropLast] at hj
              split at hj
              · exact hj
              · cases hj
            simp [World.cell?, ht, hj2]⟩ (by omega) (by omega) hx0 hy0 (fun w' hk => (Hg.out.below (step hb.out (ba.trans ((hb4.mono (by omega)).trans (hk.low (B := wr.heap.size) (by have := hb4.size; omega) (by omega)))))).nv)
          rw [hwl] at h
          exact h)
        have hfin : ∀ w4 w6, Below W1.heap.size W1 w4 → Kt (wr.heap.size + 1) w4 w6 → Below w.heap.size w w6 ∧ Blk w6 w.heap.size (evC 0 0 0 none 0 0) 29 ∧ Blk w6 (w.heap.size + 1) (evC 0 0 0 none 0 0) 29 ∧ w.heap.size + 2 ≤ w6.heap.size := fun w4 w6 hb4 hk => by
          have hs := hsz.out
          have h4 := hb4.size
          refine ⟨step hb.out (ba.trans ((hb4.mono (by omega)).trans (hk.low (B := wr.heap.size) (by omega) (by omega)))), ?_, ?_, by have := hk.size; omega⟩
          · exact hk.blk (Blk.low (hf0.out.below ba) hb4 (by omega)) (by omega)
          · exact hk.blk (Blk.low (hf1.out.below ba) hb4 (by omega)) (by omega)
        have HFin := Lib.hid hfin
        have HK1 := Lib.hid k1
        have kc1 := k1.cells4
        have HX1 := Lib.hid x1
        have HBa := Lib.hid ba
        have Hsz1 := Lib.hid sz1
        rw [← hL, ← hws] at hres2
        have c2 : (0 : Int) ≤ (n : Int) := by omega
        have c3 : (n : Int) ≤ (n : Int) + 1 := by omega
        have HW1 := Lib.hid hW1
        clear hR hsp0 hx0 hy0 hwm hlen hLn hwl hws hL hn sz1 ba k1 x1 hfin
        cases hfl : Sp.fillA k k ws with
        | none =>
          rw [hfl] at hres2 HFl
          have Hn := Lib.hid (Sp.firsts_none hfs.out hres2)
          clear hres2 hfl
          go_wp2_with fail
          refine (Hcp.out _).mono ?_
          rintro e w4 ⟨rfl, rfl⟩
          go_wp2_with fail
          rw [show (wr.alloc (.cells #[.string (Sp.bs (Sp.kw k)), .bool (Sp.kd k), .bool (Sp.kc k), .bool (Sp.kk k)] 68)).alloc (.cells #[.int .i64 (k : Int), .int .i64 0, .int .i64 0, .slice none 0 0] 29) = W1 from hW1.symm]
          clear hW1
          go_region_with (first | (go_at_call 34; refine HSp.out.mono ?_; rintro e w4 ⟨rfl, t4, b4⟩; have kc4 := (HK1.out.below b4).cells4; have HT4 := Lib.hid t4; have HB4 := Lib.hid b4; clear t4 b4) | (go_at_call 35; refine (HCt.out _).mono ?_; rintro e w5 ⟨rfl, rfl⟩) | (go_at_call 33; refine (HFl.out _ HT4.out HB4.out).mono ?_; rintro e w6 ⟨t6, r1, -⟩; obtain rfl := r1 rfl; have HT6 := Lib.hid t6; clear t6 r1))
          all_goals
            obtain ⟨y1, y2, y3, y4⟩ := HFin.out _ _ HB4.out HT6.out
            have Y1 := Lib.hid y1
            have Y2 := Lib.hid y2
            have Y3 := Lib.hid y3
            have Y4 := Lib.hid y4
            clear y1 y2 y3 y4
            go_wp2_with fail
            go_roundw
            case rel => exact ⟨k + 1, by omega, by go_num, rfl, Hn, Y1, Y2, Y3, Y4⟩
            case measure => simp [intOf]; omega
        | some ev =>
          rw [hfl] at hres2 HFl
          have hread : Sp.readS s = some ev := Sp.firsts_some hfs.out hres2 9 (by omega)
          have hkd : ev.kind = (k : Int) := Sp.fillA_kind hfl
          have HR := Lib.hid hread
          have HKD := Lib.hid hkd
          clear hres2 hfl hread hkd
          go_wp2_with fail
          refine (Hcp.out _).mono ?_
          rintro e w4 ⟨rfl, rfl⟩
          go_wp2_with fail
          rw [show (wr.alloc (.cells #[.string (Sp.bs (Sp.kw k)), .bool (Sp.kd k), .bool (Sp.kc k), .bool (Sp.kk k)] 68)).alloc (.cells #[.int .i64 (k : Int), .int .i64 0, .int .i64 0, .slice none 0 0] 29) = W1 from hW1.symm]
          clear hW1
          go_region_with (first | (go_at_call 34; refine HSp.out.mono ?_; rintro e w4 ⟨rfl, t4, b4⟩; have kc4 := (HK1.out.below b4).cells4; have HT4 := Lib.hid t4; have HB4 := Lib.hid b4; clear t4 b4) | (go_at_call 35; refine (HCt.out _).mono ?_; rintro e w5 ⟨rfl, rfl⟩) | (go_at_call 33; refine (HFl.out _ HT4.out HB4.out).mono ?_; rintro e w6 ⟨t6, -, r2⟩; obtain ⟨rfl, A, m, c', hbk, hby, hal⟩ := r2 ev rfl; have HAL := Lib.hid hal; have HT6 := Lib.hid t6; have HBK := Lib.hid hbk; have HBY := Lib.hid hby; clear t6 r2 hbk hby hal))
          all_goals
            obtain ⟨y1, y2, y3, y4⟩ := HFin.out _ _ HB4.out HT6.out
            have Y1 := Lib.hid y1
            have Y2 := Lib.hid y2
            have Y3 := Lib.hid y3
            have Y4 := Lib.hid y4
            have xc := HBK.out.cells4
            have z2 := y2.cells4
            have z3 := y3.cells4
            have u0 := y2.frozen 0
            have u1 := y2.frozen 1
            have u2 := y2.frozen 2
            have u3 := y2.frozen 3
            have v0 := y3.frozen 0
            have v1 := y3.frozen 1
            have v2 := y3.frozen 2
            have v3 := y3.frozen 3
            have hs2 := hsz.out
            clear y1 y2 y3 y4
            go_wp2_with fail
            rw [Exit.noGoto_ret]
            have hs6 := Y4.out
            have hs4 := HB4.out.size
            have hs1 := Hsz1.out
            have q1 := Blk.four Y3.out (.int .i64 (k : Int)) (.int .i64 ev.n) (.int .i64 ev.keep) (.slice A m c')
            have q2 := Blk.four (q1.2.blk Y2.out (by omega)) (.int .i64 (k : Int)) (.int .i64 ev.n) (.int .i64 ev.keep) (.slice A m c')
            refine bodyPost_ret (results_cell_tmp rfl _ _ _ _ _ rfl (ev_load q2.1)) rfl ?_
            refine ReadRet.yes HR.out HKD.out (By.kt (By.kt HBY.out q1.2 (fun g o e => ?_)) q2.2 (fun g o e => ?_)) (fun g o e => by have := HAL.out g o e; omega) (Y1.out.trans ((q1.2.low (B := w.heap.size) (by omega) (by omega)).trans (q2.2.low (B := w.heap.size) (by have := q1.2.size; omega) (Nat.le_refl _))))
            · have := HAL.out g o e; omega
            · have := HAL.out g o e; omega
    · obtain rfl : k = 9 := by omega
      have y0 := hf0.out.cells4
      have y1 := hf1.out.cells4
      have u0 := hf0.out.frozen 0
      have u1 := hf0.out.frozen 1
      have u2 := hf0.out.frozen 2
      have u3 := hf0.out.frozen 3
      go_wp2_with fail
      (try rw [Exit.noGoto_ret])
      have q2 := Blk.four hf0.out (.int .i64 0) (.int .i64 0) (.int .i64 0) (.slice none 0 0)
      refine bodyPost_ret (results_cell_tmp rfl _ _ _ _ _ rfl (ev_load q2.1)) rfl ?_
      exact ReadRet.no hfs.out (hb.out.trans (q2.2.low (B := w.heap.size) (by have := hsz.out; omega) (Nat.le_refl _)))
end Tr
end Go.Proofs.YtpchfmeaplhodaaDoor
