/-
  The walk of the law DelimBack.
-/
import Derived.Test.YtkjhjeaeffooaaaAl6
import Derived.Test.YtkjhjeaeffooaaaWr6
import Derived.Test.YtkjhjeaeffooaaaIn
import Derived.Test.YtkjhjeaeffooaaaAp
namespace Go.Proofs.Ytkjhjeaeffooaaa
set_option linter.unusedVariables false
set_option linter.unusedSimpArgs false
open Go.RowKit
namespace Sp
/-- a string's bytes as numbers -/
def nums (s : ByteArray) : List Int := s.data.toList.map fun b => (b.toNat : Int)
theorem nums_append (s t : ByteArray) : nums (s ++ t) = nums s ++ nums t := by
  unfold nums; rw [← List.map_append, ByteArray.data_append, Array.toList_append]
theorem nums_ofNums {xs : List Int} (h : ∀ x ∈ xs, isByte x) : nums (strOfNums xs) = xs := by
  unfold nums
  rw [strOfNums_data, List.map_map]
  conv => rhs; rw [← List.map_id xs]
  refine List.map_congr_left fun x hx => ?_
  obtain ⟨h0, h1⟩ := h x hx
  simp only [Function.comp, UInt8.toNat_ofNat', id]
  omega
theorem nums_told {a b c d f : Int} (ha : isByte a) (hb : isByte b) (hc : isByte c) (hd : isByte d) (hf : isByte f) : nums (told a b c d f) = [77, 83, 72, a, b, c, d, f] := by
  unfold told
  rw [nums_append, nums_ofNums (by simp; exact ⟨ha, hb, hc, hd, hf⟩)]
  simp [nums]
theorem nums_length (s : ByteArray) : (nums s).length = s.size := by unfold nums; simp
theorem nums_byte (s : ByteArray) (i : Nat) : isByte ((nums s).getD i 0) := by
  unfold nums isByte
  rw [List.getD_eq_getElem?_getD, List.getElem?_map]
  cases h : s.data.toList[i]? with
  | none => simp
  | some b => have := b.toNat_lt; simp; omega
end Sp
namespace Lw
open Dl Rf
/-- the capacity and the block of '[]byte(s)' -/
def capB (w : World) (s : ByteArray) : Nat := grownCap w s.size 0 5
def rowB (w : World) (s : ByteArray) : Obj := .cells (bytesRow s (capB w s)) 5 ((bytesRow s (capB w s)).size, (bytesRow s (capB w s)).size + 1)
theorem run_sb (w : World) (s : ByteArray) : (convert 9 27 (.string s)).run Try.prog w = .ok (.slice (some ⟨w.heap.size, 0, none⟩) s.size (capB w s)) (w.alloc (rowB w s)).drew :=
  run_bytes_of_string w 9 27 5 s Try.underlying9 Try.underlying27 Try.underlying5
theorem mine_sb (w : World) (base : Nat) (s : ByteArray) (hb : base ≤ w.heap.size) (hs : s.size ≤ 4000) :
    Ap.Mine (w.alloc (rowB w s)).drew base (some ⟨w.heap.size, 0, none⟩) s.size (capB w s) ((Sp.nums s).map (Value.int .u8)) := by
  have h1 := grownCap_ge w s.size 0 5
  have h2 := grownCap_le_maxLen w s.size 0 5 (by simp only [maxLen]; omega)
  have h := Ap.mine_bytes w base 5 s (capB w s) h1 h2 hb
  have e : (Sp.nums s).map (Value.int .u8) = s.data.toList.map fun b => Value.int .u8 b.toNat := by unfold Sp.nums; rw [List.map_map]; rfl
  rw [e]
  exact ⟨h.len, h.cap, h.max, h.at_⟩
/-- one byte as a string -/
theorem run_s1 (w : World) (x : Int) : (convert 27 9 (.slice (some ⟨w.heap.size, 0, none⟩) 1 1)).run Try.prog (w.alloc (.cells #[.int .u8 x] 5)) = .ok (.string (strOfNums [x])) (w.alloc (.cells #[.int .u8 x] 5)) :=
  run_convert_bytes_arg _ 27 5 Try.underlying27 Try.underlying5 w.heap.size 0 1 1 [x] rfl (fun i hi => by
    obtain rfl : i = 0 := by omega
    go_simp) 9 Try.underlying9
theorem one_cell (W : World) (x : Value) (t : TypeId) (H : Nat) (hH : W.heap.size = H) : ∀ j u, [x][j]? = some u → (W.alloc (.cells #[x] t)).drew.cell? ((⟨H, 0, none⟩ : Addr).add j) = some u := by
  intro j u hj
  subst hH
  cases j with
  | zero =>
    simp only [List.getElem?_cons_zero, Option.some.injEq] at hj
    subst hj
    exact World.cell?_alloc_mark W #[x] t (0, 0) 0
  | succ j => simp at hj
theorem infoB : (Try.prog.info? 5).map (fun i => (i.zero, i.size, i.bytes)) = some (some (.int .u8 0), 1, 1) := by kernel_rfl
/-- bytes of the call's own, as Read takes them -/
theorem mine_read {w : World} {base : Nat} {A : Option Addr} {n c : Nat} {xs : List Int} (h : Ap.Mine w base A n c (xs.map (Value.int .u8))) (hb : ∀ i, i < n → Sp.isByte (xs.getD i 0)) :
    Calls Try.prog 8 #[.slice A n c] w fun e w' => e = .returned (.tuple #[val5 (Sp.readD xs), .int .i64 (Sp.readE xs)]) ∧ Below w.heap.size w w' := by
  have hl : xs.length = n := by have := h.len; simpa using this
  refine read_calls A n c xs h.cap hl w ?_ hb
  by_cases h0 : n = 0
  · exact .inl (by omega)
  · obtain ⟨g, rfl, hg, hlt, hc⟩ := h.cell (by omega)
    refine .inr ⟨g, 0, rfl, fun i hi => hc i _ ?_⟩
    rw [List.getElem?_map, List.getD_eq_getElem?_getD, List.getElem?_eq_getElem (by omega)]
    rfl
theorem readE_told {a b c d f : Int} (hr : Sp.right a b c d f = true) (x : Int) (ys : List Int) : Sp.readE ([77, 83, 72, a, b, c, d, f, x] ++ ys) = if x = a ∨ x = 13 then 0 else 11 := by
  unfold Sp.readE
  rw [if_neg (by simp)]
  simp [hr]
theorem readD_told {a b c d f : Int} (hr : Sp.right a b c d f = true) (x : Int) (ys : List Int) (hx : x = a ∨ x = 13) : Sp.readD ([77, 83, 72, a, b, c, d, f, x] ++ ys) = (a, b, c, d, f) := by
  unfold Sp.readD
  rw [if_neg (by simp)]
  simp [hr, hx]
theorem byte_list {xs : List Int} (h : ∀ x ∈ xs, Sp.isByte x) : ∀ i, i < xs.length → Sp.isByte (xs.getD i 0) := by
  intro i hi
  refine h _ ?_
  rw [List.getD_eq_getElem?_getD, List.getElem?_eq_getElem hi]
  exact List.getElem_mem hi
section
variable {a b c d f : Int} {S : ByteArray}
/-- Read at what tells signs, a byte and more behind -/
theorem read_behind (hT : Sp.nums S = [77, 83, 72, a, b, c, d, f]) (hr : Sp.right a b c d f = true) (x : Int) (hx : Sp.isByte x) (ys : List Int) (hys : ∀ y ∈ ys, Sp.isByte y) {w : World} {base : Nat} {A : Option Addr} {n cp : Nat}
    (h : Ap.Mine w base A n cp ((Sp.nums S).map (Value.int .u8) ++ (x :: ys).map (Value.int .u8))) (hb : ∀ z ∈ Sp.nums S, Sp.isByte z) :
    Calls Try.prog 8 #[.slice A n cp] w fun e w' => e = .returned (.tuple #[val5 (Sp.readD ([77, 83, 72, a, b, c, d, f, x] ++ ys)), .int .i64 (if x = a ∨ x = 13 then 0 else 11)]) ∧ Below w.heap.size w w' := by
  have e1 : (Sp.nums S).map (Value.int .u8) ++ (x :: ys).map (Value.int .u8) = ([77, 83, 72, a, b, c, d, f, x] ++ ys).map (Value.int .u8) := by rw [hT, ← List.map_append]; simp
  rw [e1] at h
  have hl := h.len
  simp only [List.length_map] at hl
  have hbb : ∀ z ∈ [77, 83, 72, a, b, c, d, f, x] ++ ys, Sp.isByte z := by
    intro z hz
    rw [show [77, 83, 72, a, b, c, d, f, x] ++ ys = [77, 83, 72, a, b, c, d, f] ++ (x :: ys) from by simp, List.mem_append] at hz
    rcases hz with hz | hz
    · exact hb z (by rw [hT]; exact hz)
    · rcases List.mem_cons.1 hz with rfl | hz
      · exact hx
      · exact hys z hz
  have := mine_read h (fun i hi => byte_list hbb i (by omega))
  rw [readE_told hr] at this
  exact this
theorem read_told (hT : Sp.nums S = [77, 83, 72, a, b, c, d, f]) {w : World} (A : Option Addr) {n cp : Nat} (hn : n < 9) :
    Calls Try.prog 8 #[.slice A n cp] w fun e w' => e = .returned (.tuple #[val5 (0, 0, 0, 0, 0), .int .i64 7]) ∧ Below w.heap.size w w' :=
  read_short A n cp hn w
end
/-- the law's own blocks -/
structure Bk (w : World) (a b c d f : Int) (W : World) : Prop where
  below : Below w.heap.size w W
  d : Five w.heap.size a b c d f W
theorem Bk.step {w W W' : World} {a b c d f : Int} (h : Bk w a b c d f W) (hb : Below W.heap.size W W') : Bk w a b c d f W' :=
  ⟨h.below.trans (hb.mono h.below.size), h.d.below hb h.d.lt⟩
set_option maxHeartbeats 4000000
theorem back_not (a b c d f v : Int) (A : Option Addr) (n cp : Nat) (w : World) (h : ∀ W, Calls Try.prog 6 #[.agg #[.int .u8 a, .int .u8 b, .int .u8 c, .int .u8 d, .int .u8 f]] W fun e w' => e = .returned (.bool false) ∧ Below W.heap.size W w') :
    Calls Try.prog 5 #[.agg #[.int .u8 a, .int .u8 b, .int .u8 c, .int .u8 d, .int .u8 f], .int .u8 v, .slice A n cp] w fun e w' => e = .returned (.bool true) ∧ Below w.heap.size w w' := by
  have huD := Try.underlying23
  have HW := fun W => Lib.hid (write_no a b c d f W h)
  clear h
  go_enter Try.func5, Try.ntmps5
  go_wp2_with fail
  refine (HW _).out.mono ?_
  rintro e w1 ⟨rfl, hb1⟩
  have hB := ((Below.refl w.heap.size w).alloc (Nat.le_refl _) (.cells #[.int .u8 a, .int .u8 b, .int .u8 c, .int .u8 d, .int .u8 f] 23)).trans (hb1.mono (by simp))
  go_wp2_with (go_at_call 7; refine (alive_calls _).mono ?_; rintro e w2 ⟨rfl, hb2⟩)
  go_ret
  exact ⟨rfl, hB.trans (hb2.mono hB.size)⟩
theorem back_long (a b c d f v : Int) (A : Option Addr) (n cp : Nat) (w : World) (hn : 1000 < n) (h : ∀ W, Calls Try.prog 6 #[.agg #[.int .u8 a, .int .u8 b, .int .u8 c, .int .u8 d, .int .u8 f]] W fun e w' => e = .returned (.bool true) ∧ Below W.heap.size W w') :
    Calls Try.prog 5 #[.agg #[.int .u8 a, .int .u8 b, .int .u8 c, .int .u8 d, .int .u8 f], .int .u8 v, .slice A n cp] w fun e w' => e = .returned (.bool true) ∧ Below w.heap.size w w' := by
  have huD := Try.underlying23
  have HW := fun W => Lib.hid (write_yes a b c d f W h)
  clear h
  go_enter Try.func5, Try.ntmps5
  go_wp2_with fail
  refine (HW _).out.mono ?_
  rintro e w1 ⟨rfl, hb1⟩
  have hB := ((Below.refl w.heap.size w).alloc (Nat.le_refl _) (.cells #[.int .u8 a, .int .u8 b, .int .u8 c, .int .u8 d, .int .u8 f] 23)).trans (hb1.mono (by simp))
  go_wp2_with (go_at_call 7; refine (alive_calls _).mono ?_; rintro e w2 ⟨rfl, hb2⟩)
  go_ret
  exact ⟨rfl, hB.trans (hb2.mono hB.size)⟩
theorem back_yes (a b c d f v : Int) (A : Option Addr) (n cp : Nat) (xs : List Int) (w : World) (hn : n ≤ 1000) (hx : Opn.Bytes w A n cp xs) (hr : Sp.right a b c d f = true)
    (ha : Sp.isByte a) (hb : Sp.isByte b) (hc : Sp.isByte c) (hd : Sp.isByte d) (hf : Sp.isByte f) (hv : Sp.isByte v) :
    Calls Try.prog 5 #[.agg #[.int .u8 a, .int .u8 b, .int .u8 c, .int .u8 d, .int .u8 f], .int .u8 v, .slice A n cp] w fun e w' => e = .returned (.bool true) ∧ Below w.heap.size w w' := by
  have huD := Try.underlying23
  have h := fun W => right_calls a b c d f W ha hb hc hd hf
  rw [hr] at h
  have HW := fun W => Lib.hid (write_yes a b c d f W h)
  clear h
  have h50 := Five.new a b c d f w
  have hB0 : Below w.heap.size w (w.alloc (.cells #[.int .u8 a, .int .u8 b, .int .u8 c, .int .u8 d, .int .u8 f] 23)) := (Below.refl _ _).alloc (Nat.le_refl _) _
  have hsb := run_sb
  have hs1 := run_s1
  have hX := Lib.hid hx; clear hx
  have hT := Lib.hid (Sp.nums_told ha hb hc hd hf)
  go_enter Try.func5, Try.ntmps5
  go_wp2_with fail
  refine (HW _).out.mono ?_
  rintro e w1 ⟨rfl, hb1⟩
  have k1 : Bk w a b c d f w1 := Bk.step ⟨hB0, h50⟩ hb1
  clear hB0 h50 hb1 HW
  obtain ⟨S, hS⟩ : ∃ S, S = Sp.told a b c d f := ⟨_, rfl⟩
  rw [← hS] at hT ⊢
  clear hS
  have hsz : S.size = 8 := by rw [← Sp.nums_length, hT.out]; rfl
  have HT := Lib.hid hT.out
  have HSz := Lib.hid hsz
  have hs8 : S.size ≤ 8 := by omega
  have ho1 : (strOfNums [a]).size ≤ 1 := by rw [strOfNums_size]; simp
  clear hsz hT
  have hcc := k1.d.cells
  obtain ⟨i0, hi, hz0, hz1, hz2⟩ := info_parts infoB
  have hall : Hid (∀ z ∈ Sp.nums S, Sp.isByte z) := by
    intro z hz
    rw [HT.out] at hz
    simp only [List.mem_cons, List.not_mem_nil, or_false] at hz
    rcases hz with rfl | rfl | rfl | rfl | rfl | rfl | rfl | rfl <;> first | assumption | (unfold Sp.isByte; omega)
  have hxall : Hid (∀ y ∈ xs, Sp.isByte y) := by
    intro y hy
    obtain ⟨j, hj, rfl⟩ := List.getElem_of_mem hy
    have h1 := hX.out.byte j (by have := hX.out.len; omega)
    rwa [List.getD_eq_getElem?_getD, List.getElem?_eq_getElem hj] at h1
  have r1 : Hid (∀ {A : Option Addr} {n cp : Nat} {w : World} {base : Nat}, Ap.Mine w base A n cp ((Sp.nums (S ++ strOfNums [a])).map (Value.int .u8) ++ xs.map (Value.int .u8)) →
      Calls Try.prog 8 #[.slice A n cp] w fun e w' => e = .returned (.tuple #[val5 (a, b, c, d, f), .int .i64 0]) ∧ Below w.heap.size w w') := by
    intro A n cp w base h
    rw [Sp.nums_append, Sp.nums_ofNums (by simpa using ha), List.map_append, List.append_assoc] at h
    have := read_behind HT.out hr a ha xs hxall.out h hall.out
    rw [if_pos (.inl rfl), readD_told hr a xs (.inl rfl)] at this
    exact this
  have r2 : Hid (∀ {A : Option Addr} {n cp : Nat} {w : World} {base : Nat}, Ap.Mine w base A n cp ((Sp.nums (S ++ ⟨#[13]⟩)).map (Value.int .u8)) →
      Calls Try.prog 8 #[.slice A n cp] w fun e w' => e = .returned (.tuple #[val5 (a, b, c, d, f), .int .i64 0]) ∧ Below w.heap.size w w') := by
    intro A n cp w base h
    rw [Sp.nums_append, List.map_append] at h
    have := read_behind HT.out hr 13 (by unfold Sp.isByte; omega) [] (by simp) h hall.out
    rw [if_pos (.inr rfl), readD_told hr 13 [] (.inr rfl)] at this
    exact this
  have r3 : Hid (∀ {A : Option Addr} {n cp : Nat} {w : World} {base : Nat}, Ap.Mine w base A n cp ((Sp.nums S).map (Value.int .u8) ++ [Value.int .u8 v]) →
      Calls Try.prog 8 #[.slice A n cp] w fun e w' => e = .returned (.tuple #[val5 (Sp.readD ([77, 83, 72, a, b, c, d, f, v] ++ [])), .int .i64 (if v = a ∨ v = 13 then 0 else 11)]) ∧ Below w.heap.size w w') := by
    intro A n cp w base h
    exact read_behind HT.out hr v hv [] (by simp) h hall.out
  have r4 : Hid (∀ {A : Option Addr} {n cp : Nat} {w : World}, n < 9 → Calls Try.prog 8 #[.slice A n cp] w fun e w' => e = .returned (.tuple #[val5 (0, 0, 0, 0, 0), .int .i64 7]) ∧ Below w.heap.size w w') :=
    fun h => read_told HT.out _ h
  generalize Sp.readD ([77, 83, 72, a, b, c, d, f, v] ++ []) = T at *
  obtain ⟨t0, t1, t2, t3, t4⟩ := T
  generalize hE : (if v = a ∨ v = 13 then (0 : Int) else 11) = er at *
  have HE := Lib.hid hE
  clear hE hr ha hb hc hd hf hv
  have hmine := Lib.hid (mine_sb (w1.alloc (.cells #[.int .u8 a] 5)) w1.heap.size (S ++ strOfNums [a]) (by simp) (by rw [ByteArray.size_append]; omega))
  go_wp2_with (at_builtin; refine Ap.wpList_append_mine _ rfl (.tmp 37) (.tmp 38) 27 rfl 5 i0 (.int .u8 0) 1 Try.underlying27 hi hz0 hz1 hz2 rfl w1.heap.size _ _ _ ((Sp.nums (S ++ strOfNums [a])).map (Value.int .u8)) rfl ?hm _ _ _ (xs.map (Value.int .u8)) rfl ?hn ?hX ?h1c ?b1 ?b2 ?hbase ?_; (case hm => (have h := hmine.out; rw [World.size_alloc, ByteArray.size_append] at h; exact h)); (case hn => (rw [List.length_map]; exact hX.out.len)); (case hX => exact (hX.out.below (((k1.below.alloc k1.below.size _).alloc (Nat.le_trans k1.below.size (by simp)) _).drew)).news); (case h1c => exact ints_oneCell .u8 xs); (case b1 => (simp only [maxLen]; omega)); (case b2 => omega); (case hbase => (simp <;> omega)); intro A1 c1 W1 hm1 hb1)
  have k2 := k1.step ((((Below.refl w1.heap.size w1).alloc (Nat.le_refl _) _).alloc (by simp) _).drew.trans hb1)
  clear hb1 k1 hcc hmine
  refine (r1.out hm1).mono ?_
  rintro e w2 ⟨rfl, hb2⟩
  have k3 := k2.step hb2
  clear k2 hb2 hm1 r1
  have k4 := k3.step ((Below.refl w2.heap.size w2).alloc (Nat.le_refl _) (.cells #[.int .u8 a, .int .u8 b, .int .u8 c, .int .u8 d, .int .u8 f] 23))
  have x4 := Five.new a b c d f w2
  have hmine := Lib.hid (mine_sb (w2.alloc (.cells #[.int .u8 a, .int .u8 b, .int .u8 c, .int .u8 d, .int .u8 f] 23)) 0 (S ++ ⟨#[13]⟩) (by simp) (by rw [ByteArray.size_append, HSz.out]; decide))
  clear k3
  go_wp2_with fail
  have hm2 := hmine.out
  rw [World.size_alloc, ByteArray.size_append] at hm2
  refine (r2.out hm2).mono ?_
  rintro e w3 ⟨rfl, hb3⟩
  clear hm2 hmine r2
  have hbb : Below (w2.alloc (.cells #[.int .u8 a, .int .u8 b, .int .u8 c, .int .u8 d, .int .u8 f] 23)).heap.size (w2.alloc (.cells #[.int .u8 a, .int .u8 b, .int .u8 c, .int .u8 d, .int .u8 f] 23)) w3 :=
    ((Below.refl _ _).alloc (Nat.le_refl _) _).drew.trans (hb3.mono (by simp))
  have k5 := k4.step hbb
  have x5 := x4.below hbb x4.lt
  clear k4 x4 hbb hb3
  generalize w2.heap.size = g9 at *
  have k6 := k5.step ((Below.refl w3.heap.size w3).alloc (Nat.le_refl _) (.cells #[.int .u8 a, .int .u8 b, .int .u8 c, .int .u8 d, .int .u8 f] 23))
  have x6 := x5.alloc (.cells #[.int .u8 a, .int .u8 b, .int .u8 c, .int .u8 d, .int .u8 f] 23)
  have y6 := Five.new a b c d f w3
  clear k5 x5
  have hsz3 : w3.heap.size + 1 = (w3.alloc (.cells #[.int .u8 a, .int .u8 b, .int .u8 c, .int .u8 d, .int .u8 f] 23)).heap.size := by simp
  have HSz3 := Lib.hid hsz3
  clear hsz3
  have hm6 := mine_sb (w3.alloc (.cells #[.int .u8 a, .int .u8 b, .int .u8 c, .int .u8 d, .int .u8 f] 23)) (w3.alloc (.cells #[.int .u8 a, .int .u8 b, .int .u8 c, .int .u8 d, .int .u8 f] 23)).heap.size S (Nat.le_refl _) (by omega)
  have hm7 := hm6.below ((Below.refl _ _).alloc (Nat.le_refl _) (.cells #[.int .u8 v] 5))
  have Hm7 := Lib.hid hm7
  clear hm6 hm7
  go_wp2_with (at_builtin; refine Ap.wpList_append_mine _ rfl (.tmp 52) (.tmp 54) 27 rfl 5 i0 (.int .u8 0) 1 Try.underlying27 hi hz0 hz1 hz2 rfl (w3.heap.size + 1) _ _ _ ((Sp.nums S).map (Value.int .u8)) rfl ?hm _ _ _ [.int .u8 v] rfl ?hn ?hX ?h1c ?b1 ?b2 ?hbase ?_; (case hm => (have h := Hm7.out; rw [World.size_alloc] at h; exact h)); (case hn => rfl); (case hX => exact .inr ⟨_, rfl, one_cell _ _ _ _ (by simp)⟩); (case h1c => (simp [Value.oneCell'])); (case b1 => (simp only [maxLen]; omega)); (case b2 => omega); (case hbase => (simp <;> omega)); intro A1 c1 W1 hm1 hb1)
  have hbb : Below (w3.alloc (.cells #[.int .u8 a, .int .u8 b, .int .u8 c, .int .u8 d, .int .u8 f] 23)).heap.size (w3.alloc (.cells #[.int .u8 a, .int .u8 b, .int .u8 c, .int .u8 d, .int .u8 f] 23)) W1 :=
    (((Below.refl _ _).alloc (Nat.le_refl _) _).alloc (by simp) _).drew.trans (hb1.mono (by simp))
  have k7 := k6.step hbb
  have x7 := x6.below hbb x6.lt
  have y7 := y6.below hbb y6.lt
  clear k6 x6 y6 hbb hb1 Hm7 HSz3
  refine (r3.out hm1).mono ?_
  rintro e w4 ⟨rfl, hb4⟩
  have k8 := k7.step hb4
  have x8 := x7.below hb4 x7.lt
  have y8 := y7.below hb4 y7.lt
  clear k7 x7 y7 hb4 hm1 r3
  generalize w3.heap.size = g11 at *
  have k9 := k8.step ((Below.refl w4.heap.size w4).alloc (Nat.le_refl _) (.cells #[.int .u8 t0, .int .u8 t1, .int .u8 t2, .int .u8 t3, .int .u8 t4] 23))
  have x9 := x8.alloc (.cells #[.int .u8 t0, .int .u8 t1, .int .u8 t2, .int .u8 t3, .int .u8 t4] 23)
  have y9 := y8.alloc (.cells #[.int .u8 t0, .int .u8 t1, .int .u8 t2, .int .u8 t3, .int .u8 t4] 23)
  clear k8 x8 y8
  go_wp2_with fail
  generalize w4.alloc (.cells #[.int .u8 t0, .int .u8 t1, .int .u8 t2, .int .u8 t3, .int .u8 t4] 23) = W9 at *
  refine (r4.out (by omega)).mono ?_
  rintro e w5 ⟨rfl, hb5⟩
  have hbb : Below W9.heap.size W9 w5 := ((Below.refl _ _).alloc (Nat.le_refl _) _).drew.trans (hb5.mono (by simp))
  have k10 := k9.step hbb
  have x10 := x9.below hbb x9.lt
  have y10 := y9.below hbb y9.lt
  clear k9 x9 y9 hbb hb5 r4
  have k11 := k10.step ((Below.refl w5.heap.size w5).alloc (Nat.le_refl _) (.cells #[.int .u8 0, .int .u8 0, .int .u8 0, .int .u8 0, .int .u8 0] 23))
  have x11 := x10.alloc (.cells #[.int .u8 0, .int .u8 0, .int .u8 0, .int .u8 0, .int .u8 0] 23)
  have y11 := y10.alloc (.cells #[.int .u8 0, .int .u8 0, .int .u8 0, .int .u8 0, .int .u8 0] 23)
  clear k10 x10 y10
  go_wp2_with fail
  generalize w5.alloc (.cells #[.int .u8 0, .int .u8 0, .int .u8 0, .int .u8 0, .int .u8 0] 23) = W11 at *
  refine (alive_calls _).mono ?_
  rintro e w6 ⟨rfl, hb6⟩
  have k12 := k11.step hb6
  have x12 := x11.below hb6 x11.lt
  have y12 := y11.below hb6 y11.lt
  clear k11 x11 y11 hb6 hall hxall
  have dc := k12.d.cells
  have xc := x12.cells
  have yc := y12.cells
  have hq := fun n w => (eqD n w a b c d f a b c d f).trans (by rw [show eq5 a b c d f a b c d f = true from by simp [eq5]])
  have hs88 : ((S.size : Int) == 8) = true := by rw [HSz.out]; rfl
  have hcase : (v = a ∧ er = 0) ∨ (v ≠ a ∧ v = 13 ∧ er = 0) ∨ (v ≠ a ∧ v ≠ 13 ∧ er = 11) := by
    have := HE.out
    by_cases h1 : v = a
    · exact .inl ⟨h1, by rw [← this, if_pos (.inl h1)]⟩
    · by_cases h2 : v = 13
      · exact .inr (.inl ⟨h1, h2, by rw [← this, if_pos (.inr h2)]⟩)
      · exact .inr (.inr ⟨h1, h2, by rw [← this, if_neg (by simp [h1, h2])]⟩)
  rcases hcase with ⟨h1, rfl⟩ | ⟨h1, h2, rfl⟩ | ⟨h1, h2, rfl⟩
  · have t1 : (v == a) = true := beq_iff_eq.2 h1
    clear h1
    go_wp2_with fail
    go_ret
    exact ⟨by first | rfl | simp, k12.below⟩
  · have t1 : (v == a) = false := beq_eq_false_iff_ne.2 h1
    have t2 : (v == 13) = true := beq_iff_eq.2 h2
    clear h1 h2
    go_wp2_with fail
    go_ret
    exact ⟨by first | rfl | simp, k12.below⟩
  · have t1 : (v == a) = false := beq_eq_false_iff_ne.2 h1
    have t2 : (v == 13) = false := beq_eq_false_iff_ne.2 h2
    clear h1 h2
    go_wp2_with fail
    go_ret
    exact ⟨by first | rfl | simp, k12.below⟩
/-- the law DelimBack, walked -/
theorem lawBack (a b c d f v : Int) (A : Option Addr) (n cp : Nat) (xs : List Int) (w : World) (ha : Sp.isByte a) (hb : Sp.isByte b) (hc : Sp.isByte c) (hd : Sp.isByte d) (hf : Sp.isByte f) (hv : Sp.isByte v) (hx : Opn.Bytes w A n cp xs) :
    Calls Try.prog 5 #[.agg #[.int .u8 a, .int .u8 b, .int .u8 c, .int .u8 d, .int .u8 f], .int .u8 v, .slice A n cp] w fun e w' => e = .returned (.bool true) ∧ Below w.heap.size w w' := by
  have h := fun W => right_calls a b c d f W ha hb hc hd hf
  cases hr : Sp.right a b c d f with
  | false => rw [hr] at h; exact back_not a b c d f v A n cp w h
  | true =>
    by_cases hn : n ≤ 1000
    · exact back_yes a b c d f v A n cp xs w hn hx hr ha hb hc hd hf hv
    · rw [hr] at h; exact back_long a b c d f v A n cp w (by omega) h
end Lw
end Go.Proofs.Ytkjhjeaeffooaaa
