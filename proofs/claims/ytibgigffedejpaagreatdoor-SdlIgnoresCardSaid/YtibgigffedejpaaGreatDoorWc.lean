import Derived.Test.YtibgigffedejpaaGreatDoorWa
import Derived.Test.YtibgigffedejpaaGreatDoorWb
import Derived.Lib.Builder
import Derived.Lib.AppendStr
import Derived.Deep.RegionHeld3
import Derived.Deep.RegionHeld
import Derived.KernelRfl
import Derived.Deep.QuietTactic
import Derived.Deep.DeepCutAuto
import Derived.Deep.CutBlock
import Derived.BigQuiet
import Derived.Lib.Strings
import Derived.Lib.Walk
import Derived.Lib.ConvBytes
import Derived.Lib.AtoiAllMem
import Derived.Lib.Hide
import Derived.Laws.Strings3
import Derived.Laws.Closers25
import Derived.Laws.Closers25b
import Derived.BigCall
import Derived.BigGuard
namespace Go.Proofs.YtibgigffedejpaaGreatDoor
set_option linter.unusedVariables false
set_option linter.unusedSimpArgs false
open Go.RowKit
set_option linter.unusedVariables false

/-- The panic of the lexer. -/
def wrC (f : Nat) (e : Int) : List PanicEntry := [{ v := .iface 84 (.agg #[.int .i64 f, .int .i64 e]), recovered := false }]

theorem nat_eq_true {a b : Nat} (h : a = b) : (((a : Nat) : Int) == ((b : Nat) : Int)) = true := by simp [h]
theorem nat_eq_false {a b : Nat} (h : ¬ a = b) : (((a : Nat) : Int) == ((b : Nat) : Int)) = false := by simp; omega

set_option maxHeartbeats 400000 in
theorem peek_c (w : World) (g : Nat) (s : ByteArray) (i f n : Nat) (d : Nat) (h : RD w g s i f n) (hi : i ≤ s.size) (hs : s.size ≤ 16384) (hd : d ≤ 16) :
    Calls Tryz.prog 105 #[.pointer (some ⟨g, 0, none⟩), .int .i64 d] w fun e w' => e = .returned (.int .u8 (bt s (i + d))) ∧ Dr w w' := by
  have h0 := h.c0
  have h1 := h.c1
  have f0 := h.fz 0
  have f1 := h.fz 1
  clear h
  by_cases hc : i + d < s.size
  · have hb := bt_at s (i + d) hc
    have p1 : (0 ≤ (i : Int) + (d : Int)) = True := by simp; omega
    have p2 : ((i : Int) + (d : Int) < (s.size : Int)) = True := by simp; omega
    go_enter Tryz.func105, Tryz.ntmps105
    go_wp2
    repeat (go_quiet (fail); try go_wp2)
    go_ret
    exact ⟨by simp [hb], by repeat (first | exact Dr.refl _ | apply Dr.step)⟩
  · have hb : bt s (i + d) = 0 := by simp [bt, hc]
    go_enter Tryz.func105, Tryz.ntmps105
    go_wp2
    repeat (go_quiet (fail); try go_wp2)
    go_ret
    exact ⟨by simp [hb], by repeat (first | exact Dr.refl _ | apply Dr.step)⟩

set_option maxHeartbeats 400000 in
theorem skip_t (w : World) (g : Nat) (s : ByteArray) (i f n : Nat) (c : Nat) (h : RD w g s i f n) (hs : s.size ≤ 16384) (hb : skipB s i c = true) :
    Calls Tryz.prog 104 #[.pointer (some ⟨g, 0, none⟩), .int .u8 c] w fun e w' => e = .returned (.bool true) ∧ RD w' g s (i + 1) f n ∧ Fr g w w' := by
  have h0 := h.c0
  have h1 := h.c1
  have f0 := h.fz 0
  have f1 := h.fz 1
  have H := Sd.mk h
  clear h
  simp only [skipB, Bool.and_eq_true, decide_eq_true_eq, beq_iff_eq] at hb
  obtain ⟨hc, he⟩ := hb
  rw [← bt_at s i hc] at he
  have hq := nat_eq_true he
  clear he
  have p1 : (0 ≤ (i : Int)) = True := by simp
  have p2 : ((i : Int) < (s.size : Int)) = True := by simp; omega
  go_enter Tryz.func104, Tryz.ntmps104
  go_wp2
  repeat (go_quiet (fail); try go_wp2)
  go_ret
  exact ⟨rfl, (H.out.drewN _).set1 (i + 1), ((Fr.refl g w).drewN _).setCell (.inl rfl) _⟩
set_option maxHeartbeats 400000 in
theorem skip_f (w : World) (g : Nat) (s : ByteArray) (i f n : Nat) (c : Nat) (h : RD w g s i f n) (hi : i ≤ s.size) (hs : s.size ≤ 16384) (hb : skipB s i c = false) :
    Calls Tryz.prog 104 #[.pointer (some ⟨g, 0, none⟩), .int .u8 c] w fun e w' => e = .returned (.bool false) ∧ Dr w w' := by
  have h0 := h.c0
  have h1 := h.c1
  have f0 := h.fz 0
  have f1 := h.fz 1
  clear h
  by_cases hc : i < s.size
  · simp only [skipB, hc, decide_true, Bool.true_and, beq_eq_false_iff_ne, ne_eq] at hb
    rw [← bt_at s i hc] at hb
    have hq := nat_eq_false hb
    clear hb
    have p1 : (0 ≤ (i : Int)) = True := by simp
    have p2 : ((i : Int) < (s.size : Int)) = True := by simp; omega
    go_enter Tryz.func104, Tryz.ntmps104
    go_wp2
    repeat (go_quiet (fail); try go_wp2)
    go_ret
    exact ⟨rfl, by repeat (first | exact Dr.refl _ | apply Dr.step)⟩
  · clear hb
    have p2 : ((i : Int) < (s.size : Int)) = False := by simp; omega
    have p3 : decide ((i : Int) < (s.size : Int)) = false := by simp; omega
    go_enter Tryz.func104, Tryz.ntmps104
    go_wp2
    repeat (go_quiet (fail); try go_wp2)
    go_ret
    exact ⟨rfl, by repeat (first | exact Dr.refl _ | apply Dr.step)⟩

theorem must_t (w : World) (g : Nat) (ee : Int) :
    Calls Tryz.prog 86 #[.pointer (some ⟨g, 0, none⟩), .bool true, .int .i64 ee] w fun e w' => e = .returned (.tuple #[]) ∧ w' = w := by
  go_enter Tryz.func86, Tryz.ntmps86
  go_wp2
  go_end0
  exact ⟨rfl, rfl⟩

theorem must_f (w : World) (g : Nat) (s : ByteArray) (i f n : Nat) (ee : Int) (h : RD w g s i f n) :
    Calls Tryz.prog 86 #[.pointer (some ⟨g, 0, none⟩), .bool false, .int .i64 ee] w fun e w' => e = .panicked (wrC f ee) ∧ w' = w := by
  have h2 := h.c2
  have f2 := h.fz 2
  clear h
  go_enter Tryz.func86, Tryz.ntmps86
  go_wp2
  exact ⟨rfl, rfl, rfl⟩
end Go.Proofs.YtibgigffedejpaaGreatDoor
namespace Go.Proofs.YtibgigffedejpaaGreatDoor
set_option linter.unusedVariables false
set_option linter.unusedSimpArgs false
open Go.RowKit
set_option linter.unusedVariables false

/-! ### A strings.Builder of the call's own -/
theorem info5 : (Tryz.prog.info? 5).map (fun i => (i.zero, i.size, i.bytes)) = some (some (.int .u8 0), 1, 1) := by kernel_rfl
theorem size109 : (Tryz.prog.info? 109).map (·.size) = some 2 := by kernel_rfl
theorem lies109 : liesAt Tryz.prog Tryz.prog.depth 109 (2 / Tryz.prog.cellsOf 109) 0 109 1 = true := by kernel_rfl
set_option maxHeartbeats 1000000 in
set_option maxRecDepth 100000 in
theorem copyCheck_c (B b : Nat) (bs : List Value) (w : World) (h : Lib.IsBuilder 109 5 B b bs w) :
    Calls Tryz.prog 81 #[.pointer (some ⟨b, 0, none⟩)] w fun e w' => e = .returned (.tuple #[]) ∧ Lib.BuilderAt 109 5 B b (.pointer (some ⟨b, 0, none⟩)) bs w' ∧ Below B w w' := by
  obtain ⟨j, hj, hjs⟩ := Option.map_eq_some_iff.1 size109
  rcases h with h | h
  · have c0 := h.cell0
    have f0 := h.frozen0
    have hsh := h.shape
    have hB := h.1
    have H := Sd.mk h
    clear h
    go_enter Tryz.func81, Tryz.ntmps81
    go_wp2
    rw [Lib.run_to_unsafe w ⟨b, 0, none⟩ Tryz.underlying107 Tryz.underlying138 hj (by rw [hjs]; decide) hsh (Nat.zero_lt_succ 1)]
    simp only [Result.andThen]
    rw [Oper.upon_value]
    go_wp2
    rw [run_callFunc_extern Tryz.func99 (by kernel_rfl) (by kernel_rfl) (by kernel_rfl) (e := Extern.AbiNoEscape.same) (by kernel_rfl)]
    rw [Lib.run_noEscape]
    simp only [Result.andThen]
    rw [Oper.upon_value]
    go_wp2
    rw [Lib.run_from_unsafe w ⟨b, 0, none⟩ Tryz.underlying138 Tryz.underlying107 hj hsh lies109]
    simp only [Result.andThen]
    rw [Oper.upon_value]
    go_wp2
    go_end0
    exact ⟨rfl, H.out.used _, (Below.refl B w).setCell (p := ⟨b, 0, none⟩) hB _⟩
  · have c0 := h.cell0
    have H := Sd.mk h
    clear h
    go_enter Tryz.func81, Tryz.ntmps81
    go_wp2
    rw [Lib.run_neq_ptr_same w _ Tryz.underlying107 hj]
    go_wp2
    go_end0
    exact ⟨rfl, H.out, Below.refl B _⟩

set_option maxHeartbeats 1000000 in
set_option maxRecDepth 100000 in
theorem writeString_c (B b : Nat) (bs : List Value) (s : ByteArray) (w : World) (h : Lib.IsBuilder 109 5 B b bs w) (hlen : bs.length + s.size ≤ 140737488355328) (hBw : B ≤ w.heap.size) :
    Calls Tryz.prog 63 #[.pointer (some ⟨b, 0, none⟩), .string s] w fun e w' => e = .returned (.tuple #[.int .i64 s.size, .nilIface]) ∧ Lib.BuilderAt 109 5 B b (.pointer (some ⟨b, 0, none⟩)) (bs ++ Lib.strCells s) w' ∧ Below B w w' := by
  obtain ⟨i0, hi, hz0, hz1, hz2⟩ := info_parts info5
  go_enter Tryz.func63, Tryz.ntmps63
  go_wp2_with (go_at_call 81; refine (copyCheck_c B b bs _ h).mono ?_)
  rintro e w1 ⟨rfl, h1, hb1⟩
  obtain ⟨hB, v, hbk, hown, hne⟩ := h1
  have c0 : w1.cell? ⟨b, 0, none⟩ = some (.pointer (some ⟨b, 0, none⟩)) := by rw [Lib.cell_of_heap hbk]; rfl
  have c1 : w1.cell? ⟨b, 1, none⟩ = some v := by rw [Lib.cell_of_heap hbk]; rfl
  go_wp2_with (at_builtin; refine Lib.wpList_append_own_string _ rfl _ _ 40 9 rfl B 5 i0 Tryz.underlying40 Tryz.underlying9 hi hz0 hz1 hz2 _ _ _ rfl hown s rfl ?c3 ?c4 ?c5 ?_)
  case c3 => unfold maxLen; omega
  case c4 => omega
  case c5 => have := hb1.size; omega
  intro v' w2 hown' hgrow _
  have hlt : b < w1.heap.size := (Array.getElem?_eq_some_iff.1 hbk).1
  have hb2 : w2.heap[b]? = some (.cells #[.pointer (some ⟨b, 0, none⟩), v] 109 (0, 0)) := by
    rw [hgrow.block b hlt (fun e => hne e.symm)]
    exact hbk
  have d0 : w2.cell? ⟨b, 0, none⟩ = some (.pointer (some ⟨b, 0, none⟩)) := by rw [Lib.cell_of_heap hb2]; rfl
  have d1 : w2.cell? ⟨b, 1, none⟩ = some v := by rw [Lib.cell_of_heap hb2]; rfl
  have f1 : w2.frozen? ⟨b, 1, none⟩ = false := Lib.frozen_of_heap hb2 1
  obtain ⟨ao, n', cap, rfl⟩ : ∃ ao n' cap, v' = .slice ao n' cap := by
    rcases hown'.2 with ⟨hv, _⟩ | ⟨g, cap, cur, hv, _⟩
    · exact ⟨_, _, _, hv⟩
    · exact ⟨_, _, _, hv⟩
  go_wp2
  go_ret2
  refine ⟨rfl, ?_, ?_⟩
  · exact Lib.BuilderAt.put (T := 109) (e := 5) hB hb2 (bs' := bs ++ Lib.strCells s) (by simpa [Lib.strCells_length] using hown') (by decide)
  · exact (hb1.grown hgrow (by have := hb1.size; omega) (fun k hk => (hown.lt k hk).1)).setCell (p := ⟨b, 1, none⟩) hB _
end Go.Proofs.YtibgigffedejpaaGreatDoor
namespace Go.Proofs.YtibgigffedejpaaGreatDoor
set_option linter.unusedVariables false
set_option linter.unusedSimpArgs false
open Go.RowKit
set_option linter.unusedVariables false

/-- What the library's variables hold. -/
structure Env (w : World) : Prop where
  tabs : Lib.Utf8Tabs 1 2 w
  maxl : ∃ m, w.cell? ⟨0, 0, none⟩ = some (.int .i64 m)
  glob : 8 ≤ w.heap.size

set_option maxHeartbeats 400000 in
theorem has_c (w : World) (g : Nat) (s : ByteArray) (i f n : Nat) (p : ByteArray) (b : Bool) (h : RD w g s i f n) (hi : i ≤ s.size) (hs : s.size ≤ 16384) (hb : pre s i p.data.toList = b) :
    Calls Tryz.prog 84 #[.pointer (some ⟨g, 0, none⟩), .string p] w fun e w' => e = .returned (.bool b) ∧ Dr w w' := by
  have h0 := h.c0
  have h1 := h.c1
  have f0 := h.fz 0
  have f1 := h.fz 1
  clear h
  have p1 : (0 ≤ (i : Int)) = True := by simp
  have p2 : ((i : Int) ≤ (s.size : Int)) = True := by simp; omega
  have cP : ∀ w, Calls Tryz.prog 102 #[.string (s.extract i s.size), .string p] w fun e w' => e = .returned (.bool b) ∧ w' = w := fun w => by
    have := Tryz.strings_HasPrefix (s.extract i s.size) p w
    rw [Lib.extract_to_end] at this
    rw [← hb]
    exact this
  clear hb
  go_enter Tryz.func84, Tryz.ntmps84
  go_wp2
  go_quiet ((go_at_call 102; refine Calls.quiet_of_same (cP _)))
  go_wp2
  go_ret
  exact ⟨rfl, by repeat (first | exact Dr.refl _ | apply Dr.step)⟩

theorem get_extract (s : ByteArray) (i k : Nat) : ((s.extract i s.size).get! k).toNat = bt s (i + k) := by
  by_cases h : i + k < s.size
  · rw [← bt_at s (i + k) h]
    have h2 : k < (s.extract i s.size).size := by rw [ByteArray.size_extract]; omega
    rw [Utf8W.get!_of_lt _ _ h2]
    rw [ByteArray.getElem_extract]
  · rw [bt_out s _ (by omega)]
    have h2 : ¬ k < (s.extract i s.size).data.size := by
      have : (s.extract i s.size).size = min s.size s.size - i := ByteArray.size_extract
      have h3 : (s.extract i s.size).data.size = (s.extract i s.size).size := rfl
      omega
    have h4 : (s.extract i s.size).get! k = (s.extract i s.size).data[k]! := rfl
    rw [h4]
    have h5 : (s.extract i s.size).data[k]! = 0 := by
      rw [Array.getElem!_eq_getD, Array.getD, dif_neg h2]
      rfl
    rw [h5]
    rfl
theorem dec_go (s : ByteArray) (i : Nat) (h : i < s.size) : Lib.decodeGo (s.extract i s.size) = dec s i := by
  unfold Lib.decodeGo
  rw [if_neg (by rw [ByteArray.size_extract]; omega), Lib.decode_at, get_extract, get_extract, get_extract, get_extract, ByteArray.size_extract]
  unfold dec
  congr 1
  omega
theorem decodeN_le4 (n b0 b1 b2 b3 : Nat) : (Lib.decodeN n b0 b1 b2 b3).2 ≤ 4 := by
  unfold Lib.decodeN
  repeat' split
  all_goals simp
theorem decodeN_le_n (n b0 b1 b2 b3 : Nat) (hn : 1 ≤ n) : (Lib.decodeN n b0 b1 b2 b3).2 ≤ n ∧ 1 ≤ (Lib.decodeN n b0 b1 b2 b3).2 := by
  unfold Lib.decodeN
  repeat' split
  all_goals (simp only; omega)
theorem decodeN_lt (n b0 b1 b2 b3 : Nat) : (Lib.decodeN n b0 b1 b2 b3).1 < 1114112 := by
  unfold Lib.decodeN
  repeat' split
  all_goals (simp only; omega)

theorem rune_le (s : ByteArray) (i : Nat) : (rune s i).2 ≤ 4 ∧ i + (rune s i).2 ≤ max i s.size ∧ (rune s i).1 < 1114112 := by
  unfold rune
  split
  · have h1 := decodeN_le4 (s.size - i) (bt s i) (bt s (i + 1)) (bt s (i + 2)) (bt s (i + 3))
    have h2 := decodeN_le_n (s.size - i) (bt s i) (bt s (i + 1)) (bt s (i + 2)) (bt s (i + 3)) (by omega)
    have h3 := decodeN_lt (s.size - i) (bt s i) (bt s (i + 1)) (bt s (i + 2)) (bt s (i + 3))
    split
    · simp; omega
    · unfold dec; omega
  · simp; omega

set_option maxHeartbeats 400000 in
theorem rune_c (w : World) (s : ByteArray) (i : Nat) (c n : Nat) (hs : s.size ≤ 1000000) (hi : i ≤ s.size) (hr : rune s i = (c, n)) (hT : Lib.Utf8Tabs 1 2 w) :
    Calls Tryz.prog 103 #[.string s, .int .i64 i] w fun e w' => e = .returned (.tuple #[.int .i64 c, .int .i64 n]) ∧ Below w.heap.size w w' := by
  have p1 : (0 ≤ (i : Int)) = True := by simp
  by_cases h : i < s.size
  · have cD := Tryz.utf8_DecodeRuneInString (s.extract i s.size) w hT
    rw [dec_go s i h] at cD
    unfold rune at hr
    rw [if_pos h] at hr
    have hlt := decodeN_lt (s.size - i) (bt s i) (bt s (i + 1)) (bt s (i + 2)) (bt s (i + 3))
    have h4 := decodeN_le4 (s.size - i) (bt s i) (bt s (i + 1)) (bt s (i + 2)) (bt s (i + 3))
    change (dec s i).1 < 1114112 at hlt
    change (dec s i).2 ≤ 4 at h4
    generalize dec s i = d at *
    obtain ⟨c1, n1⟩ := d
    simp only at hr hlt h4 cD
    by_cases hq : c1 = 65533 ∧ n1 < 2
    · rw [if_pos hq] at hr
      obtain ⟨rfl, hq2⟩ := hq
      simp only [Prod.mk.injEq] at hr
      obtain ⟨rfl, rfl⟩ := hr
      go_enter Tryz.func103, Tryz.ntmps103
      go_wp2_with (go_at_call 109; refine cD.mono ?_; rintro e w1 ⟨rfl, hb⟩)
      go_ret2
      exact ⟨rfl, hb⟩
    · rw [if_neg hq] at hr
      simp only [Prod.mk.injEq] at hr
      obtain ⟨rfl, rfl⟩ := hr
      by_cases h5 : c1 = 65533
      · have h6 : ¬ n1 < 2 := fun h => hq ⟨h5, h⟩
        subst h5
        go_enter Tryz.func103, Tryz.ntmps103
        go_wp2_with (go_at_call 109; refine cD.mono ?_; rintro e w1 ⟨rfl, hb⟩)
        go_ret2
        exact ⟨rfl, hb⟩
      · have h6 : ((c1 : Int) == 65533) = false := by simp; omega
        clear hq h5
        go_enter Tryz.func103, Tryz.ntmps103
        go_wp2_with (go_at_call 109; refine cD.mono ?_; rintro e w1 ⟨rfl, hb⟩)
        go_ret2
        exact ⟨by simp, hb⟩
  · unfold rune at hr
    rw [if_neg h] at hr
    simp only [Prod.mk.injEq] at hr
    obtain ⟨rfl, rfl⟩ := hr
    go_enter Tryz.func103, Tryz.ntmps103
    go_wp2
    go_ret2
    exact ⟨rfl, Below.refl _ _⟩

theorem src_rune {s : ByteArray} {i : Nat} (h : src s i = none) : (rune s i).2 = 0 ∨ 3 < (rune s i).2 ∨ ((rune s i).1 < 32 ∧ (rune s i).1 ≠ 9 ∧ (rune s i).1 ≠ 10 ∧ (rune s i).1 ≠ 13) := by
  unfold src at h
  split at h
  · assumption
  · cases h
theorem src_some {s : ByteArray} {i c n : Nat} (h : src s i = some (c, n)) : rune s i = (c, n) ∧ 0 < n ∧ n ≤ 3 ∧ (c < 32 → c = 9 ∨ c = 10 ∨ c = 13) ∧ c < 1114112 ∧ i + n ≤ s.size ∧ i < s.size := by
  unfold src at h
  split at h
  · cases h
  · rename_i hn
    have h2 : rune s i = (c, n) := Option.some.inj h
    have h3 := rune_le s i
    rw [h2] at hn h3
    simp only at hn h3
    refine ⟨h2, by omega, by omega, by omega, by omega, ?_⟩
    unfold rune at h2
    split at h2
    · omega
    · simp at h2; omega

set_option maxRecDepth 100000 in
set_option maxHeartbeats 1000000 in
theorem source_some (w : World) (g : Nat) (s : ByteArray) (i f n : Nat) (c k : Nat) (h : RD w g s i f n) (hi : i ≤ s.size) (hs : s.size ≤ 16384) (hT : Lib.Utf8Tabs 1 2 w) (hr : src s i = some (c, k)) :
    Calls Tryz.prog 85 #[.pointer (some ⟨g, 0, none⟩)] w fun e w' => e = .returned (.tuple #[.int .i64 c, .bool true]) ∧ RD w' g s (i + k) f n ∧ Fr g w w' := by
  obtain ⟨hr, k0, k3, hc, hc2, hk, hi2⟩ := src_some hr
  have h0 := h.c0
  have h1 := h.c1
  have f0 := h.fz 0
  have f1 := h.fz 1
  have H := Sd.mk h
  clear h
  have cR := rune_c w.drew s i c k (by omega) hi hr hT
  have q0 : ((k : Int) == 0) = false := by simp; omega
  have hcs : (¬ (c : Int) < 32) ∨ c = 9 ∨ c = 10 ∨ c = 13 := by omega
  have HC := Sd.mk hc
  have HF := Sd.mk (Fr.refl g w).drew
  clear hc hr
  rcases hcs with hcs | rfl | rfl | rfl
  all_goals
    go_enter Tryz.func85, Tryz.ntmps85
    go_wp2
    go_region_held3 (fun w' => w'.cell? ⟨g, 0, none⟩ = some (.string s) ∧ w'.cell? ⟨g, 1, none⟩ = some (.int .i64 i)) (first | exact ⟨H1.out.c0, H1.out.c1⟩ | go_keep | (refine ⟨?_, ?_⟩ <;> assumption)) ((go_at_call 103; refine cR.mono ?_; rintro e w1 ⟨rfl, hb⟩; have H1 := Sd.mk (RD.below (w := w.drew) H.out hb); have e0 := H1.out.c0; have e1 := H1.out.c1; have g1 := H1.out.fz 1; have HF1 := Sd.mk (HF.out.trans (Fr.of_below hb)); clear hb cR))
    go_wp2
    go_ret2
    exact ⟨by simp, H1.out.set1 (i + k), HF1.out.setCell (.inl rfl) _⟩

set_option maxRecDepth 100000 in
set_option maxHeartbeats 1000000 in
theorem source_none (w : World) (g : Nat) (s : ByteArray) (i f n : Nat) (h : RD w g s i f n) (hi : i ≤ s.size) (hs : s.size ≤ 16384) (hT : Lib.Utf8Tabs 1 2 w) (hr : src s i = none) :
    Calls Tryz.prog 85 #[.pointer (some ⟨g, 0, none⟩)] w fun e w' => e = .returned (.tuple #[.int .i64 0, .bool false]) ∧ RD w' g s i f n ∧ Fr g w w' := by
  have hr' := src_rune hr
  have hle := rune_le s i
  obtain ⟨⟨c, k⟩, hck⟩ : ∃ p, rune s i = p := ⟨_, rfl⟩
  rw [hck] at hr' hle
  simp only at hr' hle
  have h0 := h.c0
  have h1 := h.c1
  have f0 := h.fz 0
  have f1 := h.fz 1
  have H := Sd.mk h
  clear h
  have cR := rune_c w.drew s i c k (by omega) hi hck hT
  have HF := Sd.mk (Fr.refl g w).drew
  clear hr hck
  by_cases hk : k = 0
  · subst hk
    go_enter Tryz.func85, Tryz.ntmps85
    go_wp2
    go_region_held3 (fun w' => w'.cell? ⟨g, 0, none⟩ = some (.string s) ∧ w'.cell? ⟨g, 1, none⟩ = some (.int .i64 i)) (first | exact ⟨H1.out.c0, H1.out.c1⟩ | go_keep | (refine ⟨?_, ?_⟩ <;> assumption)) ((go_at_call 103; refine cR.mono ?_; rintro e w1 ⟨rfl, hb⟩; have H1 := Sd.mk (RD.below (w := w.drew) H.out hb); have e0 := H1.out.c0; have e1 := H1.out.c1; have g1 := H1.out.fz 1; have HF1 := Sd.mk (HF.out.trans (Fr.of_below hb)); clear hb cR))
    go_wp2
    go_ret2
    exact ⟨by simp, H1.out, HF1.out⟩
  · have q0 : ((k : Int) == 0) = false := by simp; omega
    by_cases h3 : 3 < k
    · clear hr'
      go_enter Tryz.func85, Tryz.ntmps85
      go_wp2
      go_region_held3 (fun w' => w'.cell? ⟨g, 0, none⟩ = some (.string s) ∧ w'.cell? ⟨g, 1, none⟩ = some (.int .i64 i)) (first | exact ⟨H1.out.c0, H1.out.c1⟩ | go_keep | (refine ⟨?_, ?_⟩ <;> assumption)) ((go_at_call 103; refine cR.mono ?_; rintro e w1 ⟨rfl, hb⟩; have H1 := Sd.mk (RD.below (w := w.drew) H.out hb); have e0 := H1.out.c0; have e1 := H1.out.c1; have g1 := H1.out.fz 1; have HF1 := Sd.mk (HF.out.trans (Fr.of_below hb)); clear hb cR))
      go_wp2
      go_ret2
      exact ⟨by simp, H1.out, HF1.out⟩
    · have q1 : (c : Int) < 32 := by omega
      have q2 : ((c : Int) != 9) = true := by simp; omega
      have q3 : ((c : Int) != 10) = true := by simp; omega
      have q4 : ((c : Int) != 13) = true := by simp; omega
      have q5 : (c : Int) ≠ 9 := by omega
      have q6 : (c : Int) ≠ 10 := by omega
      have q7 : (c : Int) ≠ 13 := by omega
      clear hr'
      go_enter Tryz.func85, Tryz.ntmps85
      go_wp2
      go_region_held3 (fun w' => w'.cell? ⟨g, 0, none⟩ = some (.string s) ∧ w'.cell? ⟨g, 1, none⟩ = some (.int .i64 i)) (first | exact ⟨H1.out.c0, H1.out.c1⟩ | go_keep | (refine ⟨?_, ?_⟩ <;> assumption)) ((go_at_call 103; refine cR.mono ?_; rintro e w1 ⟨rfl, hb⟩; have H1 := Sd.mk (RD.below (w := w.drew) H.out hb); have e0 := H1.out.c0; have e1 := H1.out.c1; have g1 := H1.out.fz 1; have HF1 := Sd.mk (HF.out.trans (Fr.of_below hb)); clear hb cR))
      go_wp2
      go_ret2
      exact ⟨by simp, H1.out, HF1.out⟩
end Go.Proofs.YtibgigffedejpaaGreatDoor
namespace Go.Proofs.YtibgigffedejpaaGreatDoor
set_option linter.unusedVariables false
set_option linter.unusedSimpArgs false
open Go.RowKit
set_option linter.unusedVariables false

theorem runN_in {p : Nat → Bool} {s : ByteArray} {i : Nat} (h : i < s.size) (hp : p (bt s i) = true) : runN p s i = runN p s (i + 1) + 1 := by
  rw [runN, dif_pos h, if_pos hp]
theorem runN_no {p : Nat → Bool} {s : ByteArray} {i : Nat} (h : i < s.size) (hp : p (bt s i) = false) : runN p s i = 0 := by
  rw [runN, dif_pos h, if_neg (by rw [hp]; decide)]
theorem runN_out {p : Nat → Bool} {s : ByteArray} {i : Nat} (h : ¬ i < s.size) : runN p s i = 0 := by
  rw [runN, dif_neg h]
theorem runN_le (p : Nat → Bool) (s : ByteArray) (i : Nat) : i + runN p s i ≤ max i s.size := by
  by_cases h : i < s.size
  · cases hp : p (bt s i) with
    | true =>
      have := runN_le p s (i + 1)
      rw [runN_in h hp]; omega
    | false => rw [runN_no h hp]; omega
  · rw [runN_out h]; omega
termination_by s.size - i

/-- A set's text says which bytes are in it. -/
def SetOf (set : ByteArray) (p : Nat → Bool) : Prop := ∀ c, c < 256 → decide (0 ≤ Lib.indexByte set.data.toList c.toUInt8) = p c

theorem nat_u8 (s : ByteArray) (i : Nat) (h : i < s.size) : ((s[i].toNat : Int)).toNat.toUInt8 = (bt s i).toUInt8 := by rw [← bt_at s i h]; simp

set_option maxRecDepth 100000 in
set_option maxHeartbeats 1000000 in
theorem run_c (w : World) (g : Nat) (s : ByteArray) (i f n : Nat) (set : ByteArray) (p : Nat → Bool) (k : Nat) (h : RD w g s i f n) (hi : i ≤ s.size) (hs : s.size ≤ 16384) (hset : SetOf set p) (hk : runN p s i = k) :
    Calls Tryz.prog 87 #[.pointer (some ⟨g, 0, none⟩), .string set] w fun e w' => e = .returned (.int .i64 k) ∧ RD w' g s (i + k) f n ∧ Fr g w w' := by
  have H := Sd.mk h
  clear h
  have HS := Sd.mk hset
  clear hset
  have HK := Sd.mk hk
  clear hk
  go_enter Tryz.func87, Tryz.ntmps87
  go_wp2
  go_loopw [5] (fun v wr => ∃ j q : Nat, v = .int .i64 j ∧ Sd (RD wr g s q f n) ∧ Sd (Fr g w wr) ∧ Sd (q = i + j ∧ runN p s i = j + runN p s q) ∧ q ≤ s.size ∧ j ≤ s.size) (fun v _ => s.size - (intOf v).toNat)
  case atStart => exact ⟨0, i, rfl, H, ⟨Fr.refl _ _⟩, ⟨by simp, by simp⟩, hi, by omega⟩
  case round =>
    obtain ⟨j, q, rfl, HR, HF, HQ, hq, hj⟩ := hrel
    have h0 := HR.out.c0
    have h1 := HR.out.c1
    have f1 := HR.out.fz 1
    by_cases hc : q < s.size
    · have p1 : (0 ≤ (q : Int)) = True := by simp
      have p2 : ((q : Int) < (s.size : Int)) = True := by simp; omega
      have cI := fun w => Tryz.strings_IndexByte set (s[q].toNat) w
      have hx : decide (0 ≤ Lib.indexByte set.data.toList ((s[q].toNat : Int)).toNat.toUInt8) = p (bt s q) := by
        rw [nat_u8 s q hc]; exact HS.out _ (bt_lt s q)
      generalize Lib.indexByte set.data.toList ((s[q].toNat : Int)).toNat.toUInt8 = ix at cI hx
      cases hp : p (bt s q) with
      | true =>
        rw [hp] at hx
        have HP := Sd.mk hp
        clear hp
        go_wp2_with fail
        go_quiet ((go_at_call 83; refine Calls.quiet_of_same (cI _)))
        go_wp2
        go_roundw
        case rel => exact ⟨j + 1, q + 1, by go_num, ⟨(HR.out.drewN _).set1 (q + 1)⟩, ⟨(HF.out.drewN _).setCell (.inl rfl) _⟩, ⟨by rw [HQ.out.1]; omega, by rw [HQ.out.2, runN_in hc HP.out]; omega⟩, by omega, by have := HQ.out.1; omega⟩
        case measure => have := HQ.out.1; simp [intOf]; omega
      | false =>
        rw [hp] at hx
        have HP := Sd.mk hp
        clear hp
        go_wp2_with fail
        go_quiet ((go_at_call 83; refine Calls.quiet_of_same (cI _)))
        go_wp2
        go_ret
        have e : k = j := by rw [← HK.out, HQ.out.2, runN_no hc HP.out]; omega
        subst e
        exact ⟨rfl, by rw [← HQ.out.1]; exact HR.out.drewN _, HF.out.drewN _⟩
    · have p2 : decide ((q : Int) < (s.size : Int)) = false := by simp; omega
      go_wp2_with fail
      go_quiet (fail)
      go_wp2
      go_ret
      have e : k = j := by rw [← HK.out, HQ.out.2, runN_out hc]; omega
      subst e
      exact ⟨rfl, by rw [← HQ.out.1]; exact HR.out.drewN _, HF.out.drewN _⟩
end Go.Proofs.YtibgigffedejpaaGreatDoor
/- A drawn region, walked in its text's order, whatever way it is left. -/
namespace Go.Proofs.YtibgigffedejpaaGreatDoor
set_option linter.unusedVariables false
set_option linter.unusedSimpArgs false
section
variable {P : Program} {ops : Array Oper} {Q : Exit → Act → World → Prop} {S : World → Prop}

def seqL (n k : Nat) : Array Bool := (List.replicate k true ++ List.replicate (n - k) false).toArray
theorem seqL_set {n k : Nat} (h : k < n) : (seqL n k).setIfInBounds k true = seqL n (k + 1) := by
  unfold seqL
  simp only [List.setIfInBounds_toArray]
  congr 1
  rw [List.set_append_right _ _ (by simp)]
  obtain ⟨m, hm⟩ : ∃ m, n - k = m + 1 := ⟨n - k - 1, by omega⟩
  have hm2 : n - (k + 1) = m := by omega
  rw [List.length_replicate, Nat.sub_self, hm, hm2, List.replicate_succ (n := m), List.set_cons_zero, List.replicate_succ' (n := k), List.append_assoc]
  rfl
def wpSeq (P : Program) (ops : Array Oper) (Q : Exit → Act → World → Prop) (S : World → Prop) (k : Nat) (a : Act) (w : World) : Prop :=
  wpAnyH P .any ops Q S (ops.size - k) (seqL ops.size k) a w
def seqB (ops : Array Oper) (k : Nat) : Bool :=
  decide (k < ops.size) && Region.noSelect ops && Region.free .any ops (seqL ops.size k) k && (Region.ready .any ops (seqL ops.size k)).contains k
def seqB1 (ops : Array Oper) (k : Nat) : Bool := decide (k < ops.size) && (Region.ready .any ops (seqL ops.size k) == [k])
def seqB0 (ops : Array Oper) (k : Nat) : Bool := Region.ready .any ops (seqL ops.size k) == []

theorem seq_start {id : Nat} {a : Act} {w : World} (S : World → Prop) (hm : P.follows .mixedOrders = true) (hS : S w.drew) (h : S w.drew → wpSeq P ops Q S 0 a w.drew) :
    (Code.region id ops true).wp P Q a w := by
  refine wp_region_held_drew hm hS (fun hS => ?_)
  have := h hS
  unfold wpSeq seqL at this
  simpa using this
theorem seq_take {k : Nat} {oi : Oper} {v : Value} {a : Act} {w : World} (hi : ops[k]? = some oi) (hc : seqB ops k = true)
    (hQ : ∀ c a w, Q (.panic c) (a.put oi.dst v) w → Q (.panic c) a w) (hy : YieldsIf P ops S oi v a) (hS : S w) (h : wpSeq P ops Q S (k + 1) (a.put oi.dst v) w) : wpSeq P ops Q S k a w := by
  simp only [seqB, Bool.and_eq_true, decide_eq_true_eq] at hc
  obtain ⟨⟨⟨h1, h2⟩, h3⟩, h4⟩ := hc
  unfold wpSeq at *
  obtain ⟨m, hm⟩ : ∃ m, ops.size - k = m + 1 := ⟨ops.size - k - 1, by omega⟩
  rw [hm]
  refine wpAnyH_take hi h2 h3 h4 hQ hy hS ?_
  rw [seqL_set h1]
  have : ops.size - (k + 1) = m := by omega
  rw [← this]; exact h
theorem seq_one {k : Nat} {oi : Oper} {a : Act} {w : World} (hi : ops[k]? = some oi) (hc : seqB1 ops k = true)
    (h : ∀ K : Act → World → Prop, Shut (∀ a' w', S w' → (S w' → wpSeq P ops Q S (k + 1) a' w') → K a' w') → if Region.wanted oi (yielded ops a.tmps) = true then Oper.wp P oi a w K Q else K (a.put oi.dst undef) w) : wpSeq P ops Q S k a w := by
  simp only [seqB1, Bool.and_eq_true, decide_eq_true_eq, beq_iff_eq] at hc
  obtain ⟨h1, h2⟩ := hc
  unfold wpSeq at *
  obtain ⟨m, hm⟩ : ∃ m, ops.size - k = m + 1 := ⟨ops.size - k - 1, by omega⟩
  rw [hm]
  refine wpAnyH_ready h2 (by simp) (AllReadyH.cons hi (fun K hK => ?_) AllReadyH.nil)
  refine h K ?_
  rw [seqL_set h1] at hK
  have : ops.size - (k + 1) = m := by omega
  rw [this]
  exact hK
theorem seq_done {k : Nat} {a : Act} {w : World} (hc : seqB0 ops k = true) (h : Q .normal a w) : wpSeq P ops Q S k a w := by
  simp only [seqB0, beq_iff_eq] at hc
  exact wpAnyH_done hc h _
end
end Go.Proofs.YtibgigffedejpaaGreatDoor
/- A drawn region whose operations only read, and whose last operation (the one that waits for all the others that matter) leaves by a panic: one walk of the text's order serves every order. -/
namespace Go.Proofs.YtibgigffedejpaaGreatDoor
set_option linter.unusedVariables false
set_option linter.unusedSimpArgs false
section
variable {P : Program} {ops : Array Oper} {md : Region.Mode} {C : World → Prop} {Q : Exit → Act → World → Prop}

def loud (P : Program) (C : World → Prop) (Q : Exit → Act → World → Prop) (o : Oper) (a : Act) : Prop := ∀ w, C w → o.wp P a w (fun _ _ => False) Q
def qOp2 (P : Program) (ops : Array Oper) (C : World → Prop) (Q : Exit → Act → World → Prop) (i : Nat) (K : Act → Prop) (a : Act) : Prop :=
  qOp P ops C i K a ∨ ∃ o, ops[i]? = some o ∧ Region.wanted o (yielded ops a.tmps) = true ∧ loud P C Q o a
theorem qOp2_mono {i : Nat} {a : Act} {K K' : Act → Prop} (h : ∀ a, K a → K' a) (hh : qOp2 P ops C Q i K a) : qOp2 P ops C Q i K' a :=
  hh.imp (qOp_mono h) id
def wpAnyQ2 (P : Program) (md : Region.Mode) (ops : Array Oper) (C : World → Prop) (Q : Exit → Act → World → Prop) : Nat → Array Bool → Act → Prop
  | 0, listed, _ => Region.ready md ops listed = [] ∧ False
  | fuel + 1, listed, a =>
    (Region.ready md ops listed = [] → False) ∧
    ∀ i ∈ Region.ready md ops listed, qOp2 P ops C Q i (wpAnyQ2 P md ops C Q fuel (listed.setIfInBounds i true)) a
theorem wpOp_of_qOp2 {i : Nat} {a : Act} {K : Act → Prop} {K' : Act → World → Prop} {w : World} (hC : C w) (h : ∀ a w', C w' → K a → K' a w') (hh : qOp2 P ops C Q i K a) : wpOp P ops Q i K' a w := by
  rcases hh with hh | ⟨o, ho, hw, hl⟩
  · exact wpOp_of_qOp hC h hh
  · unfold wpOp
    simp only [ho, hw, if_true]
    exact .inl (Oper.wp_mono (fun _ _ h => h.elim) (hl w hC))
theorem wpAny_of_quiet2 : ∀ (fuel : Nat) (listed : Array Bool) (a : Act) (w : World), C w →
    wpAnyQ2 P md ops C Q fuel listed a → wpAny P md ops Q fuel listed a w
  | 0, _, _, _, _, h => h.2.elim
  | fuel + 1, _, _, _, hw, h => ⟨fun h0 => (h.1 h0).elim, fun i hi => wpOp_of_qOp2 hw (fun a' w' hw' => wpAny_of_quiet2 fuel _ a' w' hw') (h.2 i hi)⟩

theorem loud_put {oi oj : Oper} {v : Value} {a : Act} (hap : oi.apart ops oj = true) (hsj : ∀ cs b, oj.op ≠ .select cs b)
    (hQ : ∀ c a d v w, Q (.panic c) (Act.put a d v) w → Q (.panic c) a w) (h : loud P C Q oj (a.put oi.dst v)) : loud P C Q oj a := by
  obtain ⟨h1, h2, h3⟩ := Oper.apart_spec hap
  intro w hw
  have := h w hw
  unfold Oper.wp at *
  rw [execOp_put oj hsj a oi.dst v h1] at this
  generalize (execOp a.eval oj).run P w = r at *
  cases r with
  | ok n w' =>
    cases n <;> simp only [Oper.upon] at this ⊢
    · exact Calls.mono this (fun e w'' he => by cases e <;> first | exact he | exact hQ _ _ _ _ _ he)
    · exact this
  | halt x w' => cases x <;> simp only [Oper.upon] at this ⊢ <;> exact hQ _ _ _ _ _ this

theorem qOp2_put {j : Nat} {oi oj : Oper} {v : Value} (hj : ops[j]? = some oj) (hap : oi.apart ops oj = true)
    (hsi : ∀ cs b, oi.op ≠ .select cs b) (hsj : ∀ cs b, oj.op ≠ .select cs b) (hQ : ∀ c a d v w, Q (.panic c) (Act.put a d v) w → Q (.panic c) a w) {K : Act → Prop} {a : Act}
    (hy : YieldsIn P ops C oi v a) (h : qOp2 P ops C Q j K (a.put oi.dst v)) :
    qOp2 P ops C Q j (fun a' => YieldsIn P ops C oi v a' ∧ K (a'.put oi.dst v)) a := by
  rcases h with h | ⟨o, ho, hw, hl⟩
  · exact .inl (qOp_put hj hap hsi hsj hy h)
  · obtain rfl : oj = o := by rw [hj] at ho; exact Option.some.inj ho
    obtain ⟨h1, h2, h3⟩ := Oper.apart_spec hap
    exact .inr ⟨oj, hj, by rw [← wanted_put oj a oi.dst v h1]; exact hw, loud_put hap hsj hQ hl⟩

theorem wpAnyQ2_first {i : Nat} {oi : Oper} {v : Value} (hi : ops[i]? = some oi) (hsel : ∀ (j : Nat) (o : Oper) cs b, ops[j]? = some o → o.op ≠ .select cs b)
    (hQ : ∀ c a d v w, Q (.panic c) (Act.put a d v) w → Q (.panic c) a w) :
    ∀ (fuel : Nat) (listed : Array Bool) (a : Act),
      (∀ j oj, ops[j]? = some oj → j ≠ i → listed.getD j true = false → (∀ e ∈ oj.after, Region.binds md e = true → e.on ≠ i) → oi.apart ops oj = true) →
      i ∈ Region.ready md ops listed → YieldsIn P ops C oi v a →
      wpAnyQ2 P md ops C Q fuel (listed.setIfInBounds i true) (a.put oi.dst v) → wpAnyQ2 P md ops C Q (fuel + 1) listed a := by
  intro fuel
  induction fuel with
  | zero =>
    intro listed a _ hr hy H
    exact H.2.elim
  | succ fuel ih =>
    intro listed a hfree hr hy H
    refine ⟨fun h => (by rw [h] at hr; cases hr), fun j hj => ?_⟩
    by_cases hji : j = i
    · subst hji; exact .inl (hy.qOp hi H)
    · have h1 := H.2 j (ready_mono hj hji)
      obtain ⟨hjun, oj, hoj, hall⟩ := mem_ready.1 hj
      have hnot : ∀ e ∈ oj.after, Region.binds md e = true → e.on ≠ i := fun e he hb heq => by
        have h1 := hall e he hb
        have h0 := (mem_ready.1 hr).1
        rw [heq] at h1
        rcases Nat.lt_or_ge i listed.size with h' | h'
        · simp [h'] at h0 h1; rw [h0] at h1; cases h1
        · simp [Array.getElem?_eq_none h'] at h1
      have h2 := qOp2_put hoj (hfree j oj hoj hji hjun hnot) (fun cs b => hsel i oi cs b hi) (fun cs b => hsel j oj cs b hoj) hQ hy h1
      have hfree' : ∀ k ok, ops[k]? = some ok → k ≠ i → (listed.setIfInBounds j true).getD k true = false →
          (∀ e ∈ ok.after, Region.binds md e = true → e.on ≠ i) → oi.apart ops ok = true := fun k ok hk hki hun hno => by
        refine hfree k ok hk hki ?_ hno
        by_cases hjk : j = k
        · subst hjk; exact hjun
        · rw [getD_set_ne true hjk] at hun; exact hun
      refine qOp2_mono (fun a' h3 => ih (listed.setIfInBounds j true) a' hfree' (ready_mono hr (Ne.symm hji)) h3.1 ?_) h2
      rw [Array.setIfInBounds_comm _ _ hji]
      exact h3.2

theorem wpAnyQ2_lex (hs : Region.noSelect ops = true) (hQ : ∀ c a d v w, Q (.panic c) (Act.put a d v) w → Q (.panic c) a w) {z : Oper} : ∀ (l : List Oper) (k : Nat) (listed : Array Bool) (a : Act), (∀ j, (l ++ [z])[j]? = ops[k + j]?) →
    Region.lexFrom md ops (l.length + 1) k listed = true → wpQuiet P ops C (fun a' => Region.wanted z (yielded ops a'.tmps) = true ∧ loud P C Q z a') l a → wpAnyQ2 P md ops C Q (l.length + 1) listed a
  | [], k, listed, a, hl, hB, h => by
    have h0 : ops[k]? = some z := by simpa using (hl 0).symm
    simp only [List.length_nil, Region.lexFrom, Bool.and_eq_true] at hB
    obtain ⟨⟨hr, hf⟩, hB'⟩ := hB
    refine ⟨fun h => ?_, fun i hi => ?_⟩
    · rw [h] at hr; cases hr
    · by_cases hik : i = k
      · subst hik; exact .inr ⟨z, h0, h.1, h.2⟩
      · have := ready_mono hi hik
        rw [List.isEmpty_iff.1 hB'] at this
        cases this
  | o :: l, k, listed, a, hl, hB, h => by
    have h0 : ops[k]? = some o := by simpa using (hl 0).symm
    simp only [List.length_cons] at hB ⊢
    rw [Region.lexFrom] at hB
    simp only [Bool.and_eq_true] at hB
    obtain ⟨⟨hr, hf⟩, hB'⟩ := hB
    have hst : qOp P ops C k (wpQuiet P ops C (fun a' => Region.wanted z (yielded ops a'.tmps) = true ∧ loud P C Q z a') l) a := by unfold qOp; simp only [h0]; exact h
    obtain ⟨v, hy, hK⟩ := yieldsIn_of_qOp h0 hst
    exact wpAnyQ2_first h0 (Region.noSelect_spec hs) hQ (l.length + 1) listed a (Region.free_spec h0 hf) (by simpa using hr) hy
      (wpAnyQ2_lex hs hQ l (k + 1) _ _ (fun j => by have := hl (j + 1); simpa [Nat.add_assoc, Nat.add_comm 1 j] using this) hB' hK)

theorem region_loud {id : Nat} {a : Act} {w : World} {l l1 : List Oper} {z : Oper} (hl : l = l1 ++ [z]) (hm : P.follows .mixedOrders = true) (hB : Region.lexB .any l.toArray = true)
    (hQ : ∀ c a d v w, Q (.panic c) (Act.put a d v) w → Q (.panic c) a w)
    (h : wpQuiet P l.toArray (fun w' => ∃ n, w' = w.drewN n) (fun a' => Region.wanted z (yielded l.toArray a'.tmps) = true ∧ loud P (fun w' => ∃ n, w' = w.drewN n) Q z a') l1 a) : (Code.region id l.toArray true).wp P Q a w := by
  simp only [Region.lexB, Bool.and_eq_true] at hB
  refine wp_region_any hm (wpAny_of_quiet2 (C := fun w' => ∃ n, w' = w.drewN n) _ _ _ _ ⟨1, rfl⟩ ?_)
  have e : l.toArray.size = l1.length + 1 := by subst hl; simp
  have := wpAnyQ2_lex (C := fun w' => ∃ n, w' = w.drewN n) (Q := Q) (md := .any) (z := z) hB.1 hQ l1 0 (Array.replicate l.toArray.size false) a (by subst hl; simp) (by rw [← e]; simpa using hB.2) h
  rw [e] at this ⊢
  exact this

/-- The same, the last operation found by looking: `region_loud_lit`, then `dsimp only [dropZ, lastZ]`, then the walk's steps, then `loud_end`. -/
def dropZ : List Oper → List Oper
  | [] => []
  | [_] => []
  | a :: b :: l => a :: dropZ (b :: l)
def lastZ (d : Oper) : List Oper → Oper
  | [] => d
  | [a] => a
  | _ :: b :: l => lastZ d (b :: l)
theorem dropZ_last (d : Oper) : ∀ (l : List Oper), l ≠ [] → l = dropZ l ++ [lastZ d l]
  | [], h => absurd rfl h
  | [_], _ => rfl
  | a :: b :: l, _ => by
    simp only [dropZ, lastZ, List.cons_append, List.cons.injEq, true_and]
    exact dropZ_last d (b :: l) (by simp)
theorem region_loud_lit {id : Nat} {a : Act} {w : World} {x : Oper} {l : List Oper} (hm : P.follows .mixedOrders = true) (hB : Region.lexB .any (x :: l).toArray = true)
    (hQ : ∀ c a d v w, Q (.panic c) (Act.put a d v) w → Q (.panic c) a w)
    (h : wpQuiet P (x :: l).toArray (fun w' => ∃ n, w' = w.drewN n) (fun a' => Region.wanted (lastZ x l) (yielded (x :: l).toArray a'.tmps) = true ∧ loud P (fun w' => ∃ n, w' = w.drewN n) Q (lastZ x l) a') (dropZ (x :: l)) a) : (Code.region id (x :: l).toArray true).wp P Q a w := by
  refine region_loud (dropZ_last x (x :: l) (by simp)) hm hB hQ ?_
  cases l with
  | nil => exact h
  | cons b l => exact h
theorem loud_end {w : World} {z : Oper} {a : Act} {ops : Array Oper} (hw : Region.wanted z (yielded ops a.tmps) = true) (h : ∀ n, z.wp P a (w.drewN n) (fun _ _ => False) Q) :
    Region.wanted z (yielded ops a.tmps) = true ∧ loud P (fun w' => ∃ n, w' = w.drewN n) Q z a := ⟨hw, fun _ ⟨n, e⟩ => by subst e; exact h n⟩
end
end Go.Proofs.YtibgigffedejpaaGreatDoor
namespace Go.Proofs.YtibgigffedejpaaGreatDoor
set_option linter.unusedVariables false
set_option linter.unusedSimpArgs false
open Go.RowKit
set_option linter.unusedVariables false
set_option linter.unusedSimpArgs false

theorem skipB_lt {s : ByteArray} {i c : Nat} (h : skipB s i c = true) : i < s.size := by
  simp only [skipB, Bool.and_eq_true, decide_eq_true_eq] at h; exact h.1
theorem skipN_t {s : ByteArray} {i c : Nat} (h : skipB s i c = true) : skipN s i c = i + 1 := by unfold skipN; rw [if_pos h]
theorem skipN_f {s : ByteArray} {i c : Nat} (h : skipB s i c = false) : skipN s i c = i := by unfold skipN; rw [if_neg (by rw [h]; decide)]
theorem skipN_le {s : ByteArray} {i c : Nat} (hi : i ≤ s.size) : skipN s i c ≤ s.size ∧ i ≤ skipN s i c := by
  cases h : skipB s i c with
  | true => have := skipB_lt h; rw [skipN_t h]; omega
  | false => rw [skipN_f h]; omega

theorem skip_c (w : World) (g : Nat) (s : ByteArray) (i f n : Nat) (c : Int) (b : Bool) (j : Nat) (h : RD w g s i f n) (hi : i ≤ s.size) (hs : s.size ≤ 16384) (hc0 : 0 < c) (hb : skipB s i c.toNat = b) (hj : skipN s i c.toNat = j) :
    Calls Tryz.prog 104 #[.pointer (some ⟨g, 0, none⟩), .int .u8 c] w fun e w' => e = .returned (.bool b) ∧ RD w' g s j f n ∧ Fr g w w' := by
  obtain ⟨m, rfl⟩ : ∃ m : Nat, c = m := ⟨c.toNat, by omega⟩
  simp only [Int.toNat_natCast] at hb hj
  cases b with
  | true =>
    rw [skipN_t hb] at hj
    subst hj
    exact skip_t w g s i f n m h hs hb
  | false =>
    rw [skipN_f hb] at hj
    subst hj
    refine (skip_f w g s i f n m h hi hs hb).mono ?_
    rintro e w' ⟨he, ⟨q, rfl⟩⟩
    exact ⟨he, h.drewN q, (Fr.refl g w).drewN q⟩
theorem peek_z (w : World) (g : Nat) (s : ByteArray) (i f n : Nat) (d : Int) (b : Int) (h : RD w g s i f n) (hi : i ≤ s.size) (hs : s.size ≤ 16384) (h0 : 0 ≤ d) (hd : d ≤ 16) (hb : (bt s (i + d.toNat) : Int) = b) :
    Calls Tryz.prog 105 #[.pointer (some ⟨g, 0, none⟩), .int .i64 d] w fun e w' => e = .returned (.int .u8 b) ∧ RD w' g s i f n ∧ Fr g w w' := by
  obtain ⟨m, rfl⟩ : ∃ m : Nat, d = m := ⟨d.toNat, by omega⟩
  simp only [Int.toNat_natCast] at hb
  refine (peek_c w g s i f n m h hi hs (by omega)).mono ?_
  rintro e w' ⟨he, ⟨q, rfl⟩⟩
  exact ⟨by rw [he, hb], h.drewN q, (Fr.refl g w).drewN q⟩

def digitsT : ByteArray := ⟨#[48, 49, 50, 51, 52, 53, 54, 55, 56, 57]⟩
theorem digits_set : SetOf digitsT isDigit := by
  unfold SetOf digitsT
  decide +kernel

theorem num1_z {s : ByteArray} {a : Nat} (h : bt s a = 48) : num1 s a = some (a + 1) := by unfold num1; rw [if_pos h]
theorem num1_d {s : ByteArray} {a k : Nat} (h : ¬ bt s a = 48) (hk : runN isDigit s a = k) (h0 : 0 < k) : num1 s a = some (a + k) := by
  subst hk; unfold num1 digs; rw [if_neg h, if_pos h0]
theorem num1_n {s : ByteArray} {a : Nat} (h : ¬ bt s a = 48) (hk : runN isDigit s a = 0) : num1 s a = none := by
  unfold num1 digs; rw [if_neg h, if_neg (by omega)]
theorem digs_d {s : ByteArray} {a k : Nat} (hk : runN isDigit s a = k) (h0 : 0 < k) : digs s a = some (a + k) := by
  subst hk; unfold digs; rw [if_pos h0]
theorem digs_n {s : ByteArray} {a : Nat} (hk : runN isDigit s a = 0) : digs s a = none := by
  unfold digs; rw [if_neg (by omega)]
theorem runN_at {p : Nat → Bool} {s : ByteArray} {i k : Nat} (h : i ≤ s.size) (hk : runN p s i = k) : i + k ≤ s.size := by
  have := runN_le p s i; omega

def moreT : ByteArray := ⟨#[95, 97, 98, 99, 100, 101, 102, 103, 104, 105, 106, 107, 108, 109, 110, 111, 112, 113, 114, 115, 116, 117, 118, 119, 120, 121, 122, 65, 66, 67, 68, 69, 70, 71, 72, 73, 74, 75, 76, 77, 78, 79, 80, 81, 82, 83, 84, 85, 86, 87, 88, 89, 90, 48, 49, 50, 51, 52, 53, 54, 55, 56, 57, 46]⟩
theorem more_set : SetOf moreT isMore := by
  unfold SetOf moreT
  decide +kernel

def NumPost (g : Nat) (s : ByteArray) (f n : Nat) (w : World) (r : Option (Nat × Nat)) (e : Ending) (w' : World) : Prop :=
  match r with
  | some (j, k) => e = .returned (.int .i64 k) ∧ RD w' g s j f n ∧ Fr g w w'
  | none => e = .panicked (wrC f 51) ∧ Fr g w w'

set_option maxRecDepth 100000 in
set_option maxHeartbeats 4000000 in
theorem number_c (w : World) (g : Nat) (s : ByteArray) (i f n : Nat) (r : Option (Nat × Nat)) (h : RD w g s i f n) (hi : i ≤ s.size) (hs : s.size ≤ 16384) (hr : num s i = r) :
    Calls Tryz.prog 88 #[.pointer (some ⟨g, 0, none⟩)] w (NumPost g s f n w r) := by
  obtain ⟨a1, ha1⟩ : ∃ a, skipN s i 45 = a := ⟨_, rfl⟩
  obtain ⟨b1, hb1⟩ : ∃ a, skipB s i 45 = a := ⟨_, rfl⟩
  have hl1 := (skipN_le (c := 45) hi).1
  rw [ha1] at hl1
  have HR : Sd (((num1 s a1).bind fun a => (num2 s a).bind fun b => (num3 s b.1 b.2).bind fun c => num4 s c.1 c.2) = r) := ⟨by rw [← hr]; unfold num; rw [ha1]⟩
  have c1 := skip_c w g s i f n 45 b1 a1 h hi hs (by decide) hb1 ha1
  have HF0 := Sd.mk (Fr.refl g w)
  clear hr ha1 hb1 h
  go_enter Tryz.func88, Tryz.ntmps88
  go_upto_if 8 with (first | (go_at_call 104; refine c1.mono ?_; rintro e w1 ⟨rfl, h1, hf1⟩; have H1 := Sd.mk h1; have HF1 := Sd.mk (HF0.out.trans hf1); clear c1 h1 hf1 HF0) | (go_at_call 105; refine (peek_z _ g s a1 f n 0 _ H1.out hl1 hs (by decide) (by decide) rfl).mono ?_; rintro e w2 ⟨rfl, h2, hf2⟩; have H2 := Sd.mk h2; have HF2 := Sd.mk (HF1.out.trans hf2); clear h2 hf2 HF1 H1))
  go_cut [] (fun wc => ∃ a, a ≤ s.size ∧ Sd (RD wc g s a f n) ∧ Sd (Fr g w wc) ∧ Sd (((num2 s a).bind fun b => (num3 s b.1 b.2).bind fun c => num4 s c.1 c.2) = r))
  case first =>
    have e1 := H2.out.c1
    have g1 := H2.out.fz 1
    by_cases hz : bt s a1 = 48
    · have hq : ((bt s a1 : Int) == 48) = true := by simp [hz]
      have hlt : a1 < s.size := Nat.lt_of_not_le fun h => by rw [bt_out s a1 h] at hz; omega
      rw [hq]
      have HZ := Sd.mk hz
      clear hz hq
      go_wp2
      go_meet
      case rel => exact ⟨a1 + 1, by omega, ⟨H2.out.set1 (a1 + 1)⟩, ⟨HF2.out.setCell (.inl rfl) _⟩, ⟨by rw [← HR.out, num1_z HZ.out]; rfl⟩⟩
    · have hq : ((bt s a1 : Int) == 48) = false := by simp; omega
      rw [hq]
      have HZ := Sd.mk hz
      clear hz hq
      obtain ⟨k, hk⟩ : ∃ k, runN isDigit s a1 = k := ⟨_, rfl⟩
      have hle := runN_at hl1 hk
      have HK := Sd.mk hk
      clear hk
      by_cases h0 : 0 < k
      · have hd : decide ((0 : Int) < (k : Int)) = true := by simp; omega
        go_wp2_with (first | (go_at_call 87; refine (run_c _ g s a1 f n digitsT isDigit k H2.out hl1 hs digits_set HK.out).mono ?_; rintro e w3 ⟨rfl, h3, hf3⟩; have H3 := Sd.mk h3; have HF3 := Sd.mk (HF2.out.trans hf3); clear h3 hf3) | (go_at_call 86; refine (must_t _ g 51).mono ?_; rintro e w4 ⟨rfl, rfl⟩))
        go_meet
        case rel => exact ⟨a1 + k, hle, H3, HF3, ⟨by rw [← HR.out, num1_d HZ.out HK.out h0]; rfl⟩⟩
      · obtain rfl : k = 0 := by omega
        go_wp2_with (first | (go_at_call 87; refine (run_c _ g s a1 f n digitsT isDigit 0 H2.out hl1 hs digits_set HK.out).mono ?_; rintro e w3 ⟨rfl, h3, hf3⟩; have H3 := Sd.mk h3; have HF3 := Sd.mk (HF2.out.trans hf3); clear h3 hf3) | (go_at_call 86; refine (must_f _ g s _ f n 51 H3.out).mono ?_; rintro e w4 ⟨rfl, rfl⟩))
        exact ⟨rfl, by rw [← HR.out, num1_n HZ.out HK.out]; exact ⟨rfl, HF3.out⟩⟩
  case rest =>
    obtain ⟨a, hla, H3, HF3, HR3⟩ := hcut
    clear HR HF2 H2
    obtain ⟨a2, ha2⟩ : ∃ x, skipN s a 46 = x := ⟨_, rfl⟩
    obtain ⟨b2, hb2⟩ : ∃ x, skipB s a 46 = x := ⟨_, rfl⟩
    have c2 := fun w (h : RD w g s a f n) => skip_c w g s a f n 46 b2 a2 h hla hs (by decide) hb2 ha2
    have hl2 := (skipN_le (c := 46) hla).1
    rw [ha2] at hl2
    have HA2 := Sd.mk ha2
    have HB2 := Sd.mk hb2
    clear ha2 hb2
    go_upto_if 22 with (first | (go_at_call 104; refine (c2 _ H3.out).mono ?_; rintro e w5 ⟨rfl, h5, hf5⟩; have H5 := Sd.mk h5; have HF5 := Sd.mk (HF3.out.trans hf5); clear h5 hf5 HF3 H3))
    clear c2
    go_cut [3] (fun v3 wc => ∃ a k : Nat, v3 = .int .i64 k ∧ a ≤ s.size ∧ Sd (RD wc g s a f n) ∧ Sd (Fr g w wc) ∧ Sd (((num3 s a k).bind fun c => num4 s c.1 c.2) = r))
    case first =>
      cases b2 with
      | true =>
        have ea : a2 = a + 1 := by rw [← HA2.out, skipN_t HB2.out]
        subst ea
        obtain ⟨k, hk⟩ : ∃ k, runN isDigit s (a + 1) = k := ⟨_, rfl⟩
        have hle := runN_at hl2 hk
        have HK := Sd.mk hk
        clear hk
        by_cases h0 : 0 < k
        · have hd : decide ((0 : Int) < (k : Int)) = true := by simp; omega
          go_wp2_with (first | (go_at_call 87; refine (run_c _ g s (a + 1) f n digitsT isDigit k H5.out hl2 hs digits_set HK.out).mono ?_; rintro e w3 ⟨rfl, h3, hf3⟩; have H6 := Sd.mk h3; have HF6 := Sd.mk (HF5.out.trans hf3); clear h3 hf3) | (go_at_call 86; refine (must_t _ g 51).mono ?_; rintro e w4 ⟨rfl, rfl⟩))
          go_meet
          case rel => exact ⟨a + 1 + k, 3, rfl, hle, H6, HF6, ⟨by rw [← HR3.out]; unfold num2; rw [if_pos HB2.out, digs_d HK.out h0]; rfl⟩⟩
        · obtain rfl : k = 0 := by omega
          go_wp2_with (first | (go_at_call 87; refine (run_c _ g s (a + 1) f n digitsT isDigit 0 H5.out hl2 hs digits_set HK.out).mono ?_; rintro e w3 ⟨rfl, h3, hf3⟩; have H6 := Sd.mk h3; have HF6 := Sd.mk (HF5.out.trans hf3); clear h3 hf3) | (go_at_call 86; refine (must_f _ g s _ f n 51 H6.out).mono ?_; rintro e w4 ⟨rfl, rfl⟩))
          exact ⟨rfl, by rw [← HR3.out]; unfold num2; rw [if_pos HB2.out, digs_n HK.out]; exact ⟨rfl, HF6.out⟩⟩
      | false =>
        have ea : a2 = a := by rw [← HA2.out, skipN_f HB2.out]
        subst ea
        go_wp2
        go_meet
        case rel => exact ⟨a2, 2, rfl, hl2, H5, HF5, ⟨by rw [← HR3.out]; unfold num2; rw [if_neg (by rw [HB2.out]; decide)]; rfl⟩⟩
    case rest =>
      clear HR3 HA2 HB2 H5 HF5
      obtain ⟨a3, k3, rfl, hl3, H7, HF7, HR7⟩ := hcut
      go_upto_region 9 with (fail)
      go_cut [33] (fun v33 wc => ∃ (b : Bool) (a : Nat), v33 = .bool b ∧ a ≤ s.size ∧ Sd (RD wc g s a f n) ∧ Sd (Fr g w wc) ∧ Sd ((skipB s a3 101 || skipB s a3 69) = b ∧ a = if b then a3 + 1 else a3))
      case first =>
        cases h1 : skipB s a3 101 with
        | true =>
          have c3 := fun w (h : RD w g s a3 f n) => skip_c w g s a3 f n 101 true (a3 + 1) h hl3 hs (by decide) h1 (skipN_t h1)
          have hlt := skipB_lt h1
          have HH1 := Sd.mk h1
          clear h1
          go_wp2_with (first | (go_at_call 104; refine (c3 _ H7.out).mono ?_; rintro e w8 ⟨rfl, h8, hf8⟩; have H8 := Sd.mk h8; have HF8 := Sd.mk (HF7.out.trans hf8); clear h8 hf8 c3))
          go_meet
          case rel => exact ⟨true, a3 + 1, rfl, by omega, H8, HF8, ⟨by rw [HH1.out]; rfl, rfl⟩⟩
        | false =>
          have c3 := fun w (h : RD w g s a3 f n) => skip_c w g s a3 f n 101 false a3 h hl3 hs (by decide) h1 (skipN_f h1)
          have HH1 := Sd.mk h1
          clear h1
          cases h2 : skipB s a3 69 with
          | true =>
            have c4 := fun w (h : RD w g s a3 f n) => skip_c w g s a3 f n 69 true (a3 + 1) h hl3 hs (by decide) h2 (skipN_t h2)
            have hlt := skipB_lt h2
            have HH2 := Sd.mk h2
            clear h2
            go_wp2_with (first | (go_at_call 104; with_reducible refine (c3 _ H7.out).mono ?_; rintro e w8 ⟨rfl, h8, hf8⟩; have H8 := Sd.mk h8; have HF8 := Sd.mk (HF7.out.trans hf8); clear h8 hf8 c3 H7 HF7) | (go_at_call 104; refine (c4 _ H8.out).mono ?_; rintro e w9 ⟨rfl, h9, hf9⟩; have H9 := Sd.mk h9; have HF9 := Sd.mk (HF8.out.trans hf9); clear h9 hf9 c4))
            go_meet
            case rel => exact ⟨true, a3 + 1, rfl, by omega, H9, HF9, ⟨by rw [HH1.out, HH2.out]; rfl, rfl⟩⟩
          | false =>
            have c4 := fun w (h : RD w g s a3 f n) => skip_c w g s a3 f n 69 false a3 h hl3 hs (by decide) h2 (skipN_f h2)
            have HH2 := Sd.mk h2
            clear h2
            go_wp2_with (first | (go_at_call 104; with_reducible refine (c3 _ H7.out).mono ?_; rintro e w8 ⟨rfl, h8, hf8⟩; have H8 := Sd.mk h8; have HF8 := Sd.mk (HF7.out.trans hf8); clear h8 hf8 c3 H7 HF7) | (go_at_call 104; refine (c4 _ H8.out).mono ?_; rintro e w9 ⟨rfl, h9, hf9⟩; have H9 := Sd.mk h9; have HF9 := Sd.mk (HF8.out.trans hf9); clear h9 hf9 c4))
            go_meet
            case rel => exact ⟨false, a3, rfl, by omega, H9, HF9, ⟨by rw [HH1.out, HH2.out]; rfl, rfl⟩⟩
      case rest =>
        clear H7 HF7
        obtain ⟨b4, a4, rfl, hl4, H7, HF7, HB4⟩ := hcut
        go_upto_if 33 with (fail)
        go_cut [3] (fun v3 wc => ∃ a k : Nat, v3 = .int .i64 k ∧ a ≤ s.size ∧ Sd (RD wc g s a f n) ∧ Sd (Fr g w wc) ∧ Sd (num4 s a k = r))
        case first =>
          cases b4 with
          | false =>
            have ea : a4 = a3 := by rw [HB4.out.2]; rfl
            subst ea
            go_wp2
            go_meet
            case rel => exact ⟨a4, k3, rfl, hl4, H7, HF7, ⟨by rw [← HR7.out]; unfold num3; rw [if_neg (by rw [HB4.out.1]; decide)]; rfl⟩⟩
          | true =>
            have ea : a4 = a3 + 1 := by rw [HB4.out.2]; rfl
            subst ea
            obtain ⟨b5, hb5⟩ : ∃ x, skipB s (a3 + 1) 43 = x := ⟨_, rfl⟩
            obtain ⟨a5, ha5⟩ : ∃ x, skipN s (a3 + 1) 43 = x := ⟨_, rfl⟩
            have hl5 := (skipN_le (c := 43) hl4).1
            rw [ha5] at hl5
            have c5 := fun w (h : RD w g s (a3 + 1) f n) => skip_c w g s (a3 + 1) f n 43 b5 a5 h hl4 hs (by decide) hb5 ha5
            have HA5 := Sd.mk ha5
            have HB5 := Sd.mk hb5
            clear ha5 hb5
            go_upto_if 36 with (first | (go_at_call 104; refine (c5 _ H7.out).mono ?_; rintro e w8 ⟨rfl, h8, hf8⟩; have H8 := Sd.mk h8; have HF8 := Sd.mk (HF7.out.trans hf8); clear h8 hf8 c5 H7 HF7))
            go_cut [] (fun wc => ∃ a : Nat, a ≤ s.size ∧ Sd (RD wc g s a f n) ∧ Sd (Fr g w wc) ∧ Sd ((if skipB s (a3 + 1) 43 then a3 + 2 else skipN s (a3 + 1) 45) = a))
            case first =>
              cases b5 with
              | true =>
                have ea : a5 = a3 + 2 := by rw [← HA5.out, skipN_t HB5.out]
                subst ea
                go_wp2
                go_meet
                case rel => exact ⟨a3 + 2, hl5, H8, HF8, ⟨by rw [if_pos HB5.out]⟩⟩
              | false =>
                have ea : a5 = a3 + 1 := by rw [← HA5.out, skipN_f HB5.out]
                subst ea
                obtain ⟨b6, hb6⟩ : ∃ x, skipB s (a3 + 1) 45 = x := ⟨_, rfl⟩
                obtain ⟨a6, ha6⟩ : ∃ x, skipN s (a3 + 1) 45 = x := ⟨_, rfl⟩
                have hl6 := (skipN_le (c := 45) hl4).1
                rw [ha6] at hl6
                have c6 := fun w (h : RD w g s (a3 + 1) f n) => skip_c w g s (a3 + 1) f n 45 b6 a6 h hl4 hs (by decide) hb6 ha6
                have HA6 := Sd.mk ha6
                clear ha6 hb6
                go_wp2_with (first | (go_at_call 104; refine (c6 _ H8.out).mono ?_; rintro e w9 ⟨rfl, h9, hf9⟩; have H9 := Sd.mk h9; have HF9 := Sd.mk (HF8.out.trans hf9); clear h9 hf9 c6))
                go_meet
                case rel => exact ⟨a6, hl6, H9, HF9, ⟨by rw [if_neg (by rw [HB5.out]; decide), HA6.out]⟩⟩
            case rest =>
              clear H8 HF8 HA5 HB5
              obtain ⟨a7, hl7, H8, HF8, HA7⟩ := hcut
              obtain ⟨k, hk⟩ : ∃ k, runN isDigit s a7 = k := ⟨_, rfl⟩
              have hle := runN_at hl7 hk
              have HK := Sd.mk hk
              clear hk
              by_cases h0 : 0 < k
              · have hd : decide ((0 : Int) < (k : Int)) = true := by simp; omega
                go_wp2_with (first | (go_at_call 87; refine (run_c _ g s a7 f n digitsT isDigit k H8.out hl7 hs digits_set HK.out).mono ?_; rintro e w3 ⟨rfl, h3, hf3⟩; have H9 := Sd.mk h3; have HF9 := Sd.mk (HF8.out.trans hf3); clear h3 hf3) | (go_at_call 86; refine (must_t _ g 51).mono ?_; rintro e w4 ⟨rfl, rfl⟩))
                go_meet
                case rel => exact ⟨a7 + k, 3, rfl, hle, H9, HF9, ⟨by rw [← HR7.out]; unfold num3; rw [if_pos HB4.out.1, HA7.out, digs_d HK.out h0]; rfl⟩⟩
              · obtain rfl : k = 0 := by omega
                go_wp2_with (first | (go_at_call 87; refine (run_c _ g s a7 f n digitsT isDigit 0 H8.out hl7 hs digits_set HK.out).mono ?_; rintro e w3 ⟨rfl, h3, hf3⟩; have H9 := Sd.mk h3; have HF9 := Sd.mk (HF8.out.trans hf3); clear h3 hf3) | (go_at_call 86; refine (must_f _ g s _ f n 51 H9.out).mono ?_; rintro e w4 ⟨rfl, rfl⟩))
                exact ⟨rfl, by rw [← HR7.out]; unfold num3; rw [if_pos HB4.out.1, HA7.out, digs_n HK.out]; exact ⟨rfl, HF9.out⟩⟩
        case rest =>
          clear HR7 H7 HF7 HB4
          obtain ⟨a8, k8, rfl, hl8, H8, HF8, HR8⟩ := hcut
          have h0 := H8.out.c0
          have h1 := H8.out.c1
          have g0 := H8.out.fz 0
          have g1 := H8.out.fz 1
          by_cases hc : a8 < s.size
          · have p1 : (0 ≤ (a8 : Int)) = True := by simp
            have p2 : ((a8 : Int) < (s.size : Int)) = True := by simp; omega
            have p3 : ((a8 : Int) == (s.size : Int)) = false := by simp; omega
            have cI := fun w => Tryz.strings_IndexByte moreT (s[a8].toNat) w
            have hx : decide (0 ≤ Lib.indexByte moreT.data.toList ((s[a8].toNat : Int)).toNat.toUInt8) = isMore (bt s a8) := by
              rw [nat_u8 s a8 hc]; exact more_set _ (bt_lt s a8)
            generalize Lib.indexByte moreT.data.toList ((s[a8].toNat : Int)).toNat.toUInt8 = ix at cI hx
            cases hp : isMore (bt s a8) with
            | true =>
              rw [hp] at hx
              have hy : decide (ix < 0) = false := by simp at hx; simp; omega
              have HP := Sd.mk hp
              clear hp hx
              go_wp2_with fail
              refine region_loud_lit (by kernel_rfl) (by kernel_rfl) (fun _ _ d _ _ h => by cases d <;> exact h) ?_
              dsimp only [dropZ, lastZ]
              repeat (go_big_quiet_step ((go_at_call 83; refine Calls.quiet_of_same (cI _))))
              refine wpQuiet_nil ?_
              refine loud_end (by rfl) (fun n' => ?_)
              go_simp
              refine (must_f _ g s _ f n 51 (H8.out.drewN _)).mono ?_
              rintro e w4 ⟨rfl, rfl⟩
              have e : none = r := by rw [← HR8.out]; unfold num4; rw [if_pos ⟨hc, HP.out⟩]
              rw [← e]
              exact ⟨rfl, rfl, HF8.out.drewN _⟩
            | false =>
              rw [hp] at hx
              have hy : decide (ix < 0) = true := by simp at hx; simp; omega
              have HP := Sd.mk hp
              clear hp hx
              go_wp2_with fail
              go_quiet (first | (go_at_call 83; refine Calls.quiet_of_same (cI _)) | (go_at_call 86; refine Calls.quiet_of_same (must_t _ g 51)))
              go_wp2
              go_ret
              have e : some (a8, k8) = r := by rw [← HR8.out]; unfold num4; rw [if_neg (by rw [HP.out]; simp)]
              rw [← e]
              exact ⟨rfl, H8.out.drewN _, HF8.out.drewN _⟩
          · have p3 : ((a8 : Int) == (s.size : Int)) = true := by simp; omega
            go_wp2_with fail
            go_quiet (first | (go_at_call 86; refine Calls.quiet_of_same (must_t _ g 51)))
            go_wp2
            go_ret
            have e : some (a8, k8) = r := by rw [← HR8.out]; unfold num4; rw [if_neg (by omega)]
            rw [← e]
            exact ⟨rfl, H8.out.drewN _, HF8.out.drewN _⟩
end Go.Proofs.YtibgigffedejpaaGreatDoor
namespace Go.Proofs.YtibgigffedejpaaGreatDoor
set_option linter.unusedVariables false
set_option linter.unusedSimpArgs false
open Go.RowKit
set_option linter.unusedVariables false
set_option linter.unusedSimpArgs false

/-- Where a reader stands. -/
def atOf (g : Nat) (w : World) : Nat := match w.cell? ⟨g, 1, none⟩ with | some (.int _ i) => i.toNat | _ => 0
theorem RD.atOf {w : World} {g : Nat} {s : ByteArray} {i f n : Nat} (h : RD w g s i f n) : atOf g w = i := by
  unfold YtibgigffedejpaaGreatDoor.atOf; rw [h.c1]; simp

def IgnPost (g : Nat) (s : ByteArray) (n : Nat) (w : World) (r : Except Nat Nat) (e : Ending) (w' : World) : Prop :=
  match r with
  | .ok j => e = .returned (.tuple #[]) ∧ (∃ f, RD w' g s j f n) ∧ Fr g w w'
  | .error p => e = .panicked (wrC p 50) ∧ Fr g w w'

theorem com_out {s : ByteArray} {i : Nat} (h : ¬ (i < s.size ∧ bt s i ≠ 10 ∧ bt s i ≠ 13)) : com s i = .ok i := by rw [com, dif_neg h]
theorem com_err {s : ByteArray} {i : Nat} (h : i < s.size ∧ bt s i ≠ 10 ∧ bt s i ≠ 13) (hs : src s i = none) : com s i = .error i := by rw [com, dif_pos h, hs]
theorem com_on {s : ByteArray} {i c k : Nat} (h : i < s.size ∧ bt s i ≠ 10 ∧ bt s i ≠ 13) (hs : src s i = some (c, k)) : com s i = com s (i + k) := by
  have := src_some hs
  rw [com, dif_pos h, hs]
  simp only
  rw [if_neg (by omega)]
theorem com_le {s : ByteArray} {i j : Nat} (h : com s i = .ok j) (hi : i ≤ s.size) : i ≤ j ∧ j ≤ s.size := by
  by_cases hc : i < s.size ∧ bt s i ≠ 10 ∧ bt s i ≠ 13
  · cases hs : src s i with
    | none => rw [com_err hc hs] at h; cases h
    | some p =>
      obtain ⟨c, k⟩ := p
      have := src_some hs
      rw [com_on hc hs] at h
      have := com_le h (by omega)
      omega
  · rw [com_out hc] at h
    cases h
    exact ⟨Nat.le_refl _, hi⟩
termination_by s.size - i
theorem com_lt {s : ByteArray} {i j : Nat} (h : com s i = .ok j) (hi : i < s.size) (hb : bt s i = 35) : i < j := by
  have hc : i < s.size ∧ bt s i ≠ 10 ∧ bt s i ≠ 13 := ⟨hi, by omega, by omega⟩
  cases hs : src s i with
  | none => rw [com_err hc hs] at h; cases h
  | some p =>
    obtain ⟨c, k⟩ := p
    have := src_some hs
    rw [com_on hc hs] at h
    have := com_le h (by omega)
    omega
theorem ign_out {s : ByteArray} {i : Nat} (h : ¬ i < s.size) : ign s i = .ok i := by rw [ign, dif_neg h]
theorem ign_1 {s : ByteArray} {i : Nat} (h : i < s.size) (h1 : isIgn (bt s i) = true) : ign s i = ign s (i + 1) := by rw [ign, dif_pos h, if_pos h1]
theorem ign_2 {s : ByteArray} {i : Nat} (h : i < s.size) (h1 : isIgn (bt s i) = false) (h2 : pre s i [239, 187, 191] = true) : ign s i = ign s (i + 3) := by rw [ign, dif_pos h, if_neg (by rw [h1]; decide), if_pos h2]
theorem ign_3e {s : ByteArray} {i p : Nat} (h : i < s.size) (h1 : isIgn (bt s i) = false) (h2 : pre s i [239, 187, 191] = false) (h3 : bt s i = 35) (hc : com s i = .error p) : ign s i = .error p := by
  rw [ign, dif_pos h, if_neg (by rw [h1]; decide), if_neg (by rw [h2]; decide), if_pos h3, hc]
theorem ign_3o {s : ByteArray} {i j : Nat} (h : i < s.size) (h1 : isIgn (bt s i) = false) (h2 : pre s i [239, 187, 191] = false) (h3 : bt s i = 35) (hc : com s i = .ok j) : ign s i = ign s j := by
  have := com_lt hc h h3
  rw [ign, dif_pos h, if_neg (by rw [h1]; decide), if_neg (by rw [h2]; decide), if_pos h3, hc]
  simp only
  rw [if_pos this]
theorem ign_4 {s : ByteArray} {i : Nat} (h : i < s.size) (h1 : isIgn (bt s i) = false) (h2 : pre s i [239, 187, 191] = false) (h3 : ¬ bt s i = 35) : ign s i = .ok i := by
  rw [ign, dif_pos h, if_neg (by rw [h1]; decide), if_neg (by rw [h2]; decide), if_neg h3]

def ignT : ByteArray := ⟨#[32, 9, 10, 13, 44]⟩
theorem ign_set : SetOf ignT isIgn := by
  unfold SetOf ignT
  decide +kernel
def markT : ByteArray := ⟨#[239, 187, 191]⟩

theorem pre_size {s : ByteArray} {i : Nat} {p : List UInt8} (h : pre s i p = true) : p.length ≤ s.size - i := by
  unfold pre at h
  rw [← Lib.hasPrefix_of_take, Bool.and_eq_true, decide_eq_true_eq] at h
  simpa using h.1
theorem meas_lt {g : Nat} {w w' : World} {s : ByteArray} {i j f n f' n' : Nat} (h : RD w g s i f n) (h' : RD w' g s j f' n') (hl : i < j) (hj : j ≤ s.size) : s.size - YtibgigffedejpaaGreatDoor.atOf g w' < s.size - YtibgigffedejpaaGreatDoor.atOf g w := by
  rw [h.atOf, h'.atOf]; omega

theorem Fr.cell {g : Nat} {w w' : World} (h : Fr g w w') {p : Addr} {v : Value} (hp : p.block ≠ g) (hc : w.cell? p = some v) : w'.cell? p = some v := by
  have hlt : p.block < w.heap.size := by
    refine Nat.lt_of_not_le fun hl => ?_
    unfold World.cell? at hc
    rw [Array.getElem?_eq_none hl] at hc
    cases hc
  unfold World.cell? at *
  rw [h.block p.block hlt hp]
  exact hc
theorem Fr.env {g : Nat} {w w' : World} (h : Fr g w w') (hg : 3 ≤ g) (E : Env w) : Env w' :=
  ⟨⟨fun c hc => h.cell (by simp; omega) (E.tabs.1 c hc), fun i hi => ⟨h.cell (by simp; omega) (E.tabs.2 i hi).1, h.cell (by simp; omega) (E.tabs.2 i hi).2⟩⟩,
   let ⟨m, hm⟩ := E.maxl; ⟨m, h.cell (by simp; omega) hm⟩, Nat.le_trans E.glob h.size⟩

set_option maxRecDepth 100000 in
set_option maxHeartbeats 4000000 in
theorem ignored_c (w : World) (g : Nat) (s : ByteArray) (i f n : Nat) (r : Except Nat Nat) (h : RD w g s i f n) (hi : i ≤ s.size) (hs : s.size ≤ 16384) (hg : 3 ≤ g) (E : Env w) (hr : ign s i = r) :
    Calls Tryz.prog 67 #[.pointer (some ⟨g, 0, none⟩)] w (IgnPost g s n w r) := by
  have H := Sd.mk h
  clear h
  have HR := Sd.mk hr
  clear hr
  go_enter Tryz.func67, Tryz.ntmps67
  go_wp2
  go_loopw [] (fun wr => ∃ q f' : Nat, Sd (RD wr g s q f' n) ∧ Sd (Fr g w wr) ∧ Sd (ign s q = r) ∧ q ≤ s.size) (fun wr => s.size - atOf g wr)
  case atStart => exact ⟨i, f, H, ⟨Fr.refl _ _⟩, HR, hi⟩
  case round =>
    obtain ⟨q, f', H1, HF, HQ, hq⟩ := hrel
    have h0 := H1.out.c0
    have h1 := H1.out.c1
    have f1 := H1.out.fz 1
    by_cases hc : q < s.size
    · have p1 : (0 ≤ (q : Int)) = True := by simp
      have p2 : ((q : Int) < (s.size : Int)) = True := by simp; omega
      have cI := fun w => Tryz.strings_IndexByte ignT (s[q].toNat) w
      have hx : decide (0 ≤ Lib.indexByte ignT.data.toList ((s[q].toNat : Int)).toNat.toUInt8) = isIgn (bt s q) := by
        rw [nat_u8 s q hc]; exact ign_set _ (bt_lt s q)
      generalize Lib.indexByte ignT.data.toList ((s[q].toNat : Int)).toNat.toUInt8 = ix at cI hx
      cases hp : isIgn (bt s q) with
      | true =>
        rw [hp] at hx
        have HP := Sd.mk hp
        clear hp
        go_wp2_with fail
        repeat (go_quiet ((go_at_call 83; refine Calls.quiet_of_same (cI _))); try (go_wp2_with (go_at_call 83; refine (cI _).mono ?_; rintro e w1 ⟨rfl, rfl⟩)))
        go_roundw
        case rel => exact ⟨q + 1, f', ⟨(H1.out.drewN _).set1 (q + 1)⟩, ⟨(HF.out.drewN _).setCell (.inl rfl) _⟩, ⟨by rw [← ign_1 hc HP.out]; exact HQ.out⟩, by omega⟩
        case measure => exact meas_lt H1.out ((H1.out.drewN _).set1 (q + 1)) (by omega) (by omega)
      | false =>
        rw [hp] at hx
        have HP := Sd.mk hp
        clear hp
        obtain ⟨b, hb⟩ : ∃ b, pre s q markT.data.toList = b := ⟨_, rfl⟩
        have cH := fun w (h : RD w g s q f' n) => has_c w g s q f' n markT b h hq hs hb
        have HB := Sd.mk hb
        clear hb
        cases b with
        | true =>
          have hle : q + 3 ≤ s.size := by have := pre_size HB.out; simp [markT] at this; omega
          go_wp2_with fail
          go_quiet (fail)
          go_wp2
          go_quiet (fail)
          go_wp2_with (first | (go_at_call 83; refine (cI _).mono ?_; rintro e w1 ⟨rfl, rfl⟩) | (go_at_call 84; refine (cH _ (H1.out.drewN _)).mono ?_; rintro e w1 ⟨rfl, ⟨q1, rfl⟩⟩))
          go_roundw
          case rel => exact ⟨q + 3, f', ⟨(H1.out.drewN _).set1 (q + 3)⟩, ⟨(HF.out.drewN _).setCell (.inl rfl) _⟩, ⟨by rw [← ign_2 hc HP.out HB.out]; exact HQ.out⟩, by omega⟩
          case measure => exact meas_lt H1.out ((H1.out.drewN _).set1 (q + 3)) (by omega) (by omega)
        | false =>
          by_cases h35 : bt s q = 35
          · have e35 : ((s[q].toNat : Int) == 35) = true := by rw [bt_at s q hc]; simp [h35]
            go_wp2_with fail
            go_quiet (fail)
            go_wp2
            go_quiet (fail)
            go_wp2_with (first | (go_at_call 83; refine (cI _).mono ?_; rintro e w1 ⟨rfl, rfl⟩) | (go_at_call 84; refine (cH _ (H1.out.drewN _)).mono ?_; rintro e w1 ⟨rfl, ⟨q1, rfl⟩⟩))
            go_loopw [] (fun wr2 => ∃ q2 f2 : Nat, Sd (RD wr2 g s q2 f2 n) ∧ Sd (Fr g w wr2) ∧ Sd (com s q = com s q2) ∧ q2 ≤ s.size) (fun wr => s.size - atOf g wr)
            case atStart => exact ⟨q, f', ⟨H1.out.drewN _⟩, ⟨HF.out.drewN _⟩, ⟨rfl⟩, hq⟩
            case round =>
              obtain ⟨q2, f2, H2, HF2, HC2, hq2⟩ := hrel
              have k0 := H2.out.c0
              have k1 := H2.out.c1
              have k3 := H2.out.c2
              have k2 := H2.out.fz 2
              by_cases hc2 : q2 < s.size ∧ bt s q2 ≠ 10 ∧ bt s q2 ≠ 13
              · obtain ⟨hl2, hn1, hn2⟩ := hc2
                have p3 : (0 ≤ (q2 : Int)) = True := by simp
                have p4 : ((q2 : Int) < (s.size : Int)) = True := by simp; omega
                have p5 : ((s[q2].toNat : Int) != 10) = true := by rw [bt_at s q2 hl2]; simp; omega
                have p6 : ((s[q2].toNat : Int) != 13) = true := by rw [bt_at s q2 hl2]; simp; omega
                cases hsr : src s q2 with
                | some p =>
                  obtain ⟨c, k⟩ := p
                  have hk := src_some hsr
                  have cS := fun w (h : RD w g s q2 q2 n) (E : Env w) => source_some w g s q2 q2 n c k h hq2 hs E.tabs hsr
                  have HC3 : Sd (com s q = com s (q2 + k)) := ⟨by rw [HC2.out, com_on ⟨hl2, hn1, hn2⟩ hsr]⟩
                  have hk1 := hk.2.1
                  have hk2 := hk.2.2.2.2.2.1
                  clear hk hsr hn1 hn2 hx
                  go_wp2_with fail
                  go_quiet (fail)
                  go_wp2_with (first | (go_at_call 85; refine (cS _ (H2.out.drewN _ |>.set2 q2) ((((HF2.out.drewN _).setCell (.inl rfl) _)).env hg E)).mono ?_; rintro e w3 ⟨rfl, h3, hf3⟩; have H3 := Sd.mk h3; have HF3 := Sd.mk ((((HF2.out.drewN _).setCell (.inl rfl) _)).trans hf3); clear h3 hf3) | (go_at_call 86; refine (must_t _ g 50).mono ?_; rintro e w4 ⟨rfl, rfl⟩))
                  go_roundw
                  case rel => exact ⟨q2 + k, q2, H3, HF3, HC3, hk2⟩
                  case measure => exact meas_lt H2.out H3.out (by omega) hk2
                | none =>
                  have cS := fun w (h : RD w g s q2 q2 n) (E : Env w) => source_none w g s q2 q2 n h hq2 hs E.tabs hsr
                  have HC3 : Sd (com s q = .error q2) := ⟨by rw [HC2.out, com_err ⟨hl2, hn1, hn2⟩ hsr]⟩
                  clear hsr hn1 hn2 hx
                  go_wp2_with fail
                  go_quiet (fail)
                  go_wp2_with (first | (go_at_call 85; refine (cS _ (H2.out.drewN _ |>.set2 q2) ((((HF2.out.drewN _).setCell (.inl rfl) _)).env hg E)).mono ?_; rintro e w3 ⟨rfl, h3, hf3⟩; have H3 := Sd.mk h3; have HF3 := Sd.mk ((((HF2.out.drewN _).setCell (.inl rfl) _)).trans hf3); clear h3 hf3) | (go_at_call 86; refine (must_f _ g s _ q2 n 50 H3.out).mono ?_; rintro e w4 ⟨rfl, rfl⟩))
                  have e : Except.error q2 = r := by rw [← HQ.out, ign_3e hc HP.out HB.out h35 HC3.out]
                  rw [← e]
                  exact ⟨rfl, rfl, HF3.out⟩
              · have hout : com s q = .ok q2 := by rw [HC2.out, com_out hc2]
                have hlt := com_lt hout hc h35
                have HO : Sd (ign s q2 = r) := ⟨by rw [← HQ.out, ign_3o hc HP.out HB.out h35 hout]⟩
                clear hout
                by_cases hl2 : q2 < s.size
                · have p3 : (0 ≤ (q2 : Int)) = True := by simp
                  have p4 : ((q2 : Int) < (s.size : Int)) = True := by simp; omega
                  by_cases hn1 : bt s q2 = 10
                  · have p5 : ((s[q2].toNat : Int) != 10) = false := by rw [bt_at s q2 hl2]; simp; omega
                    clear hc2 hn1
                    go_wp2_with fail
                    go_quiet (fail)
                    go_wp2
                    go_roundw
                    case rel => exact ⟨q2, f2, ⟨H2.out.drewN _⟩, ⟨HF2.out.drewN _⟩, HO, hq2⟩
                    case measure => exact meas_lt H1.out (H2.out.drewN _) hlt hq2
                  · have p5 : ((s[q2].toNat : Int) != 10) = true := by rw [bt_at s q2 hl2]; simp; omega
                    have p6 : ((s[q2].toNat : Int) != 13) = false := by rw [bt_at s q2 hl2]; simp; omega
                    clear hc2 hn1
                    go_wp2_with fail
                    go_quiet (fail)
                    go_wp2
                    go_roundw
                    case rel => exact ⟨q2, f2, ⟨H2.out.drewN _⟩, ⟨HF2.out.drewN _⟩, HO, hq2⟩
                    case measure => exact meas_lt H1.out (H2.out.drewN _) hlt hq2
                · have p4 : decide ((q2 : Int) < (s.size : Int)) = false := by simp; omega
                  clear hc2
                  go_wp2_with fail
                  go_quiet (fail)
                  go_wp2
                  go_roundw
                  case rel => exact ⟨q2, f2, ⟨H2.out.drewN _⟩, ⟨HF2.out.drewN _⟩, HO, hq2⟩
                  case measure => exact meas_lt H1.out (H2.out.drewN _) hlt hq2
          · have e35 : ((s[q].toNat : Int) == 35) = false := by rw [bt_at s q hc]; simp; omega
            go_wp2_with fail
            go_quiet (fail)
            go_wp2
            go_quiet (fail)
            go_wp2_with (first | (go_at_call 83; refine (cI _).mono ?_; rintro e w1 ⟨rfl, rfl⟩) | (go_at_call 84; refine (cH _ (H1.out.drewN _)).mono ?_; rintro e w1 ⟨rfl, ⟨q1, rfl⟩⟩))
            have e : Except.ok q = r := by rw [← HQ.out, ign_4 hc HP.out HB.out h35]
            rw [← e]
            go_end0
            exact ⟨rfl, ⟨f', H1.out⟩, HF.out.drewN _⟩
    · have p2 : decide ((q : Int) < (s.size : Int)) = false := by simp; omega
      go_wp2_with fail
      go_quiet (fail)
      go_wp2
      have e : Except.ok q = r := by rw [← HQ.out, ign_out hc]
      rw [← e]
      go_end0
      exact ⟨rfl, ⟨f', H1.out⟩, HF.out.drewN _⟩
end Go.Proofs.YtibgigffedejpaaGreatDoor
namespace Go.Proofs.YtibgigffedejpaaGreatDoor
set_option linter.unusedVariables false
set_option linter.unusedSimpArgs false
open Go.RowKit
set_option linter.unusedVariables false
set_option linter.unusedSimpArgs false

theorem low_hex : ∀ c : Nat, c < 256 → isHex c = true → isDigit c = false → bits .or .u8 (c : Int) 32 = ((hexV c : Nat) : Int) + 87 := by
  decide +kernel
theorem hex_facts : ∀ c : Nat, c < 256 → isHex c = true → isDigit c = false → 10 ≤ hexV c ∧ hexV c ≤ 15 ∧ 58 ≤ c ∧ c ≠ 95 := by
  decide +kernel
theorem dig_facts : ∀ c : Nat, c < 256 → isDigit c = true → hexV c = c - 48 ∧ 48 ≤ c ∧ c ≤ 57 := by
  decide +kernel

theorem lower_c (c : Int) (w : World) :
    Calls Tryz.prog 134 #[.int .u8 c] w fun e w' => e = .returned (.int .u8 (bits .or .u8 c 32)) ∧ w' = w := by
  go_enter Tryz.func134, Tryz.ntmps134
  go_wp2
  go_ret
  exact ⟨rfl, rfl⟩

def hexN : List UInt8 → Nat → Nat
  | [], a => a
  | c :: l, a => hexN l (a * 16 + hexV c.toNat)

set_option maxHeartbeats 32000000 in
set_option maxRecDepth 100000 in
theorem parse16_c (t : ByteArray) (hne : t.size = 4) (hh : ∀ c ∈ t.data.toList, isHex c.toNat = true) (w : World) :
    Calls Tryz.prog 127 #[.string t, .int .i64 16, .int .i64 32] w fun e w' => e = .returned (.tuple #[.int .u64 (hexN t.data.toList 0), .nilIface]) ∧ Below w.heap.size w w' := by
  have hemp : t.toList.isEmpty = false := by
    rw [← decide_eq_emptyBytes]
    exact decide_eq_false (fun h => by rw [h] at hne; exact absurd hne (by decide))
  have hcv := Lib.run_convert_string_bytes (P := Tryz.prog) w 9 40 5 t (u := .string) Tryz.underlying9 Tryz.underlying40 Tryz.underlying5
  have hB : ∀ j, j < t.size → (Lib.bytesWorld w 5 t).cell? ⟨w.heap.size, j, none⟩ = some (.int .u8 (t.data.toList.getD j 0).toNat) := fun j hj => Lib.bytesWorld_cell w 5 t j hj
  have hbl : Below w.heap.size w (Lib.bytesWorld w 5 t) := by
    refine ⟨?_, ?_, ?_, ?_, fun k hk => Lib.bytesWorld_at_old w 5 t k hk⟩
    · simp [Lib.bytesWorld, World.freeze, World.alloc, World.drew, -World.alloc_eq, -World.drew_eq]
    · simp [Lib.bytesWorld, World.freeze, World.alloc, World.drew, -World.alloc_eq, -World.drew_eq]
    · simp [Lib.bytesWorld, World.freeze, World.alloc, World.drew, -World.alloc_eq, -World.drew_eq]
    · rw [Lib.bytesWorld_size]; omega
  obtain ⟨W1, hW1⟩ : ∃ W1, W1 = Lib.bytesWorld w 5 t := ⟨_, rfl⟩
  rw [← hW1] at hcv hB hbl
  clear hW1
  obtain ⟨bs, hL⟩ : ∃ bs, bs = t.data.toList := ⟨_, rfl⟩
  have hLn : bs.length = t.size := by rw [hL, Lib.size_eq]
  rw [← hL] at hB hh ⊢
  clear hL
  have hmv : IntKind.u64.wrap (IntKind.u64.wrap 4294967296 - 1) = 4294967295 := by
    rw [IntKind.wrap_u64, IntKind.wrap_u64]
    decide
  have HH := Sd.mk hh
  clear hh
  have HBL := Sd.mk hbl
  clear hbl
  go_enter Tryz.func127, Tryz.ntmps127
  go_wp2
  go_loopw [12, 13, 101] (fun vu vn vi wr => ∃ (k acc : Nat) (a : Int), vu = .bool false ∧ vn = .int .u64 a ∧ vi = .int .i64 k ∧ k ≤ t.size ∧ Sd (a = (acc : Int) ∧ acc < 16 ^ k ∧ hexN bs 0 = hexN (bs.drop k) acc) ∧ wr = W1)
    (fun _ _ vi _ => t.size - (intOf vi).toNat)
  case atStart => exact ⟨0, 0, 0, rfl, rfl, rfl, by omega, ⟨rfl, by decide, rfl⟩, rfl⟩
  case round =>
    obtain ⟨k, acc, a, rfl, rfl, rfl, hk, hs, rfl⟩ := hrel
    obtain ⟨ha, hacc, hdec⟩ := hs.out
    clear hs
    by_cases hkn : k < t.size
    · have hc := hB k hkn
      have hdrop : bs.drop k = bs[k]'(by omega) :: bs.drop (k + 1) := List.drop_eq_getElem_cons (by omega)
      have hget : bs.getD k 0 = bs[k]'(by omega) := by simp [List.getD, List.getElem?_eq_getElem (show k < bs.length by omega)]
      have hx := HH.out (bs[k]'(by omega)) (List.getElem_mem _)
      rw [hdrop] at hdec
      rw [hget] at hc
      generalize bs[k]'(by omega) = c at hc hdec hx
      have hc256 : c.toNat < 256 := c.toNat_lt
      have hacc2 : acc < 4096 := Nat.lt_of_lt_of_le hacc (by rw [show 4096 = 16 ^ 3 from rfl]; exact Nat.pow_le_pow_right (by decide) (by omega))
      have a0 : 0 ≤ a := by omega
      have a1 : a < 4096 := by omega
      obtain ⟨d, hd⟩ : ∃ d, hexV c.toNat = d := ⟨_, rfl⟩
      have hd15 : d ≤ 15 := by
        cases hg : isDigit c.toNat with
        | true => have := dig_facts _ hc256 hg; omega
        | false => have := hex_facts _ hc256 hx hg; omega
      have HN : Sd (a * 16 + (d : Int) = ((acc * 16 + d : Nat) : Int) ∧ acc * 16 + d < 16 ^ (k + 1) ∧ hexN bs 0 = hexN (bs.drop (k + 1)) (acc * 16 + d)) :=
        ⟨by omega, by rw [Nat.pow_succ]; omega, by rw [hdec, hexN, hd]⟩
      clear hB hdrop hget hdec hacc ha
      cases hg : isDigit c.toNat with
      | true =>
        obtain ⟨e1, e2, e3⟩ := dig_facts _ hc256 hg
        have e4 : ((c.toNat : Nat) : Int) - 48 = (d : Int) := by omega
        clear hg hx hd e1
        go_wp2
        go_roundw
        case rel => exact ⟨k + 1, acc * 16 + d, a * 16 + d, rfl, (by first | rfl | (congr 1; omega)), (by first | rfl | (congr 1; omega)), by omega, HN, trivial⟩
        case measure => simp [intOf]; omega
      | false =>
        obtain ⟨e1, e2, e3, e4⟩ := hex_facts _ hc256 hx hg
        have e5 := low_hex _ hc256 hx hg
        rw [hd] at e1 e2 e5
        clear hg hx hd
        go_wp2_with (go_at_call 134; refine (lower_c _ _).mono ?_; rintro e w' ⟨rfl, rfl⟩)
        go_roundw
        case rel => exact ⟨k + 1, acc * 16 + d, a * 16 + d, rfl, (by first | rfl | (congr 1; omega)), (by first | rfl | (congr 1; omega)), by omega, HN, trivial⟩
        case measure => simp [intOf]; omega
    · have hkk : k = t.size := by omega
      subst hkk
      have hF : hexN (bs.drop t.size) acc = acc := by rw [List.drop_eq_nil_of_le (by omega)]; rfl
      rw [hF] at hdec
      subst ha
      clear hacc hF
      go_wp2
      go_ret2
      exact ⟨by rw [hdec]; rfl, HBL.out⟩

theorem parseUint_c (t : ByteArray) (hne : t.size = 4) (hh : ∀ c ∈ t.data.toList, isHex c.toNat = true) (w : World) (v : Nat) (hv : hexN t.data.toList 0 = v) :
    Calls Tryz.prog 118 #[.string t, .int .i64 16, .int .i64 32] w fun e w' => e = .returned (.tuple #[.int .u64 v, .nilIface]) ∧ Below w.heap.size w w' := by
  have c1 := parse16_c t hne hh w
  rw [hv] at c1
  clear hv hh
  go_enter Tryz.func118, Tryz.ntmps118
  go_wp2_with (go_at_call 127; refine c1.mono ?_; rintro e w1 ⟨rfl, hb⟩; have HB := Sd.mk hb; clear hb)
  go_ret2
  exact ⟨rfl, HB.out⟩
end Go.Proofs.YtibgigffedejpaaGreatDoor
namespace Go.Proofs.YtibgigffedejpaaGreatDoor
set_option linter.unusedVariables false
set_option linter.unusedSimpArgs false
open Go.RowKit
set_option linter.unusedVariables false
set_option linter.unusedSimpArgs false

theorem unit_small : ∀ n : Nat, n < 2048 → (unit n).toArray = (Utf8.encode n).data := by
  decide +kernel
theorem i32_small (n : Int) (h0 : 0 ≤ n) (h1 : n < 2147483648) : IntKind.i32.wrap n = n := by
  simp [IntKind.wrap, IntKind.bits, IntKind.signed]
  split <;> omega
theorem valid_rune {n : Int} (hv : Lib.validRune n = true) : Utf8.valid n = true := by
  simp only [Lib.validRune, decide_eq_true_eq] at hv
  simp only [Utf8.valid, Bool.or_eq_true, Bool.and_eq_true, decide_eq_true_eq]
  omega
theorem unit_encode {n : Int} (h0 : 0 ≤ n) (hn : n < 65536) (hv : Lib.validRune n = true) : Utf8.encode n = ⟨(unit n.toNat).toArray⟩ := by
  unfold Utf8.encode unit
  rw [if_pos (valid_rune hv)]
  simp only
  obtain ⟨m, rfl⟩ : ∃ m : Nat, n = m := ⟨n.toNat, by omega⟩
  simp only [Int.toNat_natCast]
  have hm : m < 65536 := by omega
  split
  · rfl
  · split
    · rfl
    · first | rfl | (rw [if_pos hm]; rfl)

theorem put_ok (n : Int) (h0 : 0 ≤ n) (hn : n < 65536) (hv : Lib.validRune n = true) (w : World) :
    Calls Tryz.prog 119 #[.int .i64 n] w fun e w' => e = .returned (.tuple #[.string ⟨(unit n.toNat).toArray⟩, .int .i64 0]) ∧ w' = w := by
  have cV := Tryz.utf8_ValidRune n w
  have hE := Sd.mk (unit_encode h0 hn hv)
  rw [hv] at cV
  have h2 : IntKind.i32.wrap n = n := i32_small n h0 (by omega)
  clear hv
  go_enter Tryz.func119, Tryz.ntmps119
  go_wp2_with (go_at_call 122; refine cV.mono ?_; rintro e w1 ⟨rfl, rfl⟩)
  go_ret2
  exact ⟨by rw [← hE.out]; rfl, rfl⟩
theorem put_no (n : Int) (h0 : 0 ≤ n) (hn : n < 65536) (hv : Lib.validRune n = false) (w : World) :
    Calls Tryz.prog 119 #[.int .i64 n] w fun e w' => e = .returned (.tuple #[.string ⟨#[]⟩, .int .i64 10]) ∧ w' = w := by
  have cV := Tryz.utf8_ValidRune n w
  rw [hv] at cV
  have h2 : IntKind.i32.wrap n = n := i32_small n h0 (by omega)
  clear hv
  go_enter Tryz.func119, Tryz.ntmps119
  go_wp2_with (go_at_call 122; refine cV.mono ?_; rintro e w1 ⟨rfl, rfl⟩)
  go_ret2
  exact ⟨rfl, rfl⟩
theorem wraps_i64_62 (n : Int) (h₀ : 0 ≤ n) (h₁ : n < 2 ^ 62) : IntKind.i64.wrap n = n := by
  simp [IntKind.wrap, IntKind.bits, IntKind.signed]
  split <;> omega
theorem conv3 (w : World) (x y z : Int) (hx : 0 ≤ x) (hx2 : x < 256) (hy : 0 ≤ y) (hy2 : y < 256) (hz : 0 ≤ z) (hz2 : z < 256) :
    Sem.run Tryz.prog (convert 40 9 (.slice (some ⟨w.heap.size, 0, none⟩) 3 3)) (w.alloc (.cells #[.int .u8 x, .int .u8 y, .int .u8 z] 5)) =
      .ok (.string ⟨#[x.toNat.toUInt8, y.toNat.toUInt8, z.toNat.toUInt8]⟩) (w.alloc (.cells #[.int .u8 x, .int .u8 y, .int .u8 z] 5)) := by
  refine run_convert_bytes_back (P := Tryz.prog) (w.alloc (.cells #[.int .u8 x, .int .u8 y, .int .u8 z] 5)) 40 9 5 ⟨w.heap.size, 0, none⟩ 3 [x.toNat.toUInt8, y.toNat.toUInt8, z.toNat.toUInt8] Tryz.underlying40 Tryz.underlying5 Tryz.underlying9 (fun j hj => ?_)
  have b : ∀ u : Int, 0 ≤ u → u < 256 → ((u.toNat.toUInt8.toNat : Nat) : Int) = u := fun u h1 h2 => by
    simp only [Nat.toUInt8, UInt8.toNat_ofNat']; omega
  match j, hj with
  | 0, _ => simp [World.cell?, World.alloc, -World.alloc_eq, Addr.add, b x hx hx2]; omega
  | 1, _ => simp [World.cell?, World.alloc, -World.alloc_eq, Addr.add, b y hy hy2]; omega
  | 2, _ => simp [World.cell?, World.alloc, -World.alloc_eq, Addr.add, b z hz hz2]; omega
set_option maxRecDepth 100000 in
theorem three_c (n : Int) (h0 : 0 ≤ n) (hn : n < 65536) (h2 : 2048 ≤ n) (w : World) :
    Calls Tryz.prog 120 #[.int .i64 n] w fun e w' => e = .returned (.string ⟨(unit n.toNat).toArray⟩) ∧ Below w.heap.size w w' := by
  have m1 : bits .and .i64 (n / 64) 63 = n / 64 % 64 := bits_mask .i64 62 (by decide) wraps_i64_62 6 (by decide) (n / 64) (by omega) (by omega)
  have m2 : bits .and .i64 n 63 = n % 64 := bits_mask .i64 62 (by decide) wraps_i64_62 6 (by decide) n (by omega) (by omega)
  have k1 : wrap64 (128 + n / 64 % 64) = 128 + n / 64 % 64 := by simp [wrap64]; omega
  have k2 : wrap64 (128 + n % 64) = 128 + n % 64 := by simp [wrap64]; omega
  have hcv := conv3 w (224 + n / 4096) (128 + n / 64 % 64) (128 + n % 64) (by omega) (by omega) (by omega) (by omega) (by omega) (by omega)
  have hu : Sd (#[(224 + n / 4096).toNat.toUInt8, (128 + n / 64 % 64).toNat.toUInt8, (128 + n % 64).toNat.toUInt8] = (unit n.toNat).toArray) := ⟨by
    obtain ⟨m, rfl⟩ : ∃ m : Nat, n = m := ⟨n.toNat, by omega⟩
    unfold unit
    simp only [Int.toNat_natCast]
    rw [if_neg (by omega), if_neg (by omega)]
    congr 3⟩
  go_enter Tryz.func120, Tryz.ntmps120
  go_wp2
  go_ret
  exact ⟨by rw [← hu.out]; rfl, (Below.refl _ w).alloc (Nat.le_refl _) _⟩
end Go.Proofs.YtibgigffedejpaaGreatDoor
namespace Go.Proofs.YtibgigffedejpaaGreatDoor
set_option linter.unusedVariables false
set_option linter.unusedSimpArgs false
open Go.RowKit
set_option linter.unusedVariables false
set_option linter.unusedSimpArgs false

def EscPost (g : Nat) (s : ByteArray) (f n : Nat) (w : World) (r : Option (List UInt8 × Nat)) (e : Ending) (w' : World) : Prop :=
  match r with
  | some (t, j) => e = .returned (.string ⟨t.toArray⟩) ∧ RD w' g s j f n ∧ Fr g w w'
  | none => e = .panicked (wrC f 52) ∧ Fr g w w'

def signsT : ByteArray := ⟨#[34, 92, 47, 98, 102, 110, 114, 116]⟩
def meansT : ByteArray := ⟨#[34, 92, 47, 8, 12, 10, 13, 9]⟩
def hexT : ByteArray := ⟨#[48, 49, 50, 51, 52, 53, 54, 55, 56, 57, 97, 98, 99, 100, 101, 102, 65, 66, 67, 68, 69, 70]⟩
theorem hex_set : SetOf hexT isHex := by
  unfold SetOf hexT
  decide +kernel
def sgnOk (c : Nat) : Bool :=
  match sign c with
  | none => decide (Lib.indexByte signsT.data.toList c.toUInt8 < 0)
  | some b => decide (0 ≤ Lib.indexByte signsT.data.toList c.toUInt8) && decide (Lib.indexByte signsT.data.toList c.toUInt8 < 8) && decide (meansT.extract (Lib.indexByte signsT.data.toList c.toUInt8).toNat (Lib.indexByte signsT.data.toList c.toUInt8 + 1).toNat = ⟨#[b]⟩)
theorem sgn_ok : ∀ c, c < 256 → sgnOk c = true := by
  decide +kernel
theorem sgn_none {c : Nat} (hc : c < 256) (h : sign c = none) : Lib.indexByte signsT.data.toList c.toUInt8 < 0 := by
  have := sgn_ok c hc
  unfold sgnOk at this
  rw [h] at this
  simpa using this
theorem sgn_some {c : Nat} {b : UInt8} (hc : c < 256) (h : sign c = some b) : 0 ≤ Lib.indexByte signsT.data.toList c.toUInt8 ∧ Lib.indexByte signsT.data.toList c.toUInt8 < 8 ∧ meansT.extract (Lib.indexByte signsT.data.toList c.toUInt8).toNat (Lib.indexByte signsT.data.toList c.toUInt8 + 1).toNat = ⟨#[b]⟩ := by
  have := sgn_ok c hc
  unfold sgnOk at this
  rw [h] at this
  simp only [Bool.and_eq_true, decide_eq_true_eq] at this
  exact ⟨this.1.1, this.1.2, this.2⟩

theorem bt_u8 (s : ByteArray) (i : Nat) (h : i < s.size) : s.data[i]'h = (bt s i).toUInt8 := by
  rw [← bt_at s i h]
  simp
  rfl
theorem ext4 (s : ByteArray) (a : Nat) (h : a + 4 ≤ s.size) : (s.extract a (a + 4)).data.toList = [(bt s a).toUInt8, (bt s (a + 1)).toUInt8, (bt s (a + 2)).toUInt8, (bt s (a + 3)).toUInt8] := by
  have hs : s.data.size = s.size := rfl
  refine List.ext_getElem (by simp; omega) (fun j h1 h2 => ?_)
  have e : (s.extract a (a + 4)).data.toList[j]'h1 = s.data[a + j]'(by simp at h2; omega) := by simp
  rw [e, bt_u8 s (a + j) (by simp at h2; omega)]
  match j, h2 with
  | 0, _ => rfl
  | 1, _ => rfl
  | 2, _ => rfl
  | 3, _ => rfl
theorem bt_back (s : ByteArray) (i : Nat) : (bt s i).toUInt8.toNat = bt s i := by
  have := bt_lt s i
  simp only [Nat.toUInt8, UInt8.toNat_ofNat']; omega
theorem hexN4 (s : ByteArray) (a : Nat) (h : a + 4 ≤ s.size) : hexN (s.extract a (a + 4)).data.toList 0 = hex4 s a := by
  rw [ext4 s a h]
  simp only [hexN, bt_back, hex4]
  omega
theorem isHex4 (s : ByteArray) (a : Nat) (h : a + 4 ≤ s.size) (hx : ∀ k, k < 4 → isHex (bt s (a + k)) = true) : ∀ c ∈ (s.extract a (a + 4)).data.toList, isHex c.toNat = true := by
  rw [ext4 s a h]
  intro c hc
  simp only [List.mem_cons, List.not_mem_nil, or_false] at hc
  rcases hc with rfl | rfl | rfl | rfl <;> rw [bt_back]
  · exact hx 0 (by decide)
  · exact hx 1 (by decide)
  · exact hx 2 (by decide)
  · exact hx 3 (by decide)
theorem hexV_lt : ∀ c : Nat, c < 256 → isHex c = true → hexV c < 16 := by
  decide +kernel
theorem hex4_lt (s : ByteArray) (a : Nat) (hx : ∀ k, k < 4 → isHex (bt s (a + k)) = true) : hex4 s a < 65536 := by
  have h0 := hexV_lt _ (bt_lt s (a + 0)) (hx 0 (by decide))
  have h1 := hexV_lt _ (bt_lt s (a + 1)) (hx 1 (by decide))
  have h2 := hexV_lt _ (bt_lt s (a + 2)) (hx 2 (by decide))
  have h3 := hexV_lt _ (bt_lt s (a + 3)) (hx 3 (by decide))
  simp only [Nat.add_zero] at h0
  unfold hex4
  omega
end Go.Proofs.YtibgigffedejpaaGreatDoor
