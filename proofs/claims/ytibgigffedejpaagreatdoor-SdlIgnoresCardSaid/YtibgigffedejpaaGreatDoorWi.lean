import Derived.Test.YtibgigffedejpaaGreatDoorWh
import Derived.Lib.AppendStr
import Derived.Laws.IdiomStrings
import Derived.StillTailTactics
import Derived.Laws.BitsLemmas
import Derived.Lib.BufferRead
namespace Go.Proofs.YtibgigffedejpaaGreatDoor
set_option linter.unusedVariables false
set_option linter.unusedSimpArgs false
open Go.RowKit
set_option linter.unusedVariables false
set_option linter.unusedSimpArgs false

/-! ### SdlIgnores -/
def sepT : Nat → ByteArray
  | 0 => ⟨#[32]⟩
  | 1 => ⟨#[44]⟩
  | 2 => ⟨#[35, 120, 10]⟩
  | _ => ⟨#[9, 13, 10]⟩
/-- The tokens, each behind what is ignored. -/
def gapT (s : ByteArray) : List (Nat × Nat × Nat) → List Nat → List UInt8
  | (k, i, j) :: ks, g :: gs => (sepT g).data.toList ++ ((s.extract i j).data.toList ++ gapT s ks gs)
  | _, _ => []
/-- What is asked of the lexer and the parser. -/
structure LawI (s : ByteArray) : Prop where
  place : ∀ p e, parseT s = .error (p, e) → p ≤ s.size
  keys : ∀ ks, toks s = (ks, none) → s.size ≤ 16384 ∧ ks.length ≤ 2048 ∧ ∀ x ∈ ks, x.2.1 ≤ x.2.2 ∧ x.2.2 ≤ s.size
  bad : ∀ ks gs p e, toks s = (ks, none) → gs.length = ks.length → (∀ g ∈ gs, g < 4) → (gapT s ks gs).length ≤ 16384 → parseT s = .error (p, e) → ∃ q, parseT ⟨(gapT s ks gs).toArray⟩ = .error (q, e)
  good : ∀ ks gs sc, toks s = (ks, none) → gs.length = ks.length → (∀ g ∈ gs, g < 4) → (gapT s ks gs).length ≤ 16384 → parseT s = .ok sc → parseT ⟨(gapT s ks gs).toArray⟩ = .ok sc
  count : ∀ sc, parseT s = .ok sc → CntSc sc

set_option maxRecDepth 100000 in
set_option maxHeartbeats 16000000 in
theorem ignores_err (w : World) (s : ByteArray) (vg : Value) (hs : s.size ≤ 9223372036854775807) (E : Env w) (hL : LawI s) (ks : List (Nat × Nat × Nat)) (p : Nat) (e : Int) (ht : toks s = (ks, some (p, e))) :
    Calls Tryz.prog 6 #[.string s, vg] w fun e w' => e = .returned (.bool true) ∧ Below w.heap.size w w' := by
  have hp : parseT s = .error (p, e) := by unfold parseT; rw [ht]
  have hpl := hL.place p e hp
  have hne := parseT_err_ne hp
  have c1 := parse_c w s hs E _ hp
  have c2 := fun W E => fixed_c W E
  have c3 := fun W E => tokens_c W s hs E _ ht
  unfold ParsePost at c1
  unfold ReadPost at c3
  simp only at c1 c3
  have HE := Sd.mk E
  have e1 : (e == 0) = false := by simpa using hne
  have e2 : (e != 0) = true := by simpa using hne
  have e3 : decide (s.size < p) = false := by simp; omega
  clear hp hL ht hne
  go_enter Tryz.func6, Tryz.ntmps6
  go_upto_region 2 with (go_at_call 8; refine c1.mono ?_; rintro e' w1 ⟨rfl, h1⟩; have HB1 := Sd.mk h1; have HE1 := Sd.mk ((Fr.of_below (g := 3) h1).env (by decide) HE.out); clear h1)
  have HB2 := Sd.mk (HB1.out.alloc HB1.out.size (.cells #[.slice none 0 0, .slice none 0 0] 25))
  have HE2 : Sd (Env (w1.alloc (.cells #[.slice none 0 0, .slice none 0 0] 25))) := ⟨((Fr.refl 3 w1).alloc _).env (by decide) HE1.out⟩
  generalize w1.alloc (.cells #[.slice none 0 0, .slice none 0 0] 25) = w2 at HB2 HE2 ⊢
  clear c1 HB1 HE1
  go_wp2_with (first
    | (go_at_call 10; refine (c2 _ HE2.out).mono ?_; rintro e' w3 ⟨rfl, h1⟩; have HB3 := Sd.mk (HB2.out.trans ⟨h1.os, h1.tape, h1.output, h1.size, fun k hk => h1.block k (Nat.lt_of_lt_of_le hk HB2.out.size)⟩); have HE3 := Sd.mk ((Fr.of_below (g := 3) h1).env (by decide) HE2.out); clear h1)
    | (go_at_call 14; refine (c3 _ HE3.out).mono ?_; rintro e' w4 ⟨rfl, h1⟩; have HB4 := Sd.mk (HB3.out.trans ⟨h1.os, h1.tape, h1.output, h1.size, fun k hk => h1.block k (Nat.lt_of_lt_of_le hk HB3.out.size)⟩); clear h1))
  go_ret
  exact ⟨rfl, HB4.out⟩
end Go.Proofs.YtibgigffedejpaaGreatDoor
namespace Go.Proofs.YtibgigffedejpaaGreatDoor
set_option linter.unusedVariables false
set_option linter.unusedSimpArgs false
open Go.RowKit
set_option linter.unusedVariables false
set_option linter.unusedSimpArgs false

theorem and3 (z : Int) : ∃ g : Nat, g < 4 ∧ bits .and .i64 z 3 = (g : Int) := by
  have h3 : (BitVec.ofInt 64 z).toNat &&& 3 < 4 := Nat.and_lt_two_pow (n := 2) _ (by decide)
  refine ⟨(BitVec.ofInt 64 z).toNat &&& 3, h3, ?_⟩
  have e : bits .and .i64 z 3 = IntKind.i64.wrap (((BitVec.ofInt 64 z &&& BitVec.ofInt 64 3).toNat : Nat) : Int) := rfl
  have e2 : (BitVec.ofInt 64 z &&& BitVec.ofInt 64 3).toNat = (BitVec.ofInt 64 z).toNat &&& 3 := by rw [BitVec.toNat_and]; rfl
  rw [e, e2, IntKind.wrap_i64]
  omega
theorem gapT_len (s : ByteArray) (hs : s.size ≤ 16384) : ∀ (ks : List (Nat × Nat × Nat)) (gs : List Nat), (gapT s ks gs).length ≤ ks.length * 20000
  | (k, i, j) :: ks, g :: gs => by
    have := gapT_len s hs ks gs
    have h1 : (sepT g).data.toList.length ≤ 3 := by unfold sepT; split <;> decide
    have h2 : (s.extract i j).data.toList.length ≤ 16384 := by
      have : (s.extract i j).size ≤ s.size := by rw [ByteArray.size_extract]; omega
      rw [← Lib.size_eq]; omega
    simp only [gapT, List.length_append, List.length_cons]; omega
  | [], _ => by simp [gapT]
  | _ :: _, [] => by simp [gapT]
theorem gapT_snoc (s : ByteArray) : ∀ (ks : List (Nat × Nat × Nat)) (gs : List Nat) (x : Nat × Nat × Nat) (g : Nat), ks.length = gs.length → gapT s (ks ++ [x]) (gs ++ [g]) = gapT s ks gs ++ ((sepT g).data.toList ++ (s.extract x.2.1 x.2.2).data.toList)
  | [], [], (k, i, j), g, _ => by simp [gapT]
  | (k, i, j) :: ks, h :: gs, x, g, hl => by
    have := gapT_snoc s ks gs x g (by simpa using hl)
    simp only [List.cons_append, gapT, this, List.append_assoc]
  | [], _ :: _, _, _, h => by simp at h
  | _ :: _, [], _, _, h => by simp at h
def byteV (l : List UInt8) : List Value := l.map fun b => Value.int .u8 b.toNat
theorem byteV_app (a b : List UInt8) : byteV (a ++ b) = byteV a ++ byteV b := by simp [byteV]
theorem sep_cell (w : World) (g : Nat) (hg : g < 4) : (w.alloc (.cells #[.string ⟨#[32]⟩, .string ⟨#[44]⟩, .string ⟨#[35, 120, 10]⟩, .string ⟨#[9, 13, 10]⟩] 9)).cell? ⟨w.heap.size, g, none⟩ = some (.string (sepT g)) := by
  refine (At.fresh w 9 _).cell g ?_
  match g, hg with
  | 0, _ => rfl
  | 1, _ => rfl
  | 2, _ => rfl
  | 3, _ => rfl

theorem bel_grow {w4 wr w2 : World} {B n size : Nat} {e : TypeId} {v : Value} {xs : List Value} (h : Below B w4 wr) (hr : wr.ownsRow B e size v n xs) (hg : wr.grownBy w2 v.ownBlock) (hB : B ≤ wr.heap.size) : Below B w4 w2 :=
  h.trans ⟨hg.os, hg.tape, hg.output, hg.size, fun k hk => hg.block k (by omega) (ownsRow_ne' hr (by omega))⟩
theorem row_snoc {w : World} {B : Nat} {v : Value} {L L' : List UInt8} {a b : ByteArray} (hL : L' = L ++ (a.data.toList ++ b.data.toList)) (h : w.ownsRow B 5 1 v (L.length + a.size + b.size) (byteV L ++ Lib.strCells a ++ Lib.strCells b)) : w.ownsRow B 5 1 v L'.length (byteV L') := by
  have e1 : L'.length = L.length + a.size + b.size := by rw [hL, List.length_append, List.length_append, Lib.size_eq a, Lib.size_eq b]; omega
  have e2 : byteV L' = byteV L ++ Lib.strCells a ++ Lib.strCells b := by rw [hL, byteV_app, byteV_app, List.append_assoc]; rfl
  rw [e1, e2]; exact h
theorem conv_row {W : World} {B : Nat} {v : Value} {L : List UInt8} (h : W.ownsRow B 5 1 v L.length (byteV L)) : ∃ ao cc, v = .slice ao L.length cc ∧ (convert 40 9 (.slice ao L.length cc)).run Tryz.prog W = .ok (.string ⟨L.toArray⟩) W := by
  rcases h.2 with ⟨rfl, h0⟩ | ⟨g, cap, cur, rfl, hg, hgb, h1⟩
  · have : L = [] := List.eq_nil_of_length_eq_zero h0
    subst this
    exact ⟨_, _, rfl, Lib.run_convert_nil_bytes W 40 9 5 0 Tryz.underlying40 Tryz.underlying5 Tryz.underlying9⟩
  · refine ⟨_, _, rfl, run_convert_bytes_back W 40 9 5 _ cap L Tryz.underlying40 Tryz.underlying5 Tryz.underlying9 (fun j hj => ?_)⟩
    exact h.cells rfl j _ (by simp [byteV, hj])
theorem bel_grow1 {w4 wr w2 : World} {B n size : Nat} {e : TypeId} {v : Value} {xs : List Value} (h : Below B w4 wr) (hr : wr.ownsRow B e size v n xs) {o : Obj} (hg : (wr.alloc o).grownBy w2 v.ownBlock) (hB : B ≤ wr.heap.size) : Below B w4 w2 :=
  bel_grow (h.alloc hB o) (hr.alloc o) hg (by simp; omega)

set_option maxRecDepth 100000 in
set_option maxHeartbeats 16000000 in
theorem ignores_bad (w : World) (s : ByteArray) (vg : Value) (zs : List Int) (hg : RowR w vg 1 zs.length (zs.map (Value.int .i64))) (hs : s.size ≤ 9223372036854775807) (E : Env w) (hL : LawI s) (ks : List (Nat × Nat × Nat)) (ht : toks s = (ks, none)) (p : Nat) (e : Int) (hp : parseT s = .error (p, e)) :
    Calls Tryz.prog 6 #[.string s, vg] w fun e w' => e = .returned (.bool true) ∧ Below w.heap.size w w' := by
  obtain ⟨hs2, hks, hkx⟩ := hL.keys ks ht
  have c1 := parse_c w s hs E _ hp
  have c2 := fun W E => fixed_c W E
  have c3 := fun W E => tokens_c W s hs E _ ht
  unfold ParsePost at c1
  unfold ReadPost at c3
  simp only at c1 c3
  have HE := Sd.mk E
  have HL := Sd.mk hL
  have HT := Sd.mk ht
  have HP := Sd.mk hp
  obtain ⟨ag, cg, rfl, _, hgc⟩ := hg
  have HGC := Sd.mk hgc
  obtain ⟨ng, hng⟩ : ∃ n, zs.length = n := ⟨_, rfl⟩
  have HNG := Sd.mk hng
  rw [hng]
  obtain ⟨i0, hi, hz0, hz1, hz2⟩ := info_parts info5
  have hpl := hL.place p e hp
  have hne := parseT_err_ne hp
  have e1 : (e == 0) = false := by simpa using hne
  have e3 : decide (s.size < p) = false := by simp; omega
  clear hne
  clear hp hL ht hgc hng E
  go_enter Tryz.func6, Tryz.ntmps6
  go_upto_region 2 with (go_at_call 8; refine c1.mono ?_; rintro e' w1 ⟨rfl, h1⟩; have HB1 := Sd.mk h1; have HE1 := Sd.mk ((Fr.of_below (g := 3) h1).env (by decide) HE.out); clear h1)
  have HX2 := Sd.mk (At.fresh w1 25 #[.slice none 0 0, .slice none 0 0])
  have HB2 := Sd.mk (HB1.out.alloc HB1.out.size (.cells #[.slice none 0 0, .slice none 0 0] 25))
  have HE2 : Sd (Env (w1.alloc (.cells #[.slice none 0 0, .slice none 0 0] 25))) := ⟨((Fr.refl 3 w1).alloc _).env (by decide) HE1.out⟩
  generalize w1.alloc (.cells #[.slice none 0 0, .slice none 0 0] 25) = w2 at HX2 HB2 HE2 ⊢
  generalize w1.heap.size = C5 at HX2 ⊢
  clear c1 HB1 HE1
  go_upto_region 7 with (first
    | (go_at_call 10; refine (c2 _ HE2.out).mono ?_; rintro e' w3 ⟨rfl, h1⟩; have HB3 := Sd.mk (HB2.out.trans ⟨h1.os, h1.tape, h1.output, h1.size, fun k hk => h1.block k (Nat.lt_of_lt_of_le hk HB2.out.size)⟩); have HE3 := Sd.mk ((Fr.of_below (g := 3) h1).env (by decide) HE2.out); have HX3 := Sd.mk (HX2.out.below h1); clear h1)
    | (go_at_call 14; refine (c3 _ HE3.out).mono ?_; rintro e' w4 ⟨v, pre, rfl, h2, h3, h4, h5, h1⟩; obtain ⟨av, cv, rfl⟩ := ownsRow_slice h5; have HK4 := Sd.mk h2; have HRow4 := Sd.mk h5; have HB4 := Sd.mk (HB3.out.trans ⟨h1.os, h1.tape, h1.output, h1.size, fun k hk => h1.block k (Nat.lt_of_lt_of_le hk HB3.out.size)⟩); have HE4 := Sd.mk ((Fr.of_below (g := 3) h1).env (by decide) HE3.out); have HX4 := Sd.mk (HX3.out.below h1); clear h1 h2 h3 h5))
  clear c2 c3
  obtain ⟨N, hN⟩ : ∃ N, pre.length = N := ⟨_, rfl⟩
  have hNk : ks.length = N := by rw [← HK4.out, List.length_map, hN]
  have HN := Sd.mk hN
  have HNK := Sd.mk hNk
  rw [hN] at h4 ⊢
  clear hN hNk
  obtain ⟨B, hB⟩ : ∃ B, w4.heap.size = B := ⟨_, rfl⟩
  have HBB := Sd.mk hB
  clear hB
  go_upto_region 9 with (fail)
  have HW0 : Sd ((w4.alloc (.cells #[] 5)).ownsRow B 5 1 (.slice (some ⟨B, 0, none⟩) 0 0) 0 []) := ⟨by
    have := World.ownsRow_lit (base := B) (e := 5) (size := 1) w4 #[] 0 (by rw [HBB.out]; exact Nat.le_refl _) (Nat.zero_le _) rfl
    rw [HBB.out] at this
    exact this⟩
  have HBel0 : Sd (Below B w4 (w4.alloc (.cells #[] 5))) := ⟨by rw [← HBB.out]; exact (Below.refl _ w4).alloc (Nat.le_refl _) _⟩
  rw [HBB.out]
  generalize w4.alloc (.cells #[] 5) = w5 at HW0 HBel0 ⊢
  go_loopw [11, 12] (fun v11 t12 wr => ∃ (k : Nat) (gs : List Nat), t12 = .int .i64 k ∧ k ≤ N ∧ Sd (gs.length = k ∧ ∀ g ∈ gs, g < 4) ∧ Sd (wr.ownsRow B 5 1 v11 (gapT s (ks.take k) gs).length (byteV (gapT s (ks.take k) gs))) ∧ Sd (Below B w4 wr)) (fun _ t12 _ => N - (intOf t12).toNat)
  case atStart => exact ⟨0, [], rfl, Nat.zero_le _, ⟨rfl, by simp⟩, HW0, HBel0⟩
  case round =>
    obtain ⟨k, gs, rfl, hk, hgs, HW, HBel⟩ := hrel
    by_cases hklt : k < N
    · have hkp : k < pre.length := by rw [HN.out]; exact hklt
      obtain ⟨x, hx⟩ : ∃ x, pre[k] = x := ⟨_, rfl⟩
      have hx' : pre[k]? = some x := by rw [List.getElem?_eq_getElem hkp, hx]
      have hks1 : Sd (ks.take (k + 1) = ks.take k ++ [x.key]) := ⟨by
        have h1 : ks[k]? = some x.key := by rw [← HK4.out, List.getElem?_map, hx']; rfl
        rw [List.take_add_one, h1]; rfl⟩
      have hxk : x.key ∈ ks := by
        have h1 : ks[k]? = some x.key := by rw [← HK4.out, List.getElem?_map, hx']; rfl
        exact List.mem_of_getElem? h1
      have hxb := hkx _ hxk
      have hx1 : x.i ≤ x.j := hxb.1
      have hx2 : x.j ≤ s.size := hxb.2
      obtain ⟨gb, cap, hv, hgb1, hgb2⟩ := HRow4.out.form (by rw [HN.out]; omega)
      rw [HN.out] at hv
      cases hv
      have tk2 : w4.cell? ⟨gb, k * 4 + 2, none⟩ = some (.int .i64 x.i) := by
        have := HRow4.out
        rw [HN.out] at this
        rw [this.cellAt (k * 4 + 2) (by omega), Nat.mul_comm, flat_get pre k x 2 hx' (by decide)]; rfl
      have tk3 : w4.cell? ⟨gb, k * 4 + 3, none⟩ = some (.int .i64 x.j) := by
        have := HRow4.out
        rw [HN.out] at this
        rw [this.cellAt (k * 4 + 3) (by omega), Nat.mul_comm, flat_get pre k x 3 hx' (by decide)]; rfl
      have hlen := gapT_len s hs2 (ks.take k) gs
      have hlk : (ks.take k).length ≤ 2048 := by rw [List.length_take]; omega
      have hBl : B ≤ wr.heap.size := by have := HBel.out.size; have := HBB.out; omega
      have hext : (s.extract x.i x.j).size ≤ 16384 := by rw [ByteArray.size_extract]; omega
      have p1 : (0 ≤ (k : Int)) = True := eq_true (by omega)
      have p2 : (k < N) = True := eq_true hklt
      have p3 : ((k : Int) < (N : Int)) = True := eq_true (by omega)
      have r1 : (0 ≤ (x.i : Int)) = True := eq_true (by omega)
      have r2 : ((x.i : Int) ≤ (x.j : Int)) = True := eq_true (by omega)
      have r3 : ((x.j : Int) ≤ (s.size : Int)) = True := eq_true (by omega)
      clear hkp hx hx' hxk hxb
      by_cases hkg : k < ng
      · obtain ⟨b1, o1, rfl, g0⟩ := HGC.out k (.int .i64 (zs[k]'(by rw [HNG.out]; exact hkg))) (by rw [List.getElem?_map, List.getElem?_eq_getElem]; rfl)
        generalize zs[k]'(by rw [HNG.out]; exact hkg) = z at g0
        have z0 : wr.cell? ⟨b1, o1 + k, none⟩ = some (.int .i64 z) := keepCells (HBB.out ▸ HBel.out) _ _ (keepCells HB4.out _ _ g0)
        have p4 : (k < ng) = True := eq_true hkg
        have p5 : ((k : Int) < (ng : Int)) = True := eq_true (by omega)
        obtain ⟨g, hg4, hgz⟩ := and3 z
        go_upto_region 14 with (fail)
        clear z0 g0 hgz
        have hcell := sep_cell wr g hg4
        have hsep : (sepT g).size ≤ 3 := by unfold sepT; split <;> decide
        have hq1 : (0 ≤ ((g : Nat) : Int)) = True := eq_true (by omega)
        have hq2 : (((g : Nat) : Int) < 4) = True := eq_true (by omega)
        have hgs2 : Sd ((gs ++ [g]).length = k + 1 ∧ ∀ x ∈ gs ++ [g], x < 4) := ⟨by simp [hgs.out.1], fun x hx => by
          rw [List.mem_append] at hx
          rcases hx with hx | hx
          · exact hgs.out.2 x hx
          · simp at hx; subst hx; exact hg4⟩
        have hL2 : Sd (gapT s (ks.take (k + 1)) (gs ++ [g]) = gapT s (ks.take k) gs ++ ((sepT g).data.toList ++ (s.extract x.i x.j).data.toList)) := ⟨by
          rw [hks1.out, gapT_snoc s _ _ _ _ (by rw [hgs.out.1, List.length_take, HNK.out]; omega)]; rfl⟩
        go_upto_region 15 with (at_builtin; refine Lib.wpList_append_own_string _ rfl _ _ 40 9 rfl B 5 i0 Tryz.underlying40 Tryz.underlying9 hi hz0 hz1 hz2 _ _ _ rfl (HW.out.alloc _) (sepT g) rfl (by unfold maxLen; omega) (by omega) (by simp; omega) ?_; intro v5 w5 hown5 hg5 hn5; have HW5 := Sd.mk hown5; have HBel5 := Sd.mk (bel_grow1 HBel.out HW.out hg5 hBl); clear hown5 hg5 hn5)
        clear hcell hq1 hq2
        have kc5 : ∀ {p : Addr} {u : Value}, w4.cell? p = some u → w5.cell? p = some u := fun h => keepCells (HBB.out ▸ HBel5.out) _ _ h
        have t2 := kc5 tk2
        have t3 := kc5 tk3
        have hB5 : B ≤ w5.heap.size := by have := HBel5.out.size; have := HBB.out; omega
        go_wp2_with fail
        go_still_tail 13, (by kernel_rfl)
        change wpList _ _ _ _ _ w5.drew
        have HW6 := Sd.mk (World.ownsRow.drew HW5.out)
        have HBel6 := Sd.mk HBel5.out.drew
        have hB6 : B ≤ w5.drew.heap.size := hB5
        generalize w5.drew = w6 at HW6 HBel6 hB6 ⊢
        clear t2 t3 HW5 HBel5 hB5
        go_wp2_with (at_builtin; refine Lib.wpList_append_own_string _ rfl _ _ 40 9 rfl B 5 i0 Tryz.underlying40 Tryz.underlying9 hi hz0 hz1 hz2 _ _ _ rfl HW6.out (s.extract x.i x.j) rfl (by unfold maxLen; omega) (by omega) hB6 ?_; intro v7 w7 hown7 hg7 hn7; have HW7 := Sd.mk hown7; have HBel7 := Sd.mk (bel_grow HBel6.out HW6.out hg7 hB6); clear hown7 hg7 hn7)
        go_roundw
        case rel => exact ⟨k + 1, gs ++ [g], by go_num, by omega, hgs2, ⟨row_snoc hL2.out HW7.out⟩, HBel7⟩
        case measure => simp [intOf]; omega
      · have p4 : decide (k < ng) = false := by simp; omega
        go_upto_region 14 with (fail)
        have hcell := sep_cell wr 0 (show 0 < 4 by decide)
        have hsep : (sepT 0).size ≤ 3 := by unfold sepT; split <;> decide
        have hq1 : (0 ≤ ((0 : Nat) : Int)) = True := eq_true (by omega)
        have hq2 : (((0 : Nat) : Int) < 4) = True := eq_true (by omega)
        have hgs2 : Sd ((gs ++ [0]).length = k + 1 ∧ ∀ x ∈ gs ++ [0], x < 4) := ⟨by simp [hgs.out.1], fun x hx => by
          rw [List.mem_append] at hx
          rcases hx with hx | hx
          · exact hgs.out.2 x hx
          · simp at hx; subst hx; exact (show 0 < 4 by decide)⟩
        have hL2 : Sd (gapT s (ks.take (k + 1)) (gs ++ [0]) = gapT s (ks.take k) gs ++ ((sepT 0).data.toList ++ (s.extract x.i x.j).data.toList)) := ⟨by
          rw [hks1.out, gapT_snoc s _ _ _ _ (by rw [hgs.out.1, List.length_take, HNK.out]; omega)]; rfl⟩
        go_upto_region 15 with (at_builtin; refine Lib.wpList_append_own_string _ rfl _ _ 40 9 rfl B 5 i0 Tryz.underlying40 Tryz.underlying9 hi hz0 hz1 hz2 _ _ _ rfl (HW.out.alloc _) (sepT 0) rfl (by unfold maxLen; omega) (by omega) (by simp; omega) ?_; intro v5 w5 hown5 hg5 hn5; have HW5 := Sd.mk hown5; have HBel5 := Sd.mk (bel_grow1 HBel.out HW.out hg5 hBl); clear hown5 hg5 hn5)
        clear hcell hq1 hq2
        have kc5 : ∀ {p : Addr} {u : Value}, w4.cell? p = some u → w5.cell? p = some u := fun h => keepCells (HBB.out ▸ HBel5.out) _ _ h
        have t2 := kc5 tk2
        have t3 := kc5 tk3
        have hB5 : B ≤ w5.heap.size := by have := HBel5.out.size; have := HBB.out; omega
        go_wp2_with fail
        go_still_tail 13, (by kernel_rfl)
        change wpList _ _ _ _ _ w5.drew
        have HW6 := Sd.mk (World.ownsRow.drew HW5.out)
        have HBel6 := Sd.mk HBel5.out.drew
        have hB6 : B ≤ w5.drew.heap.size := hB5
        generalize w5.drew = w6 at HW6 HBel6 hB6 ⊢
        clear t2 t3 HW5 HBel5 hB5
        go_wp2_with (at_builtin; refine Lib.wpList_append_own_string _ rfl _ _ 40 9 rfl B 5 i0 Tryz.underlying40 Tryz.underlying9 hi hz0 hz1 hz2 _ _ _ rfl HW6.out (s.extract x.i x.j) rfl (by unfold maxLen; omega) (by omega) hB6 ?_; intro v7 w7 hown7 hg7 hn7; have HW7 := Sd.mk hown7; have HBel7 := Sd.mk (bel_grow HBel6.out HW6.out hg7 hB6); clear hown7 hg7 hn7)
        go_roundw
        case rel => exact ⟨k + 1, gs ++ [0], by go_num, by omega, hgs2, ⟨row_snoc hL2.out HW7.out⟩, HBel7⟩
        case measure => simp [intOf]; omega
    · have hkN : k = N := by omega
      have hgl : gs.length = ks.length := by rw [hgs.out.1, hkN, HNK.out]
      have HW1 : Sd (wr.ownsRow B 5 1 u11 (gapT s ks gs).length (byteV (gapT s ks gs))) := ⟨by
        have := HW.out
        rw [hkN, ← HNK.out, List.take_length] at this
        exact this⟩
      have hg4 := hgs.out.2
      have p2 : decide (k < N) = false := by simp; omega
      obtain ⟨L, hL⟩ : ∃ L, gapT s ks gs = L := ⟨_, rfl⟩
      rw [hL] at HW1
      obtain ⟨ao, cc, hv, hconv⟩ := conv_row HW1.out
      subst hv
      have hBw : B ≤ wr.heap.size := by have := HBel.out.size; have := HBB.out; omega
      have hLb := gapT_len s hs2 ks gs
      rw [hL] at hLb
      have hLb2 : L.length ≤ 100000000 := by omega
      have HBw := Sd.mk (HB4.out.trans (⟨HBel.out.os, HBel.out.tape, HBel.out.output, HBel.out.size, fun k hk => HBel.out.block k (by have := HB4.out.size; have := HBB.out; omega)⟩ : Below w.heap.size w4 wr))
      by_cases hbig : 16384 < L.length
      · have p6 : ((16384 : Int) < (L.length : Int)) = True := eq_true (by omega)
        have p7 : (16384 < L.length) = True := eq_true hbig
        clear hconv
        go_wp2
        go_ret
        exact ⟨rfl, HBw.out⟩
      · have p6 : decide ((16384 : Int) < (L.length : Int)) = false := by simp; omega
        have p7 : decide (16384 < L.length) = false := by simp; omega
        have HE9 := Sd.mk ((Fr.of_below (g := 3) HBw.out).env (by decide) HE.out)
        have HX9 : Sd (At wr C5 25 #[.slice none 0 0, .slice none 0 0]) := ⟨HX4.out.belowO HBel.out (by have := HX4.out.lt; have := HBB.out; omega)⟩
        obtain ⟨q, hq⟩ := HL.out.bad ks gs p e HT.out hgl hg4 (by rw [hL]; omega) HP.out
        rw [hL] at hq
        have cP := parse_c wr ⟨L.toArray⟩ (by show L.toArray.size ≤ _; simp; omega) HE9.out _ hq
        have cS := fun W => same_c W (.agg #[.slice none 0 0, .slice none 0 0]) (.agg #[.slice none 0 0, .slice none 0 0]) ⟨[], []⟩ ⟨by decide, by decide, by simp, by simp⟩ (SchR.nil W) (SchR.nil W)
        unfold ParsePost at cP
        simp only at cP
        clear hq hL
        go_upto_region 19 with (go_at_call 8; refine cP.mono ?_; rintro e' w8 ⟨rfl, h1⟩; have HX8 := Sd.mk (HX9.out.below h1); have HB8 := Sd.mk (HBw.out.trans ⟨h1.os, h1.tape, h1.output, h1.size, fun k hk => h1.block k (Nat.lt_of_lt_of_le hk HBw.out.size)⟩); clear h1)
        have HX8b := Sd.mk (HX8.out.alloc (.cells #[.slice none 0 0, .slice none 0 0] 25))
        have HY8 := Sd.mk (At.fresh w8 25 #[.slice none 0 0, .slice none 0 0])
        have HB8b := Sd.mk (HB8.out.alloc HB8.out.size (.cells #[.slice none 0 0, .slice none 0 0] 25))
        generalize w8.alloc (.cells #[.slice none 0 0, .slice none 0 0] 25) = w9 at HX8b HY8 HB8b ⊢
        have y0 := HX8b.out.cell 0 rfl
        have y1 := HX8b.out.cell 1 rfl
        have y2 := HY8.out.cell 0 rfl
        have y3 := HY8.out.cell 1 rfl
        clear cP hconv
        go_wp2_with (go_at_call 11; refine (cS _).mono ?_; rintro e' w10 ⟨rfl, h1⟩; have HB10 := Sd.mk (HB8b.out.trans ⟨h1.os, h1.tape, h1.output, h1.size, fun k hk => h1.block k (Nat.lt_of_lt_of_le hk HB8b.out.size)⟩); clear h1)
        go_ret
        exact ⟨rfl, HB10.out⟩

set_option maxRecDepth 100000 in
set_option maxHeartbeats 16000000 in
theorem ignores_ok (w : World) (s : ByteArray) (vg : Value) (zs : List Int) (hg : RowR w vg 1 zs.length (zs.map (Value.int .i64))) (hs : s.size ≤ 9223372036854775807) (E : Env w) (hL : LawI s) (ks : List (Nat × Nat × Nat)) (ht : toks s = (ks, none)) (sc : Sc) (hp : parseT s = .ok sc) :
    Calls Tryz.prog 6 #[.string s, vg] w fun e w' => e = .returned (.bool true) ∧ Below w.heap.size w w' := by
  obtain ⟨hs2, hks, hkx⟩ := hL.keys ks ht
  have c1 := parse_c w s hs E _ hp
  have c2 := fun W E => fixed_c W E
  have c3 := fun W E => tokens_c W s hs E _ ht
  unfold ParsePost at c1
  unfold ReadPost at c3
  simp only at c1 c3
  have HE := Sd.mk E
  have HL := Sd.mk hL
  have HT := Sd.mk ht
  have HP := Sd.mk hp
  obtain ⟨ag, cg, rfl, _, hgc⟩ := hg
  have HGC := Sd.mk hgc
  obtain ⟨ng, hng⟩ : ∃ n, zs.length = n := ⟨_, rfl⟩
  have HNG := Sd.mk hng
  rw [hng]
  obtain ⟨i0, hi, hz0, hz1, hz2⟩ := info_parts info5
  clear hp hL ht hgc hng E
  go_enter Tryz.func6, Tryz.ntmps6
  go_upto_region 2 with (go_at_call 8; refine c1.mono ?_; rintro e' w1 ⟨v, rfl, ⟨vo, ve, rfl, hob, hen⟩, h1⟩; have HS1 := Sd.mk (SchAt.read ⟨vo, ve, rfl, hob, hen⟩); obtain ⟨ao1, cc1, rfl⟩ := hob.slice; obtain ⟨ao2, cc2, rfl⟩ := hen.slice; have HB1 := Sd.mk h1; have HE1 := Sd.mk ((Fr.of_below (g := 3) h1).env (by decide) HE.out); clear h1 hob hen)
  obtain ⟨n1, hn1⟩ : ∃ n, sc.objs.length = n := ⟨_, rfl⟩
  obtain ⟨n2, hn2⟩ : ∃ n, sc.enums.length = n := ⟨_, rfl⟩
  rw [hn1, hn2] at HS1 ⊢
  clear hn1 hn2
  have HX2 := Sd.mk (At.fresh w1 25 #[.slice ao1 n1 cc1, .slice ao2 n2 cc2])
  have HB2 := Sd.mk (HB1.out.alloc HB1.out.size (.cells #[.slice ao1 n1 cc1, .slice ao2 n2 cc2] 25))
  have HE2 : Sd (Env (w1.alloc (.cells #[.slice ao1 n1 cc1, .slice ao2 n2 cc2] 25))) := ⟨((Fr.refl 3 w1).alloc _).env (by decide) HE1.out⟩
  have HS2 := Sd.mk (HS1.out.keep (keepCells ((Below.refl _ w1).alloc (Nat.le_refl _) (.cells #[.slice ao1 n1 cc1, .slice ao2 n2 cc2] 25))))
  generalize w1.alloc (.cells #[.slice ao1 n1 cc1, .slice ao2 n2 cc2] 25) = w2 at HX2 HB2 HE2 HS2 ⊢
  generalize w1.heap.size = C5 at HX2 ⊢
  clear c1 HB1 HE1 HS1
  go_upto_region 7 with (first
    | (go_at_call 10; refine (c2 _ HE2.out).mono ?_; rintro e' w3 ⟨rfl, h1⟩; have HB3 := Sd.mk (HB2.out.trans ⟨h1.os, h1.tape, h1.output, h1.size, fun k hk => h1.block k (Nat.lt_of_lt_of_le hk HB2.out.size)⟩); have HE3 := Sd.mk ((Fr.of_below (g := 3) h1).env (by decide) HE2.out); have HX3 := Sd.mk (HX2.out.below h1); have HS3 := Sd.mk (HS2.out.keep (keepCells h1)); clear h1)
    | (go_at_call 14; refine (c3 _ HE3.out).mono ?_; rintro e' w4 ⟨v, pre, rfl, h2, h3, h4, h5, h1⟩; obtain ⟨av, cv, rfl⟩ := ownsRow_slice h5; have HK4 := Sd.mk h2; have HRow4 := Sd.mk h5; have HB4 := Sd.mk (HB3.out.trans ⟨h1.os, h1.tape, h1.output, h1.size, fun k hk => h1.block k (Nat.lt_of_lt_of_le hk HB3.out.size)⟩); have HE4 := Sd.mk ((Fr.of_below (g := 3) h1).env (by decide) HE3.out); have HX4 := Sd.mk (HX3.out.below h1); have HS4 := Sd.mk (HS3.out.keep (keepCells h1)); clear h1 h2 h3 h5))
  clear c2 c3
  obtain ⟨N, hN⟩ : ∃ N, pre.length = N := ⟨_, rfl⟩
  have hNk : ks.length = N := by rw [← HK4.out, List.length_map, hN]
  have HN := Sd.mk hN
  have HNK := Sd.mk hNk
  rw [hN] at h4 ⊢
  clear hN hNk
  obtain ⟨B, hB⟩ : ∃ B, w4.heap.size = B := ⟨_, rfl⟩
  have HBB := Sd.mk hB
  clear hB
  go_upto_region 9 with (fail)
  have HW0 : Sd ((w4.alloc (.cells #[] 5)).ownsRow B 5 1 (.slice (some ⟨B, 0, none⟩) 0 0) 0 []) := ⟨by
    have := World.ownsRow_lit (base := B) (e := 5) (size := 1) w4 #[] 0 (by rw [HBB.out]; exact Nat.le_refl _) (Nat.zero_le _) rfl
    rw [HBB.out] at this
    exact this⟩
  have HBel0 : Sd (Below B w4 (w4.alloc (.cells #[] 5))) := ⟨by rw [← HBB.out]; exact (Below.refl _ w4).alloc (Nat.le_refl _) _⟩
  rw [HBB.out]
  generalize w4.alloc (.cells #[] 5) = w5 at HW0 HBel0 ⊢
  go_loopw [11, 12] (fun v11 t12 wr => ∃ (k : Nat) (gs : List Nat), t12 = .int .i64 k ∧ k ≤ N ∧ Sd (gs.length = k ∧ ∀ g ∈ gs, g < 4) ∧ Sd (wr.ownsRow B 5 1 v11 (gapT s (ks.take k) gs).length (byteV (gapT s (ks.take k) gs))) ∧ Sd (Below B w4 wr)) (fun _ t12 _ => N - (intOf t12).toNat)
  case atStart => exact ⟨0, [], rfl, Nat.zero_le _, ⟨rfl, by simp⟩, HW0, HBel0⟩
  case round =>
    obtain ⟨k, gs, rfl, hk, hgs, HW, HBel⟩ := hrel
    by_cases hklt : k < N
    · have hkp : k < pre.length := by rw [HN.out]; exact hklt
      obtain ⟨x, hx⟩ : ∃ x, pre[k] = x := ⟨_, rfl⟩
      have hx' : pre[k]? = some x := by rw [List.getElem?_eq_getElem hkp, hx]
      have hks1 : Sd (ks.take (k + 1) = ks.take k ++ [x.key]) := ⟨by
        have h1 : ks[k]? = some x.key := by rw [← HK4.out, List.getElem?_map, hx']; rfl
        rw [List.take_add_one, h1]; rfl⟩
      have hxk : x.key ∈ ks := by
        have h1 : ks[k]? = some x.key := by rw [← HK4.out, List.getElem?_map, hx']; rfl
        exact List.mem_of_getElem? h1
      have hxb := hkx _ hxk
      have hx1 : x.i ≤ x.j := hxb.1
      have hx2 : x.j ≤ s.size := hxb.2
      obtain ⟨gb, cap, hv, hgb1, hgb2⟩ := HRow4.out.form (by rw [HN.out]; omega)
      rw [HN.out] at hv
      cases hv
      have tk2 : w4.cell? ⟨gb, k * 4 + 2, none⟩ = some (.int .i64 x.i) := by
        have := HRow4.out
        rw [HN.out] at this
        rw [this.cellAt (k * 4 + 2) (by omega), Nat.mul_comm, flat_get pre k x 2 hx' (by decide)]; rfl
      have tk3 : w4.cell? ⟨gb, k * 4 + 3, none⟩ = some (.int .i64 x.j) := by
        have := HRow4.out
        rw [HN.out] at this
        rw [this.cellAt (k * 4 + 3) (by omega), Nat.mul_comm, flat_get pre k x 3 hx' (by decide)]; rfl
      have hlen := gapT_len s hs2 (ks.take k) gs
      have hlk : (ks.take k).length ≤ 2048 := by rw [List.length_take]; omega
      have hBl : B ≤ wr.heap.size := by have := HBel.out.size; have := HBB.out; omega
      have hext : (s.extract x.i x.j).size ≤ 16384 := by rw [ByteArray.size_extract]; omega
      have p1 : (0 ≤ (k : Int)) = True := eq_true (by omega)
      have p2 : (k < N) = True := eq_true hklt
      have p3 : ((k : Int) < (N : Int)) = True := eq_true (by omega)
      have r1 : (0 ≤ (x.i : Int)) = True := eq_true (by omega)
      have r2 : ((x.i : Int) ≤ (x.j : Int)) = True := eq_true (by omega)
      have r3 : ((x.j : Int) ≤ (s.size : Int)) = True := eq_true (by omega)
      clear hkp hx hx' hxk hxb
      by_cases hkg : k < ng
      · obtain ⟨b1, o1, rfl, g0⟩ := HGC.out k (.int .i64 (zs[k]'(by rw [HNG.out]; exact hkg))) (by rw [List.getElem?_map, List.getElem?_eq_getElem]; rfl)
        generalize zs[k]'(by rw [HNG.out]; exact hkg) = z at g0
        have z0 : wr.cell? ⟨b1, o1 + k, none⟩ = some (.int .i64 z) := keepCells (HBB.out ▸ HBel.out) _ _ (keepCells HB4.out _ _ g0)
        have p4 : (k < ng) = True := eq_true hkg
        have p5 : ((k : Int) < (ng : Int)) = True := eq_true (by omega)
        obtain ⟨g, hg4, hgz⟩ := and3 z
        go_upto_region 14 with (fail)
        clear z0 g0 hgz
        have hcell := sep_cell wr g hg4
        have hsep : (sepT g).size ≤ 3 := by unfold sepT; split <;> decide
        have hq1 : (0 ≤ ((g : Nat) : Int)) = True := eq_true (by omega)
        have hq2 : (((g : Nat) : Int) < 4) = True := eq_true (by omega)
        have hgs2 : Sd ((gs ++ [g]).length = k + 1 ∧ ∀ x ∈ gs ++ [g], x < 4) := ⟨by simp [hgs.out.1], fun x hx => by
          rw [List.mem_append] at hx
          rcases hx with hx | hx
          · exact hgs.out.2 x hx
          · simp at hx; subst hx; exact hg4⟩
        have hL2 : Sd (gapT s (ks.take (k + 1)) (gs ++ [g]) = gapT s (ks.take k) gs ++ ((sepT g).data.toList ++ (s.extract x.i x.j).data.toList)) := ⟨by
          rw [hks1.out, gapT_snoc s _ _ _ _ (by rw [hgs.out.1, List.length_take, HNK.out]; omega)]; rfl⟩
        go_upto_region 15 with (at_builtin; refine Lib.wpList_append_own_string _ rfl _ _ 40 9 rfl B 5 i0 Tryz.underlying40 Tryz.underlying9 hi hz0 hz1 hz2 _ _ _ rfl (HW.out.alloc _) (sepT g) rfl (by unfold maxLen; omega) (by omega) (by simp; omega) ?_; intro v5 w5 hown5 hg5 hn5; have HW5 := Sd.mk hown5; have HBel5 := Sd.mk (bel_grow1 HBel.out HW.out hg5 hBl); clear hown5 hg5 hn5)
        clear hcell hq1 hq2
        have kc5 : ∀ {p : Addr} {u : Value}, w4.cell? p = some u → w5.cell? p = some u := fun h => keepCells (HBB.out ▸ HBel5.out) _ _ h
        have t2 := kc5 tk2
        have t3 := kc5 tk3
        have hB5 : B ≤ w5.heap.size := by have := HBel5.out.size; have := HBB.out; omega
        go_wp2_with fail
        go_still_tail 13, (by kernel_rfl)
        change wpList _ _ _ _ _ w5.drew
        have HW6 := Sd.mk (World.ownsRow.drew HW5.out)
        have HBel6 := Sd.mk HBel5.out.drew
        have hB6 : B ≤ w5.drew.heap.size := hB5
        generalize w5.drew = w6 at HW6 HBel6 hB6 ⊢
        clear t2 t3 HW5 HBel5 hB5
        go_wp2_with (at_builtin; refine Lib.wpList_append_own_string _ rfl _ _ 40 9 rfl B 5 i0 Tryz.underlying40 Tryz.underlying9 hi hz0 hz1 hz2 _ _ _ rfl HW6.out (s.extract x.i x.j) rfl (by unfold maxLen; omega) (by omega) hB6 ?_; intro v7 w7 hown7 hg7 hn7; have HW7 := Sd.mk hown7; have HBel7 := Sd.mk (bel_grow HBel6.out HW6.out hg7 hB6); clear hown7 hg7 hn7)
        go_roundw
        case rel => exact ⟨k + 1, gs ++ [g], by go_num, by omega, hgs2, ⟨row_snoc hL2.out HW7.out⟩, HBel7⟩
        case measure => simp [intOf]; omega
      · have p4 : decide (k < ng) = false := by simp; omega
        go_upto_region 14 with (fail)
        have hcell := sep_cell wr 0 (show 0 < 4 by decide)
        have hsep : (sepT 0).size ≤ 3 := by unfold sepT; split <;> decide
        have hq1 : (0 ≤ ((0 : Nat) : Int)) = True := eq_true (by omega)
        have hq2 : (((0 : Nat) : Int) < 4) = True := eq_true (by omega)
        have hgs2 : Sd ((gs ++ [0]).length = k + 1 ∧ ∀ x ∈ gs ++ [0], x < 4) := ⟨by simp [hgs.out.1], fun x hx => by
          rw [List.mem_append] at hx
          rcases hx with hx | hx
          · exact hgs.out.2 x hx
          · simp at hx; subst hx; exact (show 0 < 4 by decide)⟩
        have hL2 : Sd (gapT s (ks.take (k + 1)) (gs ++ [0]) = gapT s (ks.take k) gs ++ ((sepT 0).data.toList ++ (s.extract x.i x.j).data.toList)) := ⟨by
          rw [hks1.out, gapT_snoc s _ _ _ _ (by rw [hgs.out.1, List.length_take, HNK.out]; omega)]; rfl⟩
        go_upto_region 15 with (at_builtin; refine Lib.wpList_append_own_string _ rfl _ _ 40 9 rfl B 5 i0 Tryz.underlying40 Tryz.underlying9 hi hz0 hz1 hz2 _ _ _ rfl (HW.out.alloc _) (sepT 0) rfl (by unfold maxLen; omega) (by omega) (by simp; omega) ?_; intro v5 w5 hown5 hg5 hn5; have HW5 := Sd.mk hown5; have HBel5 := Sd.mk (bel_grow1 HBel.out HW.out hg5 hBl); clear hown5 hg5 hn5)
        clear hcell hq1 hq2
        have kc5 : ∀ {p : Addr} {u : Value}, w4.cell? p = some u → w5.cell? p = some u := fun h => keepCells (HBB.out ▸ HBel5.out) _ _ h
        have t2 := kc5 tk2
        have t3 := kc5 tk3
        have hB5 : B ≤ w5.heap.size := by have := HBel5.out.size; have := HBB.out; omega
        go_wp2_with fail
        go_still_tail 13, (by kernel_rfl)
        change wpList _ _ _ _ _ w5.drew
        have HW6 := Sd.mk (World.ownsRow.drew HW5.out)
        have HBel6 := Sd.mk HBel5.out.drew
        have hB6 : B ≤ w5.drew.heap.size := hB5
        generalize w5.drew = w6 at HW6 HBel6 hB6 ⊢
        clear t2 t3 HW5 HBel5 hB5
        go_wp2_with (at_builtin; refine Lib.wpList_append_own_string _ rfl _ _ 40 9 rfl B 5 i0 Tryz.underlying40 Tryz.underlying9 hi hz0 hz1 hz2 _ _ _ rfl HW6.out (s.extract x.i x.j) rfl (by unfold maxLen; omega) (by omega) hB6 ?_; intro v7 w7 hown7 hg7 hn7; have HW7 := Sd.mk hown7; have HBel7 := Sd.mk (bel_grow HBel6.out HW6.out hg7 hB6); clear hown7 hg7 hn7)
        go_roundw
        case rel => exact ⟨k + 1, gs ++ [0], by go_num, by omega, hgs2, ⟨row_snoc hL2.out HW7.out⟩, HBel7⟩
        case measure => simp [intOf]; omega
    · have hkN : k = N := by omega
      have hgl : gs.length = ks.length := by rw [hgs.out.1, hkN, HNK.out]
      have HW1 : Sd (wr.ownsRow B 5 1 u11 (gapT s ks gs).length (byteV (gapT s ks gs))) := ⟨by
        have := HW.out
        rw [hkN, ← HNK.out, List.take_length] at this
        exact this⟩
      have hg4 := hgs.out.2
      have p2 : decide (k < N) = false := by simp; omega
      obtain ⟨L, hL⟩ : ∃ L, gapT s ks gs = L := ⟨_, rfl⟩
      rw [hL] at HW1
      obtain ⟨ao, cc, hv, hconv⟩ := conv_row HW1.out
      subst hv
      have hBw : B ≤ wr.heap.size := by have := HBel.out.size; have := HBB.out; omega
      have hLb := gapT_len s hs2 ks gs
      rw [hL] at hLb
      have hLb2 : L.length ≤ 100000000 := by omega
      have HBw := Sd.mk (HB4.out.trans (⟨HBel.out.os, HBel.out.tape, HBel.out.output, HBel.out.size, fun k hk => HBel.out.block k (by have := HB4.out.size; have := HBB.out; omega)⟩ : Below w.heap.size w4 wr))
      by_cases hbig : 16384 < L.length
      · have p6 : ((16384 : Int) < (L.length : Int)) = True := eq_true (by omega)
        have p7 : (16384 < L.length) = True := eq_true hbig
        clear hconv
        go_wp2
        go_ret
        exact ⟨rfl, HBw.out⟩
      · have p6 : decide ((16384 : Int) < (L.length : Int)) = false := by simp; omega
        have p7 : decide (16384 < L.length) = false := by simp; omega
        have HE9 := Sd.mk ((Fr.of_below (g := 3) HBw.out).env (by decide) HE.out)
        have HX9 : Sd (At wr C5 25 #[.slice ao1 n1 cc1, .slice ao2 n2 cc2]) := ⟨HX4.out.belowO HBel.out (by have := HX4.out.lt; have := HBB.out; omega)⟩
        have HS9 : Sd (SchR wr (.agg #[.slice ao1 n1 cc1, .slice ao2 n2 cc2]) sc) := ⟨HS4.out.keep (keepCells (HBB.out ▸ HBel.out))⟩
        have hq := HL.out.good ks gs sc HT.out hgl hg4 (by rw [hL]; omega) HP.out
        have hcn := HL.out.count sc HP.out
        rw [hL] at hq
        have cP := parse_c wr ⟨L.toArray⟩ (by show L.toArray.size ≤ _; simp; omega) HE9.out _ hq
        have cS := fun W va vb => same_c W va vb sc hcn
        unfold ParsePost at cP
        simp only at cP
        clear hq hL hcn
        go_upto_region 19 with (go_at_call 8; refine cP.mono ?_; rintro e' w8 ⟨v8, rfl, ⟨vo, ve, rfl, hob, hen⟩, h1⟩; have HT8 := Sd.mk (SchAt.read ⟨vo, ve, rfl, hob, hen⟩); obtain ⟨ao3, cc3, rfl⟩ := hob.slice; obtain ⟨ao4, cc4, rfl⟩ := hen.slice; have HX8 := Sd.mk (HX9.out.below h1); have HS8 := Sd.mk (HS9.out.keep (keepCells h1)); have HB8 := Sd.mk (HBw.out.trans ⟨h1.os, h1.tape, h1.output, h1.size, fun k hk => h1.block k (Nat.lt_of_lt_of_le hk HBw.out.size)⟩); clear h1 hob hen)
        obtain ⟨n3, hn3⟩ : ∃ n, sc.objs.length = n := ⟨_, rfl⟩
        obtain ⟨n4, hn4⟩ : ∃ n, sc.enums.length = n := ⟨_, rfl⟩
        rw [hn3, hn4] at HT8 ⊢
        clear hn3 hn4
        have hbl9 := (Below.refl w8.heap.size w8).alloc (Nat.le_refl _) (.cells #[.slice ao3 n3 cc3, .slice ao4 n4 cc4] 25)
        have HX8b := Sd.mk (HX8.out.alloc (.cells #[.slice ao3 n3 cc3, .slice ao4 n4 cc4] 25))
        have HY8 := Sd.mk (At.fresh w8 25 #[.slice ao3 n3 cc3, .slice ao4 n4 cc4])
        have HS8b := Sd.mk (HS8.out.keep (keepCells hbl9))
        have HT8b := Sd.mk (HT8.out.keep (keepCells hbl9))
        have HB8b := Sd.mk (HB8.out.alloc HB8.out.size (.cells #[.slice ao3 n3 cc3, .slice ao4 n4 cc4] 25))
        clear hbl9
        generalize w8.alloc (.cells #[.slice ao3 n3 cc3, .slice ao4 n4 cc4] 25) = w9 at HX8b HY8 HB8b HS8b HT8b ⊢
        have y0 := HX8b.out.cell 0 rfl
        have y1 := HX8b.out.cell 1 rfl
        have y2 := HY8.out.cell 0 rfl
        have y3 := HY8.out.cell 1 rfl
        clear cP hconv
        go_wp2_with (go_at_call 11; refine (cS _ _ _ HS8b.out HT8b.out).mono ?_; rintro e' w10 ⟨rfl, h1⟩; have HB10 := Sd.mk (HB8b.out.trans ⟨h1.os, h1.tape, h1.output, h1.size, fun k hk => h1.block k (Nat.lt_of_lt_of_le hk HB8b.out.size)⟩); clear h1)
        go_ret
        exact ⟨rfl, HB10.out⟩

theorem ignores_c (w : World) (s : ByteArray) (vg : Value) (zs : List Int) (hg : RowR w vg 1 zs.length (zs.map (Value.int .i64))) (hs : s.size ≤ 9223372036854775807) (E : Env w) (hL : LawI s) :
    Calls Tryz.prog 6 #[.string s, vg] w fun e w' => e = .returned (.bool true) ∧ Below w.heap.size w w' := by
  obtain ⟨⟨ks, er⟩, ht⟩ : ∃ q, toks s = q := ⟨_, rfl⟩
  cases er with
  | some q =>
    obtain ⟨p, e⟩ := q
    exact ignores_err w s vg hs E hL ks p e ht
  | none =>
    cases hp : parseT s with
    | error q =>
      obtain ⟨p, e⟩ := q
      exact ignores_bad w s vg zs hg hs E hL ks ht p e hp
    | ok sc => exact ignores_ok w s vg zs hg hs E hL ks ht sc hp
end Go.Proofs.YtibgigffedejpaaGreatDoor
