import Derived.Test.YtibgigffedejpaaGreatDoorWc
import Derived.Lib.ReplaceLaws
import Derived.Lib.Join
import Derived.Deep.QuietTactic
import Derived.OrdersIn
import Derived.ControlIn
import Derived.RangeFuncRecord
import Derived.RangeFuncSeq
import Derived.Recover
import Derived.DefersIn
namespace Go.Proofs.YtibgigffedejpaaGreatDoor
set_option linter.unusedVariables false
set_option linter.unusedSimpArgs false
open Go.RowKit
set_option linter.unusedVariables false
set_option linter.unusedSimpArgs false

theorem esc_out {s : ByteArray} {i : Nat} (h : ¬ i < s.size) : esc s i = none := by unfold esc; rw [if_neg h]
theorem esc_sign {s : ByteArray} {i : Nat} {b : UInt8} (h : i < s.size) (h1 : sign (bt s i) = some b) : esc s i = some ([b], i + 1) := by unfold esc; rw [if_pos h, h1]
theorem esc_u {s : ByteArray} {i : Nat} (h : i < s.size) (h1 : sign (bt s i) = none) (h2 : bt s i = 117) (h3 : i + 5 ≤ s.size) (hx : ∀ k, k < 4 → isHex (bt s (i + 1 + k)) = true) : esc s i = some (unit (hex4 s (i + 1)), i + 5) := by
  unfold esc
  rw [if_pos h, h1]
  simp only
  rw [if_pos ⟨h2, h3, hx 0 (by decide), hx 1 (by decide), hx 2 (by decide), hx 3 (by decide)⟩]
theorem esc_no {s : ByteArray} {i : Nat} (h1 : sign (bt s i) = none) (h2 : ¬ (bt s i = 117 ∧ i + 5 ≤ s.size)) : esc s i = none := by
  unfold esc
  split
  · rw [h1]; simp only
    rw [if_neg (fun hc => h2 ⟨hc.1, hc.2.1⟩)]
  · rfl
theorem esc_nohex {s : ByteArray} {i k : Nat} (h1 : sign (bt s i) = none) (hk : k < 4) (hx : isHex (bt s (i + 1 + k)) = false) : esc s i = none := by
  unfold esc
  split
  · rw [h1]; simp only
    refine if_neg (fun hc => ?_)
    obtain ⟨_, _, a, b, c, d⟩ := hc
    match k, hk with
    | 0, _ => rw [Nat.add_zero] at hx; rw [hx] at a; cases a
    | 1, _ => rw [Nat.add_assoc] at hx; rw [hx] at b; cases b
    | 2, _ => rw [Nat.add_assoc] at hx; rw [hx] at c; cases c
    | 3, _ => rw [Nat.add_assoc] at hx; rw [hx] at d; cases d
  · rfl

set_option maxRecDepth 100000 in
set_option maxHeartbeats 4000000 in
theorem escape_c (w : World) (g : Nat) (s : ByteArray) (i f n : Nat) (r : Option (List UInt8 × Nat)) (h : RD w g s i f n) (hi : i ≤ s.size) (hs : s.size ≤ 16384) (hr : esc s i = r) :
    Calls Tryz.prog 107 #[.pointer (some ⟨g, 0, none⟩)] w (EscPost g s f n w r) := by
  have HR := Sd.mk hr
  clear hr
  have HF0 := Sd.mk (Fr.refl g w)
  have H0 := Sd.mk h
  clear h
  go_enter Tryz.func107, Tryz.ntmps107
  go_upto_region 2 with (go_at_call 105; refine (peek_z _ g s i f n 0 _ H0.out hi hs (by decide) (by decide) rfl).mono ?_; rintro e w2 ⟨rfl, h2, hf2⟩; have H := Sd.mk h2; have HF := Sd.mk (HF0.out.trans hf2); clear h2 hf2 HF0 H0)
  have h0 := H.out.c0
  have h1 := H.out.c1
  have f1 := H.out.fz 1
  by_cases hc : i < s.size
  · have p2 : ((i : Int) < (s.size : Int)) = True := by simp; omega
    have hbt := bt_lt s i
    go_quiet (first | (go_at_call 86; refine Calls.quiet_of_same (must_t _ g 52)))
    have cI := fun w => Tryz.strings_IndexByte signsT (bt s i) w
    rw [Int.toNat_natCast] at cI
    cases hsg : sign (bt s i) with
    | some b =>
      have hix := sgn_some hbt hsg
      generalize Lib.indexByte signsT.data.toList (bt s i).toUInt8 = ix at cI hix
      obtain ⟨i0, i8, hext⟩ := hix
      have HX := Sd.mk hext
      have HSG := Sd.mk hsg
      have q1 : (0 ≤ ix) = True := by simp [i0]
      have q2 : (ix + 1 ≤ 8) = True := by simp; omega
      have q3 : (ix ≤ ix + 1) = True := by simp; omega
      clear hext hsg
      go_wp2_with (go_at_call 83; refine (cI _).mono ?_; rintro e w1 ⟨rfl, rfl⟩)
      go_ret
      have e : some ([b], i + 1) = r := by rw [← HR.out, esc_sign hc HSG.out]
      rw [← e]
      exact ⟨by rw [← HX.out]; rfl, (H.out.drewN _).set1 (i + 1), (HF.out.drewN _).setCell (.inl rfl) _⟩
    | none =>
      have hix := sgn_none hbt hsg
      generalize Lib.indexByte signsT.data.toList (bt s i).toUInt8 = ix at cI hix
      have HSG := Sd.mk hsg
      clear hsg
      have q1 : (0 ≤ ix) = False := by simp; omega
      have q2 : decide (0 ≤ ix) = false := by simp; omega
      have H2 := fun k => Sd.mk ((H.out.drewN k).set1 (i + 1))
      have HF2 := fun k => Sd.mk ((HF.out.drewN k).setCell (p := ⟨g, 1, none⟩) (.inl rfl) (.int .i64 (i + 1 : Nat)))
      go_upto_region 7 with (go_at_call 83; refine (cI _).mono ?_; rintro e w1 ⟨rfl, rfl⟩)
      obtain ⟨q, hq⟩ : ∃ q, i + 1 = q := ⟨_, rfl⟩
      have H3 : Sd (RD (World.setCell (w2.drewN nq) ⟨g, 1, none⟩ (.int .i64 ((i : Int) + 1))) g s q f n) := hq ▸ H2 nq
      have HF3 : Sd (Fr g w (World.setCell (w2.drewN nq) ⟨g, 1, none⟩ (.int .i64 ((i : Int) + 1)))) := HF2 nq
      generalize World.setCell (w2.drewN nq) ⟨g, 1, none⟩ (.int .i64 ((i : Int) + 1)) = w3 at H3 HF3 ⊢
      clear H2 HF2 H HF h0 h1 f1 cI
      have h0 := H3.out.c0
      have h1 := H3.out.c1
      have f1 := H3.out.fz 1
      by_cases hu : bt s i = 117
      · have e1 : ((bt s i : Int) == 117) = true := by simp [hu]
        by_cases h5 : i + 5 ≤ s.size
        · have q4 : (4 ≤ (s.size : Int) - (q : Int)) = True := by simp; omega
          have q5 : decide (4 ≤ (s.size : Int) - (q : Int)) = true := by simp; omega
          have HU := Sd.mk hu
          clear hu
          go_quiet (first | (go_at_call 86; refine Calls.quiet_of_same (must_t _ g 52)))
          go_wp2
          go_loopw [56] (fun v wr => ∃ j : Nat, v = .int .i64 j ∧ j ≤ 4 ∧ Sd (∀ k, k < j → isHex (bt s (q + k)) = true) ∧ Sd (RD wr g s q f n) ∧ Sd (Fr g w wr)) (fun v _ => 4 - (intOf v).toNat)
          case atStart => exact ⟨0, rfl, by omega, ⟨fun k hk => absurd hk (by omega)⟩, ⟨H3.out.drewN _⟩, ⟨HF3.out.drewN _⟩⟩
          case round =>
            obtain ⟨j, rfl, hj4, HJ, H4, HF4⟩ := hrel
            clear H3 HF3 h0 h1 f1
            have h0 := H4.out.c0
            have h1 := H4.out.c1
            have f1 := H4.out.fz 1
            by_cases hj : j < 4
            · have hl : q + j < s.size := by omega
              have p3 : (0 ≤ (q : Int) + (j : Int)) = True := by simp; omega
              have p4 : ((q : Int) + (j : Int) < (s.size : Int)) = True := by simp; omega
              have cJ := fun w => Tryz.strings_IndexByte hexT (s[q + j].toNat) w
              have hx : decide (0 ≤ Lib.indexByte hexT.data.toList ((s[q + j].toNat : Int)).toNat.toUInt8) = isHex (bt s (q + j)) := by
                rw [nat_u8 s (q + j) hl]; exact hex_set _ (bt_lt s (q + j))
              generalize Lib.indexByte hexT.data.toList ((s[q + j].toNat : Int)).toNat.toUInt8 = ix2 at cJ hx
              cases hp : isHex (bt s (q + j)) with
              | true =>
                rw [hp] at hx
                have HP := Sd.mk hp
                clear hp
                go_wp2_with fail
                go_quiet (first | (go_at_call 83; refine Calls.quiet_of_same (cJ _)) | (go_at_call 86; refine Calls.quiet_of_same (must_t _ g 52)))
                go_wp2
                go_roundw
                case rel => exact ⟨j + 1, by go_num, by omega, ⟨fun k hk => by
                  by_cases hkj : k = j
                  · subst hkj; exact HP.out
                  · exact HJ.out k (by omega)⟩, ⟨H4.out.drewN _⟩, ⟨HF4.out.drewN _⟩⟩
                case measure => simp [intOf]; omega
              | false =>
                rw [hp] at hx
                have HP := Sd.mk hp
                clear hp
                go_wp2_with fail
                refine region_loud_lit (by kernel_rfl) (by kernel_rfl) (fun _ _ d _ _ h => by cases d <;> exact h) ?_
                dsimp only [dropZ, lastZ]
                repeat (go_big_quiet_step ((go_at_call 83; refine Calls.quiet_of_same (cJ _))))
                refine wpQuiet_nil ?_
                refine loud_end (by rfl) (fun n' => ?_)
                go_simp
                refine (must_f _ g s _ f n 52 (H4.out.drewN _)).mono ?_
                rintro e w4 ⟨rfl, rfl⟩
                have e : none = r := by rw [← HR.out, esc_nohex HSG.out hj (by rw [hq]; exact HP.out)]
                subst e
                exact ⟨rfl, rfl, HF4.out.drewN _⟩
            · obtain rfl : j = 4 := by omega
              have hl : q + 4 ≤ s.size := by omega
              have p3 : (0 ≤ (q : Int)) = True := by simp
              have p4 : ((q : Int) ≤ (q : Int) + 4) = True := eq_true (by omega)
              have p6 : IntKind.i64.wrap ((q : Int) + 4) = (q : Int) + 4 := wraps_i64_62 _ (by omega) (by omega)
              have p7 : (0 ≤ (q : Int) + 4) = True := eq_true (by omega)
              have p8 : ((q : Int) + 4).toNat = q + 4 := by omega
              have p5 : ((q : Int) + 4 ≤ (s.size : Int)) = True := by simp; omega
              obtain ⟨z, hz⟩ : ∃ z : Nat, hex4 s q = z := ⟨_, rfl⟩
              have hz2 := hex4_lt s q HJ.out
              rw [hz] at hz2
              have cU := fun w => parseUint_c (s.extract q (q + 4)) (by rw [ByteArray.size_extract]; omega) (isHex4 s q hl HJ.out) w z (by rw [hexN4 s q hl, hz])
              obtain ⟨y, hy⟩ : ∃ y : Int, (z : Int) = y := ⟨_, rfl⟩
              have cU := cU wr.drew
              rw [hy] at cU
              have y0 : 0 ≤ y := by omega
              have y1 : y < 65536 := by omega
              have HE : Sd (some (unit y.toNat, q + 4) = r) := ⟨by rw [← HR.out, esc_u hc HSG.out HU.out h5 (by rw [hq]; exact HJ.out), hq, hz, ← hy, Int.toNat_natCast, ← hq]⟩
              have hsur : Lib.validRune y = false → 2048 ≤ y := fun hv => by simp [Lib.validRune] at hv; omega
              have hsur := Sd.mk hsur
              have HF4' := Sd.mk HF4.out.drew
              clear hz hz2 hy HU HR HSG HJ hc hi h5 hq
              cases hv : Lib.validRune y with
              | true =>
                have cP := fun w => put_ok y y0 y1 hv w
                clear hv
                go_wp2_with fail
                go_region_held3 (fun w' => w'.cell? ⟨g, 0, none⟩ = some (.string s) ∧ w'.cell? ⟨g, 1, none⟩ = some (.int .i64 q)) (first | exact ⟨H5.out.c0, H5.out.c1⟩ | go_keep | (refine ⟨?_, ?_⟩ <;> assumption)) ((go_at_call 118; refine cU.mono ?_; rintro e w1 ⟨rfl, hb⟩; have H5 := Sd.mk (RD.below (w := wr.drew) H4.out hb); have e0 := H5.out.c0; have e1 := H5.out.c1; have g1 := H5.out.fz 1; have HF5 := Sd.mk (HF4'.out.trans (Fr.of_below hb)); clear hb cU))
                go_wp2_with (go_at_call 119; refine (cP _).mono ?_; rintro e w1 ⟨rfl, rfl⟩)
                go_ret
                rw [← HE.out]
                exact ⟨rfl, H5.out.set1 (q + 4), HF5.out.setCell (.inl rfl) _⟩
              | false =>
                have y2 := hsur.out hv
                have cP := fun w => put_no y y0 y1 hv w
                clear hv
                go_wp2_with fail
                go_region_held3 (fun w' => w'.cell? ⟨g, 0, none⟩ = some (.string s) ∧ w'.cell? ⟨g, 1, none⟩ = some (.int .i64 q)) (first | exact ⟨H5.out.c0, H5.out.c1⟩ | go_keep | (refine ⟨?_, ?_⟩ <;> assumption)) ((go_at_call 118; refine cU.mono ?_; rintro e w1 ⟨rfl, hb⟩; have H5 := Sd.mk (RD.below (w := wr.drew) H4.out hb); have e0 := H5.out.c0; have e1 := H5.out.c1; have g1 := H5.out.fz 1; have HF5 := Sd.mk (HF4'.out.trans (Fr.of_below hb)); clear hb cU))
                go_wp2_with (first | (go_at_call 119; refine (cP _).mono ?_; rintro e w1 ⟨rfl, rfl⟩) | (go_at_call 120; refine (three_c y y0 y1 y2 _).mono ?_; rintro e w6 ⟨rfl, hb⟩; have HB6 := Sd.mk hb; clear hb))
                go_ret
                rw [← HE.out]
                exact ⟨rfl, (H5.out.set1 (q + 4)).below HB6.out, (HF5.out.setCell (.inl rfl) _).trans (Fr.of_below HB6.out)⟩
        · have q4 : (4 ≤ (s.size : Int) - (q : Int)) = False := by simp; omega
          have q5 : decide (4 ≤ (s.size : Int) - (q : Int)) = false := by simp; omega
          refine region_loud_lit (by kernel_rfl) (by kernel_rfl) (fun _ _ d _ _ h => by cases d <;> exact h) ?_
          dsimp only [dropZ, lastZ]
          repeat (go_big_quiet_step (fail))
          refine wpQuiet_nil ?_
          refine loud_end (by rfl) (fun n' => ?_)
          go_simp
          refine (must_f _ g s _ f n 52 (H3.out.drewN _)).mono ?_
          rintro e w4 ⟨rfl, rfl⟩
          have e : none = r := by rw [← HR.out, esc_no HSG.out (by omega)]
          rw [← e]
          exact ⟨rfl, rfl, HF3.out.drewN _⟩
      · have e1 : ((bt s i : Int) == 117) = false := by simp; omega
        refine region_loud_lit (by kernel_rfl) (by kernel_rfl) (fun _ _ d _ _ h => by cases d <;> exact h) ?_
        dsimp only [dropZ, lastZ]
        repeat (go_big_quiet_step (fail))
        refine wpQuiet_nil ?_
        refine loud_end (by rfl) (fun n' => ?_)
        go_simp
        refine (must_f _ g s _ f n 52 (H3.out.drewN _)).mono ?_
        rintro e w4 ⟨rfl, rfl⟩
        have e : none = r := by rw [← HR.out, esc_no HSG.out (by omega)]
        rw [← e]
        exact ⟨rfl, rfl, HF3.out.drewN _⟩
  · have p2 : decide ((i : Int) < (s.size : Int)) = false := by simp; omega
    refine region_loud_lit (by kernel_rfl) (by kernel_rfl) (fun _ _ d _ _ h => by cases d <;> exact h) ?_
    dsimp only [dropZ, lastZ]
    repeat (go_big_quiet_step (fail))
    refine wpQuiet_nil ?_
    refine loud_end (by rfl) (fun n' => ?_)
    go_simp
    refine (must_f _ g s _ f n 52 (H.out.drewN _)).mono ?_
    rintro e w4 ⟨rfl, rfl⟩
    have e : none = r := by rw [← HR.out, esc_out hc]
    rw [← e]
    exact ⟨rfl, rfl, HF.out.drewN _⟩
end Go.Proofs.YtibgigffedejpaaGreatDoor
namespace Go.Proofs.YtibgigffedejpaaGreatDoor
set_option linter.unusedVariables false
set_option linter.unusedSimpArgs false
open Go.RowKit
set_option linter.unusedVariables false
set_option linter.unusedSimpArgs false

/-- A builder of the call's own, what it holds. -/
def BD (B b : Nat) (l : List UInt8) (w : World) : Prop := Lib.IsBuilder 109 5 B b (Lib.byteCells l) w
theorem BuilderAt_fr {B b g : Nat} {p : Value} {bs : List Value} {w w' : World} (h : Lib.BuilderAt 109 5 B b p bs w) (hf : Fr g w w') (hg : g < B) : Lib.BuilderAt 109 5 B b p bs w' := by
  have hlt := h.lt
  obtain ⟨hB, v, hb, hown, hne⟩ := h
  refine ⟨hB, v, (hf.block b hlt (by omega)).trans hb, hown.kept (row := some g) ⟨hf.os, hf.tape, hf.output, hf.size, fun k hk hkg => hf.block k hk (fun e => hkg (by rw [e]))⟩ ?_, hne⟩
  rcases hown.2 with ⟨rfl, _⟩ | ⟨g', cap, cur, rfl, hg', _⟩
  · exact .inl rfl
  · refine .inr ?_
    simp [Value.ownBlock]; omega
theorem BD.fr {B b g : Nat} {l : List UInt8} {w w' : World} (h : BD B b l w) (hf : Fr g w w') (hg : g < B) : BD B b l w' :=
  h.imp (fun h => BuilderAt_fr h hf hg) (fun h => BuilderAt_fr h hf hg)
theorem BD.drewN {B b : Nat} {l : List UInt8} {w : World} (h : BD B b l w) (n : Nat) : BD B b l (w.drewN n) := h
theorem BD.drew {B b : Nat} {l : List UInt8} {w : World} (h : BD B b l w) : BD B b l w.drew := h
theorem BD.fresh (w : World) : BD w.heap.size w.heap.size [] (w.alloc (.cells #[.pointer none, .slice none 0 0] 109)) := Lib.fresh_isBuilder 109 5 w
theorem Fr.belowB {g : Nat} {w0 w w' : World} (h : Fr g w0 w) (hb : Below w0.heap.size w w') : Fr g w0 w' :=
  ⟨hb.os.trans h.os, hb.tape.trans h.tape, hb.output.trans h.output, Nat.le_trans h.size hb.size, fun k hk hg => (hb.block k hk).trans (h.block k hk hg)⟩
theorem RD.belowB {w w' : World} {g B : Nat} {s : ByteArray} {i f n : Nat} (h : RD w g s i f n) (hb : Below B w w') (hg : g < B) : RD w' g s i f n := (hb.block g hg).trans h
theorem byteCells_append (a b : List UInt8) : Lib.byteCells (a ++ b) = Lib.byteCells a ++ Lib.byteCells b := by simp [Lib.byteCells]

theorem write_c (B b : Nat) (l : List UInt8) (s : ByteArray) (t : List UInt8) (w : World) (h : BD B b l w) (hs : s.data.toList = t) (hlen : l.length + t.length ≤ 140737488355328) (hBw : B ≤ w.heap.size) :
    Calls Tryz.prog 63 #[.pointer (some ⟨b, 0, none⟩), .string s] w fun e w' => e = .returned (.tuple #[.int .i64 s.size, .nilIface]) ∧ BD B b (l ++ t) w' ∧ Below B w w' := by
  refine (writeString_c B b (Lib.byteCells l) s w h (by rw [Lib.byteCells_length]; rw [← hs, ← Lib.size_eq] at hlen; exact hlen) hBw).mono ?_
  rintro e w' ⟨rfl, h1, h2⟩
  refine ⟨rfl, .inr ?_, h2⟩
  rw [byteCells_append, ← hs]
  exact h1
theorem bstring_c (B b : Nat) (l : List UInt8) (w : World) (h : BD B b l w) (hBw : B ≤ w.heap.size) :
    Calls Tryz.prog 64 #[.pointer (some ⟨b, 0, none⟩)] w fun e w' => e = .returned (.string ⟨l.toArray⟩) ∧ Below B w w' := Tryz.Builder_String_any B b l w h hBw

theorem sub_ext (s : ByteArray) (i j : Nat) (h : j ≤ s.size) : (s.extract i j).data.toList = sub s i j := by
  unfold sub
  have hs : s.data.size = s.size := rfl
  simp only [ByteArray.data_extract, Array.toList_extract]
theorem sub_len (s : ByteArray) (i j : Nat) : (sub s i j).length ≤ j - i := by
  unfold sub; simp; omega
theorem unit_len (n : Nat) : (unit n).length ≤ 3 := by
  unfold unit; split
  · simp
  · split <;> simp
theorem esc_len {s : ByteArray} {i j : Nat} {t : List UInt8} (h : esc s i = some (t, j)) : t.length + i ≤ j ∧ j ≤ s.size ∧ i < j := by
  unfold esc at h
  split at h
  · split at h
    · simp only [Option.some.injEq, Prod.mk.injEq] at h
      obtain ⟨rfl, rfl⟩ := h
      simp; omega
    · split at h
      · rename_i hc
        simp only [Option.some.injEq, Prod.mk.injEq] at h
        obtain ⟨rfl, rfl⟩ := h
        have := unit_len (hex4 s (i + 1))
        omega
      · cases h
  · cases h
theorem txt_none {s : ByteArray} {i : Nat} {acc : List UInt8} (h : src s i = none) : txt s i acc = none := by rw [txt, h]
theorem txt_nl {s : ByteArray} {i c k : Nat} {acc : List UInt8} (h : src s i = some (c, k)) (hc : c = 10 ∨ c = 13) : txt s i acc = none := by rw [txt, h]; simp only; rw [if_pos hc]
theorem txt_end {s : ByteArray} {i k : Nat} {acc : List UInt8} (h : src s i = some (34, k)) : txt s i acc = some (acc, i + k) := by rw [txt, h]; simp
theorem txt_esc0 {s : ByteArray} {i k : Nat} {acc : List UInt8} (h : src s i = some (92, k)) (he : esc s (i + k) = none) : txt s i acc = none := by rw [txt, h]; simp [he]
theorem txt_esc {s : ByteArray} {i k j : Nat} {acc t : List UInt8} (h : src s i = some (92, k)) (he : esc s (i + k) = some (t, j)) : txt s i acc = txt s j (acc ++ t) := by
  have h1 := src_some h
  have h2 := esc_len he
  rw [txt, h]
  simp only
  rw [if_neg (by decide), if_neg (by decide), if_pos trivial, he]
  simp only
  rw [if_pos (by omega)]
theorem txt_on {s : ByteArray} {i c k : Nat} {acc : List UInt8} (h : src s i = some (c, k)) (h1 : c ≠ 10) (h2 : c ≠ 13) (h3 : c ≠ 34) (h4 : c ≠ 92) : txt s i acc = txt s (i + k) (acc ++ sub s i (i + k)) := by
  have h5 := src_some h
  rw [txt, h]
  simp only
  rw [if_neg (by omega), if_neg h3, if_neg h4, if_pos (by omega)]
end Go.Proofs.YtibgigffedejpaaGreatDoor
namespace Go.Proofs.YtibgigffedejpaaGreatDoor
set_option linter.unusedVariables false
set_option linter.unusedSimpArgs false
open Go.RowKit
set_option linter.unusedVariables false
set_option linter.unusedSimpArgs false

set_option maxRecDepth 100000 in
set_option maxHeartbeats 4000000 in
theorem text_c (w : World) (g : Nat) (s : ByteArray) (i f n : Nat) (r : Option (List UInt8 × Nat)) (h : RD w g s i f n) (hi : i < s.size) (hs : s.size ≤ 16384) (hg : 3 ≤ g) (E : Env w) (hr : txt s (i + 1) [] = r) :
    Calls Tryz.prog 90 #[.pointer (some ⟨g, 0, none⟩)] w (EscPost g s f n w r) := by
  have HR := Sd.mk hr
  clear hr
  have hgl := h.lt
  have H0 := Sd.mk (h.alloc (.cells #[.pointer none, .slice none 0 0] 109))
  have HB0 := Sd.mk (BD.fresh w)
  have HF0 := Sd.mk ((Fr.refl g w).alloc (.cells #[.pointer none, .slice none 0 0] 109))
  clear h
  go_enter Tryz.func90, Tryz.ntmps90
  obtain ⟨B, hB⟩ : ∃ B, w.heap.size = B := ⟨_, rfl⟩
  have hE0 : Env (w.alloc (.cells #[.pointer none, .slice none 0 0] 109)) := HF0.out.env hg E
  go_upto_region 2 with (fail)
  rw [hB] at HB0 hgl
  have hBw : B ≤ (w.alloc (.cells #[.pointer none, .slice none 0 0] 109)).heap.size := by rw [← hB]; exact HF0.out.size
  generalize w.alloc (.cells #[.pointer none, .slice none 0 0] 109) = w1 at H0 HB0 HF0 hE0 hBw ⊢
  have h0 := H0.out.c0
  have h1 := H0.out.c1
  have f1 := H0.out.fz 1
  go_wp2
  go_loopw [] (fun wr => ∃ (q : Nat) (l : List UInt8), q ≤ s.size ∧ l.length ≤ q ∧ Sd (RD wr g s q f n) ∧ Sd (Fr g w wr) ∧ Sd (BD B B l wr) ∧ Sd (txt s q l = r)) (fun wr => s.size - atOf g wr)
  case atStart => exact ⟨i + 1, [], by omega, by simp, ⟨H0.out.set1 (i + 1)⟩, ⟨HF0.out.setCell (.inl rfl) _⟩, ⟨HB0.out.fr (w' := World.setCell w1 ⟨g, 1, none⟩ (.int .i64 (i + 1 : Nat))) ((Fr.refl g w1).setCell (.inl rfl) _) hgl⟩, HR⟩
  case round =>
    obtain ⟨q, l, hq, hl, H1, HF, HB, HQ⟩ := hrel
    clear h0 h1 f1 H0 HF0 HB0 HR hE0 hBw
    have h0 := H1.out.c0
    have h1 := H1.out.c1
    have f1 := H1.out.fz 1
    have hE := HF.out.env hg E
    have HBw : ∀ w', Fr g w w' → B ≤ w'.heap.size := fun w' h => by rw [← hB]; exact h.size
    have HBw := Sd.mk HBw
    have HfB : ∀ w1 w2, Fr g w w1 → Below B w1 w2 → Fr g w w2 := fun w1 w2 h hb => h.belowB (hB ▸ hb)
    have HfB := Sd.mk HfB
    cases hsr : src s q with
    | none =>
      have cS := fun w (h : RD w g s q f n) (E : Env w) => source_none w g s q f n h hq hs E.tabs hsr
      have HN : Sd (none = r) := ⟨by rw [← HQ.out, txt_none hsr]⟩
      clear hsr
      go_wp2_with (first | (go_at_call 85; refine (cS _ H1.out hE).mono ?_; rintro e w3 ⟨rfl, h3, hf3⟩; have H3 := Sd.mk h3; have HF3 := Sd.mk (HF.out.trans hf3); clear h3 hf3) | (go_at_call 86; refine (must_f _ g s _ f n 52 H3.out).mono ?_; rintro e w4 ⟨rfl, rfl⟩))
      rw [← HN.out]
      exact ⟨rfl, rfl, HF3.out⟩
    | some p =>
      obtain ⟨c, k⟩ := p
      have hk := src_some hsr
      have cS := fun w (h : RD w g s q f n) (E : Env w) => source_some w g s q f n c k h hq hs E.tabs hsr
      have hk1 := hk.2.1
      have hk2 := hk.2.2.2.2.2.1
      clear hk
      by_cases c10 : c = 10
      · subst c10
        have HN : Sd (none = r) := ⟨by rw [← HQ.out, txt_nl hsr (.inl rfl)]⟩
        clear hsr
        go_wp2_with (first | (go_at_call 85; refine (cS _ H1.out hE).mono ?_; rintro e w3 ⟨rfl, h3, hf3⟩; have H3 := Sd.mk h3; have HF3 := Sd.mk (HF.out.trans hf3); clear h3 hf3) | (go_at_call 86; refine (must_f _ g s _ f n 52 H3.out).mono ?_; rintro e w4 ⟨rfl, rfl⟩))
        rw [← HN.out]
        exact ⟨rfl, rfl, HF3.out⟩
      · by_cases c13 : c = 13
        · subst c13
          have HN : Sd (none = r) := ⟨by rw [← HQ.out, txt_nl hsr (.inr rfl)]⟩
          clear hsr c10
          go_wp2_with (first | (go_at_call 85; refine (cS _ H1.out hE).mono ?_; rintro e w3 ⟨rfl, h3, hf3⟩; have H3 := Sd.mk h3; have HF3 := Sd.mk (HF.out.trans hf3); clear h3 hf3) | (go_at_call 86; refine (must_f _ g s _ f n 52 H3.out).mono ?_; rintro e w4 ⟨rfl, rfl⟩))
          rw [← HN.out]
          exact ⟨rfl, rfl, HF3.out⟩
        · have e10 : ((c : Int) != 10) = true := by simp; omega
          have e13 : ((c : Int) != 13) = true := by simp; omega
          by_cases c34 : c = 34
          · subst c34
            have HN : Sd (some (l, q + k) = r) := ⟨by rw [← HQ.out, txt_end hsr]⟩
            clear hsr c10 c13
            go_wp2_with (first | (go_at_call 85; refine (cS _ H1.out hE).mono ?_; rintro e w3 ⟨rfl, h3, hf3⟩; have H3 := Sd.mk h3; have HF3 := Sd.mk (HF.out.trans hf3); have HB3 := Sd.mk (HB.out.fr hf3 hgl); clear h3 hf3) | (go_at_call 86; refine (must_t _ g 52).mono ?_; rintro e w4 ⟨rfl, rfl⟩) | (go_at_call 64; refine (bstring_c B B l _ HB3.out (HBw.out _ HF3.out)).mono ?_; rintro e w5 ⟨rfl, hb5⟩; have H5 := Sd.mk (H3.out.belowB hb5 hgl); have HF5 := Sd.mk (HfB.out _ _ HF3.out hb5); clear hb5))
            go_ret
            rw [← HN.out]
            exact ⟨rfl, H5.out, HF5.out⟩
          · have e34 : ((c : Int) == 34) = false := by simp; omega
            by_cases c92 : c = 92
            · subst c92
              cases hes : esc s (q + k) with
              | none =>
                have HN : Sd (none = r) := ⟨by rw [← HQ.out, txt_esc0 hsr hes]⟩
                have HES := Sd.mk hes
                clear hsr c10 c13 c34 hes
                go_wp2_with (first | (go_at_call 85; refine (cS _ H1.out hE).mono ?_; rintro e w3 ⟨rfl, h3, hf3⟩; have H3 := Sd.mk h3; have HF3 := Sd.mk (HF.out.trans hf3); have HB3 := Sd.mk (HB.out.fr hf3 hgl); clear h3 hf3) | (go_at_call 86; refine (must_t _ g 52).mono ?_; rintro e w4 ⟨rfl, rfl⟩) | (go_at_call 107; refine (escape_c _ g s (q + k) f n none H3.out hk2 hs HES.out).mono ?_; rintro e w5 ⟨rfl, hf5⟩; have HF5 := Sd.mk (HF3.out.trans hf5); clear hf5))
                rw [← HN.out]
                exact ⟨rfl, rfl, HF5.out⟩
              | some p =>
                obtain ⟨t, j⟩ := p
                have HN : Sd (txt s j (l ++ t) = r) := ⟨by rw [← HQ.out, txt_esc hsr hes]⟩
                have hel := esc_len hes
                have hl2 : (l ++ t).length ≤ j := by simp; omega
                have HL := Sd.mk hl2
                have hj1 := hel.2.1
                have hj2 : q < j := by omega
                have hwl : Sd (l.length + t.length ≤ 140737488355328) := ⟨by simp at hl2; omega⟩
                have HES := Sd.mk hes
                clear hsr c10 c13 c34 hes hel hl2
                go_wp2_with (first | (go_at_call 85; refine (cS _ H1.out hE).mono ?_; rintro e w3 ⟨rfl, h3, hf3⟩; have H3 := Sd.mk h3; have HF3 := Sd.mk (HF.out.trans hf3); have HB3 := Sd.mk (HB.out.fr hf3 hgl); clear h3 hf3) | (go_at_call 86; refine (must_t _ g 52).mono ?_; rintro e w4 ⟨rfl, rfl⟩) | (go_at_call 107; refine (escape_c _ g s (q + k) f n (some (t, j)) H3.out hk2 hs HES.out).mono ?_; rintro e w5 ⟨rfl, h5, hf5⟩; have H5 := Sd.mk h5; have HF5 := Sd.mk (HF3.out.trans hf5); have HB5 := Sd.mk (HB3.out.fr hf5 hgl); clear h5 hf5) | (go_at_call 63; refine (write_c B B l _ t _ HB5.out rfl hwl.out (HBw.out _ HF5.out)).mono ?_; rintro e w6 ⟨rfl, h6, hb6⟩; have H6 := Sd.mk (H5.out.belowB hb6 hgl); have HF6 := Sd.mk (HfB.out _ _ HF5.out hb6); have HB6 := Sd.mk h6; clear h6 hb6))
                go_roundw
                case rel => exact ⟨j, l ++ t, hj1, HL.out, H6, HF6, HB6, HN⟩
                case measure => exact meas_lt H1.out H6.out hj2 hj1
            · have e92 : ((c : Int) == 92) = false := by simp; omega
              have HN0 := txt_on hsr c10 c13 c34 c92 (acc := l)
              obtain ⟨j, hj⟩ : ∃ j, q + k = j := ⟨_, rfl⟩
              rw [hj] at cS hk2 HN0
              have HN : Sd (txt s j (l ++ sub s q j) = r) := ⟨by rw [← HQ.out, HN0]⟩
              have hsl := sub_len s q j
              have hl2 : (l ++ sub s q j).length ≤ j := by simp; omega
              have HL := Sd.mk hl2
              have hwl : Sd (l.length + (sub s q j).length ≤ 140737488355328) := ⟨by simp at hl2; omega⟩
              have hj2 : q < j := by omega
              have HX := Sd.mk (sub_ext s q j hk2)
              have p1 : (0 ≤ (q : Int)) = True := eq_true (by omega)
              have p2 : ((q : Int) ≤ (j : Int)) = True := eq_true (by omega)
              have p3 : ((j : Int) ≤ (s.size : Int)) = True := eq_true (by omega)
              have p4 : (0 ≤ (j : Int)) = True := eq_true (by omega)
              clear hsr c10 c13 c34 c92 HN0 hsl hl2 hj hk1
              go_upto_region 7 with (first | (go_at_call 85; refine (cS _ H1.out hE).mono ?_; rintro e w3 ⟨rfl, h3, hf3⟩; have H3 := Sd.mk h3; have HF3 := Sd.mk (HF.out.trans hf3); have HB3 := Sd.mk (HB.out.fr hf3 hgl); have k0 := h3.c0; have k1 := h3.c1; clear h3 hf3) | (go_at_call 86; refine (must_t _ g 52).mono ?_; rintro e w4 ⟨rfl, rfl⟩))
              clear h0 h1 f1
              go_region_held3 (fun w' => w'.cell? ⟨g, 0, none⟩ = some (.string s) ∧ w'.cell? ⟨g, 1, none⟩ = some (.int .i64 j)) (first | exact ⟨H6.out.c0, H6.out.c1⟩ | go_keep | (refine ⟨?_, ?_⟩ <;> assumption)) ((go_at_call 63; refine (write_c B B l _ (sub s q j) _ HB3.out.drew HX.out hwl.out (HBw.out _ HF3.out.drew)).mono ?_; rintro e w6 ⟨rfl, h6, hb6⟩; have H6 := Sd.mk (H3.out.drew.belowB hb6 hgl); have HF6 := Sd.mk (HfB.out _ _ HF3.out.drew hb6); have HB6 := Sd.mk h6; clear h6 hb6))
              go_wp2
              go_roundw
              case rel => exact ⟨j, l ++ sub s q j, hk2, HL.out, H6, HF6, HB6, HN⟩
              case measure => exact meas_lt H1.out H6.out hj2 hk2
end Go.Proofs.YtibgigffedejpaaGreatDoor
namespace Go.Proofs.YtibgigffedejpaaGreatDoor
set_option linter.unusedVariables false
set_option linter.unusedSimpArgs false
open Go.RowKit
set_option linter.unusedVariables false
set_option linter.unusedSimpArgs false

theorem replaceK_len (old new : List UInt8) : ∀ (k : Nat) (s : List UInt8), (Lib.replaceK old new k s).length ≤ s.length + k * new.length
  | 0, s => by simp [Lib.replaceK]
  | k + 1, s => by
    rw [Lib.replaceK]
    split
    · omega
    · have := replaceK_len old new k (s.drop ((Lib.index s old).toNat + old.length))
      simp only [List.length_append, List.length_take, List.length_drop] at this ⊢
      rw [Nat.succ_mul]
      omega
theorem replaceAll_len (s old new : ByteArray) (h1 : 1 ≤ old.size) (h2 : new.size = 1) : (Lib.replaceAll s.data.toList old.data.toList new.data.toList).length ≤ 2 * s.size := by
  have hn : new.data.toList.length = 1 := by rw [← Lib.size_eq]; exact h2
  have hs : s.data.toList.length = s.size := (Lib.size_eq s).symm
  unfold Lib.replaceAll Lib.replace
  split
  · omega
  · have hc := Lib.countB_le old h1 s.size s (Nat.le_refl _)
    have := replaceK_len old.data.toList new.data.toList (Lib.replaceNum s.data.toList old.data.toList (-1)) s.data.toList
    have hnum : Lib.replaceNum s.data.toList old.data.toList (-1) = Lib.countB s old := by
      unfold Lib.replaceNum; rw [if_pos (.inl (by decide))]
      try rfl
    rw [hnum, hn] at this
    rw [hnum]
    omega
theorem splitB_sizes (sep : ByteArray) : ∀ (k : Nat) (s : ByteArray), ∀ x ∈ Lib.splitB sep 0 k s, x.size ≤ s.size
  | 0, s => by intro x hx; rw [Lib.splitB_zero] at hx; simp at hx; subst hx; omega
  | k + 1, s => by
    intro x hx
    unfold Lib.splitB at hx
    split at hx
    · simp at hx; subst hx; omega
    · simp only [List.mem_cons] at hx
      rcases hx with rfl | hx
      · rw [ByteArray.size_extract]; omega
      · have := splitB_sizes sep k _ x hx
        rw [ByteArray.size_extract] at this; omega

/-- A row of texts. -/
def ST (w : World) (b N : Nat) : Prop := ∃ xs : List ByteArray, xs.length = N ∧ (∀ x ∈ xs, x.size ≤ 70000) ∧ w.heap[b]? = some (.cells (xs.map Value.string).toArray 9 (0, 0))
theorem ST.cell {w : World} {b N j : Nat} (h : ST w b N) (hj : j < N) : ∃ x : ByteArray, x.size ≤ 70000 ∧ w.cell? ⟨b, j, none⟩ = some (.string x) := by
  obtain ⟨xs, hl, hx, hb⟩ := h
  refine ⟨xs[j]'(by omega), hx _ (List.getElem_mem _), ?_⟩
  rw [Lib.cell_of_heap hb]
  simp [hl, hj]
theorem ST.fz {w : World} {b N : Nat} (h : ST w b N) (j : Nat) : w.frozen? ⟨b, j, none⟩ = false := by
  obtain ⟨xs, hl, hx, hb⟩ := h
  exact Lib.frozen_of_heap hb j
theorem ST.lt {w : World} {b N : Nat} (h : ST w b N) : b < w.heap.size := by
  obtain ⟨xs, hl, hx, hb⟩ := h
  exact (Array.getElem?_eq_some_iff.1 hb).1
theorem ST.below {w w' : World} {b N : Nat} (h : ST w b N) (hb : Below w.heap.size w w') : ST w' b N := by
  have hlt := h.lt
  obtain ⟨xs, hl, hx, hh⟩ := h
  exact ⟨xs, hl, hx, (hb.block b hlt).trans hh⟩
theorem ST.drewN {w : World} {b N : Nat} (h : ST w b N) (n : Nat) : ST (w.drewN n) b N := h
theorem ST.drew {w : World} {b N : Nat} (h : ST w b N) : ST w.drew b N := h
theorem ST.set {w : World} {b N j : Nat} {x : ByteArray} (h : ST w b N) (hj : j < N) (hx : x.size ≤ 70000) : ST (w.setCell ⟨b, j, none⟩ (.string x)) b N := by
  obtain ⟨xs, hl, hxs, hb⟩ := h
  refine ⟨xs.set j x, by simp [hl], fun y hy => ?_, ?_⟩
  · rcases List.mem_or_eq_of_mem_set hy with hy | rfl
    · exact hxs y hy
    · exact hx
  · simp [World.setCell, Array.getElem?_modify, hb, hl, hj]

set_option maxHeartbeats 1000000 in
theorem lines_c (w : World) (s : ByteArray) (hs : s.size ≤ 16384) (E : Env w) :
    Calls Tryz.prog 116 #[.string s] w fun e w' => ∃ b N, e = .returned (.slice (some ⟨b, 0, none⟩) N N) ∧ 1 ≤ N ∧ N ≤ 70000 ∧ ST w' b N ∧ w.heap.size ≤ b ∧ Below w.heap.size w w' := by
  obtain ⟨m, hm⟩ := E.maxl
  have hg := E.glob
  have l1 := replaceAll_len s ⟨#[13, 10]⟩ ⟨#[10]⟩ (by decide) (by decide)
  have c1 := Tryz.strings_ReplaceAll s ⟨#[13, 10]⟩ ⟨#[10]⟩ m w (by omega) hm (by decide) (by
    have := Lib.countB_le ⟨#[13, 10]⟩ (by decide) s.size s (Nat.le_refl _)
    have e : (ByteArray.mk #[10]).size = 1 := rfl
    rw [e]; omega)
  generalize Lib.replaceAll s.data.toList _ _ = t1 at l1 c1
  have s1 : (ByteArray.mk t1.toArray).size = t1.length := by simp [ByteArray.size]
  have l2 := replaceAll_len ⟨t1.toArray⟩ ⟨#[13]⟩ ⟨#[10]⟩ (by decide) (by decide)
  have c2 := fun w (hm : w.cell? ⟨0, 0, none⟩ = some (.int .i64 m)) => Tryz.strings_ReplaceAll ⟨t1.toArray⟩ ⟨#[13]⟩ ⟨#[10]⟩ m w (by omega) hm (by decide) (by
    have := Lib.countB_le ⟨#[13]⟩ (by decide) (ByteArray.mk t1.toArray).size ⟨t1.toArray⟩ (Nat.le_refl _)
    have e : (ByteArray.mk #[10]).size = 1 := rfl
    rw [e]; omega)
  generalize Lib.replaceAll (ByteArray.mk t1.toArray).data.toList _ _ = t2 at l2 c2
  have s2 : (ByteArray.mk t2.toArray).size = t2.length := by simp [ByteArray.size]
  have c3 := fun w (hm : w.cell? ⟨0, 0, none⟩ = some (.int .i64 m)) => Tryz.strings_Split ⟨t2.toArray⟩ ⟨#[10]⟩ m w (by omega) hm (by decide)
  have hcnt := Lib.countB_le ⟨#[10]⟩ (by decide) (ByteArray.mk t2.toArray).size ⟨t2.toArray⟩ (Nat.le_refl _)
  have hall := Lib.splitB_all ⟨#[10]⟩ (by decide) 0 _ ⟨t2.toArray⟩ rfl
  have hsz := splitB_sizes ⟨#[10]⟩ (Lib.countB ⟨t2.toArray⟩ ⟨#[10]⟩) ⟨t2.toArray⟩
  generalize Lib.countB ⟨t2.toArray⟩ ⟨#[10]⟩ = N at c3 hcnt hall hsz
  generalize Lib.splitB ⟨#[10]⟩ 0 N ⟨t2.toArray⟩ = xs at c3 hall hsz
  have HS := Sd.mk hsz
  have HA := Sd.mk hall
  have HM : Sd (∀ w', Below w.heap.size w w' → w'.cell? ⟨0, 0, none⟩ = some (.int .i64 m)) := ⟨fun w' h => by
    have : w'.heap[0]? = w.heap[0]? := h.block 0 (by omega)
    unfold World.cell? at hm ⊢
    rw [this]; exact hm⟩
  have HL := Sd.mk (And.intro l1 (And.intro l2 (And.intro hcnt (And.intro s1 s2))))
  clear hm hsz hall l1 l2 hcnt s1 s2
  go_enter Tryz.func116, Tryz.ntmps116
  go_wp2_with (first | (go_at_call 124; with_reducible refine c1.mono ?_; rintro e w1 ⟨rfl, h1⟩; have H1 := Sd.mk h1; clear h1 c1) | (go_at_call 124; refine (c2 _ (HM.out _ H1.out)).mono ?_; rintro e w2 ⟨rfl, h2⟩; have H2 := Sd.mk (H1.out.trans (h2.mono H1.out.size)); clear h2) | (go_at_call 125; refine (c3 _ (HM.out _ H2.out)).mono ?_; rintro e w3 ⟨rfl, rfl⟩))
  go_ret
  have hw2 := H2.out.size
  refine ⟨_, N + 1, by first | rfl | simp, by omega, by have := HL.out; omega, ⟨xs, HA.out, fun x hx => by have h1 := HS.out x hx; have := HL.out; omega, heap_alloc_new _ _⟩, hw2, H2.out.alloc hw2 _⟩

theorem trimLeftS_len (l cs : List UInt8) : (Lib.trimLeftS l cs).length ≤ l.length := by
  unfold Lib.trimLeftS
  exact List.IsSuffix.length_le (List.dropWhile_suffix _)
set_option maxHeartbeats 1000000 in
theorem indent_c (w : World) (s : ByteArray) (hs : s.size ≤ 70000) :
    Calls Tryz.prog 117 #[.string s] w fun e w' => ∃ n : Nat, e = .returned (.int .i64 n) ∧ n ≤ s.size ∧ Below w.heap.size w w' := by
  have c1 := Tryz.strings_TrimLeft_laid s ⟨#[32, 9]⟩ w (by decide) (by
    intro j b hb
    have : b ∈ [(32 : UInt8), 9] := List.mem_of_getElem? hb
    simp at this
    rcases this with rfl | rfl <;> decide)
  have l1 := trimLeftS_len s.data.toList [32, 9]
  have e1 : (ByteArray.mk #[32, 9]).data.toList = [32, 9] := rfl
  rw [e1] at c1
  generalize Lib.trimLeftS s.data.toList [32, 9] = t at c1 l1
  have s1 : (ByteArray.mk t.toArray).size = t.length := by simp [ByteArray.size]
  rw [← Lib.size_eq, ← s1] at l1
  generalize ByteArray.mk t.toArray = u at c1 l1
  clear s1
  go_enter Tryz.func117, Tryz.ntmps117
  go_wp2_with (go_at_call 126; refine c1.mono ?_; rintro e w1 ⟨rfl, h1⟩; have H1 := Sd.mk h1; clear h1 c1)
  go_ret
  exact ⟨s.size - u.size, by rw [Int.ofNat_sub l1]; rfl, by omega, H1.out⟩
end Go.Proofs.YtibgigffedejpaaGreatDoor
namespace Go.Proofs.YtibgigffedejpaaGreatDoor
set_option linter.unusedVariables false
set_option linter.unusedSimpArgs false
open Go.RowKit
set_option linter.unusedVariables false
set_option linter.unusedSimpArgs false

theorem below_cell {w w' : World} {p : Addr} {v : Value} (h : Below w.heap.size w w') (hlt : p.block < w.heap.size) (hc : w.cell? p = some v) : w'.cell? p = some v := by
  unfold World.cell? at *
  rw [h.block p.block hlt]
  exact hc
theorem belowN {B : Nat} {a w : World} (h : Below B a w) (n : Nat) : Below B a (w.drewN n) := ⟨h.os, h.tape, h.output, h.size, h.block⟩
def slLen : Value → Nat
  | .slice _ n _ => n
  | _ => 0
theorem lens_le : ∀ (xs : List ByteArray), (∀ x ∈ xs, x.size ≤ 70000) → Lib.lens (xs.map (·.data.toList)) ≤ 70000 * xs.length
  | [], _ => by simp [Lib.lens]
  | x :: xs, h => by
    have h1 := lens_le xs (fun y hy => h y (List.mem_cons_of_mem _ hy))
    have h2 := h x (List.mem_cons_self ..)
    rw [Lib.size_eq] at h2
    simp only [Lib.lens, List.map_cons, List.sum_cons, List.length_cons] at h1 ⊢
    omega
theorem ST.join {w : World} {b N o n c : Nat} (h : ST w b N) (hN : N ≤ 70000) (ho : o + n ≤ N) (hc : n ≤ c) :
    Calls Tryz.prog 42 #[.slice (some ⟨b, o, none⟩) n c, .string ⟨#[10]⟩] w fun e w' => ∃ t, e = .returned (.string t) ∧ Below w.heap.size w w' := by
  have hlt := h.lt
  obtain ⟨xs, hl, hx, hb⟩ := h
  have hlen : ((xs.drop o).take n).length = n := by simp; omega
  have hsz : ∀ x ∈ (xs.drop o).take n, x.size ≤ 70000 := fun x h => hx x (List.mem_of_mem_drop (List.mem_of_mem_take h))
  have hle := lens_le _ hsz
  have c1 := Tryz.strings_Join b o c ((xs.drop o).take n) ⟨#[10]⟩ w (fun j x hj => by
      have hjn : j < n := by have := (List.getElem?_eq_some_iff.1 hj).1; omega
      rw [Lib.cell_of_heap hb]
      simp only [List.getElem?_take, List.getElem?_drop] at hj
      rw [if_pos hjn] at hj
      simp [hj]) hlt (by omega) (by omega) (by
      have h1 : ((ByteArray.mk #[10]).data.toList).length = 1 := rfl
      cases hxs : (xs.drop o).take n with
      | nil => simp [Lib.join]
      | cons y ys =>
        rw [hxs] at hle hlen
        simp only [List.map_cons] at hle ⊢
        rw [Lib.join_length, h1]
        simp only [List.length_map, List.length_cons] at hle hlen ⊢
        omega)
  rw [hlen] at c1
  refine c1.mono ?_
  rintro e w' ⟨rfl, hb⟩
  exact ⟨_, rfl, hb⟩

set_option maxRecDepth 100000 in
set_option maxHeartbeats 4000000 in
theorem block_c (w : World) (s : ByteArray) (hs : s.size ≤ 16384) (E : Env w) :
    Calls Tryz.prog 106 #[.string s] w fun e w' => ∃ t, e = .returned (.string t) ∧ Below w.heap.size w w' := by
  have c1 := lines_c w s hs E
  go_enter Tryz.func106, Tryz.ntmps106
  go_upto_region 3 with (go_at_call 116; refine c1.mono ?_; rintro e w1 ⟨b, N, rfl, n1, n2, h1, hb, hbl⟩; have H1 := Sd.mk h1; have HF := Sd.mk hbl; have HBW := Sd.mk h1.lt; clear h1 hbl c1)
  obtain ⟨M, rfl⟩ : ∃ M, N = M + 1 := ⟨N - 1, by omega⟩
  go_cut [12, 13, 14] (fun v12 v13 v14 wc => ∃ o c : Nat, v12 = .slice (some ⟨b, o, none⟩) M c ∧ v13 = .int .i64 M ∧ v14 = .int .i64 0 ∧ (M = 0 ∨ o = 1) ∧ M ≤ c ∧ Sd (ST wc b (M + 1)) ∧ Sd (Below w.heap.size w wc))
  case first =>
    by_cases hM : M = 0
    · subst hM
      go_wp2
      go_meet
      case rel => exact ⟨_, _, rfl, rfl, rfl, by simp, by omega, H1, HF⟩
    · go_wp2
      go_meet
      case rel => exact ⟨_, _, rfl, rfl, rfl, by simp, by omega, H1, HF⟩
  case rest =>
    obtain ⟨o, c0, rfl, rfl, rfl, ho, hc0, H2, HF2⟩ := hcut
    clear H1 HF HBW
    go_wp2
    go_loopw [4, 14] (fun v4 v14 wr => ∃ (c : Int) (j : Nat), v4 = .int .i64 c ∧ v14 = .int .i64 j ∧ -1 ≤ c ∧ c ≤ 70000 ∧ j ≤ M ∧ Sd (ST wr b (M + 1)) ∧ Sd (Below w.heap.size w wr)) (fun _ v _ => M - (intOf v).toNat)
    case atStart => exact ⟨-1, 0, rfl, rfl, by omega, by omega, by omega, H2, HF2⟩
    case round =>
      obtain ⟨c, j, rfl, rfl, hc1, hc2, hj, H3, HF3⟩ := hrel
      by_cases hjM : j < M
      · obtain rfl : o = 1 := by omega
        obtain ⟨x, hx, hcell⟩ := H3.out.cell (j := 1 + j) (by omega)
        have p1 : ((j : Int) < (M : Int)) = True := eq_true (by omega)
        have cI := fun w => indent_c w x hx
        go_wp2_with (go_at_call 117; refine (cI _).mono ?_; rintro e w3 ⟨k, rfl, hk, h3⟩; have H4 := Sd.mk (H3.out.below h3); have HF4 := Sd.mk (HF3.out.trans (h3.mono HF3.out.size)); clear h3)
        all_goals exact ⟨⟨_, j + 1, rfl, by go_num, by omega, by omega, by omega, H4, HF4⟩, by simp [intOf]; omega⟩
      · have p1 : ((j : Int) < (M : Int)) = False := eq_false (by omega)
        have p1 : decide ((j : Int) < (M : Int)) = false := decide_eq_false (by omega)
        go_wp2
        go_loopw [8] (fun v wr => ∃ i : Nat, v = .int .i64 i ∧ 1 ≤ i ∧ i ≤ M + 1 ∧ Sd (ST wr b (M + 1)) ∧ Sd (Below w.heap.size w wr)) (fun v _ => M + 1 - (intOf v).toNat)
        case atStart => exact ⟨1, rfl, by omega, by omega, H3, HF3⟩
        case round =>
          obtain ⟨i, rfl, hi1, hi2, H5, HF5⟩ := hrel
          clear H3 HF3 H2 HF2
          by_cases hiM : i < M + 1 ∧ 0 < c
          · obtain ⟨hiM, hc0⟩ := hiM
            have p2 : ((i : Int) < (M : Int) + 1) = True := eq_true (by omega)
            have p3 : (0 ≤ (i : Int)) = True := eq_true (by omega)
            obtain ⟨x, hx, hcell⟩ := H5.out.cell (j := i) (by omega)
            have hfz := H5.out.fz i
            go_wp2_with fail
            go_region
            all_goals go_wp2
            all_goals go_roundw
            all_goals first
              | exact ⟨i + 1, by go_num, by omega, by omega, ⟨H5.out.drew.set (by omega) (by rw [ByteArray.size_extract]; omega)⟩, ⟨HF5.out.drew.setCell (p := ⟨b, i, none⟩) hb _⟩⟩
              | (simp [intOf]; omega)
          · have p3 : (decide ((i : Int) < (M : Int) + 1) && decide (0 < c)) = false := by simp; omega
            go_upto_region 14 with (fail)
            all_goals
              clear hiM p3 p1
              go_loopw [3] (fun v wr => ∃ o n : Nat, v = .slice (some ⟨b, o, none⟩) n n ∧ o + n ≤ M + 1 ∧ Sd (ST wr b (M + 1)) ∧ Sd (Below w.heap.size w wr)) (fun v _ => slLen v)
              case atStart => exact ⟨0, M + 1, rfl, by omega, H5, HF5⟩
              case round =>
                obtain ⟨o3, n, rfl, hn, H6, HF6⟩ := hrel
                clear H5 HF5
                by_cases h0 : n = 0
                · subst h0
                  go_wp2_with fail
                  go_quiet (fail)
                  go_upto_region 16 with (fail)
                  go_loopw [3] (fun v wr => ∃ n c : Nat, v = .slice (some ⟨b, o3, none⟩) n c ∧ n ≤ c ∧ o3 + n ≤ M + 1 ∧ Sd (ST wr b (M + 1)) ∧ Sd (Below w.heap.size w wr)) (fun v _ => slLen v)
                  case atStart => exact ⟨_, _, rfl, by omega, by omega, ⟨H6.out.drewN _⟩, ⟨belowN HF6.out _⟩⟩
                  case round =>
                    obtain ⟨n4, c4, rfl, hc4, hn4, H8, HF8⟩ := hrel
                    by_cases h4 : n4 = 0
                    · subst h4
                      have hJ := fun q => ST.join (H8.out.drewN q) n2 hn4 hc4
                      go_wp2_with fail
                      go_quiet (fail)
                      go_wp2_with (go_at_call 42; refine (hJ _).mono ?_; rintro e w9 ⟨t, rfl, hb9⟩; have HF9 := Sd.mk ((belowN HF8.out _).trans (hb9.mono (belowN HF8.out _).size)); clear hb9)
                      go_ret
                      exact ⟨t, rfl, HF9.out⟩
                    · obtain ⟨n5, rfl⟩ : ∃ n5, n4 = n5 + 1 := ⟨n4 - 1, by omega⟩
                      obtain ⟨x4, hx4, hcell4⟩ := H8.out.cell (j := o3 + n5) (by omega)
                      have p5 : (0 < (n5 : Int) + 1) = True := eq_true (by omega)
                      have p6 : IntKind.i64.wrap ((n5 : Int) + 1 - 1) = (n5 : Int) := by rw [Int.add_sub_cancel]; exact wraps_i64_62 _ (by omega) (by omega)
                      have p7 : IntKind.i64.wrap (n5 : Int) = (n5 : Int) := wraps_i64_62 _ (by omega) (by omega)
                      have p8 : ((n5 : Int) < (n5 : Int) + 1) = True := eq_true (by omega)
                      have p9 : (0 ≤ (n5 : Int)) = True := eq_true (by omega)
                      have cI4 := indent_c wr.drew x4 hx4
                      go_wp2_with fail
                      go_region_held3 (fun w' => w'.cell? ⟨b, o3 + n5, none⟩ = some (.string x4)) (first | go_keep | assumption) ((go_at_call 117; refine cI4.mono ?_; rintro e w3 ⟨k4, rfl, hk4, h3⟩; have H9 := Sd.mk (H8.out.drew.below h3); have HF9 := Sd.mk (HF8.out.drew.trans (h3.mono HF8.out.size)); have hcell42 : w3.cell? ⟨b, o3 + n5, none⟩ = some (.string x4) := below_cell (w := wr.drew) h3 H8.out.lt hcell4; clear h3))
                      by_cases hk : k4 = x4.size
                      · have e : ((k4 : Int) == (x4.size : Int)) = true := by simp [hk]
                        try rw [e]
                        clear hk
                        go_wp2
                        go_roundw
                        case rel => exact ⟨n5, c4, rfl, by omega, by omega, H9, HF9⟩
                        case measure => simp [slLen]
                      · have e : ((k4 : Int) == (x4.size : Int)) = false := by simp; omega
                        try rw [e]
                        clear hk
                        have hJ := ST.join H9.out n2 hn4 hc4
                        go_wp2_with (go_at_call 42; refine hJ.mono ?_; rintro e w9 ⟨t, rfl, hb9⟩; have HF10 := Sd.mk (HF9.out.trans (hb9.mono HF9.out.size)); clear hb9)
                        go_ret
                        exact ⟨t, rfl, HF10.out⟩
                · obtain ⟨n', rfl⟩ : ∃ n', n = n' + 1 := ⟨n - 1, by omega⟩
                  obtain ⟨x, hx, hcell⟩ := H6.out.cell (j := o3) (by omega)
                  have p5 : (0 < (n' : Int) + 1) = True := eq_true (by omega)
                  have cI := indent_c wr.drew x hx
                  go_wp2_with fail
                  go_region_held3 (fun w' => w'.cell? ⟨b, o3, none⟩ = some (.string x)) (first | go_keep | assumption) ((go_at_call 117; refine cI.mono ?_; rintro e w3 ⟨k, rfl, hk, h3⟩; have H7 := Sd.mk (H6.out.drew.below h3); have HF7 := Sd.mk (HF6.out.drew.trans (h3.mono HF6.out.size)); have hcell2 : w3.cell? ⟨b, o3, none⟩ = some (.string x) := below_cell (w := wr.drew) h3 H6.out.lt hcell; clear h3))
                  by_cases hk : k = x.size
                  · have e : ((k : Int) == (x.size : Int)) = true := by simp [hk]
                    try rw [e]
                    clear hk
                    by_cases hn0 : n' = 0
                    · subst hn0
                      go_wp2
                      go_roundw
                      case rel => exact ⟨o3, 0, rfl, by omega, H7, HF7⟩
                      case measure => simp [slLen]
                    · go_wp2
                      go_roundw
                      case rel => exact ⟨o3 + 1, n', rfl, by omega, H7, HF7⟩
                      case measure => simp [slLen]
                  · have e : ((k : Int) == (x.size : Int)) = false := by simp; omega
                    try rw [e]
                    clear hk
                    go_upto_region 16 with (fail)
                    go_loopw [3] (fun v wr => ∃ n c : Nat, v = .slice (some ⟨b, o3, none⟩) n c ∧ n ≤ c ∧ o3 + n ≤ M + 1 ∧ Sd (ST wr b (M + 1)) ∧ Sd (Below w.heap.size w wr)) (fun v _ => slLen v)
                    case atStart => exact ⟨_, _, rfl, by omega, by omega, H7, HF7⟩
                    case round =>
                      obtain ⟨n4, c4, rfl, hc4, hn4, H8, HF8⟩ := hrel
                      by_cases h4 : n4 = 0
                      · subst h4
                        have hJ := fun q => ST.join (H8.out.drewN q) n2 hn4 hc4
                        go_wp2_with fail
                        go_quiet (fail)
                        go_wp2_with (go_at_call 42; refine (hJ _).mono ?_; rintro e w9 ⟨t, rfl, hb9⟩; have HF9 := Sd.mk ((belowN HF8.out _).trans (hb9.mono (belowN HF8.out _).size)); clear hb9)
                        go_ret
                        exact ⟨t, rfl, HF9.out⟩
                      · obtain ⟨n5, rfl⟩ : ∃ n5, n4 = n5 + 1 := ⟨n4 - 1, by omega⟩
                        obtain ⟨x4, hx4, hcell4⟩ := H8.out.cell (j := o3 + n5) (by omega)
                        have p5 : (0 < (n5 : Int) + 1) = True := eq_true (by omega)
                        have p6 : IntKind.i64.wrap ((n5 : Int) + 1 - 1) = (n5 : Int) := by rw [Int.add_sub_cancel]; exact wraps_i64_62 _ (by omega) (by omega)
                        have p7 : IntKind.i64.wrap (n5 : Int) = (n5 : Int) := wraps_i64_62 _ (by omega) (by omega)
                        have p8 : ((n5 : Int) < (n5 : Int) + 1) = True := eq_true (by omega)
                        have p9 : (0 ≤ (n5 : Int)) = True := eq_true (by omega)
                        have cI4 := indent_c wr.drew x4 hx4
                        go_wp2_with fail
                        go_region_held3 (fun w' => w'.cell? ⟨b, o3 + n5, none⟩ = some (.string x4)) (first | go_keep | assumption) ((go_at_call 117; refine cI4.mono ?_; rintro e w3 ⟨k4, rfl, hk4, h3⟩; have H9 := Sd.mk (H8.out.drew.below h3); have HF9 := Sd.mk (HF8.out.drew.trans (h3.mono HF8.out.size)); have hcell42 : w3.cell? ⟨b, o3 + n5, none⟩ = some (.string x4) := below_cell (w := wr.drew) h3 H8.out.lt hcell4; clear h3))
                        by_cases hk : k4 = x4.size
                        · have e : ((k4 : Int) == (x4.size : Int)) = true := by simp [hk]
                          try rw [e]
                          clear hk
                          go_wp2
                          go_roundw
                          case rel => exact ⟨n5, c4, rfl, by omega, by omega, H9, HF9⟩
                          case measure => simp [slLen]
                        · have e : ((k4 : Int) == (x4.size : Int)) = false := by simp; omega
                          try rw [e]
                          clear hk
                          have hJ := ST.join H9.out n2 hn4 hc4
                          go_wp2_with (go_at_call 42; refine hJ.mono ?_; rintro e w9 ⟨t, rfl, hb9⟩; have HF10 := Sd.mk (HF9.out.trans (hb9.mono HF9.out.size)); clear hb9)
                          go_ret
                          exact ⟨t, rfl, HF10.out⟩
end Go.Proofs.YtibgigffedejpaaGreatDoor
namespace Go.Proofs.YtibgigffedejpaaGreatDoor
set_option linter.unusedVariables false
set_option linter.unusedSimpArgs false
open Go.RowKit
set_option linter.unusedVariables false
set_option linter.unusedSimpArgs false

/-- Where a block string ends. -/
def blkE (s : ByteArray) (i : Nat) : Option Nat :=
  if h : i < s.size then
    if pre s i [92, 34, 34, 34] then blkE s (i + 4)
    else if pre s i [34, 34, 34] then some (i + 3)
    else match src s i with
      | none => none
      | some (_, n) => if 0 < n then blkE s (i + n) else none
  else none
termination_by s.size - i
theorem blkE_1 {s : ByteArray} {i : Nat} (h : i < s.size) (h1 : pre s i [92, 34, 34, 34] = true) : blkE s i = blkE s (i + 4) := by rw [blkE, dif_pos h, if_pos h1]
theorem blkE_2 {s : ByteArray} {i : Nat} (h : i < s.size) (h1 : pre s i [92, 34, 34, 34] = false) (h2 : pre s i [34, 34, 34] = true) : blkE s i = some (i + 3) := by rw [blkE, dif_pos h, if_neg (by rw [h1]; decide), if_pos h2]
theorem blkE_3 {s : ByteArray} {i : Nat} (h1 : pre s i [92, 34, 34, 34] = false) (h2 : pre s i [34, 34, 34] = false) (h3 : src s i = none) : blkE s i = none := by
  rw [blkE]
  split
  · rw [if_neg (by rw [h1]; decide), if_neg (by rw [h2]; decide), h3]
  · rfl
theorem blkE_4 {s : ByteArray} {i c k : Nat} (h1 : pre s i [92, 34, 34, 34] = false) (h2 : pre s i [34, 34, 34] = false) (h3 : src s i = some (c, k)) : blkE s i = blkE s (i + k) := by
  have := src_some h3
  rw [blkE, dif_pos (by omega), if_neg (by rw [h1]; decide), if_neg (by rw [h2]; decide), h3]
  simp only
  rw [if_pos (by omega)]
def BlkPost (g : Nat) (s : ByteArray) (f n : Nat) (w : World) (r : Option Nat) (e : Ending) (w' : World) : Prop :=
  match r with
  | some j => ∃ t, e = .returned (.string t) ∧ RD w' g s j f n ∧ Fr g w w'
  | none => e = .panicked (wrC f 52) ∧ Fr g w w'
def q3T : ByteArray := ⟨#[34, 34, 34]⟩
def q4T : ByteArray := ⟨#[92, 34, 34, 34]⟩

set_option maxRecDepth 100000 in
set_option maxHeartbeats 4000000 in
theorem blockS_c (w : World) (g : Nat) (s : ByteArray) (i f n : Nat) (r : Option Nat) (h : RD w g s i f n) (hi : i + 3 ≤ s.size) (hs : s.size ≤ 16384) (hg : 3 ≤ g) (E : Env w) (hr : blkE s (i + 3) = r) :
    Calls Tryz.prog 89 #[.pointer (some ⟨g, 0, none⟩)] w (BlkPost g s f n w r) := by
  have HR := Sd.mk hr
  clear hr
  have hgl := h.lt
  have H0 := Sd.mk (h.alloc (.cells #[.pointer none, .slice none 0 0] 109))
  have HB0 := Sd.mk (BD.fresh w)
  have HF0 := Sd.mk ((Fr.refl g w).alloc (.cells #[.pointer none, .slice none 0 0] 109))
  clear h
  go_enter Tryz.func89, Tryz.ntmps89
  obtain ⟨B, hB⟩ : ∃ B, w.heap.size = B := ⟨_, rfl⟩
  have hE0 : Env (w.alloc (.cells #[.pointer none, .slice none 0 0] 109)) := HF0.out.env hg E
  go_upto_region 2 with (fail)
  rw [hB] at HB0 hgl
  have hBw : B ≤ (w.alloc (.cells #[.pointer none, .slice none 0 0] 109)).heap.size := by rw [← hB]; exact HF0.out.size
  generalize w.alloc (.cells #[.pointer none, .slice none 0 0] 109) = w1 at H0 HB0 HF0 hE0 hBw ⊢
  have h0 := H0.out.c0
  have h1 := H0.out.c1
  have f1 := H0.out.fz 1
  go_wp2
  go_loopw [] (fun wr => ∃ (q : Nat) (l : List UInt8), q ≤ s.size ∧ l.length ≤ q ∧ Sd (RD wr g s q f n) ∧ Sd (Fr g w wr) ∧ Sd (BD B B l wr) ∧ Sd (blkE s q = r)) (fun wr => s.size - atOf g wr)
  case atStart => exact ⟨i + 3, [], by omega, by simp, ⟨H0.out.set1 (i + 3)⟩, ⟨HF0.out.setCell (.inl rfl) _⟩, ⟨HB0.out.fr (w' := World.setCell w1 ⟨g, 1, none⟩ (.int .i64 (i + 3 : Nat))) ((Fr.refl g w1).setCell (.inl rfl) _) hgl⟩, HR⟩
  case round =>
    obtain ⟨q, l, hq, hl, H1, HF, HB, HQ⟩ := hrel
    clear h0 h1 f1 H0 HF0 HB0 HR hE0 hBw
    have h0 := H1.out.c0
    have h1 := H1.out.c1
    have f1 := H1.out.fz 1
    have hE := HF.out.env hg E
    have HBw : ∀ w', Fr g w w' → B ≤ w'.heap.size := fun w' h => by rw [← hB]; exact h.size
    have HBw := Sd.mk HBw
    have HfB : ∀ w1 w2, Fr g w w1 → Below B w1 w2 → Fr g w w2 := fun w1 w2 h hb => h.belowB (hB ▸ hb)
    have HfB := Sd.mk HfB
    obtain ⟨b4, hb4⟩ : ∃ b, pre s q q4T.data.toList = b := ⟨_, rfl⟩
    have cH := fun w (h : RD w g s q f n) => has_c w g s q f n q4T b4 h hq hs hb4
    have HB4 := Sd.mk hb4
    clear hb4
    cases b4 with
    | true =>
      have hsz := pre_size HB4.out
      have hle : q + 4 ≤ s.size := by simp [q4T] at hsz; omega
      have HL : Sd ((l ++ [34, 34, 34]).length ≤ q + 4) := ⟨by simp; omega⟩
      clear hsz
      go_wp2_with (first | (go_at_call 84; refine (cH _ H1.out).mono ?_; rintro e w2 ⟨rfl, ⟨q1, rfl⟩⟩) | (go_at_call 63; refine (write_c B B l q3T [34, 34, 34] _ (HB.out.drewN q1) rfl (by simp; omega) (HBw.out _ (HF.out.drewN q1))).mono ?_; rintro e w6 ⟨rfl, h6, hb6⟩; have H6 := Sd.mk ((H1.out.drewN q1).belowB hb6 hgl); have HF6 := Sd.mk (HfB.out _ _ (HF.out.drewN q1) hb6); have HB6 := Sd.mk h6; have k0 := H6.out.c0; have k1 := H6.out.c1; have k2 := H6.out.fz 1; clear h6 hb6))
      go_roundw
      case rel => exact ⟨q + 4, l ++ [34, 34, 34], hle, HL.out, ⟨H6.out.set1 (q + 4)⟩, ⟨HF6.out.setCell (.inl rfl) _⟩, ⟨HB6.out.fr ((Fr.refl g w6).setCell (.inl rfl) _) hgl⟩, ⟨by rw [← HQ.out, blkE_1 (by omega) HB4.out]⟩⟩
      case measure => exact meas_lt H1.out (H6.out.set1 (q + 4)) (by omega) hle
    | false =>
      obtain ⟨b3, hb3⟩ : ∃ b, pre s q q3T.data.toList = b := ⟨_, rfl⟩
      have cG := fun w (h : RD w g s q f n) => has_c w g s q f n q3T b3 h hq hs hb3
      have HB3 := Sd.mk hb3
      clear hb3
      cases b3 with
      | true =>
        have hsz := pre_size HB3.out
        have hle : q + 3 ≤ s.size := by simp [q3T] at hsz; omega
        have HN : Sd (some (q + 3) = r) := ⟨by rw [← HQ.out, blkE_2 (by omega) HB4.out HB3.out]⟩
        have hls : (ByteArray.mk l.toArray).size ≤ 16384 := by simp [ByteArray.size]; omega
        clear hsz
        go_upto_region 8 with (first | (go_at_call 84; refine (cH _ H1.out).mono ?_; rintro e w2 ⟨rfl, ⟨q1, rfl⟩⟩; clear cH) | (go_at_call 84; refine (cG _ (H1.out.drewN q1)).mono ?_; rintro e w2 ⟨rfl, ⟨q2, rfl⟩⟩))
        have H3 : Sd (RD (World.setCell (wr.drewN (q1 + q2)) ⟨g, 1, none⟩ (.int .i64 ((q : Int) + 3))) g s (q + 3) f n) := ⟨(H1.out.drewN _).set1 (q + 3)⟩
        have HF3 : Sd (Fr g w (World.setCell (wr.drewN (q1 + q2)) ⟨g, 1, none⟩ (.int .i64 ((q : Int) + 3)))) := ⟨(HF.out.drewN _).setCell (.inl rfl) _⟩
        have HB5 : Sd (BD B B l (World.setCell (wr.drewN (q1 + q2)) ⟨g, 1, none⟩ (.int .i64 ((q : Int) + 3)))) := ⟨(HB.out.fr ((Fr.refl g wr).drewN (q1 + q2)) hgl).fr ((Fr.refl g _).setCell (.inl rfl) _) hgl⟩
        generalize World.setCell (wr.drewN (q1 + q2)) ⟨g, 1, none⟩ (.int .i64 ((q : Int) + 3)) = w3 at H3 HF3 HB5 ⊢
        go_wp2_with (first | (go_at_call 64; refine (bstring_c B B l _ HB5.out (HBw.out _ HF3.out)).mono ?_; rintro e w5 ⟨rfl, hb5⟩; have H5 := Sd.mk (H3.out.belowB hb5 hgl); have HF5 := Sd.mk (HfB.out _ _ HF3.out hb5); clear hb5) | (go_at_call 106; refine (block_c _ _ hls (HF5.out.env hg E)).mono ?_; rintro e w6 ⟨t, rfl, hb6⟩; have H6 := Sd.mk (H5.out.below hb6); have HF6 := Sd.mk (HF5.out.trans (Fr.of_below hb6)); clear hb6))
        go_ret
        rw [← HN.out]
        exact ⟨t, rfl, H6.out, HF6.out⟩
      | false =>
        go_upto_region 9 with (first | (go_at_call 84; refine (cH _ H1.out).mono ?_; rintro e w2 ⟨rfl, ⟨q1, rfl⟩⟩; clear cH) | (go_at_call 84; refine (cG _ (H1.out.drewN q1)).mono ?_; rintro e w2 ⟨rfl, ⟨q2, rfl⟩⟩))
        have H2 : Sd (RD (wr.drewN (q1 + q2)) g s q f n) := ⟨H1.out.drewN _⟩
        have HF2 : Sd (Fr g w (wr.drewN (q1 + q2))) := ⟨HF.out.drewN _⟩
        have HB2 : Sd (BD B B l (wr.drewN (q1 + q2))) := ⟨HB.out.drewN _⟩
        have hE2 : Env (wr.drewN (q1 + q2)) := HF2.out.env hg E
        have hms : ∀ w2 j, RD w2 g s j f n → q < j → j ≤ s.size → s.size - atOf g w2 < s.size - atOf g wr := fun w2 j h2 h3 h4 => meas_lt H1.out h2 h3 h4
        have hms := Sd.mk hms
        generalize wr.drewN (q1 + q2) = w2 at H2 HF2 HB2 hE2 ⊢
        clear h0 h1 f1 H1 HF HB hE
        have h0 := H2.out.c0
        have h1 := H2.out.c1
        have f1 := H2.out.fz 1
        cases hsr : src s q with
        | none =>
          have cS := fun w (h : RD w g s q f n) (E : Env w) => source_none w g s q f n h hq hs E.tabs hsr
          have HN : Sd (none = r) := ⟨by rw [← HQ.out, blkE_3 HB4.out HB3.out hsr]⟩
          clear hsr
          go_wp2_with (first | (go_at_call 85; refine (cS _ H2.out hE2).mono ?_; rintro e w3 ⟨rfl, h3, hf3⟩; have H3 := Sd.mk h3; have HF3 := Sd.mk (HF2.out.trans hf3); clear h3 hf3) | (go_at_call 86; refine (must_f _ g s _ f n 52 H3.out).mono ?_; rintro e w4 ⟨rfl, rfl⟩))
          rw [← HN.out]
          exact ⟨rfl, rfl, HF3.out⟩
        | some p =>
          obtain ⟨c, k⟩ := p
          have hk := src_some hsr
          have cS := fun w (h : RD w g s q f n) (E : Env w) => source_some w g s q f n c k h hq hs E.tabs hsr
          have hk1 := hk.2.1
          have hk2 := hk.2.2.2.2.2.1
          have HN0 := blkE_4 HB4.out HB3.out hsr
          obtain ⟨j, hj⟩ : ∃ j, q + k = j := ⟨_, rfl⟩
          rw [hj] at cS hk2 HN0
          have HN : Sd (blkE s j = r) := ⟨by rw [← HQ.out, HN0]⟩
          have hsl := sub_len s q j
          have hl2 : (l ++ sub s q j).length ≤ j := by simp; omega
          have HL := Sd.mk hl2
          have hwl : Sd (l.length + (sub s q j).length ≤ 140737488355328) := ⟨by simp at hl2; omega⟩
          have hj2 : q < j := by omega
          have HX := Sd.mk (sub_ext s q j hk2)
          have p1 : (0 ≤ (q : Int)) = True := eq_true (by omega)
          have p2 : ((q : Int) ≤ (j : Int)) = True := eq_true (by omega)
          have p3 : ((j : Int) ≤ (s.size : Int)) = True := eq_true (by omega)
          have p4 : (0 ≤ (j : Int)) = True := eq_true (by omega)
          clear hsr HN0 hsl hl2 hj hk1 hk
          go_upto_region 12 with (first | (go_at_call 85; refine (cS _ H2.out hE2).mono ?_; rintro e w3 ⟨rfl, h3, hf3⟩; have H3 := Sd.mk h3; have HF3 := Sd.mk (HF2.out.trans hf3); have HB3 := Sd.mk (HB2.out.fr hf3 hgl); have k0 := h3.c0; have k1 := h3.c1; clear h3 hf3) | (go_at_call 86; refine (must_t _ g 52).mono ?_; rintro e w4 ⟨rfl, rfl⟩))
          clear h0 h1 f1
          go_region_held3 (fun w' => w'.cell? ⟨g, 0, none⟩ = some (.string s) ∧ w'.cell? ⟨g, 1, none⟩ = some (.int .i64 j)) (first | exact ⟨H6.out.c0, H6.out.c1⟩ | go_keep | (refine ⟨?_, ?_⟩ <;> assumption)) ((go_at_call 63; refine (write_c B B l _ (sub s q j) _ HB3.out.drew HX.out hwl.out (HBw.out _ HF3.out.drew)).mono ?_; rintro e w6 ⟨rfl, h6, hb6⟩; have H6 := Sd.mk (H3.out.drew.belowB hb6 hgl); have HF6 := Sd.mk (HfB.out _ _ HF3.out.drew hb6); have HB6 := Sd.mk h6; clear h6 hb6))
          go_wp2
          go_roundw
          case rel => exact ⟨j, l ++ sub s q j, hk2, HL.out, H6, HF6, HB6, HN⟩
          case measure => exact hms.out _ _ H6.out hj2 hk2
end Go.Proofs.YtibgigffedejpaaGreatDoor
namespace Go.Proofs.YtibgigffedejpaaGreatDoor
set_option linter.unusedVariables false
set_option linter.unusedSimpArgs false
open Go.RowKit
set_option linter.unusedVariables false
set_option linter.unusedSimpArgs false

/-- The token at a place: its kind, where it ends; or what is wrong with it. -/
def tok (s : ByteArray) (i : Nat) : Except Int (Nat × Nat) :=
  if pre s i [46, 46, 46] then .ok (0, i + 3)
  else if isPunct (bt s i) then .ok (0, i + 1)
  else if isLetter (bt s i) then .ok (1, i + runN isName s i)
  else if bt s i = 45 ∨ isDigit (bt s i) = true then (match num s i with | none => .error 51 | some (j, k) => .ok (k, j))
  else if pre s i [34, 34, 34] then (match blkE s (i + 3) with | none => .error 52 | some j => .ok (4, j))
  else if bt s i = 34 then (match txt s (i + 1) [] with | none => .error 52 | some (_, j) => .ok (4, j))
  else .error 50

def TokPost (g : Nat) (s : ByteArray) (i n : Nat) (w : World) (r : Except Int (Nat × Nat)) (e : Ending) (w' : World) : Prop :=
  match r with
  | .ok (k, j) => ∃ t : ByteArray, e = .returned (.agg #[.int .i64 k, .string t, .int .i64 i, .int .i64 j]) ∧ (k ≠ 4 → t = s.extract i j) ∧ RD w' g s j i (n + 1) ∧ Fr g w w'
  | .error er => e = .panicked (wrC i er) ∧ Fr g w w'

/-- The token that is made, at block C. -/
def TC (w : World) (C : Nat) (k : Nat) (t : ByteArray) (i j : Nat) : Prop := w.heap[C]? = some (.cells #[.int .i64 k, .string t, .int .i64 i, .int .i64 j] 43 (0, 0))
section
variable {w : World} {C k i j : Nat} {t : ByteArray}
theorem TC.c0 (h : TC w C k t i j) : w.cell? ⟨C, 0, none⟩ = some (.int .i64 k) := by rw [Lib.cell_of_heap h]; rfl
theorem TC.c1 (h : TC w C k t i j) : w.cell? ⟨C, 1, none⟩ = some (.string t) := by rw [Lib.cell_of_heap h]; rfl
theorem TC.c2 (h : TC w C k t i j) : w.cell? ⟨C, 2, none⟩ = some (.int .i64 i) := by rw [Lib.cell_of_heap h]; rfl
theorem TC.c3 (h : TC w C k t i j) : w.cell? ⟨C, 3, none⟩ = some (.int .i64 j) := by rw [Lib.cell_of_heap h]; rfl
theorem TC.fz (h : TC w C k t i j) (o : Nat) : w.frozen? ⟨C, o, none⟩ = false := Lib.frozen_of_heap h o
theorem TC.lt (h : TC w C k t i j) : C < w.heap.size := (Array.getElem?_eq_some_iff.1 h).1
theorem TC.set0 (h : TC w C k t i j) (k' : Nat) : TC (w.setCell ⟨C, 0, none⟩ (.int .i64 k')) C k' t i j := by unfold TC at *; simp [World.setCell, Array.getElem?_modify, h]
theorem TC.set1 (h : TC w C k t i j) (t' : ByteArray) : TC (w.setCell ⟨C, 1, none⟩ (.string t')) C k t' i j := by unfold TC at *; simp [World.setCell, Array.getElem?_modify, h]
theorem TC.set2 (h : TC w C k t i j) (i' : Nat) : TC (w.setCell ⟨C, 2, none⟩ (.int .i64 i')) C k t i' j := by unfold TC at *; simp [World.setCell, Array.getElem?_modify, h]
theorem TC.set3 (h : TC w C k t i j) (j' : Nat) : TC (w.setCell ⟨C, 3, none⟩ (.int .i64 j')) C k t i j' := by unfold TC at *; simp [World.setCell, Array.getElem?_modify, h]
theorem TC.fr {g : Nat} {w' : World} (h : TC w C k t i j) (hf : Fr g w w') (hg : C ≠ g) : TC w' C k t i j := (hf.block C h.lt hg).trans h
theorem TC.fresh (w : World) : TC (w.alloc (.cells #[.int .i64 0, .string ⟨#[]⟩, .int .i64 0, .int .i64 0] 43)) w.heap.size 0 ⟨#[]⟩ 0 0 := heap_alloc_new w _
theorem TC.drewN (h : TC w C k t i j) (m : Nat) : TC (w.drewN m) C k t i j := h
theorem TC.drew (h : TC w C k t i j) : TC w.drew C k t i j := h
end
/-- One frame for the token's own block, and the reader's. -/
theorem Fr.setC {g C : Nat} {a w : World} (h : Fr g a w) (hC : a.heap.size ≤ C) (o : Nat) (u : Value) : Fr g a (w.setCell ⟨C, o, none⟩ u) := h.setCell (.inr hC) u

def punctT : ByteArray := ⟨#[33, 36, 38, 40, 41, 58, 61, 64, 91, 93, 123, 124, 125]⟩
theorem punct_set : SetOf punctT isPunct := by
  unfold SetOf punctT
  decide +kernel
def lettersT : ByteArray := ⟨#[95, 97, 98, 99, 100, 101, 102, 103, 104, 105, 106, 107, 108, 109, 110, 111, 112, 113, 114, 115, 116, 117, 118, 119, 120, 121, 122, 65, 66, 67, 68, 69, 70, 71, 72, 73, 74, 75, 76, 77, 78, 79, 80, 81, 82, 83, 84, 85, 86, 87, 88, 89, 90]⟩
theorem letters_set : SetOf lettersT isLetter := by
  unfold SetOf lettersT
  decide +kernel
def nameT : ByteArray := ⟨#[95, 97, 98, 99, 100, 101, 102, 103, 104, 105, 106, 107, 108, 109, 110, 111, 112, 113, 114, 115, 116, 117, 118, 119, 120, 121, 122, 65, 66, 67, 68, 69, 70, 71, 72, 73, 74, 75, 76, 77, 78, 79, 80, 81, 82, 83, 84, 85, 86, 87, 88, 89, 90, 48, 49, 50, 51, 52, 53, 54, 55, 56, 57]⟩
theorem name_set : SetOf nameT isName := by
  unfold SetOf nameT
  decide +kernel
def dotsT : ByteArray := ⟨#[46, 46, 46]⟩
theorem digs_le {s : ByteArray} {i j : Nat} (h : digs s i = some j) (hi : i ≤ s.size) : i ≤ j ∧ j ≤ s.size := by
  unfold digs at h
  split at h
  · have := runN_le isDigit s i
    simp only [Option.some.injEq] at h; omega
  · cases h
theorem num_le {s : ByteArray} {i j k : Nat} (h : num s i = some (j, k)) (hi : i ≤ s.size) : i ≤ j ∧ j ≤ s.size := by
  unfold num at h
  rw [Option.bind_eq_some_iff] at h
  obtain ⟨a, ha, h⟩ := h
  rw [Option.bind_eq_some_iff] at h
  obtain ⟨b, hb, h⟩ := h
  rw [Option.bind_eq_some_iff] at h
  obtain ⟨c, hc, h⟩ := h
  have h0 := skipN_le (c := 45) hi
  have h1 : skipN s i 45 ≤ a ∧ a ≤ s.size := by
    unfold num1 at ha
    split at ha
    · rename_i hb
      have hlt : skipN s i 45 < s.size := Nat.lt_of_not_le fun h => by rw [bt_out s _ h] at hb; omega
      simp only [Option.some.injEq] at ha; omega
    · exact digs_le ha h0.1
  have h2 : a ≤ b.1 ∧ b.1 ≤ s.size := by
    unfold num2 at hb
    split at hb
    · rename_i hs
      have := skipB_lt hs
      simp only [Option.map_eq_some_iff] at hb
      obtain ⟨x, hx, rfl⟩ := hb
      have := digs_le hx (by omega)
      simp only; omega
    · simp only [Option.some.injEq] at hb; subst hb; simp only; omega
  have h3 : b.1 ≤ c.1 ∧ c.1 ≤ s.size := by
    unfold num3 at hc
    split at hc
    · rename_i hs
      have hlt : b.1 < s.size := by
        simp only [Bool.or_eq_true] at hs
        rcases hs with hs | hs <;> exact skipB_lt hs
      simp only [Option.map_eq_some_iff] at hc
      obtain ⟨x, hx, rfl⟩ := hc
      have h5 : b.1 + 1 ≤ (if skipB s (b.1 + 1) 43 = true then b.1 + 2 else skipN s (b.1 + 1) 45) ∧ (if skipB s (b.1 + 1) 43 = true then b.1 + 2 else skipN s (b.1 + 1) 45) ≤ s.size := by
        split
        · rename_i h6; have := skipB_lt h6; omega
        · have := skipN_le (c := 45) (s := s) (i := b.1 + 1) (by omega); omega
      have := digs_le hx h5.2
      simp only; omega
    · simp only [Option.some.injEq] at hc; subst hc; simp only; omega
  unfold num4 at h
  split at h
  · cases h
  · simp only [Option.some.injEq, Prod.mk.injEq] at h; omega
theorem blkE_le {s : ByteArray} {i j : Nat} (h : blkE s i = some j) (hi : i ≤ s.size) : i ≤ j ∧ j ≤ s.size := by
  rw [blkE] at h
  split at h
  · split at h
    · rename_i hp
      have hp2 := pre_size hp
      simp at hp2
      have := blkE_le h (by omega)
      omega
    · split at h
      · rename_i hp
        have hp2 := pre_size hp
        simp at hp2
        simp only [Option.some.injEq] at h; omega
      · split at h
        · cases h
        · rename_i hs
          have h2 := src_some hs
          split at h
          · have := blkE_le h (by omega)
            omega
          · cases h
  · cases h
termination_by s.size - i
theorem txt_le {s : ByteArray} {i j : Nat} {acc t : List UInt8} (h : txt s i acc = some (t, j)) : i ≤ j ∧ j ≤ s.size := by
  rw [txt] at h
  split at h
  · cases h
  · rename_i c n hs
    have h2 := src_some hs
    split at h
    · cases h
    · split at h
      · simp only [Option.some.injEq, Prod.mk.injEq] at h; omega
      · split at h
        · split at h
          · cases h
          · rename_i he
            have h3 := esc_len he
            split at h
            · have := txt_le h; omega
            · cases h
        · split at h
          · have := txt_le h; omega
          · cases h
termination_by s.size - i
section
variable {s : ByteArray} {i : Nat}
theorem tok_1 (h : pre s i dotsT.data.toList = true) : tok s i = .ok (0, i + 3) := by
  have h : pre s i [46, 46, 46] = true := h
  unfold tok; rw [if_pos h]
theorem tok_2 (h : pre s i dotsT.data.toList = false) (h2 : isPunct (bt s i) = true) : tok s i = .ok (0, i + 1) := by
  have h : pre s i [46, 46, 46] = false := h
  unfold tok; rw [h, h2]; rfl
theorem tok_3 (h : pre s i dotsT.data.toList = false) (h2 : isPunct (bt s i) = false) (h3 : isLetter (bt s i) = true) : tok s i = .ok (1, i + runN isName s i) := by
  have h : pre s i [46, 46, 46] = false := h
  unfold tok; rw [h, h2, h3]; rfl
theorem tok_4 (h : pre s i dotsT.data.toList = false) (h2 : isPunct (bt s i) = false) (h3 : isLetter (bt s i) = false) (h4 : bt s i = 45 ∨ isDigit (bt s i) = true) : tok s i = (match num s i with | none => .error 51 | some (j, k) => .ok (k, j)) := by
  have h : pre s i [46, 46, 46] = false := h
  unfold tok; rw [h, h2, h3, if_pos h4]; rfl
theorem tok_5 (h : pre s i dotsT.data.toList = false) (h2 : isPunct (bt s i) = false) (h3 : isLetter (bt s i) = false) (h4 : ¬ (bt s i = 45 ∨ isDigit (bt s i) = true)) (h5 : pre s i q3T.data.toList = true) : tok s i = (match blkE s (i + 3) with | none => .error 52 | some j => .ok (4, j)) := by
  have h : pre s i [46, 46, 46] = false := h
  have h5 : pre s i [34, 34, 34] = true := h5
  unfold tok; rw [h, h2, h3, if_neg h4, h5]; rfl
theorem tok_6 (h : pre s i dotsT.data.toList = false) (h2 : isPunct (bt s i) = false) (h3 : isLetter (bt s i) = false) (h4 : ¬ (bt s i = 45 ∨ isDigit (bt s i) = true)) (h5 : pre s i q3T.data.toList = false) (h6 : bt s i = 34) : tok s i = (match txt s (i + 1) [] with | none => .error 52 | some (_, j) => .ok (4, j)) := by
  have h : pre s i [46, 46, 46] = false := h
  have h5 : pre s i [34, 34, 34] = false := h5
  unfold tok; rw [h, h2, h3, if_neg h4, h5, if_pos h6]; rfl
theorem tok_7 (h : pre s i dotsT.data.toList = false) (h2 : isPunct (bt s i) = false) (h3 : isLetter (bt s i) = false) (h4 : ¬ (bt s i = 45 ∨ isDigit (bt s i) = true)) (h5 : pre s i q3T.data.toList = false) (h6 : ¬ bt s i = 34) : tok s i = .error 50 := by
  have h : pre s i [46, 46, 46] = false := h
  have h5 : pre s i [34, 34, 34] = false := h5
  unfold tok; rw [h, h2, h3, if_neg h4, h5, if_neg h6]; rfl
end
theorem index_c (s : ByteArray) (i : Nat) (hi : i < s.size) (set : ByteArray) (p : Nat → Bool) (hset : SetOf set p) (b : Bool) (hb : p (bt s i) = b) :
    ∃ ix : Int, decide (0 ≤ ix) = b ∧ ∀ w, Calls Tryz.prog 83 #[.string set, .int .u8 (bt s i)] w fun e w' => e = .returned (.int .i64 ix) ∧ w' = w := by
  refine ⟨_, ?_, fun w => Tryz.strings_IndexByte set (bt s i) w⟩
  rw [Int.toNat_natCast, hset _ (bt_lt s i), hb]

theorem tok_res {w : World} {C k i j : Nat} {t : ByteArray} (h : TC w C k t i j) (tmps : Array Value) (hp : tmps.getD 2 undef = .pointer (some ⟨C, 0, none⟩)) :
    (results Tryz.f68 tmps).run Tryz.prog w = .ok (.agg #[.int .i64 k, .string t, .int .i64 i, .int .i64 j]) w :=
  results_cell_row rfl tmps w C 43 _ _ _ hp h Tryz.underlying43 rfl (by kernel_rfl)

set_option maxRecDepth 100000 in
set_option maxHeartbeats 4000000 in
theorem token_c (w : World) (g : Nat) (s : ByteArray) (i n : Nat) (r : Except Int (Nat × Nat)) (h : RD w g s i i n) (hi : i < s.size) (hs : s.size ≤ 16384) (hg : 3 ≤ g) (E : Env w) (hn : n < 2048) (hr : tok s i = r) :
    Calls Tryz.prog 68 #[.pointer (some ⟨g, 0, none⟩)] w (TokPost g s i n w r) := by
  have HR := Sd.mk hr
  clear hr
  have hgl := h.lt
  have H0 := Sd.mk (h.alloc (.cells #[.int .i64 0, .string ⟨#[]⟩, .int .i64 0, .int .i64 0] 43))
  have HT0 := Sd.mk (TC.fresh w)
  have HF0 := Sd.mk ((Fr.refl g w).alloc (.cells #[.int .i64 0, .string ⟨#[]⟩, .int .i64 0, .int .i64 0] 43))
  clear h
  obtain ⟨C, hC⟩ : ∃ B, w.heap.size = B := ⟨_, rfl⟩
  rw [hC] at HT0 hgl
  go_enter Tryz.func68, Tryz.ntmps68
  go_upto_region 1 with (fail)
  generalize w.alloc (.cells #[.int .i64 0, .string ⟨#[]⟩, .int .i64 0, .int .i64 0] 43) = w1 at H0 HT0 HF0 ⊢
  have h0 := H0.out.c0
  have h1 := H0.out.c1
  have h3 := H0.out.c3
  have f3 := H0.out.fz 3
  have t2 := HT0.out.c2
  have f2 := HT0.out.fz 2
  have e1 : ((n : Int) < 2048) = True := eq_true (by omega)
  have hne : (C == g) = false := by simp; omega
  have hne2 : (g == C) = false := by simp; omega
  go_upto_region 4 with (go_at_call 86; refine (must_t _ g 53).mono ?_; rintro e w4 ⟨rfl, rfl⟩)
  have H5 : Sd (RD (World.setCell (World.setCell w4 ⟨g, 3, none⟩ (.int .i64 ((n : Int) + 1))) ⟨C, 2, none⟩ (.int .i64 i)) g s i i (n + 1)) := ⟨(H0.out.set3 (n + 1)).far (p := ⟨C, 2, none⟩) (by simp; omega) _⟩
  have HT5 : Sd (TC (World.setCell (World.setCell w4 ⟨g, 3, none⟩ (.int .i64 ((n : Int) + 1))) ⟨C, 2, none⟩ (.int .i64 i)) C 0 ⟨#[]⟩ i 0) := ⟨(HT0.out.fr ((Fr.refl g w4).setCell (p := ⟨g, 3, none⟩) (.inl rfl) _) (by omega)).set2 i⟩
  have HF5 : Sd (Fr g w (World.setCell (World.setCell w4 ⟨g, 3, none⟩ (.int .i64 ((n : Int) + 1))) ⟨C, 2, none⟩ (.int .i64 i))) := ⟨(HF0.out.setCell (.inl rfl) _).setC (by omega) _ _⟩
  generalize World.setCell (World.setCell w4 ⟨g, 3, none⟩ (.int .i64 ((n : Int) + 1))) ⟨C, 2, none⟩ (.int .i64 i) = w5 at H5 HT5 HF5 ⊢
  clear H0 HT0 HF0 h0 h1 h3 f3 t2 f2
  have h0 := H5.out.c0
  have h1 := H5.out.c1
  have f1 := H5.out.fz 1
  have u0 := HT5.out.c0
  have u1 := HT5.out.c1
  have v0 := HT5.out.fz 0
  have v1 := HT5.out.fz 1
  have p1 : (0 ≤ (i : Int)) = True := eq_true (by omega)
  have p2 : ((i : Int) < (s.size : Int)) = True := eq_true (by omega)
  have hE := HF5.out.env hg E
  obtain ⟨bD, hbD⟩ : ∃ b, pre s i dotsT.data.toList = b := ⟨_, rfl⟩
  obtain ⟨bP, hbP⟩ : ∃ b, isPunct (bt s i) = b := ⟨_, rfl⟩
  obtain ⟨bL, hbL⟩ : ∃ b, isLetter (bt s i) = b := ⟨_, rfl⟩
  obtain ⟨bG, hbG⟩ : ∃ b, isDigit (bt s i) = b := ⟨_, rfl⟩
  obtain ⟨bQ, hbQ⟩ : ∃ b, pre s i q3T.data.toList = b := ⟨_, rfl⟩
  obtain ⟨xP, hxP, cP⟩ := index_c s i hi punctT isPunct punct_set bP hbP
  obtain ⟨xL, hxL, cL⟩ := index_c s i hi lettersT isLetter letters_set bL hbL
  obtain ⟨xG, hxG, cG⟩ := index_c s i hi digitsT isDigit digits_set bG hbG
  have cDots := fun w (h : RD w g s i i (n + 1)) => has_c w g s i i (n + 1) dotsT bD h (by omega) hs hbD
  have cQ := fun w (h : RD w g s i i (n + 1)) => has_c w g s i i (n + 1) q3T bQ h (by omega) hs hbQ
  have hbt := bt_at s i hi
  have HBD := Sd.mk hbD
  have HBP := Sd.mk hbP
  have HBL := Sd.mk hbL
  have HBG := Sd.mk hbG
  have HBQ := Sd.mk hbQ
  clear hbD hbP hbL hbG hbQ
  go_quiet (fail)
  go_upto_block 0 with (fail)
  go_cut [] (fun wc => ∃ (k j : Nat) (t : ByteArray), i ≤ j ∧ j ≤ s.size ∧ Sd (RD wc g s j i (n + 1)) ∧ Sd (TC wc C k t i 0) ∧ Sd (Fr g w wc) ∧ Sd (r = .ok (k, j)))
  case first =>
    cases bD with
    | true =>
      have hsz := pre_size HBD.out
      have hle : i + 3 ≤ s.size := by simp [dotsT] at hsz; omega
      clear hsz
      go_wp2_with (go_at_call 84; refine (cDots _ (H5.out.drewN _)).mono ?_; rintro e w6 ⟨rfl, ⟨q1, rfl⟩⟩)
      go_meet
      case rel => exact ⟨0, i + 3, _, by omega, hle, ⟨(H5.out.drewN _).set1 (i + 3)⟩, ⟨(HT5.out.drewN _).fr ((Fr.refl g _).setCell (p := ⟨g, 1, none⟩) (.inl rfl) _) (by omega)⟩, ⟨(HF5.out.drewN _).setCell (.inl rfl) _⟩, ⟨by rw [← HR.out, tok_1 HBD.out]⟩⟩
    | false =>
      cases bP with
      | true =>
        go_wp2_with (first | (go_at_call 84; refine (cDots _ (H5.out.drewN _)).mono ?_; rintro e w6 ⟨rfl, ⟨q1, rfl⟩⟩) | (go_at_call 83; refine (cP _).mono ?_; rintro e w1 ⟨rfl, rfl⟩))
        go_meet
        case rel => exact ⟨0, i + 1, _, by omega, hi, ⟨(H5.out.drewN _).set1 (i + 1)⟩, ⟨(HT5.out.drewN _).fr ((Fr.refl g _).setCell (p := ⟨g, 1, none⟩) (.inl rfl) _) (by omega)⟩, ⟨(HF5.out.drewN _).setCell (.inl rfl) _⟩, ⟨by rw [← HR.out, tok_2 HBD.out HBP.out]⟩⟩
      | false =>
        cases bL with
        | true =>
          obtain ⟨m, hm⟩ : ∃ m, runN isName s i = m := ⟨_, rfl⟩
          have hle := runN_at (Nat.le_of_lt hi) hm
          have HM := Sd.mk hm
          clear hm
          go_wp2_with (first | (go_at_call 84; refine (cDots _ (H5.out.drewN _)).mono ?_; rintro e w6 ⟨rfl, ⟨q1, rfl⟩⟩; clear cDots) | (go_at_call 83; refine (cP _).mono ?_; rintro e w1 ⟨rfl, rfl⟩) | (go_at_call 83; refine (cL _).mono ?_; rintro e w1 ⟨rfl, rfl⟩) | (go_at_call 87; refine (run_c _ g s i i (n + 1) nameT isName m (H5.out.drewN _ |>.far (p := ⟨C, 0, none⟩) (by simp; omega) _) (Nat.le_of_lt hi) hs name_set HM.out).mono ?_; rintro e w7 ⟨rfl, h7, hf7⟩; have H7 := Sd.mk h7; have HT7 := Sd.mk (TC.fr ((HT5.out.drewN _).set0 1) hf7 (by omega)); have HF7 := Sd.mk (((HF5.out.drewN _).setC (by omega) _ _).trans hf7); clear h7 hf7))
          go_meet
          case rel => exact ⟨1, i + m, _, by omega, hle, H7, HT7, HF7, ⟨by rw [← HR.out, tok_3 HBD.out HBP.out HBL.out, HM.out]⟩⟩
        | false =>
          by_cases h45 : bt s i = 45
          · have e45 : ((bt s i : Int) == 45) = true := by simp [h45]
            have hG : bt s i = 45 ∨ isDigit (bt s i) = true := .inl h45
            clear h45
            clear hbt
            obtain ⟨rn, hrn⟩ : ∃ rn, num s i = rn := ⟨_, rfl⟩
            cases rn with
            | none =>
              have HN : Sd (.error 51 = r) := ⟨by rw [← HR.out, tok_4 HBD.out HBP.out HBL.out hG, hrn]⟩
              have HRN := Sd.mk hrn
              clear hrn
              go_wp2_with (first | (go_at_call 84; refine (cDots _ (H5.out.drewN _)).mono ?_; rintro e w6 ⟨rfl, ⟨q1, rfl⟩⟩; clear cDots) | (go_at_call 83; refine (cP _).mono ?_; rintro e w1 ⟨rfl, rfl⟩) | (go_at_call 83; refine (cL _).mono ?_; rintro e w1 ⟨rfl, rfl⟩) | (go_at_call 83; refine (cG _).mono ?_; rintro e w1 ⟨rfl, rfl⟩) | (go_at_call 88; refine (number_c _ g s i i (n + 1) none (H5.out.drewN _) (Nat.le_of_lt hi) hs HRN.out).mono ?_; rintro e w8 ⟨rfl, hf8⟩; have HF8 := Sd.mk ((HF5.out.drewN _).trans hf8); clear hf8))
              rw [← HN.out]
              exact ⟨rfl, rfl, HF8.out⟩
            | some p =>
              obtain ⟨j, k⟩ := p
              have HN : Sd (r = .ok (k, j)) := ⟨by rw [← HR.out, tok_4 HBD.out HBP.out HBL.out hG, hrn]⟩
              have hj := num_le hrn (Nat.le_of_lt hi)
              have HRN := Sd.mk hrn
              clear hrn
              go_wp2_with (first | (go_at_call 84; refine (cDots _ (H5.out.drewN _)).mono ?_; rintro e w6 ⟨rfl, ⟨q1, rfl⟩⟩; clear cDots) | (go_at_call 83; refine (cP _).mono ?_; rintro e w1 ⟨rfl, rfl⟩) | (go_at_call 83; refine (cL _).mono ?_; rintro e w1 ⟨rfl, rfl⟩) | (go_at_call 83; refine (cG _).mono ?_; rintro e w1 ⟨rfl, rfl⟩) | (go_at_call 88; refine (number_c _ g s i i (n + 1) (some (j, k)) (H5.out.drewN _) (Nat.le_of_lt hi) hs HRN.out).mono ?_; rintro e w8 ⟨rfl, h8, hf8⟩; have H8 := Sd.mk h8; have HT8 := Sd.mk (TC.fr (HT5.out.drewN _) hf8 (by omega)); have HF8 := Sd.mk ((HF5.out.drewN _).trans hf8); have x0 := HT8.out.c0; have y0 := HT8.out.fz 0; clear h8 hf8))
              go_meet
              case rel => exact ⟨k, j, _, hj.1, hj.2, ⟨H8.out.far (by simp; omega) _⟩, ⟨HT8.out.set0 k⟩, ⟨HF8.out.setC (by omega) _ _⟩, HN⟩
          · have e45 : ((bt s i : Int) == 45) = false := by simp; omega
            cases bG with
            | true =>
              have hG : bt s i = 45 ∨ isDigit (bt s i) = true := .inr HBG.out
              clear h45
              clear hbt
              obtain ⟨rn, hrn⟩ : ∃ rn, num s i = rn := ⟨_, rfl⟩
              cases rn with
              | none =>
                have HN : Sd (.error 51 = r) := ⟨by rw [← HR.out, tok_4 HBD.out HBP.out HBL.out hG, hrn]⟩
                have HRN := Sd.mk hrn
                clear hrn
                go_wp2_with (first | (go_at_call 84; refine (cDots _ (H5.out.drewN _)).mono ?_; rintro e w6 ⟨rfl, ⟨q1, rfl⟩⟩; clear cDots) | (go_at_call 83; refine (cP _).mono ?_; rintro e w1 ⟨rfl, rfl⟩) | (go_at_call 83; refine (cL _).mono ?_; rintro e w1 ⟨rfl, rfl⟩) | (go_at_call 83; refine (cG _).mono ?_; rintro e w1 ⟨rfl, rfl⟩) | (go_at_call 88; refine (number_c _ g s i i (n + 1) none (H5.out.drewN _) (Nat.le_of_lt hi) hs HRN.out).mono ?_; rintro e w8 ⟨rfl, hf8⟩; have HF8 := Sd.mk ((HF5.out.drewN _).trans hf8); clear hf8))
                rw [← HN.out]
                exact ⟨rfl, rfl, HF8.out⟩
              | some p =>
                obtain ⟨j, k⟩ := p
                have HN : Sd (r = .ok (k, j)) := ⟨by rw [← HR.out, tok_4 HBD.out HBP.out HBL.out hG, hrn]⟩
                have hj := num_le hrn (Nat.le_of_lt hi)
                have HRN := Sd.mk hrn
                clear hrn
                go_wp2_with (first | (go_at_call 84; refine (cDots _ (H5.out.drewN _)).mono ?_; rintro e w6 ⟨rfl, ⟨q1, rfl⟩⟩; clear cDots) | (go_at_call 83; refine (cP _).mono ?_; rintro e w1 ⟨rfl, rfl⟩) | (go_at_call 83; refine (cL _).mono ?_; rintro e w1 ⟨rfl, rfl⟩) | (go_at_call 83; refine (cG _).mono ?_; rintro e w1 ⟨rfl, rfl⟩) | (go_at_call 88; refine (number_c _ g s i i (n + 1) (some (j, k)) (H5.out.drewN _) (Nat.le_of_lt hi) hs HRN.out).mono ?_; rintro e w8 ⟨rfl, h8, hf8⟩; have H8 := Sd.mk h8; have HT8 := Sd.mk (TC.fr (HT5.out.drewN _) hf8 (by omega)); have HF8 := Sd.mk ((HF5.out.drewN _).trans hf8); have x0 := HT8.out.c0; have y0 := HT8.out.fz 0; clear h8 hf8))
                go_meet
                case rel => exact ⟨k, j, _, hj.1, hj.2, ⟨H8.out.far (by simp; omega) _⟩, ⟨HT8.out.set0 k⟩, ⟨HF8.out.setC (by omega) _ _⟩, HN⟩
            | false =>
              have hG : ¬ (bt s i = 45 ∨ isDigit (bt s i) = true) := fun h => h.elim h45 (fun h => by rw [HBG.out] at h; cases h)
              have HG := Sd.mk hG
              clear hG h45
              cases bQ with
              | true =>
                have hsz := pre_size HBQ.out
                have hle : i + 3 ≤ s.size := by simp [q3T] at hsz; omega
                clear hsz hbt
                obtain ⟨rn, hrn⟩ : ∃ rn, blkE s (i + 3) = rn := ⟨_, rfl⟩
                cases rn with
                | none =>
                  have HN : Sd (.error 52 = r) := ⟨by rw [← HR.out, tok_5 HBD.out HBP.out HBL.out HG.out HBQ.out, hrn]⟩
                  have HRN := Sd.mk hrn
                  clear hrn
                  go_wp2_with (first | (go_at_call 84; refine (cDots _ (H5.out.drewN _)).mono ?_; rintro e w6 ⟨rfl, ⟨q1, rfl⟩⟩; clear cDots) | (go_at_call 83; refine (cP _).mono ?_; rintro e w1 ⟨rfl, rfl⟩) | (go_at_call 83; refine (cL _).mono ?_; rintro e w1 ⟨rfl, rfl⟩) | (go_at_call 83; refine (cG _).mono ?_; rintro e w1 ⟨rfl, rfl⟩) | (go_at_call 84; refine (cQ _ (H5.out.drewN _)).mono ?_; rintro e w6 ⟨rfl, ⟨q2, rfl⟩⟩; clear cQ) | (go_at_call 89; refine (blockS_c _ g s i i (n + 1) none (H5.out.drewN _) hle hs hg ((HF5.out.drewN _).env hg E) HRN.out).mono ?_; rintro e w8 ⟨rfl, hf8⟩; have HF8 := Sd.mk ((HF5.out.drewN _).trans hf8); clear hf8))
                  rw [← HN.out]
                  exact ⟨rfl, rfl, HF8.out⟩
                | some j =>
                  have HN : Sd (r = .ok (4, j)) := ⟨by rw [← HR.out, tok_5 HBD.out HBP.out HBL.out HG.out HBQ.out, hrn]⟩
                  have hj := blkE_le hrn hle
                  have HRN := Sd.mk hrn
                  clear hrn
                  go_wp2_with (first | (go_at_call 84; refine (cDots _ (H5.out.drewN _)).mono ?_; rintro e w6 ⟨rfl, ⟨q1, rfl⟩⟩; clear cDots) | (go_at_call 83; refine (cP _).mono ?_; rintro e w1 ⟨rfl, rfl⟩) | (go_at_call 83; refine (cL _).mono ?_; rintro e w1 ⟨rfl, rfl⟩) | (go_at_call 83; refine (cG _).mono ?_; rintro e w1 ⟨rfl, rfl⟩) | (go_at_call 84; refine (cQ _ (H5.out.drewN _)).mono ?_; rintro e w6 ⟨rfl, ⟨q2, rfl⟩⟩; clear cQ) | (go_at_call 89; refine (blockS_c _ g s i i (n + 1) (some j) (H5.out.drewN _) hle hs hg ((HF5.out.drewN _).env hg E) HRN.out).mono ?_; rintro e w8 ⟨t, rfl, h8, hf8⟩; have H8 := Sd.mk h8; have HT8 := Sd.mk (TC.fr (HT5.out.drewN _) hf8 (by omega)); have HF8 := Sd.mk ((HF5.out.drewN _).trans hf8); have x0 := HT8.out.c0; have y0 := HT8.out.fz 0; have x1 := HT8.out.c1; have y1 := HT8.out.fz 1; clear h8 hf8))
                  go_meet
                  case rel => exact ⟨4, j, t, by omega, hj.2, ⟨(H8.out.far (p := ⟨C, 0, none⟩) (by simp; omega) _).far (p := ⟨C, 1, none⟩) (by simp; omega) _⟩, ⟨(HT8.out.set0 4).set1 t⟩, ⟨(HF8.out.setC (by omega) _ _).setC (by omega) _ _⟩, HN⟩
              | false =>
                by_cases h34 : bt s i = 34
                · have e34 : ((bt s i : Int) == 34) = true := by simp [h34]
                  obtain ⟨rn, hrn⟩ : ∃ rn, txt s (i + 1) [] = rn := ⟨_, rfl⟩
                  cases rn with
                  | none =>
                    have HN : Sd (.error 52 = r) := ⟨by rw [← HR.out, tok_6 HBD.out HBP.out HBL.out HG.out HBQ.out h34, hrn]⟩
                    have HRN := Sd.mk hrn
                    clear hrn h34 hbt
                    go_wp2_with (first | (go_at_call 84; refine (cDots _ (H5.out.drewN _)).mono ?_; rintro e w6 ⟨rfl, ⟨q1, rfl⟩⟩; clear cDots) | (go_at_call 83; refine (cP _).mono ?_; rintro e w1 ⟨rfl, rfl⟩) | (go_at_call 83; refine (cL _).mono ?_; rintro e w1 ⟨rfl, rfl⟩) | (go_at_call 83; refine (cG _).mono ?_; rintro e w1 ⟨rfl, rfl⟩) | (go_at_call 84; refine (cQ _ (H5.out.drewN _)).mono ?_; rintro e w6 ⟨rfl, ⟨q2, rfl⟩⟩; clear cQ) | (go_at_call 90; refine (text_c _ g s i i (n + 1) none (H5.out.drewN _) hi hs hg ((HF5.out.drewN _).env hg E) HRN.out).mono ?_; rintro e w8 ⟨rfl, hf8⟩; have HF8 := Sd.mk ((HF5.out.drewN _).trans hf8); clear hf8))
                    rw [← HN.out]
                    exact ⟨rfl, rfl, HF8.out⟩
                  | some p =>
                    obtain ⟨t, j⟩ := p
                    have HN : Sd (r = .ok (4, j)) := ⟨by rw [← HR.out, tok_6 HBD.out HBP.out HBL.out HG.out HBQ.out h34, hrn]⟩
                    have hj := txt_le hrn
                    have HRN := Sd.mk hrn
                    clear hrn h34 hbt
                    go_wp2_with (first | (go_at_call 84; refine (cDots _ (H5.out.drewN _)).mono ?_; rintro e w6 ⟨rfl, ⟨q1, rfl⟩⟩; clear cDots) | (go_at_call 83; refine (cP _).mono ?_; rintro e w1 ⟨rfl, rfl⟩) | (go_at_call 83; refine (cL _).mono ?_; rintro e w1 ⟨rfl, rfl⟩) | (go_at_call 83; refine (cG _).mono ?_; rintro e w1 ⟨rfl, rfl⟩) | (go_at_call 84; refine (cQ _ (H5.out.drewN _)).mono ?_; rintro e w6 ⟨rfl, ⟨q2, rfl⟩⟩; clear cQ) | (go_at_call 90; refine (text_c _ g s i i (n + 1) (some (t, j)) (H5.out.drewN _) hi hs hg ((HF5.out.drewN _).env hg E) HRN.out).mono ?_; rintro e w8 ⟨rfl, h8, hf8⟩; have H8 := Sd.mk h8; have HT8 := Sd.mk (TC.fr (HT5.out.drewN _) hf8 (by omega)); have HF8 := Sd.mk ((HF5.out.drewN _).trans hf8); have x0 := HT8.out.c0; have y0 := HT8.out.fz 0; have x1 := HT8.out.c1; have y1 := HT8.out.fz 1; clear h8 hf8))
                    go_meet
                    case rel => exact ⟨4, j, _, by omega, hj.2, ⟨(H8.out.far (p := ⟨C, 0, none⟩) (by simp; omega) _).far (p := ⟨C, 1, none⟩) (by simp; omega) _⟩, ⟨(HT8.out.set0 4).set1 _⟩, ⟨(HF8.out.setC (by omega) _ _).setC (by omega) _ _⟩, HN⟩
                · have e34 : ((bt s i : Int) == 34) = false := by simp; omega
                  have HN : Sd (.error 50 = r) := ⟨by rw [← HR.out, tok_7 HBD.out HBP.out HBL.out HG.out HBQ.out h34]⟩
                  clear h34 hbt
                  go_wp2_with (first | (go_at_call 84; refine (cDots _ (H5.out.drewN _)).mono ?_; rintro e w6 ⟨rfl, ⟨q1, rfl⟩⟩; clear cDots) | (go_at_call 83; refine (cP _).mono ?_; rintro e w1 ⟨rfl, rfl⟩) | (go_at_call 83; refine (cL _).mono ?_; rintro e w1 ⟨rfl, rfl⟩) | (go_at_call 83; refine (cG _).mono ?_; rintro e w1 ⟨rfl, rfl⟩) | (go_at_call 84; refine (cQ _ (H5.out.drewN _)).mono ?_; rintro e w6 ⟨rfl, ⟨q2, rfl⟩⟩; clear cQ) | (go_at_call 86; refine (must_f _ g s _ i (n + 1) 50 (H5.out.drewN _)).mono ?_; rintro e w4 ⟨rfl, rfl⟩))
                  rw [← HN.out]
                  exact ⟨rfl, rfl, HF5.out.drewN _⟩
  case rest =>
    clear H5 HT5 HF5 h0 h1 f1 u0 u1 v0 v1 hE HBD HBP HBL HBG HBQ cP cL cG cDots cQ
    obtain ⟨k, j, t, hij, hjs, H6, HT6, HF6, HR6⟩ := hcut
    have h0 := H6.out.c0
    have h1 := H6.out.c1
    have u0 := HT6.out.c0
    have u2 := HT6.out.c2
    have u3 := HT6.out.c3
    have v3 := HT6.out.fz 3
    have H7 := fun j' : Nat => Sd.mk (H6.out.far (p := ⟨C, 3, none⟩) (by simp; omega) (.int .i64 j'))
    have HT7 := Sd.mk (HT6.out.set3 j)
    have HF7 := Sd.mk (HF6.out.setC (C := C) (by omega) 3 (.int .i64 j))
    have c0 := HT7.out.c0
    have c1 := HT7.out.c1
    have c2 := HT7.out.c2
    have c3 := HT7.out.c3
    have z0 := HT7.out.fz 0
    have z1 := HT7.out.fz 1
    have z2 := HT7.out.fz 2
    have z3 := HT7.out.fz 3
    have k0 := (H7 j).out.c0
    have q1 : ((i : Int) ≤ (j : Int)) = True := eq_true (by omega)
    have q2 : ((j : Int) ≤ (s.size : Int)) = True := eq_true (by omega)
    have q3 : (0 ≤ (j : Int)) = True := eq_true (by omega)
    by_cases hk4 : k = 4
    · have e4 : ((k : Int) != 4) = false := by simp; omega
      subst hk4
      have HT8 := Sd.mk ((((HT7.out.set0 4).set1 t).set2 i).set3 j)
      have HF8 := Sd.mk ((((HF7.out.setC (C := C) (by omega) 0 (.int .i64 4)).setC (C := C) (by omega) 1 (.string t)).setC (C := C) (by omega) 2 (.int .i64 i)).setC (C := C) (by omega) 3 (.int .i64 j))
      have H8 := Sd.mk (((((H7 j).out.far (p := ⟨C, 0, none⟩) (by simp; omega) (.int .i64 4)).far (p := ⟨C, 1, none⟩) (by simp; omega) (.string t)).far (p := ⟨C, 2, none⟩) (by simp; omega) (.int .i64 i)).far (p := ⟨C, 3, none⟩) (by simp; omega) (.int .i64 j))
      go_wp2
      refine bodyPost_ret (tok_res HT8.out _ rfl) rfl ?_
      rw [HR6.out]
      exact ⟨t, rfl, fun h => absurd rfl h, H8.out, HF8.out⟩
    · have e4 : ((k : Int) != 4) = true := by simp; omega
      go_upto_region 21 with (fail)
      obtain ⟨x, hx⟩ : ∃ x, s.extract i j = x := ⟨_, rfl⟩
      have HX := Sd.mk hx
      have HT8 := Sd.mk (((((HT7.out.set1 x).set0 k).set1 x).set2 i).set3 j).drew
      have HF8 := Sd.mk (((((HF7.out.setC (C := C) (by omega) 1 (.string x)).setC (C := C) (by omega) 0 (.int .i64 k)).setC (C := C) (by omega) 1 (.string x)).setC (C := C) (by omega) 2 (.int .i64 i)).setC (C := C) (by omega) 3 (.int .i64 j)).drew
      have H8 := Sd.mk ((((((H7 j).out.far (p := ⟨C, 1, none⟩) (by simp; omega) (.string x)).far (p := ⟨C, 0, none⟩) (by simp; omega) (.int .i64 k)).far (p := ⟨C, 1, none⟩) (by simp; omega) (.string x)).far (p := ⟨C, 2, none⟩) (by simp; omega) (.int .i64 i)).far (p := ⟨C, 3, none⟩) (by simp; omega) (.int .i64 j)).drew
      go_region
      go_wp2
      refine bodyPost_ret (tok_res HT8.out _ rfl) rfl ?_
      rw [HR6.out]
      exact ⟨x, rfl, fun _ => HX.out.symm, H8.out, HF8.out⟩

theorem token_many (w : World) (g : Nat) (s : ByteArray) (i n : Nat) (h : RD w g s i i n) (hn : 2048 ≤ n) (hn2 : n ≤ 16384) :
    Calls Tryz.prog 68 #[.pointer (some ⟨g, 0, none⟩)] w fun e w' => e = .panicked (wrC i 53) ∧ Fr g w w' := by
  have H0 := Sd.mk (h.alloc (.cells #[.int .i64 0, .string ⟨#[]⟩, .int .i64 0, .int .i64 0] 43))
  have HF0 := Sd.mk ((Fr.refl g w).alloc (.cells #[.int .i64 0, .string ⟨#[]⟩, .int .i64 0, .int .i64 0] 43))
  clear h
  go_enter Tryz.func68, Tryz.ntmps68
  go_upto_region 1 with (fail)
  generalize w.alloc (.cells #[.int .i64 0, .string ⟨#[]⟩, .int .i64 0, .int .i64 0] 43) = w1 at H0 HF0 ⊢
  have h3 := H0.out.c3
  have e1 : decide ((n : Int) < 2048) = false := by simp; omega
  go_wp2_with (go_at_call 86; refine (must_f _ g s _ i n 53 H0.out).mono ?_; rintro e w4 ⟨rfl, rfl⟩)
  exact ⟨rfl, rfl, HF0.out⟩
end Go.Proofs.YtibgigffedejpaaGreatDoor
/- A drawn region in two parts: first operations that only read and that all the others wait for: one walk of the text's order; then the others, in whatever order. In the fenced layer (a round's call may come up in the second part). -/
namespace Go.Proofs.YtibgigffedejpaaGreatDoor
set_option linter.unusedVariables false
set_option linter.unusedSimpArgs false
section
variable {P : Program} {ops : Array Oper} {md : Region.Mode} {C : World → Prop} {Q : Exit → Act → World → Prop} {K : Act → Prop} {k n : Nat}

def preDone (k : Nat) (listed : Array Bool) : Bool := (List.range k).all fun i => listed.getD i true
def wpAnyP (P : Program) (md : Region.Mode) (ops : Array Oper) (C : World → Prop) (k : Nat) (K : Act → Prop) : Nat → Array Bool → Act → Prop
  | 0, listed, a => if preDone k listed = true then K a else False
  | fuel + 1, listed, a => if preDone k listed = true then K a else ∀ i ∈ Region.ready md ops listed, i < k → qOp P ops C i (wpAnyP P md ops C k K fuel (listed.setIfInBounds i true)) a

theorem preDone_no {listed : Array Bool} {i : Nat} (hi : i < k) (h : listed.getD i true = false) : ¬ preDone k listed = true := fun hp => by
  simp only [preDone, List.all_eq_true, List.mem_range] at hp
  rw [hp i hi] at h; cases h

theorem wpAnyP_first {i : Nat} {oi : Oper} {v : Value} (hi : ops[i]? = some oi) (hik : i < k) (hsel : ∀ (j : Nat) (o : Oper) cs b, ops[j]? = some o → o.op ≠ .select cs b) :
    ∀ (fuel : Nat) (listed : Array Bool) (a : Act),
      (∀ j oj, ops[j]? = some oj → j ≠ i → listed.getD j true = false → (∀ e ∈ oj.after, Region.binds md e = true → e.on ≠ i) → oi.apart ops oj = true) →
      i ∈ Region.ready md ops listed → YieldsIn P ops C oi v a →
      wpAnyP P md ops C k K fuel (listed.setIfInBounds i true) (a.put oi.dst v) → wpAnyP P md ops C k K (fuel + 1) listed a := by
  intro fuel
  induction fuel with
  | zero =>
    intro listed a hfree hr hy H
    rw [wpAnyP, if_neg (preDone_no hik (mem_ready.1 hr).1)]
    intro j hj hjk
    by_cases hji : j = i
    · subst hji; exact hy.qOp hi H
    · rw [wpAnyP, if_neg (preDone_no hjk (by rw [getD_set_ne true (Ne.symm hji)]; exact (mem_ready.1 hj).1))] at H
      exact H.elim
  | succ fuel ih =>
    intro listed a hfree hr hy H
    rw [wpAnyP, if_neg (preDone_no hik (mem_ready.1 hr).1)]
    intro j hj hjk
    by_cases hji : j = i
    · subst hji; exact hy.qOp hi H
    · rw [wpAnyP, if_neg (preDone_no hjk (by rw [getD_set_ne true (Ne.symm hji)]; exact (mem_ready.1 hj).1))] at H
      have h1 := H j (ready_mono hj hji) hjk
      obtain ⟨hjun, oj, hoj, hall⟩ := mem_ready.1 hj
      have hnot : ∀ e ∈ oj.after, Region.binds md e = true → e.on ≠ i := fun e he hb heq => by
        have h1 := hall e he hb
        have h0 := (mem_ready.1 hr).1
        rw [heq] at h1
        rcases Nat.lt_or_ge i listed.size with h' | h'
        · simp [h'] at h0 h1; rw [h0] at h1; cases h1
        · simp [Array.getElem?_eq_none h'] at h1
      have h2 := qOp_put hoj (hfree j oj hoj hji hjun hnot) (fun cs b => hsel i oi cs b hi) (fun cs b => hsel j oj cs b hoj) hy h1
      have hfree' : ∀ k ok, ops[k]? = some ok → k ≠ i → (listed.setIfInBounds j true).getD k true = false →
          (∀ e ∈ ok.after, Region.binds md e = true → e.on ≠ i) → oi.apart ops ok = true := fun k ok hk hki hun hno => by
        refine hfree k ok hk hki ?_ hno
        by_cases hjk : j = k
        · subst hjk; exact hjun
        · rw [getD_set_ne true hjk] at hun; exact hun
      refine qOp_mono (fun a' h3 => ih (listed.setIfInBounds j true) a' hfree' (ready_mono hr (Ne.symm hji)) h3.1 ?_) h2
      rw [Array.setIfInBounds_comm _ _ hji]
      exact h3.2

def lexH (md : Region.Mode) (ops : Array Oper) : Nat → Nat → Array Bool → Bool
  | 0, k, listed => preDone k listed
  | m + 1, k, listed => decide (k < ops.size) && (Region.ready md ops listed).contains k && Region.free md ops listed k && lexH md ops m (k + 1) (listed.setIfInBounds k true)

theorem wpAnyP_lex (hs : Region.noSelect ops = true) (Kf : Nat) : ∀ (l : List Oper) (j : Nat) (listed : Array Bool) (a : Act), (∀ i, i < l.length → l[i]? = ops[j + i]?) →
    lexH md ops l.length j listed = true → wpQuiet P ops C K l a → wpAnyP P md ops C (j + l.length) K (l.length + Kf) listed a
  | [], j, listed, a, _, hB, h => by
    simp only [List.length_nil, Nat.add_zero, Nat.zero_add, lexH] at hB ⊢
    cases Kf with
    | zero => rw [wpAnyP, if_pos hB]; exact h
    | succ m => rw [wpAnyP, if_pos hB]; exact h
  | o :: l, j, listed, a, hl, hB, h => by
    have h0 : ops[j]? = some o := by simpa using (hl 0 (by simp)).symm
    simp only [List.length_cons] at hB ⊢
    rw [lexH] at hB
    simp only [Bool.and_eq_true] at hB
    obtain ⟨⟨⟨_, hr⟩, hf⟩, hB'⟩ := hB
    have hst : qOp P ops C j (wpQuiet P ops C K l) a := by unfold qOp; simp only [h0]; exact h
    obtain ⟨v, hy, hK⟩ := yieldsIn_of_qOp h0 hst
    have ih := wpAnyP_lex hs Kf l (j + 1) (listed.setIfInBounds j true) (a.put o.dst v) (fun i hi => by have := hl (i + 1) (by simpa using hi); simpa [Nat.add_assoc, Nat.add_comm 1 i] using this) hB' hK
    rw [show j + 1 + l.length = j + (l.length + 1) by omega] at ih
    rw [show l.length + 1 + Kf = (l.length + Kf) + 1 by omega]
    exact wpAnyP_first h0 (by omega) (Region.noSelect_spec hs) _ listed a (Region.free_spec h0 hf) (by simpa using hr) hy ih

theorem wpOpIn_of_qOp {i : Nat} {a : Act} {K : Act → Prop} {K' : Act → World → Prop} {w : World} (hC : C w) (h : ∀ a w', C w' → K a → K' a w') (hh : qOp P ops C i K a) : wpOpIn Fence.wide n P ops Q i K' a w := by
  unfold qOp at hh
  unfold wpOpIn
  split
  · rename_i ho; simp only [ho] at hh; exact h _ _ hC hh
  · rename_i o ho
    simp only [ho] at hh
    split
    · rename_i hw
      simp only [hw, if_true] at hh
      obtain ⟨v, h1, h2⟩ := hh
      refine ⟨fun _ _ => trivial, ?_⟩
      have h3 := h1 w hC
      unfold Oper.quietAt at h3
      change Oper.uponIn Fence.wide n P o a K' Q ((execOp a.eval o).run P w)
      generalize (execOp a.eval o).run P w = r at *
      cases r with
      | ok m w' =>
        cases m <;> simp only [Oper.quietUpon] at h3 <;> simp only [Oper.uponIn]
        case value u =>
          obtain ⟨e1, e2⟩ := h3
          rw [e1, e2]; exact h _ _ hC h2
        case skip =>
          obtain ⟨e1, e2⟩ := h3
          rw [e1, ← e2]; exact h _ _ hC h2
        case enter f args =>
          obtain ⟨e1, hc⟩ := h3
          rw [e1]
          exact ⟨fun hx => (by cases hx), callsIn_wide.2 (hc.mono fun e w'' ⟨he, hw''⟩ => by subst he; exact h _ _ hw'' h2)⟩
      | halt x w' => simp only [Oper.quietUpon] at h3
    · rename_i hw
      simp only [hw] at hh
      exact ⟨fun _ _ => trivial, h _ _ hC hh⟩

/-- What the text says of the first k operations: each waits for earlier ones alone; each but the last is waited for by a later one of them; all others wait for the last. -/
def headB (md : Region.Mode) (ops : Array Oper) (k : Nat) : Bool :=
  ((List.range ops.size).all fun i => match ops[i]? with
    | none => true
    | some o => if i < k then o.after.all (fun e => !Region.binds md e || decide (e.on < i)) else o.after.any (fun e => Region.binds md e && e.on == k - 1)) &&
  ((List.range (k - 1)).all fun j => (List.range k).any fun i => decide (j < i) && match ops[i]? with
    | none => false
    | some o => o.after.any (fun e => Region.binds md e && e.on == j))

structure Inv (md : Region.Mode) (ops : Array Oper) (k : Nat) (listed : Array Bool) : Prop where
  size : listed.size = ops.size
  tail : ∀ i, k ≤ i → i < ops.size → listed.getD i true = false
  shut : ∀ (i : Nat) oi, ops[i]? = some oi → listed.getD i true = true → ∀ e ∈ oi.after, Region.binds md e = true → listed.getD e.on true = true

theorem getD_true {listed : Array Bool} {i : Nat} (h : listed.getD i false = true) : i < listed.size ∧ listed.getD i true = true := by
  rcases Nat.lt_or_ge i listed.size with h' | h'
  · simp [h'] at h ⊢; exact h
  · simp [Array.getElem?_eq_none h'] at h
theorem count_set {listed : Array Bool} {i : Nat} (h : listed.getD i true = false) : (listed.setIfInBounds i true).toList.count false + 1 = listed.toList.count false := by
  have hi : i < listed.size := by
    rcases Nat.lt_or_ge i listed.size with h' | h'
    · exact h'
    · simp [Array.getElem?_eq_none h'] at h
  have hv : listed.toList[i]'(by simpa using hi) = false := by simpa [hi] using h
  have hp : 0 < listed.toList.count false := List.count_pos_iff.2 (by rw [← hv]; exact List.getElem_mem _)
  rw [Array.toList_setIfInBounds, List.count_set (by simpa using hi), hv]
  have e1 : (if (false == false) = true then 1 else 0) = 1 := rfl
  have e2 : (if (true == false) = true then 1 else 0) = 0 := rfl
  rw [e1, e2]
  omega
theorem seqL_of {listed : Array Bool} (hs : listed.size = ops.size) (hk : k ≤ ops.size) (hp : preDone k listed = true) (ht : ∀ i, k ≤ i → i < ops.size → listed.getD i true = false) : listed = seqL ops.size k := by
  simp only [preDone, List.all_eq_true, List.mem_range] at hp
  refine Array.ext (by simp [seqL, hs]; omega) (fun i h1 h2 => ?_)
  rcases Nat.lt_or_ge i k with h | h
  · have := hp i h
    simp [h1] at this
    rw [this]
    simp [seqL, List.getElem_append, h]
  · have := ht i h (by omega)
    simp [h1] at this
    rw [this]
    simp [seqL, List.getElem_append, Nat.not_lt.2 h]
theorem seqL_count {k m : Nat} (hk : k ≤ m) : (seqL m k).toList.count false = m - k := by
  simp [seqL, List.count_append, List.count_replicate]

theorem Inv.step {listed : Array Bool} {i : Nat} (h : Inv md ops k listed) (hi : i ∈ Region.ready md ops listed) (hik : i < k) : Inv md ops k (listed.setIfInBounds i true) := by
  obtain ⟨h0, o, ho, hall⟩ := mem_ready.1 hi
  refine ⟨by simpa using h.size, fun j hj hjs => by rw [getD_set_ne true (by omega)]; exact h.tail j hj hjs, fun j oj hoj hl e he hb => ?_⟩
  have up : ∀ x, listed.getD x true = true → (listed.setIfInBounds i true).getD x true = true := fun x hx => by
    by_cases hxi : i = x
    · subst hxi; rw [h0] at hx; cases hx
    · rw [getD_set_ne true hxi]; exact hx
  by_cases hji : j = i
  · subst hji
    rw [ho] at hoj; cases hoj
    exact up _ (getD_true (hall e he hb)).2
  · rw [getD_set_ne true (Ne.symm hji)] at hl
    exact up _ (h.shut j oj hoj hl e he hb)

theorem Inv.all {listed : Array Bool} (h : Inv md ops k listed) (hB : headB md ops k = true) (hl : listed.getD (k - 1) true = true) : ∀ d j, j + d + 1 = k → listed.getD j true = true := by
  simp only [headB, Bool.and_eq_true, List.all_eq_true, List.mem_range, List.any_eq_true, decide_eq_true_eq] at hB
  intro d
  induction d using Nat.strongRecOn with
  | _ d ih =>
    intro j hj
    by_cases hd : j < k - 1
    · obtain ⟨i, hik, hji, hm⟩ := hB.2 j hd
      cases ho : ops[i]? with
      | none => rw [ho] at hm; cases hm
      | some o =>
        rw [ho] at hm
        simp only [Array.any_eq_true', Bool.and_eq_true, beq_iff_eq] at hm
        obtain ⟨e, he, hb, hon⟩ := hm
        have := h.shut i o ho (ih (k - 1 - i) (by omega) i (by omega)) e he hb
        rw [hon] at this; exact this
    · obtain rfl : j = k - 1 := by omega
      exact hl

theorem head_sound (hB : headB md ops k = true) (hk : k ≤ ops.size) (hk1 : 1 ≤ k) (hK : ∀ a w, C w → K a → wpAnyIn Fence.wide n P md ops Q (ops.size - k) (seqL ops.size k) a w) :
    ∀ (fuel : Nat) (listed : Array Bool) (a : Act) (w : World), listed.toList.count false = fuel → Inv md ops k listed → C w → wpAnyP P md ops C k K fuel listed a → wpAnyIn Fence.wide n P md ops Q fuel listed a w := by
  intro fuel
  induction fuel with
  | zero =>
    intro listed a w hc hI hC h
    rw [wpAnyP] at h
    split at h
    · rename_i hp
      have e := seqL_of hI.size hk hp hI.tail
      subst e
      rw [seqL_count hk] at hc
      rw [← hc]; exact hK a w hC h
    · exact h.elim
  | succ fuel ih =>
    intro listed a w hc hI hC h
    rw [wpAnyP] at h
    split at h
    · rename_i hp
      have e := seqL_of hI.size hk hp hI.tail
      subst e
      rw [seqL_count hk] at hc
      rw [← hc]; exact hK a w hC h
    · rename_i hp
      have hB' := hB
      simp only [headB, Bool.and_eq_true, List.all_eq_true, List.mem_range] at hB'
      have hlt : ∀ i ∈ Region.ready md ops listed, i < k := fun i hi => by
        obtain ⟨h0, o, ho, hall⟩ := mem_ready.1 hi
        refine Nat.lt_of_not_le fun hki => hp ?_
        have his : i < ops.size := (Array.getElem?_eq_some_iff.1 ho).1
        have h1 := hB'.1 i his
        rw [ho] at h1
        simp only [if_neg (Nat.not_lt.2 hki), Array.any_eq_true', Bool.and_eq_true, beq_iff_eq] at h1
        obtain ⟨e, he, hb, hon⟩ := h1
        have h2 := (getD_true (hall e he hb)).2
        rw [hon] at h2
        simp only [preDone, List.all_eq_true, List.mem_range]
        exact fun j hj => hI.all hB h2 (k - 1 - j) j (by omega)
      refine ⟨fun h0 => ?_, fun i hi => wpOpIn_of_qOp hC (fun a' w' hC' h' => ih _ a' w' (by have := count_set (mem_ready.1 hi).1; omega) (hI.step hi (hlt i hi)) hC' h') (h i hi (hlt i hi))⟩
      -- some operation may come up: the first that has not
      exfalso
      have hex : ∃ j, j < k ∧ listed.getD j true = false := by
        refine Classical.byContradiction fun hn => hp ?_
        simp only [preDone, List.all_eq_true, List.mem_range]
        intro j hj
        cases hv : listed.getD j true with
        | true => rfl
        | false => exact absurd ⟨j, hj, hv⟩ hn
      obtain ⟨j, hj, hmin⟩ : ∃ j, (j < k ∧ listed.getD j true = false) ∧ ∀ i, i < j → ¬ (i < k ∧ listed.getD i true = false) := by
        obtain ⟨j, hj⟩ := hex
        induction j using Nat.strongRecOn with
        | _ j ihj =>
          by_cases hx : ∃ i, i < j ∧ i < k ∧ listed.getD i true = false
          · obtain ⟨i, hij, hik⟩ := hx
            exact ihj i hij hik
          · exact ⟨j, hj, fun i hi hc => hx ⟨i, hi, hc⟩⟩
      have hjs : j < ops.size := by omega
      have ho : ops[j]? = some ops[j] := Array.getElem?_eq_getElem hjs
      have h1 := hB'.1 j hjs
      rw [ho] at h1
      simp only [if_pos hj.1, Array.all_eq_true', Bool.or_eq_true, Bool.not_eq_true', decide_eq_true_eq] at h1
      have : j ∈ Region.ready md ops listed := mem_ready.2 ⟨hj.2, ops[j], ho, fun e he hb => by
        rcases h1 e he with h2 | h2
        · rw [hb] at h2; cases h2
        · have h3 := hmin e.on h2
          have h4 : e.on < listed.size := by rw [hI.size]; omega
          cases hv : listed.getD e.on true with
          | false => exact absurd ⟨by omega, hv⟩ h3
          | true => simp [h4] at hv ⊢; exact hv⟩
      rw [h0] at this; cases this

/-- THE LAW. -/
theorem region_head {id : Nat} {a : Act} {w : World} {l : List Oper} (k : Nat) (hm : P.follows .mixedOrders = true) (hs : Region.noSelect l.toArray = true) (hB : headB .any l.toArray k = true) (hL : lexH .any l.toArray k 0 (Array.replicate l.length false) = true) (hk : k ≤ l.length) (hk1 : 1 ≤ k)
    (h : wpQuiet P l.toArray (fun w' => ∃ n, w' = w.drewN n) (fun a' => ∀ n', wpAnyIn Fence.wide n P .any l.toArray Q (l.length - k) (seqL l.length k) a' (w.drewN n')) (l.take k) a) : (Code.region id l.toArray true).wp P Q a w := by
  refine wpIn_wide.1 (wpIn_region_any (n := n) hm ?_)
  refine head_sound (C := fun w' => ∃ n, w' = w.drewN n) (k := k) (K := fun a' => ∀ n', wpAnyIn Fence.wide n P .any l.toArray Q (l.length - k) (seqL l.length k) a' (w.drewN n')) hB (by simpa using hk) hk1 (fun a' w' hC hK => by obtain ⟨n', rfl⟩ := hC; simpa using hK n') _ _ _ _ (by simp) ⟨by simp, fun i _ hi => by simp at hi; simp [hi], fun i oi hoi hl => by
    have := (Array.getElem?_eq_some_iff.1 hoi).1
    simp at this
    simp [this] at hl⟩ ⟨1, rfl⟩ ?_
  have := wpAnyP_lex (P := P) (C := fun w' => ∃ n, w' = w.drewN n) (md := .any) (K := fun a' => ∀ n', wpAnyIn Fence.wide n P .any l.toArray Q (l.length - k) (seqL l.length k) a' (w.drewN n')) hs (l.length - k) (l.take k) 0 (Array.replicate l.length false) a (fun i hi => by simp at hi; simp [hi]) (by rw [List.length_take, Nat.min_eq_left hk]; exact hL) h
  rw [List.length_take, Nat.min_eq_left hk] at this
  simpa [Nat.add_sub_cancel' hk] using this
end
end Go.Proofs.YtibgigffedejpaaGreatDoor
namespace Go.Proofs.YtibgigffedejpaaGreatDoor
set_option linter.unusedVariables false
set_option linter.unusedSimpArgs false
open Go.RowKit
set_option linter.unusedVariables false
set_option linter.unusedSimpArgs false

theorem runN_pos {p : Nat → Bool} {s : ByteArray} {i : Nat} (h : i < s.size) (hp : p (bt s i) = true) : 0 < runN p s i := by rw [runN_in h hp]; omega
theorem digs_lt {s : ByteArray} {i j : Nat} (h : digs s i = some j) : i < j := by
  unfold digs at h
  split at h
  · simp only [Option.some.injEq] at h; omega
  · cases h
theorem num_lt {s : ByteArray} {i j k : Nat} (h : num s i = some (j, k)) (hi : i ≤ s.size) : i < j := by
  unfold num at h
  rw [Option.bind_eq_some_iff] at h
  obtain ⟨a, ha, h⟩ := h
  rw [Option.bind_eq_some_iff] at h
  obtain ⟨b, hb, h⟩ := h
  rw [Option.bind_eq_some_iff] at h
  obtain ⟨c, hc, h⟩ := h
  have h0 := skipN_le (c := 45) hi
  have h1 : skipN s i 45 < a ∧ a ≤ s.size := by
    unfold num1 at ha
    split at ha
    · rename_i hb
      have hlt : skipN s i 45 < s.size := Nat.lt_of_not_le fun h => by rw [bt_out s _ h] at hb; omega
      simp only [Option.some.injEq] at ha; omega
    · exact ⟨digs_lt ha, (digs_le ha h0.1).2⟩
  have h2 : a ≤ b.1 ∧ b.1 ≤ s.size := by
    unfold num2 at hb
    split at hb
    · rename_i hs
      have := skipB_lt hs
      simp only [Option.map_eq_some_iff] at hb
      obtain ⟨x, hx, rfl⟩ := hb
      have := digs_le hx (by omega)
      simp only; omega
    · simp only [Option.some.injEq] at hb; subst hb; simp only; omega
  have h3 : b.1 ≤ c.1 := by
    unfold num3 at hc
    split at hc
    · rename_i hs
      have hlt : b.1 < s.size := by
        simp only [Bool.or_eq_true] at hs
        rcases hs with hs | hs <;> exact skipB_lt hs
      simp only [Option.map_eq_some_iff] at hc
      obtain ⟨x, hx, rfl⟩ := hc
      have h5 : b.1 + 1 ≤ (if skipB s (b.1 + 1) 43 = true then b.1 + 2 else skipN s (b.1 + 1) 45) ∧ (if skipB s (b.1 + 1) 43 = true then b.1 + 2 else skipN s (b.1 + 1) 45) ≤ s.size := by
        split
        · rename_i h6; have := skipB_lt h6; omega
        · have := skipN_le (c := 45) (s := s) (i := b.1 + 1) (by omega); omega
      have := digs_le hx h5.2
      simp only; omega
    · simp only [Option.some.injEq] at hc; subst hc; exact Nat.le_refl _
  unfold num4 at h
  split at h
  · cases h
  · simp only [Option.some.injEq, Prod.mk.injEq] at h; omega
theorem tok_lt {s : ByteArray} {i j k : Nat} (h : tok s i = .ok (k, j)) (hi : i < s.size) : i < j ∧ j ≤ s.size := by
  unfold tok at h
  split at h
  · rename_i hp
    have := pre_size hp
    simp at this
    cases h; omega
  · split at h
    · cases h; omega
    · split at h
      · rename_i hl
        have h1 := runN_pos (p := isName) hi (by simp [isName, hl])
        have h2 := runN_le isName s i
        cases h; omega
      · split at h
        · split at h
          · cases h
          · rename_i j' k' hn
            have h1 := num_lt hn (Nat.le_of_lt hi)
            have h2 := num_le hn (Nat.le_of_lt hi)
            cases h; omega
        · split at h
          · rename_i hp
            have := pre_size hp
            simp at this
            split at h
            · cases h
            · rename_i j' hn
              have h2 := blkE_le hn (by omega)
              cases h; omega
          · split at h
            · split at h
              · cases h
              · rename_i t j' hn
                have h2 := txt_le hn
                cases h; omega
            · cases h
theorem ign_le {s : ByteArray} {i j : Nat} (h : ign s i = .ok j) (hi : i ≤ s.size) : i ≤ j ∧ j ≤ s.size := by
  by_cases hc : i < s.size
  · cases h1 : isIgn (bt s i) with
    | true =>
      rw [ign_1 hc h1] at h
      have := ign_le h (by omega); omega
    | false =>
      cases h2 : pre s i [239, 187, 191] with
      | true =>
        have hp := pre_size h2
        simp at hp
        rw [ign_2 hc h1 h2] at h
        have := ign_le h (by omega); omega
      | false =>
        by_cases h3 : bt s i = 35
        · cases h4 : com s i with
          | error p => rw [ign_3e hc h1 h2 h3 h4] at h; cases h
          | ok q =>
            have h5 := com_lt h4 hc h3
            have h6 := com_le h4 hi
            rw [ign_3o hc h1 h2 h3 h4] at h
            have := ign_le h h6.2; omega
        · rw [ign_4 hc h1 h2 h3] at h; cases h; omega
  · rw [ign_out hc] at h; cases h; omega
termination_by s.size - i

/-- The tokens from a place on (n of them were before it), and what is wrong behind them. -/
def lx (s : ByteArray) (i n : Nat) : List (Nat × Nat × Nat) × Option (Nat × Int) :=
  match ign s i with
  | .error p => ([], some (p, 50))
  | .ok j =>
    if j < s.size then
      if n < 2048 then
        match tok s j with
        | .error e => ([], some (j, e))
        | .ok (k, q) => if i < q ∧ i < s.size then ((k, j, q) :: (lx s q (n + 1)).1, (lx s q (n + 1)).2) else ([], none)
      else ([], some (j, 53))
    else ([], none)
termination_by s.size - i
theorem lx_ign {s : ByteArray} {i n p : Nat} (h : ign s i = .error p) : lx s i n = ([], some (p, 50)) := by rw [lx, h]
theorem lx_end {s : ByteArray} {i n j : Nat} (h : ign s i = .ok j) (hj : ¬ j < s.size) : lx s i n = ([], none) := by rw [lx, h]; simp only; rw [if_neg hj]
theorem lx_many {s : ByteArray} {i n j : Nat} (h : ign s i = .ok j) (hj : j < s.size) (hn : ¬ n < 2048) : lx s i n = ([], some (j, 53)) := by rw [lx, h]; simp only; rw [if_pos hj, if_neg hn]
theorem lx_err {s : ByteArray} {i n j : Nat} {e : Int} (h : ign s i = .ok j) (hj : j < s.size) (hn : n < 2048) (ht : tok s j = .error e) : lx s i n = ([], some (j, e)) := by rw [lx, h]; simp only; rw [if_pos hj, if_pos hn, ht]
theorem lx_tok {s : ByteArray} {i n j k q : Nat} (h : ign s i = .ok j) (hi : i ≤ s.size) (hj : j < s.size) (hn : n < 2048) (ht : tok s j = .ok (k, q)) : lx s i n = ((k, j, q) :: (lx s q (n + 1)).1, (lx s q (n + 1)).2) := by
  have h1 := ign_le h hi
  have h2 := tok_lt ht hj
  rw [lx, h]; simp only; rw [if_pos hj, if_pos hn, ht]; simp only; rw [if_pos (by omega)]
end Go.Proofs.YtibgigffedejpaaGreatDoor
namespace Go.Proofs.YtibgigffedejpaaGreatDoor
set_option linter.unusedVariables false
set_option linter.unusedSimpArgs false
open Go.RowKit
set_option linter.unusedVariables false
set_option linter.unusedSimpArgs false

structure Tk where
  k : Nat
  i : Nat
  j : Nat
  t : ByteArray
def Tk.val (x : Tk) : Value := .agg #[.int .i64 x.k, .string x.t, .int .i64 x.i, .int .i64 x.j]
def Tk.key (x : Tk) : Nat × Nat × Nat := (x.k, x.i, x.j)
def Tk.ok (s : ByteArray) (x : Tk) : Prop := x.k ≠ 4 → x.t = s.extract x.i x.j

section
variable {P : Program} {ops : Array Oper} {Q : Exit → Act → World → Prop} {n : Nat}
theorem anyIn_one {fuel i : Nat} {listed : Array Bool} {a : Act} {w : World} {o : Oper} (hr : (Region.ready .any ops listed == [i]) = true) (hi : ops[i]? = some o) (hw : Region.wanted o (yielded ops a.tmps) = true)
    (h : ∀ K : Act → World → Prop, (∀ a w, wpAnyIn Fence.wide n P .any ops Q fuel (listed.setIfInBounds i true) a w → K a w) → o.uponIn Fence.wide n P a K Q ((execOp a.eval o).run P w)) :
    wpAnyIn Fence.wide n P .any ops Q (fuel + 1) listed a w := by
  have hr := beq_iff_eq.1 hr
  refine ⟨fun h0 => (by rw [hr] at h0; cases h0), fun j hj => ?_⟩
  rw [hr] at hj
  obtain rfl := List.mem_singleton.1 hj
  unfold wpOpIn
  simp only [hi, hw, if_true]
  exact ⟨fun _ _ => trivial, h _ (fun _ _ h => h)⟩
theorem anyIn_free {fuel i : Nat} {listed : Array Bool} {a : Act} {w : World} {oi : Oper} {v : Value} (hi : ops[i]? = some oi) (hs : Region.noSelect ops = true) (hQ : ∀ c a w, Q (.panic c) (Act.put a oi.dst v) w → Q (.panic c) a w)
    (hf : Region.free .any ops listed i = true) (hr : (Region.ready .any ops listed).contains i = true) (hy : YieldsFenced P ops oi v a) (h : wpAnyIn Fence.wide n P .any ops Q fuel (listed.setIfInBounds i true) (a.put oi.dst v) w) :
    wpAnyIn Fence.wide n P .any ops Q (fuel + 1) listed a w :=
  wpAnyIn_first rfl hi (Region.noSelect_spec hs) hQ fuel listed a w (Region.free_spec hi hf) (by simpa using hr) hy h
theorem anyIn_done {fuel : Nat} {listed : Array Bool} {a : Act} {w : World} (hr : (Region.ready .any ops listed == []) = true) (h : Q .normal a w) : wpAnyIn Fence.wide n P .any ops Q fuel listed a w := by
  have hr := beq_iff_eq.1 hr
  cases fuel with
  | zero => exact ⟨hr, h⟩
  | succ f => exact ⟨fun _ => h, fun i hi => by rw [hr] at hi; cases hi⟩
end

/-- What the ranging function does with each token: 'J pre' is handed on. -/
structure Rounds (l g bx : Nat) (s : ByteArray) (J : List Tk → World → Prop) : Prop where
  fr : ∀ pre W W', J pre W → Fr g W W' → J pre W'
  round : ∀ pre (x : Tk) W q f n, J pre W → pre.length < 2048 → RD W g s q f n → W.cell? ⟨bx, 0, none⟩ = some (.pointer (some ⟨g, 0, none⟩)) → Env W →
    YieldAt Fence.wide 0 Tryz.prog l #[x.val] W fun e W' => e = .returned (.bool true) ∧ J (pre ++ [x]) W' ∧ RD W' g s q f n ∧ W'.cell? ⟨bx, 0, none⟩ = some (.pointer (some ⟨g, 0, none⟩)) ∧ Env W'

def AllPost (s : ByteArray) (J : List Tk → World → Prop) (r : List (Nat × Nat × Nat) × Option (Nat × Int)) (e : Ending) (W : World) : Prop :=
  ∃ pre : List Tk, pre.map Tk.key = r.1 ∧ (∀ x ∈ pre, x.ok s) ∧ pre.length ≤ 2048 ∧ J pre W ∧
    match r.2 with
    | none => e = .returned (.tuple #[])
    | some (p, er) => e = .panicked (wrC p er)

set_option maxRecDepth 100000 in
set_option maxHeartbeats 4000000 in
theorem all1_c (w : World) (l g bx : Nat) (s : ByteArray) (f : Nat) (J : List Tk → World → Prop) (h : RD w g s 0 f 0) (hs : s.size ≤ 16384) (hg : 3 ≤ g) (hbx : bx ≠ g) (E : Env w)
    (hb : w.cell? ⟨bx, 0, none⟩ = some (.pointer (some ⟨g, 0, none⟩))) (hJ : J [] w) (hR : Rounds l g bx s J) (r : List (Nat × Nat × Nat) × Option (Nat × Int)) (hr : lx s 0 0 = r) :
    Calls Tryz.prog 66 #[.func (.yield l) #[] #[], .pointer (some ⟨bx, 0, none⟩)] w (AllPost s J r) := by
  have H0 := Sd.mk h
  have HR := Sd.mk hr
  have HJ := Sd.mk hJ
  have HRo := Sd.mk hR
  have HB := Sd.mk hb
  have HE := Sd.mk E
  clear h hr hJ hR hb E
  go_enter Tryz.func66, Tryz.ntmps66
  go_wp2
  go_loopw [] (fun wr => ∃ (q f' : Nat) (pre : List Tk), q ≤ s.size ∧ pre.length ≤ 2048 ∧ Sd (RD wr g s q f' pre.length) ∧ Sd (wr.cell? ⟨bx, 0, none⟩ = some (.pointer (some ⟨g, 0, none⟩))) ∧ Sd (Env wr) ∧ Sd (J pre wr) ∧ Sd (∀ x ∈ pre, x.ok s) ∧ Sd (r.1 = pre.map Tk.key ++ (lx s q pre.length).1 ∧ r.2 = (lx s q pre.length).2)) (fun wr => s.size - atOf g wr)
  case atStart => exact ⟨0, f, [], by omega, by simp, H0, HB, HE, HJ, ⟨by simp⟩, ⟨by rw [← HR.out]; simp⟩⟩
  case round =>
    obtain ⟨q, f', pre, hq, hpl, H1, HB1, HE1, HJ1, HO1, HL1⟩ := hrel
    clear H0 HB HE HJ HR
    have b0 := HB1.out
    have hbf : ∀ w', Fr g wr w' → w'.cell? ⟨bx, 0, none⟩ = some (.pointer (some ⟨g, 0, none⟩)) := fun w' hf => hf.cell hbx HB1.out
    have hbf := Sd.mk hbf
    cases hig : ign s q with
    | error p =>
      have HL2 := lx_ign (n := pre.length) hig
      have HIG := Sd.mk hig
      have HP : Sd (r = (pre.map Tk.key, some (p, 50))) := ⟨by have h1 := HL1.out; rw [HL2] at h1; simp at h1; exact Prod.ext h1.1 h1.2⟩
      clear hig HL2
      go_wp2_with (go_at_call 67; refine (ignored_c _ g s q f' pre.length (.error p) H1.out hq hs hg HE1.out HIG.out).mono ?_; rintro e w2 ⟨rfl, hf2⟩; have HF2 := Sd.mk hf2; clear hf2)
      refine ⟨rfl, ?_⟩
      rw [HP.out]
      exact ⟨pre, rfl, HO1.out, hpl, HRo.out.fr _ _ _ HJ1.out HF2.out, rfl⟩
    | ok j =>
      have hj := ign_le hig hq
      have HIG := Sd.mk hig
      clear hig
      go_upto_region 1 with (go_at_call 67; refine (ignored_c _ g s q f' pre.length (.ok j) H1.out hq hs hg HE1.out HIG.out).mono ?_; rintro e w2 ⟨rfl, ⟨f2, h2⟩, hf2⟩; have H2 := Sd.mk h2; have HF2 := Sd.mk hf2; have b2 := hbf.out _ hf2; have c1 := h2.c1; have c2 := h2.c2; have z2 := h2.fz 2; clear h2 hf2)
      go_region
      have H3 : Sd (RD (World.setCell w2 ⟨g, 2, none⟩ (.int .i64 j)).drew g s j j pre.length) := ⟨(H2.out.set2 j).drew⟩
      have HF3 : Sd (Fr g wr (World.setCell w2 ⟨g, 2, none⟩ (.int .i64 j)).drew) := ⟨(HF2.out.setCell (.inl rfl) _).drew⟩
      generalize (World.setCell w2 ⟨g, 2, none⟩ (.int .i64 j)).drew = w3 at H3 HF3 ⊢
      clear b0 b2 c1 c2 z2 H2 HF2
      have b3 := hbf.out _ HF3.out
      have c0 := H3.out.c0
      have c1 := H3.out.c1
      by_cases hjs : j < s.size
      · have e1 : ((j : Int) == (s.size : Int)) = false := by simp; omega
        go_wp2_with fail
        refine region_head (n := 1) 11 (by kernel_rfl) (by kernel_rfl) (by kernel_rfl) (by kernel_rfl) (by decide) (by decide) ?_
        simp only [List.take_succ_cons, List.take_zero]
        repeat (go_big_quiet_step (fail))
        refine wpQuiet_nil ?_
        intro n'
        refine anyIn_free (fuel := 5) (i := 11) (v := .func (.yield l) #[] #[]) rfl (by kernel_rfl) (fun _ _ _ h => h) (by kernel_rfl) (by kernel_rfl) ⟨.inl ⟨by rfl, fun w => rfl⟩, fun w => rfl⟩ ?_
        simp only [Act.put, List.setIfInBounds_toArray, List.set_cons_zero, List.set_cons_succ]
        refine anyIn_one (fuel := 4) (i := 12) (by kernel_rfl) rfl (by rfl) (fun K hK => ?_)
        go_simp
        refine hK _ _ ?_
        clear hK K
        by_cases hn : pre.length < 2048
        · cases htk : tok s j with
          | error er =>
            have HP : Sd (r = (pre.map Tk.key, some (j, er))) := ⟨by have h1 := HL1.out; rw [lx_err HIG.out hjs hn htk] at h1; simp at h1; exact Prod.ext h1.1 h1.2⟩
            refine anyIn_one (fuel := 3) (i := 13) (by kernel_rfl) rfl (by rfl) (fun K hK => ?_)
            go_simp
            refine callsIn_wide.2 ((token_c _ g s j pre.length (.error er) (H3.out.drewN _) hjs hs hg ((HF3.out.drewN _).env hg HE1.out) hn htk).mono ?_)
            rintro e w4 ⟨rfl, hf4⟩
            refine ⟨rfl, ?_⟩
            rw [HP.out]
            exact ⟨pre, rfl, HO1.out, hpl, HRo.out.fr _ _ _ HJ1.out ((HF3.out.drewN _).trans hf4), rfl⟩
          | ok p =>
            obtain ⟨k, m⟩ := p
            have htl := tok_lt htk hjs
            have HX := lx_tok HIG.out hq hjs hn htk
            refine anyIn_one (fuel := 3) (i := 13) (by kernel_rfl) rfl (by rfl) (fun K hK => ?_)
            go_simp
            refine callsIn_wide.2 ((token_c _ g s j pre.length (.ok (k, m)) (H3.out.drewN _) hjs hs hg ((HF3.out.drewN _).env hg HE1.out) hn htk).mono ?_)
            rintro e w4 ⟨t, rfl, ht, h4, hf4⟩
            have hF4 := (HF3.out.drewN n').trans hf4
            have hy := HRo.out.round pre ⟨k, j, m, t⟩ w4 m j (pre.length + 1) (HRo.out.fr _ _ _ HJ1.out hF4) hn h4 (hbf.out _ hF4) (hF4.env hg HE1.out)
            obtain ⟨fn, tmps, assign, body, hyeq, hro⟩ := hy
            have HT := Sd.mk ht
            dsimp only [Tk.val] at hyeq
            refine hK _ _ ?_
            clear hK K h4 hf4 ht
            refine anyIn_one (fuel := 2) (i := 14) (by kernel_rfl) rfl (by rfl) (fun K hK => ?_)
            go_simp
            refine hro.mono ?_
            rintro e w5 ⟨rfl, hj5, h5, hb5, hE5⟩
            refine hK _ _ ?_
            clear hK K
            refine anyIn_one (fuel := 1) (i := 15) (by kernel_rfl) rfl (by rfl) (fun K hK => ?_)
            go_simp
            refine hK _ _ ?_
            clear hK K
            refine anyIn_one (fuel := 0) (i := 16) (by kernel_rfl) rfl (by rfl) (fun K hK => ?_)
            go_simp
            refine hK _ _ ?_
            clear hK K
            refine anyIn_done (by kernel_rfl) ?_
            have H5 := Sd.mk h5
            have hlen : (pre ++ [(⟨k, j, m, t⟩ : Tk)]).length = pre.length + 1 := by simp
            have HJ5 := Sd.mk hj5
            have HE5 := Sd.mk hE5
            have HB5 := Sd.mk hb5
            clear h5 hj5 hE5 hb5 hyeq hro
            go_wp2
            go_roundw
            case rel =>
              refine ⟨m, j, pre ++ [(⟨k, j, m, t⟩ : Tk)], htl.2, by omega, by rw [hlen]; exact H5, HB5, HE5, HJ5, ⟨fun x hx => ?_⟩, ⟨?_⟩⟩
              · rcases List.mem_append.1 hx with hx | hx
                · exact HO1.out x hx
                · obtain rfl := List.mem_singleton.1 hx
                  exact HT.out
              · rw [hlen]
                have h1 := HL1.out
                rw [HX] at h1
                exact ⟨by rw [h1.1]; simp [Tk.key], h1.2⟩
            case measure => exact meas_lt H1.out H5.out (by omega) htl.2
        · have HP : Sd (r = (pre.map Tk.key, some (j, 53))) := ⟨by have h1 := HL1.out; rw [lx_many HIG.out hjs hn] at h1; simp at h1; exact Prod.ext h1.1 h1.2⟩
          refine anyIn_one (fuel := 3) (i := 13) (by kernel_rfl) rfl (by rfl) (fun K hK => ?_)
          go_simp
          refine callsIn_wide.2 ((token_many _ g s j pre.length (H3.out.drewN _) (by omega) (by omega)).mono ?_)
          rintro e w4 ⟨rfl, hf4⟩
          refine ⟨rfl, ?_⟩
          rw [HP.out]
          exact ⟨pre, rfl, HO1.out, hpl, HRo.out.fr _ _ _ HJ1.out ((HF3.out.drewN _).trans hf4), rfl⟩
      · have hjs : j = s.size := by omega
        have e1 : ((j : Int) == (s.size : Int)) = true := by simp [hjs]
        have HP : Sd (r = (pre.map Tk.key, none)) := ⟨by have h1 := HL1.out; rw [lx_end HIG.out (by omega)] at h1; simp at h1; exact Prod.ext h1.1 h1.2⟩
        clear hjs
        go_wp2_with fail
        go_quiet (fail)
        go_wp2
        go_end0
        rw [HP.out]
        exact ⟨pre, rfl, HO1.out, hpl, HRo.out.fr _ _ _ HJ1.out (HF3.out.drewN _), rfl⟩
end Go.Proofs.YtibgigffedejpaaGreatDoor
namespace Go.Proofs.YtibgigffedejpaaGreatDoor
set_option linter.unusedVariables false
set_option linter.unusedSimpArgs false
open Go.RowKit
set_option linter.unusedVariables false
set_option linter.unusedSimpArgs false

section
variable {P : Program} {ops : Array Oper} {a : Act} {w : World}
/-- A region's operations behind 'recover()', one by one. -/
def wpL (P : Program) (ops : Array Oper) (Q : Exit → Act → World → Prop) : List Oper → Act → World → Prop
  | [], a, w => Q .normal a w
  | o :: rest, a, w => if Region.wanted o (yielded ops a.tmps) then o.wp P a w (wpL P ops Q rest) Q else wpL P ops Q rest (a.put o.dst undef) w
theorem wpL_nil {Q : Exit → Act → World → Prop} (h : Q .normal a w) : wpL P ops Q [] a w := h
theorem wpL_step {Q : Exit → Act → World → Prop} {o : Oper} {rest : List Oper} (h : ∀ K : Act → World → Prop, (∀ a w, wpL P ops Q rest a w → K a w) → if Region.wanted o (yielded ops a.tmps) then o.wp P a w K Q else K (a.put o.dst undef) w) : wpL P ops Q (o :: rest) a w :=
  h _ (fun _ _ h => h)
theorem wpOpsS_of_wpL {Q : Exit → Act → List Frame → World → Prop} {cs : List Frame} : ∀ (l : List Oper) (k : Nat) (a : Act) (w : World), (∀ j, l[j]? = ops[k + j]?) →
    wpL P ops (fun e a w => Q e a cs w) l a w → wpOpsS P ops Q (List.range' k l.length) a cs w
  | [], k, a, w, _, h => h
  | o :: l, k, a, w, hl, h => by
    have h0 : ops[k]? = some o := by simpa using (hl 0).symm
    have ih : ∀ a w, wpL P ops (fun e a w => Q e a cs w) l a w → wpOpsS P ops Q (List.range' (k + 1) l.length) a cs w := fun a w => wpOpsS_of_wpL l (k + 1) a w (fun j => by have := hl (j + 1); simpa [Nat.add_assoc, Nat.add_comm 1 j] using this)
    rw [List.length_cons, List.range'_succ]
    simp only [wpOpsS, h0]
    unfold wpL at h
    split at h
    · rename_i hw
      rw [if_pos hw]
      have h := Oper.wp_mono ih h
      unfold Oper.wp at h
      split
      · rename_i w' hr
        rw [hr] at h
        exact h.elim
      · exact h
    · rename_i hw
      rw [if_neg hw]
      exact ih _ _ h
theorem wpS_region_recover {id : Nat} {Q : Exit → Act → List Frame → World → Prop} {cs cs' : List Frame} {o : Oper} {l : List Oper} {v : Value} (ho : ∀ ρ w, (execOp ρ o).run P w = .ok .recover w) (hg : o.guard = none)
    (hv : recoverD cs = some (v, cs')) (h : ∀ Qx : Exit → Act → World → Prop, (∀ e a w, Q e a cs' w → Qx e a w) → wpL P (o :: l).toArray Qx l (a.put o.dst v) w) : (Code.region id (o :: l).toArray false).wpS P Q a cs w := by
  refine wpS_region ?_
  have e : (List.range (o :: l).toArray.size) = 0 :: List.range' 1 l.length := by simp [List.range_eq_range', List.range'_succ]
  rw [e]
  have hw : Region.wanted o (yielded (o :: l).toArray a.tmps) = true := by simp [Region.wanted, hg]
  simp only [wpOpsS, List.getElem?_toArray, List.getElem?_cons_zero, hw, if_true, ho, hv]
  exact wpOpsS_of_wpL l 1 _ _ (fun j => by simp [Nat.add_comm 1 j]) (h _ (fun _ _ _ h => h))
theorem wpS_region_norecover {id : Nat} {Q : Exit → Act → List Frame → World → Prop} {cs : List Frame} {o : Oper} {l : List Oper} (ho : ∀ ρ w, (execOp ρ o).run P w = .ok .recover w) (hg : o.guard = none)
    (hv : recoverD cs = none) (h : ∀ Qx : Exit → Act → World → Prop, (∀ e a w, Q e a cs w → Qx e a w) → wpL P (o :: l).toArray Qx l (a.put o.dst .nilIface) w) : (Code.region id (o :: l).toArray false).wpS P Q a cs w := by
  refine wpS_region ?_
  have e : (List.range (o :: l).toArray.size) = 0 :: List.range' 1 l.length := by simp [List.range_eq_range', List.range'_succ]
  rw [e]
  have hw : Region.wanted o (yielded (o :: l).toArray a.tmps) = true := by simp [Region.wanted, hg]
  simp only [wpOpsS, List.getElem?_toArray, List.getElem?_cons_zero, hw, if_true, ho, hv]
  exact wpOpsS_of_wpL l 1 _ _ (fun j => by simp [Nat.add_comm 1 j]) (h _ (fun _ _ _ h => h))
end

theorem callsDIn_of_wpS {P : Program} {f : FuncId} {fn : Func} {c : Code} {args : Array Value} {u : FrameMode} {w : World} {n : Nat} {R : Ending → FrameMode → World → Prop}
    (hf : P.funcs[f]? = some fn) (hb : fn.body = some c)
    (h : ∀ (c₀ : Frame) (cs : List Frame), c₀.mode = u →
      c.wpS P (bodyPostS P fn c₀ cs R) { tmps := args ++ Array.replicate (fn.ntmps - args.size) undef, defers := [] } (c₀ :: cs) w) :
    CallsDIn Fence.wide n P f args u w R := by
  refine ⟨trivial, fun c₀ cs hu _ => ?_⟩
  let b : Frame := { (default : Frame) with fn := f, kind := .deferred }
  have henter : Frame.enter P f args .deferred =
      b.at { tmps := args ++ Array.replicate (fn.ntmps - args.size) undef, defers := [] } [.code c] := by
    simp [Frame.enter, Frame.at, hf, hb, b]
  obtain ⟨e, a', cs', w', hq, harr⟩ := h c₀ cs hu b [] rfl rfl
  rw [← henter] at harr
  cases e with
  | normal =>
    obtain ⟨hd, u', rfl, v, hr, hR⟩ := hq
    exact ⟨.returned v, u', w', _, hR, comesIn_wide.2 (Steps.trans harr (.one step_end)), rfl, rfl, rfl, hd, fn, hf, hr⟩
  | ret =>
    obtain ⟨hd, u', rfl, v, hr, hR⟩ := hq
    obtain ⟨todo, hs⟩ := harr
    exact ⟨.returned v, u', w', _, hR, comesIn_wide.2 hs, rfl, rfl, rfl, hd, fn, hf, hr⟩
  | panic chain =>
    obtain ⟨hd, u', rfl, hR⟩ := hq
    obtain ⟨todo, hs⟩ := harr
    exact ⟨.panicked chain, u', w', _, hR, comesIn_wide.2 hs, rfl, rfl, rfl, hd, fn, hf⟩
  | exit id => exact hq.elim
  | goto l => exact hq.elim
  | outgrown =>
    obtain ⟨u', hR⟩ := hq
    exact ⟨.outgrown, u', w', b, hR, comesIn_wide.2 (harr.resolve_left (by simp [b])), rfl, rfl, trivial⟩
theorem set_one {w : World} {b : Nat} {v : Value} {t : TypeId} (h : w.heap[b]? = some (.cells #[v] t (0, 0))) (u : Value) : (w.setCell ⟨b, 0, none⟩ u).heap[b]? = some (.cells #[u] t (0, 0)) := by
  simp [World.setCell, Array.getElem?_modify, h]
set_option maxRecDepth 100000 in
set_option maxHeartbeats 2000000 in
theorem catch_idle (n b2 b3 b4 : Nat) (w : World) :
    CallsDIn Fence.wide n Tryz.prog 45 #[.pointer (some ⟨b2, 0, none⟩), .pointer (some ⟨b3, 0, none⟩), .pointer (some ⟨b4, 0, none⟩)] .returning w fun e u' w' => e = .returned (.tuple #[]) ∧ u' = .returning ∧ Below w.heap.size w w' := by
  refine callsDIn_of_wpS Tryz.func45 rfl fun c₀ cs hu => ?_
  simp only [Tryz.ntmps45, List.size_toArray, List.length_cons, List.length_nil, Nat.reduceAdd, Nat.reduceSub, Array.replicate_succ, Array.replicate_zero, List.push_toArray, List.append_toArray, List.nil_append, List.cons_append]
  apply wpS_seq
  refine wpS_region_norecover (fun ρ w => rfl) rfl (by simp [recoverD, hu]) (fun Qx hQx => ?_)
  simp only [Act.put, List.setIfInBounds_toArray, List.set_cons_zero, List.set_cons_succ]
  have HU := Sd.mk hu
  have HQ := Sd.mk hQx
  clear hu hQx
  repeat (refine wpL_step (fun K hK => ?_); have HK := Sd.mk hK; clear hK; go_simp; refine HK.out _ _ ?_; clear HK K)
  refine wpL_nil ?_
  refine HQ.out _ _ _ ?_
  clear HQ Qx
  refine wpS_of_wp ?_
  go_wp2
  exact ⟨rfl, .returning, by rw [← HU.out], _, results_none rfl _ _ _, rfl, rfl, (Below.refl _ w).alloc (Nat.le_refl _) _⟩

set_option maxRecDepth 100000 in
set_option maxHeartbeats 2000000 in
theorem catch_wrong (n B b2 b3 b4 f n2 k2 : Nat) (a2 : Option Addr) (v3 v4 er : Int) (w : World) (hB : B ≤ w.heap.size) (h2B : B ≤ b2) (h3B : B ≤ b3) (h4B : B ≤ b4) (h23 : b2 ≠ b3) (h24 : b2 ≠ b4) (h34 : b3 ≠ b4)
    (h2 : w.heap[b2]? = some (.cells #[.slice a2 n2 k2] 37 (0, 0))) (h3 : w.heap[b3]? = some (.cells #[.int .i64 v3] 3 (0, 0))) (h4 : w.heap[b4]? = some (.cells #[.int .i64 v4] 26 (0, 0))) :
    CallsDIn Fence.wide n Tryz.prog 45 #[.pointer (some ⟨b2, 0, none⟩), .pointer (some ⟨b3, 0, none⟩), .pointer (some ⟨b4, 0, none⟩)] (.panicking (wrC f er)) w fun e u' w' => e = .returned (.tuple #[]) ∧ (∃ v, u' = .panicking [{ v := v, recovered := true }]) ∧ Below B w w' ∧
      w'.heap[b2]? = some (.cells #[.slice none 0 0] 37 (0, 0)) ∧ w'.heap[b3]? = some (.cells #[.int .i64 f] 3 (0, 0)) ∧ w'.heap[b4]? = some (.cells #[.int .i64 er] 26 (0, 0)) := by
  have l2 := (Array.getElem?_eq_some_iff.1 h2).1
  have l3 := (Array.getElem?_eq_some_iff.1 h3).1
  have l4 := (Array.getElem?_eq_some_iff.1 h4).1
  refine callsDIn_of_wpS Tryz.func45 rfl fun c₀ cs hu => ?_
  simp only [Tryz.ntmps45, List.size_toArray, List.length_cons, List.length_nil, Nat.reduceAdd, Nat.reduceSub, Array.replicate_succ, Array.replicate_zero, List.push_toArray, List.append_toArray, List.nil_append, List.cons_append]
  apply wpS_seq
  refine wpS_region_recover (v := .iface 84 (.agg #[.int .i64 f, .int .i64 er])) (cs' := { c₀ with mode := .panicking [{ v := .iface 84 (.agg #[.int .i64 f, .int .i64 er]), recovered := true }] } :: cs) (fun ρ w => rfl) rfl (by simp [recoverD, hu, wrC]) (fun Qx hQx => ?_)
  simp only [Act.put, List.setIfInBounds_toArray, List.set_cons_zero, List.set_cons_succ]
  have HQ := Sd.mk hQx
  clear hu hQx
  have H2 := Sd.mk h2
  have H3 := Sd.mk h3
  have H4 := Sd.mk h4
  clear h2 h3 h4
  repeat (refine wpL_step (fun K hK => ?_); have HK := Sd.mk hK; clear hK; go_simp; refine HK.out _ _ ?_; clear HK K)
  refine wpL_nil ?_
  refine HQ.out _ _ _ ?_
  clear HQ Qx
  refine wpS_of_wp ?_
  obtain ⟨N, hN⟩ : ∃ N, w.heap.size = N := ⟨_, rfl⟩
  have HN : Sd ((w.alloc (.cells #[.int .i64 f, .int .i64 er] 84)).heap[N]? = some (.cells #[.int .i64 f, .int .i64 er] 84 (0, 0))) := ⟨by rw [← hN]; exact heap_alloc_new w _⟩
  have K2 : Sd ((w.alloc (.cells #[.int .i64 f, .int .i64 er] 84)).heap[b2]? = some (.cells #[.slice a2 n2 k2] 37 (0, 0))) := ⟨(Below.heap_alloc w _ b2 l2).trans H2.out⟩
  have K3 : Sd ((w.alloc (.cells #[.int .i64 f, .int .i64 er] 84)).heap[b3]? = some (.cells #[.int .i64 v3] 3 (0, 0))) := ⟨(Below.heap_alloc w _ b3 l3).trans H3.out⟩
  have K4 : Sd ((w.alloc (.cells #[.int .i64 f, .int .i64 er] 84)).heap[b4]? = some (.cells #[.int .i64 v4] 26 (0, 0))) := ⟨(Below.heap_alloc w _ b4 l4).trans H4.out⟩
  have HBl : Sd (Below B w (w.alloc (.cells #[.int .i64 f, .int .i64 er] 84))) := ⟨(Below.refl _ w).alloc hB _⟩
  rw [hN]
  rw [hN] at l2 l3 l4 hB
  generalize w.alloc (.cells #[.int .i64 f, .int .i64 er] 84) = w1 at HN K2 K3 K4 HBl ⊢
  clear H2 H3 H4
  have c0 : w1.cell? ⟨N, 0, none⟩ = some (.int .i64 f) := by rw [Lib.cell_of_heap HN.out]; rfl
  have c1 : w1.cell? ⟨N, 1, none⟩ = some (.int .i64 er) := by rw [Lib.cell_of_heap HN.out]; rfl
  have d2 : w1.cell? ⟨b2, 0, none⟩ = some (.slice a2 n2 k2) := by rw [Lib.cell_of_heap K2.out]; rfl
  have d3 : w1.cell? ⟨b3, 0, none⟩ = some (.int .i64 v3) := by rw [Lib.cell_of_heap K3.out]; rfl
  have d4 : w1.cell? ⟨b4, 0, none⟩ = some (.int .i64 v4) := by rw [Lib.cell_of_heap K4.out]; rfl
  have z2 := Lib.frozen_of_heap K2.out 0
  have z3 := Lib.frozen_of_heap K3.out 0
  have z4 := Lib.frozen_of_heap K4.out 0
  have i1 : (b2 = b3) = False := eq_false h23
  have i2 : (b2 = b4) = False := eq_false h24
  have i3 : (b3 = b4) = False := eq_false h34
  have i4 : (N = b2) = False := eq_false (by omega)
  have i5 : (N = b3) = False := eq_false (by omega)
  have i6 : (N = b4) = False := eq_false (by omega)
  have i7 : (b3 = b2) = False := eq_false (by omega)
  have i8 : (b4 = b2) = False := eq_false (by omega)
  have i9 : (b4 = b3) = False := eq_false (by omega)
  generalize hpost : (fun (e : Exit) (a' : Act) (w' : World) => bodyPostS Tryz.prog Tryz.f45 c₀ cs _ e a' _ w') = QQ
  have HQQ := Sd.mk hpost
  clear hpost
  go_wp2
  go_region
  rw [← HQQ.out]
  refine ⟨rfl, _, rfl, _, results_none rfl _ _ _, rfl, ⟨_, rfl⟩, ?_, ?_, ?_, ?_⟩
  · exact (((HBl.out.setCell (p := ⟨b2, 0, none⟩) h2B _).setCell (p := ⟨b3, 0, none⟩) h3B _).setCell (p := ⟨b4, 0, none⟩) h4B _).drew
  · exact ((Below.heap_setCell _ ⟨b4, 0, none⟩ _ b2 h24).trans (Below.heap_setCell _ ⟨b3, 0, none⟩ _ b2 h23)).trans (set_one K2.out _)
  · exact (Below.heap_setCell _ ⟨b4, 0, none⟩ _ b3 h34).trans (set_one ((Below.heap_setCell _ ⟨b2, 0, none⟩ _ b3 (Ne.symm h23)).trans K3.out) _)
  · exact set_one (((Below.heap_setCell _ ⟨b3, 0, none⟩ _ b4 (Ne.symm h34)).trans (Below.heap_setCell _ ⟨b2, 0, none⟩ _ b4 (Ne.symm h24))).trans K4.out) _
end Go.Proofs.YtibgigffedejpaaGreatDoor
