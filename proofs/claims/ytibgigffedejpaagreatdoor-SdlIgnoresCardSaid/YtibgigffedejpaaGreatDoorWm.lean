import Derived.Test.YtibgigffedejpaaGreatDoorWf
import Derived.Test.YtibgigffedejpaaGreatDoorWc
namespace Go.Proofs.YtibgigffedejpaaGreatDoor
set_option linter.unusedVariables false
set_option linter.unusedSimpArgs false
open Go.RowKit
set_option linter.unusedVariables false
set_option linter.unusedSimpArgs false

section
variable {w : World} {C t : Nat} {a b c d e : Value}
theorem At.q0 (h : At w C t #[a, b, c, d, e]) (v : Value) : At (w.setCell ⟨C, 0, none⟩ v) C t #[v, b, c, d, e] := h.set 0 v
theorem At.q1 (h : At w C t #[a, b, c, d, e]) (v : Value) : At (w.setCell ⟨C, 1, none⟩ v) C t #[a, v, c, d, e] := h.set 1 v
theorem At.q2 (h : At w C t #[a, b, c, d, e]) (v : Value) : At (w.setCell ⟨C, 2, none⟩ v) C t #[a, b, v, d, e] := h.set 2 v
theorem At.q3 (h : At w C t #[a, b, c, d, e]) (v : Value) : At (w.setCell ⟨C, 3, none⟩ v) C t #[a, b, c, v, e] := h.set 3 v
theorem At.q4 (h : At w C t #[a, b, c, d, e]) (v : Value) : At (w.setCell ⟨C, 4, none⟩ v) C t #[a, b, c, d, v] := h.set 4 v
end
theorem Pa.atOf {w : World} {g b n c i : Nat} {ts : List Tk} (h : Pa w g b n c ts i) : atOf g w = i := by
  unfold YtibgigffedejpaaGreatDoor.atOf; rw [h.pr.c1]; simp
theorem meas_Pa {w w' : World} {g b n c i j : Nat} {ts : List Tk} (h : Pa w g b n c ts i) (h' : Pa w' g b n c ts j) (hl : i < j) : ts.length - YtibgigffedejpaaGreatDoor.atOf g w' < ts.length - YtibgigffedejpaaGreatDoor.atOf g w := by
  have := h'.lt
  rw [h.atOf, h'.atOf]; omega
def Fd.cells (f : Fd) : List Value := [.string f.name, .string f.ref.name, .string f.ref.wraps, .bool f.search, .string f.inv]
def Fd.val (f : Fd) : Value := .agg #[.string f.name, .string f.ref.name, .string f.ref.wraps, .bool f.search, .string f.inv]
theorem field_res {w : World} {C : Nat} {a b c d e : Value} (h : At w C 58 #[a, b, c, d, e]) (tmps : Array Value) (hp : tmps.getD 2 undef = .pointer (some ⟨C, 0, none⟩)) :
    (results Tryz.f31 tmps).run Tryz.prog w = .ok (.agg #[a, b, c, d, e]) w :=
  results_cell_row rfl tmps w C 58 _ _ _ hp h Tryz.underlying58 rfl (by kernel_rfl)

section
variable {ts : List Tk} {m i : Nat} {nm iv : ByteArray} {rf : Rf} {se : Bool}
theorem marks_end (h : ¬ ((se = false ∨ iv = ⟨#[]⟩) ∧ skipT ts 0 ⟨#[64]⟩ i = true)) : marksT ts (m + 1) ⟨nm, rf, se, iv⟩ i = .ok (⟨nm, rf, se, iv⟩, i) := by
  rw [marksT, if_neg h]
theorem marks_search (h : skipT ts 0 ⟨#[64]⟩ i = true) (h2 : skipT ts 1 tSearch (i + 1) = true) : marksT ts (m + 1) ⟨nm, rf, false, iv⟩ i = marksT ts m ⟨nm, rf, true, iv⟩ (i + 2) := by
  rw [marksT, if_pos ⟨.inl rfl, h⟩, if_pos ⟨rfl, h2⟩]
theorem marks_no (h : skipT ts 0 ⟨#[64]⟩ i = true) (h2 : skipT ts 1 tSearch (i + 1) = false) (h3 : ¬ iv = ⟨#[]⟩) : marksT ts (m + 1) ⟨nm, rf, false, iv⟩ i = .error (atT ts (i + 1)) := by
  rw [marksT, if_pos ⟨.inl rfl, h⟩, if_neg (by rw [h2]; simp), if_neg h3]
def invA (ts : List Tk) (m : Nat) (nm : ByteArray) (rf : Rf) (se : Bool) (i : Nat) : Except Nat (Fd × Nat) :=
  match takeT ts tInv i with
  | .error a => .error a
  | .ok (_, j) =>
    match nmT ts [] j with
    | .error a => .error a
    | .ok (x, q) =>
      match takeT ts [⟨#[41]⟩] q with
      | .error a => .error a
      | .ok (_, z) => marksT ts m ⟨nm, rf, se, x⟩ z
theorem marks_inv (h : skipT ts 0 ⟨#[64]⟩ i = true) (h2 : se = true ∨ skipT ts 1 tSearch (i + 1) = false) : marksT ts (m + 1) ⟨nm, rf, se, ⟨#[]⟩⟩ i = invA ts m nm rf se (i + 1) := by
  rw [marksT, if_pos ⟨.inr rfl, h⟩, if_neg (by rcases h2 with h2 | h2 <;> rw [h2] <;> simp), if_pos rfl]
  unfold invA
  cases takeT ts tInv (i + 1) with
  | error a => rfl
  | ok p =>
    obtain ⟨u, j⟩ := p
    simp only
    cases nmT ts [] j with
    | error a => rfl
    | ok p =>
      obtain ⟨x, q⟩ := p
      simp only
      cases takeT ts [⟨#[41]⟩] q with
      | error a => rfl
      | ok p => rfl
end

set_option maxRecDepth 100000 in
set_option maxHeartbeats 8000000 in
theorem field_c (w : World) (g b n c i : Nat) (ts : List Tk) (h : Pa w g b n c ts i) (r : Except Nat (Fd × Nat)) (hr : fieldT ts i = r) :
    Calls Tryz.prog 31 #[.pointer (some ⟨g, 0, none⟩)] w (PPost g b n c ts w Fd.val r) := by
  have HR := Sd.mk hr
  have hgl := h.glt
  have hbl := h.blt
  have hg3 := h.glob
  have HT0 := Sd.mk (At.fresh w 58 #[.string ⟨#[]⟩, .string ⟨#[]⟩, .string ⟨#[]⟩, .bool false, .string ⟨#[]⟩])
  have HF0 := Sd.mk ((Fr.refl g w).alloc (.cells #[.string ⟨#[]⟩, .string ⟨#[]⟩, .string ⟨#[]⟩, .bool false, .string ⟨#[]⟩] 58))
  have H0 := Sd.mk (h.alloc (.cells #[.string ⟨#[]⟩, .string ⟨#[]⟩, .string ⟨#[]⟩, .bool false, .string ⟨#[]⟩] 58))
  obtain ⟨C, hC⟩ : ∃ C, w.heap.size = C := ⟨_, rfl⟩
  rw [hC] at HT0
  have hne : C ≠ g ∧ C ≠ b ∧ 3 ≤ C := ⟨by omega, by omega, by omega⟩
  clear h hr
  go_enter Tryz.func31, Tryz.ntmps31
  go_upto_region 1 with (fail)
  generalize w.alloc (.cells #[.string ⟨#[]⟩, .string ⟨#[]⟩, .string ⟨#[]⟩, .bool false, .string ⟨#[]⟩] 58) = w1 at H0 HT0 HF0 ⊢
  have t0 := HT0.out.cell 0 rfl
  have f0 := HT0.out.fz 0
  cases hn : nmT ts [] i with
  | error a =>
    have HE : Sd (r = .error a) := ⟨by rw [← HR.out]; unfold fieldT; rw [hn]⟩
    have cN := fun W h => name0_c W g b n c i ts h _ hn
    unfold PPost at cN
    simp only at cN
    clear HR hn
    go_wp2_with (go_at_call 28; refine (cN _ H0.out).mono ?_; rintro e w2 ⟨rfl, h2⟩; have HF2 := Sd.mk (HF0.out.trans h2); clear h2)
    refine ⟨rfl, ?_⟩
    unfold PPost
    rw [HE.out]
    exact ⟨rfl, HF2.out⟩
  | ok p =>
    obtain ⟨nm, j1⟩ := p
    have cN := fun W h => name0_c W g b n c i ts h _ hn
    unfold PPost at cN
    simp only at cN
    have HR2 : Sd (r = match takeT ts [⟨#[58]⟩] j1 with
      | .error a => .error a
      | .ok (_, q) =>
        match kindT ts q with
        | .error a => .error a
        | .ok (rf, z) => marksT ts ts.length ⟨nm, rf, false, ⟨#[]⟩⟩ z) := ⟨by rw [← HR.out]; unfold fieldT; rw [hn]; rfl⟩
    clear HR hn
    go_upto_region 2 with (go_at_call 28; refine (cN _ H0.out).mono ?_; rintro e w2 ⟨rfl, h1, h2⟩; clear t0 f0; have HT2' := Sd.mk (HT0.out.fr h2 hne.1); have t0 := HT2'.out.cell 0 rfl; have f0 := HT2'.out.fz 0; have HT2 := Sd.mk (HT2'.out.q0 (.string nm)); have H2 := Sd.mk (h1.setC hne 0 (.string nm)); have HF2 := Sd.mk ((HF0.out.trans h2).setC (C := C) (by omega) 0 (.string nm)); clear h1 h2)
    generalize w2.setCell ⟨C, 0, none⟩ (.string nm) = w3 at HT2 H2 HF2 ⊢
    clear t0 f0 HT2' cN
    have hg3' := H2.out.glt
    cases hT : takeT ts [⟨#[58]⟩] j1 with
    | error a =>
      have HE : Sd (r = .error a) := ⟨by rw [HR2.out, hT]⟩
      have cT := fun W q cc (h : Pa W g b n c ts j1) hq hqg => take_c W g b n c j1 ts [⟨#[58]⟩] q 1 cc h hq hqg rfl (by decide) (by simp; decide) _ hT
      unfold PPost at cT
      simp only at cT
      clear HR2 hT
      go_wp2_with (go_at_call 32; refine (cT _ _ _ (H2.out.alloc _) (lit_cells w3 9 _ _ rfl) (by omega)).mono ?_; rintro e w4 ⟨rfl, h2⟩; have HF4 := Sd.mk ((HF2.out.alloc _).trans h2); clear h2)
      refine ⟨rfl, ?_⟩
      unfold PPost
      rw [HE.out]
      exact ⟨rfl, HF4.out⟩
    | ok p =>
      obtain ⟨u, j2⟩ := p
      have cT := fun W q cc (h : Pa W g b n c ts j1) hq hqg => take_c W g b n c j1 ts [⟨#[58]⟩] q 1 cc h hq hqg rfl (by decide) (by simp; decide) _ hT
      unfold PPost at cT
      simp only at cT
      have HR3 : Sd (r = match kindT ts j2 with
        | .error a => .error a
        | .ok (rf, z) => marksT ts ts.length ⟨nm, rf, false, ⟨#[]⟩⟩ z) := ⟨by rw [HR2.out, hT]⟩
      clear HR2 hT
      go_upto_region 3 with (go_at_call 32; refine (cT _ _ _ (H2.out.alloc _) (lit_cells w3 9 _ _ rfl) (by omega)).mono ?_; rintro e w4 ⟨rfl, h1, h2⟩; have HT4 := Sd.mk ((HT2.out.alloc _).fr h2 hne.1); have H4 := Sd.mk h1; have HF4 := Sd.mk ((HF2.out.alloc _).trans h2); clear h1 h2)
      clear cT
      cases hK : kindT ts j2 with
      | error a =>
        have HE : Sd (r = .error a) := ⟨by rw [HR3.out, hK]⟩
        have cK := fun W h => kind_c W g b n c j2 ts h _ hK
        unfold PPost at cK
        simp only at cK
        clear HR3 hK
        go_wp2_with (go_at_call 49; refine (cK _ H4.out).mono ?_; rintro e w5 ⟨rfl, h2⟩; have HF5 := Sd.mk (HF4.out.trans h2); clear h2)
        refine ⟨rfl, ?_⟩
        unfold PPost
        rw [HE.out]
        exact ⟨rfl, HF5.out⟩
      | ok p =>
        obtain ⟨rf, j3⟩ := p
        have cK := fun W h => kind_c W g b n c j2 ts h _ hK
        unfold PPost Rf.val at cK
        simp only at cK
        have HR4 : Sd (marksT ts ts.length ⟨nm, rf, false, ⟨#[]⟩⟩ j3 = r) := ⟨by rw [HR3.out, hK]⟩
        clear HR3 hK
        go_wp2_with (go_at_call 49; refine (cK _ H4.out).mono ?_; rintro e w5 ⟨rfl, h1, h2⟩; have HT5' := Sd.mk (HT4.out.fr h2 hne.1); have t1 := HT5'.out.cell 1 rfl; have t2 := HT5'.out.cell 2 rfl; have f1 := HT5'.out.fz 1; have f2 := HT5'.out.fz 2; have HT5 := Sd.mk ((HT5'.out.q1 (.string rf.name)).q2 (.string rf.wraps)); have H5 := Sd.mk ((h1.setC hne 1 (.string rf.name)).setC hne 2 (.string rf.wraps)); have HF5 := Sd.mk (((HF4.out.trans h2).setC (C := C) (by omega) 1 (.string rf.name)).setC (C := C) (by omega) 2 (.string rf.wraps)); clear h1 h2)
        clear t1 t2 f1 f2 HT5' HT4 HT2 HT0 H0 H2 H4
        go_loopw [] (fun wr => ∃ (m i' : Nat) (se : Bool) (iv : ByteArray), Sd (At wr C 58 #[.string nm, .string rf.name, .string rf.wraps, .bool se, .string iv]) ∧ Sd (Pa wr g b n c ts i') ∧ Sd (Fr g w wr) ∧ ts.length ≤ m + i' ∧ Sd (marksT ts m ⟨nm, rf, se, iv⟩ i' = r)) (fun wr => ts.length - atOf g wr)
        case atStart => exact ⟨ts.length, j3, false, ⟨#[]⟩, HT5, H5, HF5, by omega, HR4⟩
        case round =>
          obtain ⟨m, i', se, iv, HT6, H6, HF6, hm, HM⟩ := hrel
          have u3 := HT6.out.cell 3 rfl
          have u4 := HT6.out.cell 4 rfl
          have hi6 := H6.out.lt
          obtain ⟨m, rfl⟩ : ∃ m', m = m' + 1 := ⟨m - 1, by omega⟩
          by_cases hv : iv = ⟨#[]⟩
          · subst hv
            cases hs : skipT ts 0 ⟨#[64]⟩ i' with
            | false =>
              cases se with
              | false =>
                have cS := fun W h => skS_f W g b n c i' ts 0 ⟨#[64]⟩ h hs
                have HE : Sd (r = .ok (⟨nm, rf, false, ⟨#[]⟩⟩, i')) := ⟨by rw [← HM.out, marks_end (by rw [hs]; simp)]⟩
                clear hs HM
                go_wp2_with (go_at_call 27; refine (cS _ H6.out).mono ?_; rintro e w7 ⟨rfl, h1, h2⟩; have HT7 := Sd.mk (HT6.out.fr h2 hne.1); have H7 := Sd.mk h1; have HF7 := Sd.mk (HF6.out.trans h2); clear h1 h2; have k0 := HT7.out.cell 0 rfl; have k1 := HT7.out.cell 1 rfl; have k2 := HT7.out.cell 2 rfl; have k3 := HT7.out.cell 3 rfl; have k4 := HT7.out.cell 4 rfl; have z0 := HT7.out.fz 0; have z1 := HT7.out.fz 1; have z2 := HT7.out.fz 2; have z3 := HT7.out.fz 3; have z4 := HT7.out.fz 4)
                have HT9 := Sd.mk (((((HT7.out.q0 (.string nm)).q1 (.string rf.name)).q2 (.string rf.wraps)).q3 (.bool false)).q4 (.string ⟨#[]⟩))
                have H9 := Sd.mk ((((H7.out.setC hne 0 (.string nm)).setC hne 1 (.string rf.name)).setC hne 2 (.string rf.wraps)).setC hne 3 (.bool false) |>.setC hne 4 (.string ⟨#[]⟩))
                have HF9 := Sd.mk (((((HF7.out.setC (C := C) (by omega) 0 (.string nm)).setC (C := C) (by omega) 1 (.string rf.name)).setC (C := C) (by omega) 2 (.string rf.wraps)).setC (C := C) (by omega) 3 (.bool false)).setC (C := C) (by omega) 4 (.string ⟨#[]⟩))
                refine bodyPost_ret (field_res HT9.out _ rfl) rfl ?_
                unfold PPost
                rw [HE.out]
                exact ⟨rfl, H9.out, HF9.out⟩
              | true =>
                have cS := fun W h => skS_f W g b n c i' ts 0 ⟨#[64]⟩ h hs
                have HE : Sd (r = .ok (⟨nm, rf, true, ⟨#[]⟩⟩, i')) := ⟨by rw [← HM.out, marks_end (by rw [hs]; simp)]⟩
                clear hs HM
                go_wp2_with (go_at_call 27; refine (cS _ H6.out).mono ?_; rintro e w7 ⟨rfl, h1, h2⟩; have HT7 := Sd.mk (HT6.out.fr h2 hne.1); have H7 := Sd.mk h1; have HF7 := Sd.mk (HF6.out.trans h2); clear h1 h2; have k0 := HT7.out.cell 0 rfl; have k1 := HT7.out.cell 1 rfl; have k2 := HT7.out.cell 2 rfl; have k3 := HT7.out.cell 3 rfl; have k4 := HT7.out.cell 4 rfl; have z0 := HT7.out.fz 0; have z1 := HT7.out.fz 1; have z2 := HT7.out.fz 2; have z3 := HT7.out.fz 3; have z4 := HT7.out.fz 4)
                have HT9 := Sd.mk (((((HT7.out.q0 (.string nm)).q1 (.string rf.name)).q2 (.string rf.wraps)).q3 (.bool true)).q4 (.string ⟨#[]⟩))
                have H9 := Sd.mk ((((H7.out.setC hne 0 (.string nm)).setC hne 1 (.string rf.name)).setC hne 2 (.string rf.wraps)).setC hne 3 (.bool true) |>.setC hne 4 (.string ⟨#[]⟩))
                have HF9 := Sd.mk (((((HF7.out.setC (C := C) (by omega) 0 (.string nm)).setC (C := C) (by omega) 1 (.string rf.name)).setC (C := C) (by omega) 2 (.string rf.wraps)).setC (C := C) (by omega) 3 (.bool true)).setC (C := C) (by omega) 4 (.string ⟨#[]⟩))
                refine bodyPost_ret (field_res HT9.out _ rfl) rfl ?_
                unfold PPost
                rw [HE.out]
                exact ⟨rfl, H9.out, HF9.out⟩
            | true =>
              have cS := fun W h => skS_t W g b n c i' ts 0 ⟨#[64]⟩ h (by decide) hs
              cases se with
              | false =>
                cases hs2 : skipT ts 1 tSearch (i' + 1) with
                | true =>
                  have cS2 := fun W h => skS_t W g b n c (i' + 1) ts 1 tSearch h (by decide) hs2
                  have HE : Sd (marksT ts m ⟨nm, rf, true, ⟨#[]⟩⟩ (i' + 2) = r) := ⟨by rw [← HM.out, marks_search hs hs2]⟩
                  unfold tSearch at cS2
                  clear hs hs2 HM
                  go_upto_region 9 with (go_at_call 27; refine (cS _ H6.out).mono ?_; rintro e w7 ⟨rfl, h1, h2⟩; have HT7 := Sd.mk (HT6.out.fr h2 hne.1); have H7 := Sd.mk h1; have HF7 := Sd.mk (HF6.out.trans h2); clear h1 h2; have v3 := HT7.out.cell 3 rfl; have v4 := HT7.out.cell 4 rfl)
                  go_wp2_with (go_at_call 27; refine (cS2 _ H7.out).mono ?_; rintro e w8 ⟨rfl, h1, h2⟩; have HT8 := Sd.mk (HT7.out.fr h2 hne.1); have H8 := Sd.mk h1; have HF8 := Sd.mk (HF7.out.trans h2); clear h1 h2; have y3 := HT8.out.cell 3 rfl; have s3 := HT8.out.fz 3)
                  have HT9 := Sd.mk (HT8.out.q3 (.bool true))
                  have H9 := Sd.mk (H8.out.setC hne 3 (.bool true))
                  have HF9 := Sd.mk (HF8.out.setC (C := C) (by omega) 3 (.bool true))
                  go_roundw
                  case rel => exact ⟨m, i' + 2, true, ⟨#[]⟩, HT9, H9, HF9, by omega, HE⟩
                  case measure => exact meas_Pa H6.out H9.out (by omega)
                | false =>
                  have cS2 := fun W h => skS_f W g b n c (i' + 1) ts 1 tSearch h hs2
                  have HI : Sd (invA ts m nm rf false (i' + 1) = r) := ⟨by rw [← HM.out, marks_inv hs (.inr hs2)]⟩
                  unfold tSearch at cS2
                  clear hs hs2 HM
                  go_upto_region 9 with (go_at_call 27; refine (cS _ H6.out).mono ?_; rintro e w7 ⟨rfl, h1, h2⟩; have HT7 := Sd.mk (HT6.out.fr h2 hne.1); have H7 := Sd.mk h1; have HF7 := Sd.mk (HF6.out.trans h2); clear h1 h2; have v3 := HT7.out.cell 3 rfl; have v4 := HT7.out.cell 4 rfl)
                  go_upto_region 6 with (first | (go_at_call 27; refine (cS2 _ H7.out).mono ?_; rintro e w8 ⟨rfl, h1, h2⟩; have HT8 := Sd.mk (HT7.out.fr h2 hne.1); have H8 := Sd.mk h1; have HF8 := Sd.mk (HF7.out.trans h2); clear h1 h2; have y3 := HT8.out.cell 3 rfl; have y4 := HT8.out.cell 4 rfl) | (go_at_call 47; refine (must_ok _ g).mono ?_; rintro e w8' ⟨rfl, rfl⟩))
                  clear cS
                  have hg8 := H8.out.glt
                  have hi8 := H8.out.lt
                  cases hT : takeT ts tInv (i' + 1) with
                  | error a =>
                    have HE : Sd (r = .error a) := ⟨by rw [← HI.out]; unfold invA; rw [hT]⟩
                    have cT := fun W q cc (h : Pa W g b n c ts (i' + 1)) hq hqg => take_c W g b n c (i' + 1) ts tInv q 4 cc h hq hqg rfl (by decide) (by decide) _ hT
                    unfold PPost at cT
                    simp only at cT
                    clear HI hT
                    go_wp2_with (go_at_call 32; refine (cT _ _ _ (H8.out.alloc _) (lit_cells w8 9 tInv _ rfl) (by omega)).mono ?_; rintro e w9 ⟨rfl, h2⟩; have HF9 := Sd.mk ((HF8.out.alloc _).trans h2); clear h2)
                    refine ⟨rfl, ?_⟩
                    unfold PPost
                    rw [HE.out]
                    exact ⟨rfl, HF9.out⟩
                  | ok p =>
                    obtain ⟨u, y1⟩ := p
                    have hy1 := takeT_ok H8.out.fin (by decide) hi8 hT
                    have cT := fun W q cc (h : Pa W g b n c ts (i' + 1)) hq hqg => take_c W g b n c (i' + 1) ts tInv q 4 cc h hq hqg rfl (by decide) (by decide) _ hT
                    unfold PPost at cT
                    simp only at cT
                    cases hN : nmT ts [] y1 with
                    | error a =>
                      have HE : Sd (r = .error a) := ⟨by rw [← HI.out]; unfold invA; rw [hT]; simp only; rw [hN]⟩
                      have cN := fun W h => name0_c W g b n c y1 ts h _ hN
                      unfold PPost at cN
                      simp only at cN
                      clear HI hT hN
                      go_wp2_with (first
                        | (go_at_call 32; refine (cT _ _ _ (H8.out.alloc _) (lit_cells w8 9 tInv _ rfl) (by omega)).mono ?_; rintro e w9 ⟨rfl, h1, h2⟩; have HT9 := Sd.mk ((HT8.out.alloc _).fr h2 hne.1); have H9 := Sd.mk h1; have HF9 := Sd.mk ((HF8.out.alloc _).trans h2); clear h1 h2)
                        | (go_at_call 28; refine (cN _ H9.out).mono ?_; rintro e w10 ⟨rfl, h2⟩; have HF10 := Sd.mk (HF9.out.trans h2); clear h2))
                      refine ⟨rfl, ?_⟩
                      unfold PPost
                      rw [HE.out]
                      exact ⟨rfl, HF10.out⟩
                    | ok p =>
                      obtain ⟨x, y2⟩ := p
                      have hy2 := nmT_ok H8.out.fin hN
                      have cN := fun W h => name0_c W g b n c y1 ts h _ hN
                      unfold PPost at cN
                      simp only at cN
                      go_upto_region 8 with (first
                        | (go_at_call 32; refine (cT _ _ _ (H8.out.alloc _) (lit_cells w8 9 tInv _ rfl) (by omega)).mono ?_; rintro e w9 ⟨rfl, h1, h2⟩; have HT9 := Sd.mk ((HT8.out.alloc _).fr h2 hne.1); have H9 := Sd.mk h1; have HF9 := Sd.mk ((HF8.out.alloc _).trans h2); clear h1 h2)
                        | (go_at_call 28; refine (cN _ H9.out).mono ?_; rintro e w10 ⟨rfl, h1, h2⟩; have HT10' := Sd.mk (HT9.out.fr h2 hne.1); have t4 := HT10'.out.cell 4 rfl; have s4 := HT10'.out.fz 4; have HT10 := Sd.mk (HT10'.out.q4 (.string x)); have H10 := Sd.mk (h1.setC hne 4 (.string x)); have HF10 := Sd.mk ((HF9.out.trans h2).setC (C := C) (by omega) 4 (.string x)); clear h1 h2))
                      generalize w10.setCell ⟨C, 4, none⟩ (.string x) = w11 at HT10 H10 HF10 ⊢
                      clear t4 s4 HT10' cT cN
                      have hg11 := H10.out.glt
                      cases hZ : takeT ts [⟨#[41]⟩] y2 with
                      | error a =>
                        have HE : Sd (r = .error a) := ⟨by rw [← HI.out]; unfold invA; rw [hT]; simp only; rw [hN]; simp only; rw [hZ]⟩
                        have cT := fun W q cc (h : Pa W g b n c ts y2) hq hqg => take_c W g b n c y2 ts [⟨#[41]⟩] q 1 cc h hq hqg rfl (by decide) (by simp; decide) _ hZ
                        unfold PPost at cT
                        simp only at cT
                        clear HI hT hN hZ
                        go_wp2_with (go_at_call 32; refine (cT _ _ _ (H10.out.alloc _) (lit_cells w11 9 _ _ rfl) (by omega)).mono ?_; rintro e w12 ⟨rfl, h2⟩; have HF12 := Sd.mk ((HF10.out.alloc _).trans h2); clear h2)
                        refine ⟨rfl, ?_⟩
                        unfold PPost
                        rw [HE.out]
                        exact ⟨rfl, HF12.out⟩
                      | ok p =>
                        obtain ⟨u2, y3⟩ := p
                        have hy3 := takeT_ok H8.out.fin (by decide) hy2.2 hZ
                        have HE : Sd (marksT ts m ⟨nm, rf, false, x⟩ y3 = r) := ⟨by rw [← HI.out]; unfold invA; rw [hT]; simp only; rw [hN]; simp only; rw [hZ]⟩
                        have cT := fun W q cc (h : Pa W g b n c ts y2) hq hqg => take_c W g b n c y2 ts [⟨#[41]⟩] q 1 cc h hq hqg rfl (by decide) (by simp; decide) _ hZ
                        unfold PPost at cT
                        simp only at cT
                        have hl : i' < y3 := by simp at hy3 hy1; omega
                        clear HI hT hN hZ hy1 hy2 hy3
                        go_wp2_with (go_at_call 32; refine (cT _ _ _ (H10.out.alloc _) (lit_cells w11 9 _ _ rfl) (by omega)).mono ?_; rintro e w12 ⟨rfl, h1, h2⟩; have HT12 := Sd.mk ((HT10.out.alloc _).fr h2 hne.1); have H12 := Sd.mk h1; have HF12 := Sd.mk ((HF10.out.alloc _).trans h2); clear h1 h2)
                        go_roundw
                        case rel => exact ⟨m, y3, false, x, HT12, H12, HF12, by omega, HE⟩
                        case measure => exact meas_Pa H6.out H12.out hl
              | true =>
                have HI : Sd (invA ts m nm rf true (i' + 1) = r) := ⟨by rw [← HM.out, marks_inv hs (.inl rfl)]⟩
                clear hs HM
                go_upto_region 6 with (first | (go_at_call 27; refine (cS _ H6.out).mono ?_; rintro e w8 ⟨rfl, h1, h2⟩; have HT8 := Sd.mk (HT6.out.fr h2 hne.1); have H8 := Sd.mk h1; have HF8 := Sd.mk (HF6.out.trans h2); clear h1 h2; have v3 := HT8.out.cell 3 rfl; have v4 := HT8.out.cell 4 rfl) | (go_at_call 47; refine (must_ok _ g).mono ?_; rintro e w8' ⟨rfl, rfl⟩))
                clear cS
                have hg8 := H8.out.glt
                have hi8 := H8.out.lt
                cases hT : takeT ts tInv (i' + 1) with
                | error a =>
                  have HE : Sd (r = .error a) := ⟨by rw [← HI.out]; unfold invA; rw [hT]⟩
                  have cT := fun W q cc (h : Pa W g b n c ts (i' + 1)) hq hqg => take_c W g b n c (i' + 1) ts tInv q 4 cc h hq hqg rfl (by decide) (by decide) _ hT
                  unfold PPost at cT
                  simp only at cT
                  clear HI hT
                  go_wp2_with (go_at_call 32; refine (cT _ _ _ (H8.out.alloc _) (lit_cells w8 9 tInv _ rfl) (by omega)).mono ?_; rintro e w9 ⟨rfl, h2⟩; have HF9 := Sd.mk ((HF8.out.alloc _).trans h2); clear h2)
                  refine ⟨rfl, ?_⟩
                  unfold PPost
                  rw [HE.out]
                  exact ⟨rfl, HF9.out⟩
                | ok p =>
                  obtain ⟨u, y1⟩ := p
                  have hy1 := takeT_ok H8.out.fin (by decide) hi8 hT
                  have cT := fun W q cc (h : Pa W g b n c ts (i' + 1)) hq hqg => take_c W g b n c (i' + 1) ts tInv q 4 cc h hq hqg rfl (by decide) (by decide) _ hT
                  unfold PPost at cT
                  simp only at cT
                  cases hN : nmT ts [] y1 with
                  | error a =>
                    have HE : Sd (r = .error a) := ⟨by rw [← HI.out]; unfold invA; rw [hT]; simp only; rw [hN]⟩
                    have cN := fun W h => name0_c W g b n c y1 ts h _ hN
                    unfold PPost at cN
                    simp only at cN
                    clear HI hT hN
                    go_wp2_with (first
                      | (go_at_call 32; refine (cT _ _ _ (H8.out.alloc _) (lit_cells w8 9 tInv _ rfl) (by omega)).mono ?_; rintro e w9 ⟨rfl, h1, h2⟩; have HT9 := Sd.mk ((HT8.out.alloc _).fr h2 hne.1); have H9 := Sd.mk h1; have HF9 := Sd.mk ((HF8.out.alloc _).trans h2); clear h1 h2)
                      | (go_at_call 28; refine (cN _ H9.out).mono ?_; rintro e w10 ⟨rfl, h2⟩; have HF10 := Sd.mk (HF9.out.trans h2); clear h2))
                    refine ⟨rfl, ?_⟩
                    unfold PPost
                    rw [HE.out]
                    exact ⟨rfl, HF10.out⟩
                  | ok p =>
                    obtain ⟨x, y2⟩ := p
                    have hy2 := nmT_ok H8.out.fin hN
                    have cN := fun W h => name0_c W g b n c y1 ts h _ hN
                    unfold PPost at cN
                    simp only at cN
                    go_upto_region 8 with (first
                      | (go_at_call 32; refine (cT _ _ _ (H8.out.alloc _) (lit_cells w8 9 tInv _ rfl) (by omega)).mono ?_; rintro e w9 ⟨rfl, h1, h2⟩; have HT9 := Sd.mk ((HT8.out.alloc _).fr h2 hne.1); have H9 := Sd.mk h1; have HF9 := Sd.mk ((HF8.out.alloc _).trans h2); clear h1 h2)
                      | (go_at_call 28; refine (cN _ H9.out).mono ?_; rintro e w10 ⟨rfl, h1, h2⟩; have HT10' := Sd.mk (HT9.out.fr h2 hne.1); have t4 := HT10'.out.cell 4 rfl; have s4 := HT10'.out.fz 4; have HT10 := Sd.mk (HT10'.out.q4 (.string x)); have H10 := Sd.mk (h1.setC hne 4 (.string x)); have HF10 := Sd.mk ((HF9.out.trans h2).setC (C := C) (by omega) 4 (.string x)); clear h1 h2))
                    generalize w10.setCell ⟨C, 4, none⟩ (.string x) = w11 at HT10 H10 HF10 ⊢
                    clear t4 s4 HT10' cT cN
                    have hg11 := H10.out.glt
                    cases hZ : takeT ts [⟨#[41]⟩] y2 with
                    | error a =>
                      have HE : Sd (r = .error a) := ⟨by rw [← HI.out]; unfold invA; rw [hT]; simp only; rw [hN]; simp only; rw [hZ]⟩
                      have cT := fun W q cc (h : Pa W g b n c ts y2) hq hqg => take_c W g b n c y2 ts [⟨#[41]⟩] q 1 cc h hq hqg rfl (by decide) (by simp; decide) _ hZ
                      unfold PPost at cT
                      simp only at cT
                      clear HI hT hN hZ
                      go_wp2_with (go_at_call 32; refine (cT _ _ _ (H10.out.alloc _) (lit_cells w11 9 _ _ rfl) (by omega)).mono ?_; rintro e w12 ⟨rfl, h2⟩; have HF12 := Sd.mk ((HF10.out.alloc _).trans h2); clear h2)
                      refine ⟨rfl, ?_⟩
                      unfold PPost
                      rw [HE.out]
                      exact ⟨rfl, HF12.out⟩
                    | ok p =>
                      obtain ⟨u2, y3⟩ := p
                      have hy3 := takeT_ok H8.out.fin (by decide) hy2.2 hZ
                      have HE : Sd (marksT ts m ⟨nm, rf, true, x⟩ y3 = r) := ⟨by rw [← HI.out]; unfold invA; rw [hT]; simp only; rw [hN]; simp only; rw [hZ]⟩
                      have cT := fun W q cc (h : Pa W g b n c ts y2) hq hqg => take_c W g b n c y2 ts [⟨#[41]⟩] q 1 cc h hq hqg rfl (by decide) (by simp; decide) _ hZ
                      unfold PPost at cT
                      simp only at cT
                      have hl : i' < y3 := by simp at hy3 hy1; omega
                      clear HI hT hN hZ hy1 hy2 hy3
                      go_wp2_with (go_at_call 32; refine (cT _ _ _ (H10.out.alloc _) (lit_cells w11 9 _ _ rfl) (by omega)).mono ?_; rintro e w12 ⟨rfl, h1, h2⟩; have HT12 := Sd.mk ((HT10.out.alloc _).fr h2 hne.1); have H12 := Sd.mk h1; have HF12 := Sd.mk ((HF10.out.alloc _).trans h2); clear h1 h2)
                      go_roundw
                      case rel => exact ⟨m, y3, true, x, HT12, H12, HF12, by omega, HE⟩
                      case measure => exact meas_Pa H6.out H12.out hl
          · have hv1 : (iv.toList == []) = false := by have := text_ne (a := iv) (b := ⟨#[]⟩) hv; simpa using this
            have hv2 : iv.toList.isEmpty = false := by rw [← hv1]; cases iv.toList <;> rfl
            have hv3 : iv.toList = [] ↔ False := by rw [← List.isEmpty_iff, hv2]; simp
            cases se with
            | true =>
              have HE : Sd (r = .ok (⟨nm, rf, true, iv⟩, i')) := ⟨by rw [← HM.out, marks_end (by simp [hv])]⟩
              have HV := Sd.mk hv
              clear HM hv
              have k0 := HT6.out.cell 0 rfl
              have k1 := HT6.out.cell 1 rfl
              have k2 := HT6.out.cell 2 rfl
              have k3 := HT6.out.cell 3 rfl
              have k4 := HT6.out.cell 4 rfl
              have z0 := HT6.out.fz 0
              have z1 := HT6.out.fz 1
              have z2 := HT6.out.fz 2
              have z3 := HT6.out.fz 3
              have z4 := HT6.out.fz 4
              go_wp2
              have HT9 := Sd.mk (((((HT6.out.q0 (.string nm)).q1 (.string rf.name)).q2 (.string rf.wraps)).q3 (.bool true)).q4 (.string iv))
              have H9 := Sd.mk ((((H6.out.setC hne 0 (.string nm)).setC hne 1 (.string rf.name)).setC hne 2 (.string rf.wraps)).setC hne 3 (.bool true) |>.setC hne 4 (.string iv))
              have HF9 := Sd.mk (((((HF6.out.setC (C := C) (by omega) 0 (.string nm)).setC (C := C) (by omega) 1 (.string rf.name)).setC (C := C) (by omega) 2 (.string rf.wraps)).setC (C := C) (by omega) 3 (.bool true)).setC (C := C) (by omega) 4 (.string iv))
              refine bodyPost_ret (field_res HT9.out _ rfl) rfl ?_
              unfold PPost
              rw [HE.out]
              exact ⟨rfl, H9.out, HF9.out⟩
            | false =>
              cases hs : skipT ts 0 ⟨#[64]⟩ i' with
              | false =>
                have cS := fun W h => skS_f W g b n c i' ts 0 ⟨#[64]⟩ h hs
                have HE : Sd (r = .ok (⟨nm, rf, false, iv⟩, i')) := ⟨by rw [← HM.out, marks_end (by rw [hs]; simp)]⟩
                clear hs HM hv
                go_wp2_with (go_at_call 27; refine (cS _ H6.out).mono ?_; rintro e w7 ⟨rfl, h1, h2⟩; have HT7 := Sd.mk (HT6.out.fr h2 hne.1); have H7 := Sd.mk h1; have HF7 := Sd.mk (HF6.out.trans h2); clear h1 h2; have k0 := HT7.out.cell 0 rfl; have k1 := HT7.out.cell 1 rfl; have k2 := HT7.out.cell 2 rfl; have k3 := HT7.out.cell 3 rfl; have k4 := HT7.out.cell 4 rfl; have z0 := HT7.out.fz 0; have z1 := HT7.out.fz 1; have z2 := HT7.out.fz 2; have z3 := HT7.out.fz 3; have z4 := HT7.out.fz 4)
                have HT9 := Sd.mk (((((HT7.out.q0 (.string nm)).q1 (.string rf.name)).q2 (.string rf.wraps)).q3 (.bool false)).q4 (.string iv))
                have H9 := Sd.mk ((((H7.out.setC hne 0 (.string nm)).setC hne 1 (.string rf.name)).setC hne 2 (.string rf.wraps)).setC hne 3 (.bool false) |>.setC hne 4 (.string iv))
                have HF9 := Sd.mk (((((HF7.out.setC (C := C) (by omega) 0 (.string nm)).setC (C := C) (by omega) 1 (.string rf.name)).setC (C := C) (by omega) 2 (.string rf.wraps)).setC (C := C) (by omega) 3 (.bool false)).setC (C := C) (by omega) 4 (.string iv))
                refine bodyPost_ret (field_res HT9.out _ rfl) rfl ?_
                unfold PPost
                rw [HE.out]
                exact ⟨rfl, H9.out, HF9.out⟩
              | true =>
                have cS := fun W h => skS_t W g b n c i' ts 0 ⟨#[64]⟩ h (by decide) hs
                cases hs2 : skipT ts 1 tSearch (i' + 1) with
                | true =>
                  have cS2 := fun W h => skS_t W g b n c (i' + 1) ts 1 tSearch h (by decide) hs2
                  have HE : Sd (marksT ts m ⟨nm, rf, true, iv⟩ (i' + 2) = r) := ⟨by rw [← HM.out, marks_search hs hs2]⟩
                  unfold tSearch at cS2
                  clear hs hs2 HM hv
                  go_upto_region 9 with (go_at_call 27; refine (cS _ H6.out).mono ?_; rintro e w7 ⟨rfl, h1, h2⟩; have HT7 := Sd.mk (HT6.out.fr h2 hne.1); have H7 := Sd.mk h1; have HF7 := Sd.mk (HF6.out.trans h2); clear h1 h2; have v3 := HT7.out.cell 3 rfl; have v4 := HT7.out.cell 4 rfl)
                  go_wp2_with (go_at_call 27; refine (cS2 _ H7.out).mono ?_; rintro e w8 ⟨rfl, h1, h2⟩; have HT8 := Sd.mk (HT7.out.fr h2 hne.1); have H8 := Sd.mk h1; have HF8 := Sd.mk (HF7.out.trans h2); clear h1 h2; have y3 := HT8.out.cell 3 rfl; have s3 := HT8.out.fz 3)
                  have HT9 := Sd.mk (HT8.out.q3 (.bool true))
                  have H9 := Sd.mk (H8.out.setC hne 3 (.bool true))
                  have HF9 := Sd.mk (HF8.out.setC (C := C) (by omega) 3 (.bool true))
                  go_roundw
                  case rel => exact ⟨m, i' + 2, true, iv, HT9, H9, HF9, by omega, HE⟩
                  case measure => exact meas_Pa H6.out H9.out (by omega)
                | false =>
                  have cS2 := fun W h => skS_f W g b n c (i' + 1) ts 1 tSearch h hs2
                  have HE : Sd (r = .error (atT ts (i' + 1))) := ⟨by rw [← HM.out, marks_no hs hs2 hv]⟩
                  unfold tSearch at cS2
                  clear hs hs2 HM hv
                  go_upto_region 9 with (go_at_call 27; refine (cS _ H6.out).mono ?_; rintro e w7 ⟨rfl, h1, h2⟩; have HT7 := Sd.mk (HT6.out.fr h2 hne.1); have H7 := Sd.mk h1; have HF7 := Sd.mk (HF6.out.trans h2); clear h1 h2; have v3 := HT7.out.cell 3 rfl; have v4 := HT7.out.cell 4 rfl)
                  go_wp2_with (first | (go_at_call 27; refine (cS2 _ H7.out).mono ?_; rintro e w8 ⟨rfl, h1, h2⟩; have HT8 := Sd.mk (HT7.out.fr h2 hne.1); have H8 := Sd.mk h1; have HF8 := Sd.mk (HF7.out.trans h2); clear h1 h2; have y3 := HT8.out.cell 3 rfl; have y4 := HT8.out.cell 4 rfl) | (go_at_call 47; refine (must_no _ g b n c (i' + 1) ts H8.out _ rfl).mono ?_; rintro e w9 ⟨rfl, h2⟩; have HF9 := Sd.mk (HF8.out.trans h2); clear h2))
                  refine ⟨rfl, ?_⟩
                  unfold PPost
                  rw [HE.out]
                  exact ⟨rfl, HF9.out⟩
end Go.Proofs.YtibgigffedejpaaGreatDoor
/- A drawn region in which operations that only read come first, in whatever order, and then one that leaves by a panic; the rest wait for it. -/
namespace Go.Proofs.YtibgigffedejpaaGreatDoor
set_option linter.unusedVariables false
set_option linter.unusedSimpArgs false
section
variable {P : Program} {ops : Array Oper} {md : Region.Mode} {C : World → Prop} {Q : Exit → Act → World → Prop}
def ordB (md : Region.Mode) (ops : Array Oper) : List Nat → Nat → Array Bool → Bool
  | [], kz, listed => Region.ready md ops listed == [kz]
  | i :: is, kz, listed => (Region.ready md ops listed).contains i && Region.free md ops listed i && ordB md ops is kz (listed.setIfInBounds i true)
theorem wpAnyQ2_ord (hs : Region.noSelect ops = true) (hQ : ∀ c a d v w, Q (.panic c) (Act.put a d v) w → Q (.panic c) a w) {z : Oper} {kz : Nat} (hz : ops[kz]? = some z) :
    ∀ (is : List Nat) (l : List Oper) (fuel : Nat) (listed : Array Bool) (a : Act), is.map (fun i => ops[i]?) = l.map some → ordB md ops is kz listed = true →
    wpQuiet P ops C (fun a' => Region.wanted z (yielded ops a'.tmps) = true ∧ loud P C Q z a') l a → is.length < fuel → wpAnyQ2 P md ops C Q fuel listed a
  | [], [], fuel + 1, listed, a, _, hB, h, _ => by
    have hr : Region.ready md ops listed = [kz] := by simpa [ordB] using hB
    refine ⟨fun h => ?_, fun i hi => ?_⟩
    · rw [hr] at h; cases h
    · rw [hr] at hi
      obtain rfl := List.mem_singleton.1 hi
      exact .inr ⟨z, hz, h.1, h.2⟩
  | i :: is, o :: l, fuel + 1, listed, a, hl, hB, h, hf => by
    simp only [List.map_cons, List.cons.injEq] at hl
    rw [ordB] at hB
    simp only [Bool.and_eq_true] at hB
    obtain ⟨⟨hr, hfr⟩, hB'⟩ := hB
    have h0 := hl.1
    have hst : qOp P ops C i (wpQuiet P ops C (fun a' => Region.wanted z (yielded ops a'.tmps) = true ∧ loud P C Q z a') l) a := by unfold qOp; simp only [h0]; exact h
    obtain ⟨v, hy, hK⟩ := yieldsIn_of_qOp h0 hst
    exact wpAnyQ2_first h0 (Region.noSelect_spec hs) hQ fuel listed a (Region.free_spec h0 hfr) (by simpa using hr) hy
      (wpAnyQ2_ord hs hQ hz is l fuel _ _ hl.2 hB' hK (by simp at hf; omega))
  | [], _ :: _, _, _, _, hl, _, _, _ => by simp at hl
  | _ :: _, [], _, _, _, hl, _, _, _ => by simp at hl
def nthZ (d : Oper) : List Oper → Nat → Oper
  | [], _ => d
  | a :: _, 0 => a
  | _ :: l, k + 1 => nthZ d l k
theorem nthZ_get (d : Oper) : ∀ (l : List Oper) (k : Nat), k < l.length → l[k]? = some (nthZ d l k)
  | _ :: _, 0, _ => rfl
  | _ :: l, k + 1, h => by simpa [nthZ] using nthZ_get d l k (by simpa using h)
def pickZ (d : Oper) (l : List Oper) : List Nat → List Oper
  | [] => []
  | i :: is => nthZ d l i :: pickZ d l is
theorem pickZ_map (d : Oper) (l : List Oper) : ∀ is : List Nat, (∀ i ∈ is, i < l.length) → is.map (fun i => l.toArray[i]?) = (pickZ d l is).map some
  | [], _ => rfl
  | i :: is, h => by
    simp only [List.map_cons, pickZ, List.getElem?_toArray]
    rw [nthZ_get d l i (h i (by simp))]
    congr 1
    have := pickZ_map d l is (fun j hj => h j (by simp [hj]))
    simpa using this
/-- 'is': the operations that are done first, by their numbers, in an order; 'kz': the one that panics. -/
theorem region_loud_ord (is : List Nat) (kz : Nat) {id : Nat} {a : Act} {w : World} {x : Oper} {l : List Oper} (hm : P.follows .mixedOrders = true) (hs : Region.noSelect (x :: l).toArray = true)
    (hB : ordB .any (x :: l).toArray is kz (Array.replicate (x :: l).length false) = true) (hi : (is.all fun i => decide (i < (x :: l).length)) && decide (kz < (x :: l).length) && decide (is.length < (x :: l).length) = true)
    (hQ : ∀ c a d v w, Q (.panic c) (Act.put a d v) w → Q (.panic c) a w)
    (h : wpQuiet P (x :: l).toArray (fun w' => ∃ n, w' = w.drewN n) (fun a' => Region.wanted (nthZ x (x :: l) kz) (yielded (x :: l).toArray a'.tmps) = true ∧ loud P (fun w' => ∃ n, w' = w.drewN n) Q (nthZ x (x :: l) kz) a') (pickZ x (x :: l) is) a) : (Code.region id (x :: l).toArray true).wp P Q a w := by
  simp only [Bool.and_eq_true, List.all_eq_true, decide_eq_true_eq] at hi
  refine wp_region_any hm (wpAny_of_quiet2 (C := fun w' => ∃ n, w' = w.drewN n) _ _ _ _ ⟨1, rfl⟩ ?_)
  exact wpAnyQ2_ord hs hQ (by simpa using nthZ_get x (x :: l) kz hi.1.2) is _ _ _ _ (pickZ_map x (x :: l) is hi.1.1) (by simpa using hB) h (by simpa using hi.2)
end
end Go.Proofs.YtibgigffedejpaaGreatDoor
namespace Go.Proofs.YtibgigffedejpaaGreatDoor
set_option linter.unusedVariables false
set_option linter.unusedSimpArgs false
open Go.RowKit
set_option linter.unusedVariables false
set_option linter.unusedSimpArgs false
attribute [local go_sem ↓] Go.wp_at_zero Go.wp_at_succ

theorem info58 : (Tryz.prog.info? 58).map (fun i => (i.zero, i.size, i.bytes)) = some (some (.agg #[.string ⟨#[]⟩, .string ⟨#[]⟩, .string ⟨#[]⟩, .bool false, .string ⟨#[]⟩]), 5, 72) := by kernel_rfl
theorem info9 : (Tryz.prog.info? 9).map (fun i => (i.zero, i.size, i.bytes)) = some (some (.string ⟨#[]⟩), 1, 16) := by kernel_rfl

/-- While an object's fields are read: the object at block O, the parser's box at pb. -/
structure OJ (w0 : World) (O pb g b n c : Nat) (ts : List Tk) (nm : ByteArray) (fs : List Fd) (i : Nat) (W : World) : Prop where
  pa : Pa W g b n c ts i
  box : ∃ v, At W O 53 #[.string nm, v] ∧ W.ownsRow (O + 1) 58 5 v fs.length (fs.flatMap Fd.cells)
  pbc : W.cell? ⟨pb, 0, none⟩ = some (.pointer (some ⟨g, 0, none⟩))
  fr : Fr g w0 W
  cnt : fs.length ≤ i
  o : O = w0.heap.size
  og : g < O
  ob : b < O
  op : pb < O
  pg : pb ≠ g
/-- While an enum's words are read. -/
structure EJ (w0 : World) (O pb g b n c : Nat) (ts : List Tk) (nm : ByteArray) (fs : List ByteArray) (i : Nat) (W : World) : Prop where
  pa : Pa W g b n c ts i
  box : ∃ v, At W O 61 #[.string nm, v] ∧ W.ownsRow (O + 1) 9 1 v fs.length (fs.map Value.string)
  pbc : W.cell? ⟨pb, 0, none⟩ = some (.pointer (some ⟨g, 0, none⟩))
  fr : Fr g w0 W
  cnt : fs.length ≤ i
  o : O = w0.heap.size
  og : g < O
  ob : b < O
  op : pb < O
  pg : pb ≠ g
theorem ownsRow_fr {W W' : World} {base : Nat} {e : TypeId} {size : Nat} {v : Value} {k : Nat} {xs : List Value} {g : Nat} (h : W.ownsRow base e size v k xs) (hf : Fr g W W') (hg : g < base) : W'.ownsRow base e size v k xs :=
  h.kept (row := some g) ⟨hf.os, hf.tape, hf.output, hf.size, fun k hk hkg => hf.block k hk (fun e => hkg (by rw [e]))⟩ (ownsRow_ne h hg)
section
variable {w0 W W' : World} {O pb g b n c : Nat} {ts : List Tk} {nm : ByteArray} {i j : Nat}
theorem OJ.to {fs : List Fd} (h : OJ w0 O pb g b n c ts nm fs i W) (hf : Fr g W W') (hp : Pa W' g b n c ts j) (hij : i ≤ j) : OJ w0 O pb g b n c ts nm fs j W' := by
  obtain ⟨v, hv, hrow⟩ := h.box
  have hog := h.og
  exact ⟨hp, ⟨v, hv.fr hf (by omega), ownsRow_fr hrow hf (by omega)⟩, hf.cell h.pg h.pbc, h.fr.trans hf, Nat.le_trans h.cnt hij, h.o, h.og, h.ob, h.op, h.pg⟩
theorem EJ.to {fs : List ByteArray} (h : EJ w0 O pb g b n c ts nm fs i W) (hf : Fr g W W') (hp : Pa W' g b n c ts j) (hij : i ≤ j) : EJ w0 O pb g b n c ts nm fs j W' := by
  obtain ⟨v, hv, hrow⟩ := h.box
  have hog := h.og
  exact ⟨hp, ⟨v, hv.fr hf (by omega), ownsRow_fr hrow hf (by omega)⟩, hf.cell h.pg h.pbc, h.fr.trans hf, Nat.le_trans h.cnt hij, h.o, h.og, h.ob, h.op, h.pg⟩
end
theorem row_app {w2 w3 : World} {O t k e size : Nat} {cs : Array Value} {v : Value} {xs : List Value} (hv : At w2 O t cs) (hr : w2.ownsRow (O + 1) e size v k xs) (o : Obj) (hg : (w2.alloc o).grownBy w3 v.ownBlock) : At w3 O t cs :=
  (hg.block O (by have := hv.lt; simp; omega) (ownsRow_ne' hr (by omega))).trans ((Below.heap_alloc _ _ O hv.lt).trans hv)
theorem Pa.belowO {w w' : World} {g b n c i O : Nat} {ts : List Tk} (h : Pa w g b n c ts i) (hb : Below O w w') (hg : g < O) (hbO : b < O) : Pa w' g b n c ts i := by
  have h3 := h.glob
  have hc : ∀ {p : Addr} {v : Value}, p.block < O → w.cell? p = some v → w'.cell? p = some v := fun hp hv => by
    unfold World.cell? at *
    rw [hb.block _ hp]; exact hv
  refine ⟨(hb.block g hg).trans h.pr, ?_, h.len, h.bnd, h.ne, h.lt, h.fin, ⟨⟨fun c' hc' => hc (by simp; omega) (h.env.tabs.1 c' hc'), fun i hi => ⟨hc (by simp; omega) (h.env.tabs.2 i hi).1, hc (by simp; omega) (h.env.tabs.2 i hi).2⟩⟩, let ⟨m, hm⟩ := h.env.maxl; ⟨m, hc (by simp; omega) hm⟩, Nat.le_trans h.env.glob hb.size⟩, h.glob⟩
  obtain ⟨cur, hcur, ht⟩ := h.tl
  exact ⟨cur, (hb.block b hbO).trans hcur, ht⟩
theorem Fr.belowO {w0 w w' : World} {g O : Nat} (h : Fr g w0 w) (hb : Below O w w') (hO : w0.heap.size ≤ O) : Fr g w0 w' :=
  ⟨hb.os.trans h.os, hb.tape.trans h.tape, hb.output.trans h.output, Nat.le_trans h.size hb.size, fun k hk hkg => (hb.block k (by omega)).trans (h.block k hk hkg)⟩
theorem row_below {w2 w3 : World} {O k e size : Nat} {v : Value} {xs : List Value} (hr : w2.ownsRow (O + 1) e size v k xs) (o : Obj) (hg : (w2.alloc o).grownBy w3 v.ownBlock) (hO : O < w2.heap.size) (u : Value) : Below O w2 (w3.setCell ⟨O, 1, none⟩ u) := by
  have h1 : Below O w2 w3 := ⟨hg.os, hg.tape, hg.output, by have := hg.size; simp at this; omega, fun k hk => (hg.block k (by simp; omega) (ownsRow_ne' hr (by omega))).trans (Below.heap_alloc _ _ k (by omega))⟩
  exact h1.setCell (p := ⟨O, 1, none⟩) (Nat.le_refl _) u
section
variable {w0 W w2 w3 : World} {O pb g b n c : Nat} {ts : List Tk} {nm : ByteArray} {i j g' cap : Nat} {v : Value}
theorem OJ.grow {fs : List Fd} (h : OJ w0 O pb g b n c ts nm fs i W) (H2 : Pa w2 g b n c ts j) (hf : Fr g W w2) (hij : i < j) (o : Obj) (x : Fd) (hr : w2.ownsRow (O + 1) 58 5 v fs.length (fs.flatMap Fd.cells)) (hw : w3.ownsRow (O + 1) 58 5 (.slice (some ⟨g', 0, none⟩) (fs.length + 1) cap) (fs.length + 1) (fs.flatMap Fd.cells ++ x.cells))
    (hg : (w2.alloc o).grownBy w3 v.ownBlock) (hv : At w3 O 53 #[.string nm, v]) : OJ w0 O pb g b n c ts nm (fs ++ [x]) j (w3.setCell ⟨O, 1, none⟩ (.slice (some ⟨g', 0, none⟩) (fs.length + 1) cap)) := by
  obtain ⟨v0, hv0, _⟩ := h.box
  have hO2 : O < w2.heap.size := Nat.lt_of_lt_of_le hv0.lt hf.size
  have hb := row_below hr o hg hO2 (.slice (some ⟨g', 0, none⟩) (fs.length + 1) cap)
  refine ⟨H2.belowO hb h.og h.ob, ⟨_, hv.p1 _, ?_⟩, ?_, (h.fr.trans hf).belowO hb (by rw [h.o]; exact Nat.le_refl _), by have := h.cnt; simp; omega, h.o, h.og, h.ob, h.op, h.pg⟩
  · have := hw.kept (row := some O) (w' := w3.setCell ⟨O, 1, none⟩ (.slice (some ⟨g', 0, none⟩) (fs.length + 1) cap)) ⟨rfl, rfl, rfl, by simp [World.setCell], fun k _ hk => Below.heap_setCell _ _ _ k (fun e => hk (by rw [e]))⟩ (ownsRow_ne hw (by omega))
    simpa using this
  · have h1 := hf.cell h.pg h.pbc
    unfold World.cell? at h1 ⊢
    rw [hb.block _ h.op]; exact h1
theorem EJ.grow {fs : List ByteArray} (h : EJ w0 O pb g b n c ts nm fs i W) (H2 : Pa w2 g b n c ts j) (hf : Fr g W w2) (hij : i < j) (o : Obj) (x : ByteArray) (hr : w2.ownsRow (O + 1) 9 1 v fs.length (fs.map Value.string)) (hw : w3.ownsRow (O + 1) 9 1 (.slice (some ⟨g', 0, none⟩) (fs.length + 1) cap) (fs.length + 1) (fs.map Value.string ++ [.string x]))
    (hg : (w2.alloc o).grownBy w3 v.ownBlock) (hv : At w3 O 61 #[.string nm, v]) : EJ w0 O pb g b n c ts nm (fs ++ [x]) j (w3.setCell ⟨O, 1, none⟩ (.slice (some ⟨g', 0, none⟩) (fs.length + 1) cap)) := by
  obtain ⟨v0, hv0, _⟩ := h.box
  have hO2 : O < w2.heap.size := Nat.lt_of_lt_of_le hv0.lt hf.size
  have hb := row_below hr o hg hO2 (.slice (some ⟨g', 0, none⟩) (fs.length + 1) cap)
  refine ⟨H2.belowO hb h.og h.ob, ⟨_, hv.p1 _, ?_⟩, ?_, (h.fr.trans hf).belowO hb (by rw [h.o]; exact Nat.le_refl _), by have := h.cnt; simp; omega, h.o, h.og, h.ob, h.op, h.pg⟩
  · have := hw.kept (row := some O) (w' := w3.setCell ⟨O, 1, none⟩ (.slice (some ⟨g', 0, none⟩) (fs.length + 1) cap)) ⟨rfl, rfl, rfl, by simp [World.setCell], fun k _ hk => Below.heap_setCell _ _ _ k (fun e => hk (by rw [e]))⟩ (ownsRow_ne hw (by omega))
    simpa using this
  · have h1 := hf.cell h.pg h.pbc
    unfold World.cell? at h1 ⊢
    rw [hb.block _ h.op]; exact h1
end
def OnePost {α : Type} (w0 : World) (g : Nat) (J : List α → Nat → World → Prop) (l : List α) (r : Except Nat (α × Nat)) (e : Ending) (w' : World) : Prop :=
  match r with
  | .error a => e = .panicked (wrS a) ∧ Fr g w0 w'
  | .ok (x, j) => e = .returned (.tuple #[]) ∧ J (l ++ [x]) j w'

set_option maxRecDepth 100000 in
set_option maxHeartbeats 4000000 in
theorem fieldOne_c (w0 : World) (O pb g b n c : Nat) (ts : List Tk) (nm : ByteArray) (fs : List Fd) (i : Nat) (W : World) (h : OJ w0 O pb g b n c ts nm fs i W) (r : Except Nat (Fd × Nat)) (hr : fieldT ts i = r) :
    Calls Tryz.prog 30 #[.pointer (some ⟨O, 0, none⟩), .pointer (some ⟨pb, 0, none⟩)] W (OnePost w0 g (OJ w0 O pb g b n c ts nm) fs r) := by
  obtain ⟨v, hv, hrow⟩ := h.box
  have o1 := hv.cell 1 rfl
  have o1' : W.drew.cell? ⟨O, 1, none⟩ = some v := o1
  have hpb := h.pbc
  have hpb' : W.drew.cell? ⟨pb, 0, none⟩ = some (.pointer (some ⟨g, 0, none⟩)) := h.pbc
  have hog := h.og
  have cF := fun W h => field_c W g b n c i ts h r hr
  cases r with
  | error a =>
    unfold PPost at cF
    simp only at cF
    have HH := Sd.mk h
    clear h hv hrow hr
    go_enter Tryz.func30, Tryz.ntmps30
    go_wp2_with (fail)
    refine region_loud_ord [0, 1, 2] 3 (by kernel_rfl) (by kernel_rfl) (by kernel_rfl) (by kernel_rfl) (fun _ _ d _ _ h => by cases d <;> exact h) ?_
    dsimp only [pickZ, nthZ]
    repeat (go_big_quiet_step (fail))
    refine wpQuiet_nil ?_
    refine loud_end (by rfl) (fun n' => ?_)
    go_simp
    go_at_call 31; refine (cF _ (HH.out.pa.drewN _)).mono ?_; rintro e w2 ⟨rfl, h2⟩
    exact ⟨rfl, rfl, (HH.out.fr.drewN _).trans h2⟩
  | ok p =>
    obtain ⟨x, j⟩ := p
    have hj := fieldT_ok h.pa.fin hr
    unfold PPost Fd.val at cF
    simp only at cF
    obtain ⟨i0, hi, hz0, hz1, hz2⟩ := info_parts info58
    have hfz := hv.fz 1
    have hfl : fs.length ≤ 100000 := by have h1 := h.cnt; have h2 := h.pa.len; have h3 := h.pa.bnd; have h4 := h.pa.lt; omega
    have hz : ∀ W', Fr g W W' → W.heap.size ≤ W'.heap.size := fun W' h => h.size
    have hOl := hv.lt
    have HH := Sd.mk h
    have HV := Sd.mk hv
    have HRow := Sd.mk hrow
    have HJ := Sd.mk hj
    have HFz := Sd.mk hfz
    clear h hv hrow hr hj hfz
    go_enter Tryz.func30, Tryz.ntmps30
    go_wp2_with (fail)
    go_region_law (first
      | (refine step_append_lies _ (by rfl) _ _ _ (by rfl) (O + 1) 58 i0 (.agg #[.string ⟨#[]⟩, .string ⟨#[]⟩, .string ⟨#[]⟩, .bool false, .string ⟨#[]⟩]) 5 72 Tryz.underlying51 hi hz0 hz1 hz2 rfl (by decide) v fs.length (fs.flatMap Fd.cells) (by rfl) (HR2.out.alloc _) ⟨w2.heap.size, 0, none⟩ 1 1 x.cells (by rfl) (by rfl) (World.news_of_block (heap_alloc_new w2 _)) (by simp [Fd.cells, Value.oneCell']) (by omega) (by unfold maxLen; omega) (by omega) (by simp; omega) (w2.heap.size + 1) (by simp) ?_; intro g' cap w3 hown3 hg3 hat hlt3; have HW3 := Sd.mk hown3; have HV3 := Sd.mk (row_app HV2.out HR2.out _ hg3); have HG3 := Sd.mk hg3; have v3 := HV3.out.cell 1 rfl; have f3 := HV3.out.fz 1; clear hown3 hg3 hat)
      | (go_simp; go_at_call 31; refine (cF _ HH.out.pa.drew).mono ?_; rintro e w2 ⟨rfl, h1, h2⟩; have H2 := Sd.mk h1; have HF2 := Sd.mk h2; have HV2 := Sd.mk (HV.out.drew.fr h2 (by omega)); have HR2 := Sd.mk (ownsRow_fr HRow.out.drew h2 (by omega)); have v1 := HV2.out.cell 1 rfl; have v1a := (HV2.out.alloc (.cells #[.string x.name, .string x.ref.name, .string x.ref.wraps, .bool x.search, .string x.inv] 58)).cell 1 rfl; have hs2 := hz _ (Fr.trans ((Fr.refl g W).drew) h2); clear h1 h2))
    all_goals
      go_end0
      exact ⟨rfl, HH.out.grow H2.out ((Fr.refl g W).drew.trans HF2.out) HJ.out.1 _ x HR2.out HW3.out HG3.out HV3.out⟩
end Go.Proofs.YtibgigffedejpaaGreatDoor
namespace Go.Proofs.YtibgigffedejpaaGreatDoor
set_option linter.unusedVariables false
set_option linter.unusedSimpArgs false
open Go.RowKit
set_option linter.unusedVariables false
set_option linter.unusedSimpArgs false
attribute [local go_sem ↓] Go.wp_at_zero Go.wp_at_succ

theorem nameNot_c (w : World) (g b n c i : Nat) (ts : List Tk) (h : Pa w g b n c ts i) (q cc : Nat) (hq : ∀ (j : Nat) (x : ByteArray), tNot[j]? = some x → w.cell? ⟨q, j, none⟩ = some (.string x)) (hqg : q ≠ g) (r : Except Nat (ByteArray × Nat)) (hr : nmT ts tNot i = r) :
    Calls Tryz.prog 28 #[.pointer (some ⟨g, 0, none⟩), .slice (some ⟨q, 0, none⟩) 3 cc] w (PPost g b n c ts w (fun t => .string t) r) :=
  name_c w g b n c i ts tNot _ h (fun W t hf => (Tryz.slices_Contains_string q 0 3 cc tNot t W (by decide) (by omega) (fun j hj => by
    rw [Nat.zero_add]
    have hg : tNot[j]? = some (tNot.getD j ByteArray.empty) := by rw [List.getElem?_eq_getElem hj]; simp [hj]
    exact hf.cell hqg (hq j _ hg))).mono fun e w' ⟨h1, h2⟩ => ⟨h1, h2.symm⟩) r hr

set_option maxRecDepth 100000 in
set_option maxHeartbeats 4000000 in
theorem wordOne_c (w0 : World) (O pb g b n c : Nat) (ts : List Tk) (nm : ByteArray) (fs : List ByteArray) (i : Nat) (W : World) (h : EJ w0 O pb g b n c ts nm fs i W) (r : Except Nat (ByteArray × Nat)) (hr : wordT ts i = r) :
    Calls Tryz.prog 33 #[.pointer (some ⟨O, 0, none⟩), .pointer (some ⟨pb, 0, none⟩)] W (OnePost w0 g (EJ w0 O pb g b n c ts nm) fs r) := by
  obtain ⟨v, hv, hrow⟩ := h.box
  have o1 := hv.cell 1 rfl
  have o1' : W.drew.cell? ⟨O, 1, none⟩ = some v := o1
  have hpb := h.pbc
  have hpb' : W.drew.cell? ⟨pb, 0, none⟩ = some (.pointer (some ⟨g, 0, none⟩)) := h.pbc
  have hog := h.og
  have hOl := hv.lt
  have hgl := h.pa.glt
  have hobl := h.op
  have cF := fun W (h : Pa W g b n c ts i) q cc hq hqg => nameNot_c W g b n c i ts h q cc hq hqg r hr
  have hS0 : W.drew.cell? ⟨O, 1, none⟩ = some v ∧ W.drew.cell? ⟨pb, 0, none⟩ = some (.pointer (some ⟨g, 0, none⟩)) := ⟨o1', hpb'⟩
  have hal : (W.drew.alloc (.cells #[.string ⟨#[116, 114, 117, 101]⟩, .string ⟨#[102, 97, 108, 115, 101]⟩, .string ⟨#[110, 117, 108, 108]⟩] 9)).cell? ⟨O, 1, none⟩ = some v ∧ (W.drew.alloc (.cells #[.string ⟨#[116, 114, 117, 101]⟩, .string ⟨#[102, 97, 108, 115, 101]⟩, .string ⟨#[110, 117, 108, 108]⟩] 9)).cell? ⟨pb, 0, none⟩ = some (.pointer (some ⟨g, 0, none⟩)) :=
    ⟨below_cell (w := W.drew) ((Below.refl _ W.drew).alloc (Nat.le_refl _) _) hOl o1', below_cell (w := W.drew) ((Below.refl _ W.drew).alloc (Nat.le_refl _) _) (by show pb < W.heap.size; omega) hpb'⟩
  have hlit := lit_cells W.drew 9 tNot #[.string ⟨#[116, 114, 117, 101]⟩, .string ⟨#[102, 97, 108, 115, 101]⟩, .string ⟨#[110, 117, 108, 108]⟩] rfl
  cases r with
  | error a =>
    unfold PPost at cF
    simp only at cF
    have HH := Sd.mk h
    have HL := Sd.mk hlit
    clear h hv hrow hr hlit
    go_enter Tryz.func33, Tryz.ntmps33
    go_wp2_with (fail)
    refine seq_start (fun w' => w'.cell? ⟨O, 1, none⟩ = some v ∧ w'.cell? ⟨pb, 0, none⟩ = some (.pointer (some ⟨g, 0, none⟩))) (by kernel_rfl) hS0 (fun hHeld => ?_)
    refine seq_take (k := 0) (v := ?_) rfl (by kernel_rfl) (fun _ _ _ h => h) (Or.inl ⟨by rfl, ?_⟩) hHeld ?_
    rotate_left
    · intro w' hSw
      (try dsimp only at hSw)
      go_split_ands
      go_simp
      with_reducible rfl
    simp only [Act.put, List.setIfInBounds_toArray, List.set_cons_zero, List.set_cons_succ]
    refine seq_take (k := 1) (v := ?_) rfl (by kernel_rfl) (fun _ _ _ h => h) (Or.inl ⟨by rfl, ?_⟩) hHeld ?_
    rotate_left
    · intro w' hSw
      (try dsimp only at hSw)
      go_split_ands
      go_simp
      with_reducible rfl
    simp only [Act.put, List.setIfInBounds_toArray, List.set_cons_zero, List.set_cons_succ]
    refine seq_take (k := 2) (v := ?_) rfl (by kernel_rfl) (fun _ _ _ h => h) (Or.inl ⟨by rfl, ?_⟩) hHeld ?_
    rotate_left
    · intro w' hSw
      (try dsimp only at hSw)
      go_split_ands
      go_simp
      with_reducible rfl
    simp only [Act.put, List.setIfInBounds_toArray, List.set_cons_zero, List.set_cons_succ]
    refine seq_one (k := 3) rfl (by kernel_rfl) (fun K hK => ?_)
    go_simp
    refine hK.out _ _ hal (fun hHeld => ?_)
    clear hK K
    refine seq_one (k := 4) rfl (by kernel_rfl) (fun K hK => ?_)
    go_simp
    go_at_call 28
    refine (cF _ (HH.out.pa.drew.alloc _) _ _ HL.out (by simp; omega)).mono ?_
    rintro e w2 ⟨rfl, h2⟩
    exact ⟨rfl, rfl, (HH.out.fr.drew.alloc _).trans h2⟩
  | ok p =>
    obtain ⟨x, j⟩ := p
    have hj := wordT_ok h.pa.fin hr
    unfold PPost at cF
    simp only at cF
    obtain ⟨i0, hi, hz0, hz1, hz2⟩ := info_parts info9
    have hfz := hv.fz 1
    have hfl : fs.length ≤ 100000 := by have h1 := h.cnt; have h2 := h.pa.len; have h3 := h.pa.bnd; have h4 := h.pa.lt; omega
    have HH := Sd.mk h
    have HV := Sd.mk hv
    have HRow := Sd.mk hrow
    have HJ := Sd.mk hj
    have HFz := Sd.mk hfz
    have HL := Sd.mk (show ∀ (j : Nat) (x : ByteArray), tNot[j]? = some x → (W.alloc (.cells #[.string ⟨#[116, 114, 117, 101]⟩, .string ⟨#[102, 97, 108, 115, 101]⟩, .string ⟨#[110, 117, 108, 108]⟩] 9)).drew.cell? ⟨W.heap.size, j, none⟩ = some (.string x) from hlit)
    have hz : ∀ W1 W' : World, Fr g W1 W' → W1.heap.size ≤ W'.heap.size := fun W1 W' h => h.size
    have al1 : (W.alloc (.cells #[.string ⟨#[116, 114, 117, 101]⟩, .string ⟨#[102, 97, 108, 115, 101]⟩, .string ⟨#[110, 117, 108, 108]⟩] 9)).cell? ⟨O, 1, none⟩ = some v := hal.1
    have al2 : (W.alloc (.cells #[.string ⟨#[116, 114, 117, 101]⟩, .string ⟨#[102, 97, 108, 115, 101]⟩, .string ⟨#[110, 117, 108, 108]⟩] 9)).cell? ⟨pb, 0, none⟩ = some (.pointer (some ⟨g, 0, none⟩)) := hal.2
    clear h hv hrow hr hj hfz hlit hal hS0
    go_enter Tryz.func33, Tryz.ntmps33
    go_wp2_with (fail)
    go_region_law (first
      | (refine step_append_lies _ (by rfl) _ _ _ (by rfl) (O + 1) 9 i0 (.string ⟨#[]⟩) 1 16 Tryz.underlying41 hi hz0 hz1 hz2 rfl (by decide) v fs.length (fs.map Value.string) (by rfl) (HR2.out.alloc _) ⟨w2.heap.size, 0, none⟩ 1 1 [.string x] (by rfl) (by rfl) (World.news_of_block (heap_alloc_new w2 _)) (by simp [Value.oneCell']) (by omega) (by unfold maxLen; omega) (by omega) (by simp; omega) (w2.heap.size + 1) (by simp) ?_; intro g' cap w3 hown3 hg3 hat hlt3; have HW3 := Sd.mk hown3; have HV3 := Sd.mk (row_app HV2.out HR2.out _ hg3); have HG3 := Sd.mk hg3; have v3 := HV3.out.cell 1 rfl; have f3 := HV3.out.fz 1; clear hown3 hg3 hat)
      | (go_simp; go_at_call 28; refine (cF _ (HH.out.pa.alloc _).drew _ _ HL.out (by omega)).mono ?_; rintro e w2 ⟨rfl, h1, h2⟩; have H2 := Sd.mk h1; have HF2 := Sd.mk h2; have HV2 := Sd.mk (((HV.out.alloc _).drew).fr h2 (by omega)); have HR2 := Sd.mk (ownsRow_fr (HRow.out.alloc _).drew h2 (by omega)); have v1 := HV2.out.cell 1 rfl; have v1a := (HV2.out.alloc (.cells #[.string x] 9)).cell 1 rfl; have hs2 : W.heap.size ≤ w2.heap.size := (by have := hz _ _ h2; simp at this; omega); clear h1 h2))
    all_goals
      go_end0
      exact ⟨rfl, HH.out.grow H2.out (((Fr.refl g W).alloc _).drew.trans HF2.out) HJ.out.1 _ x HR2.out HW3.out HG3.out HV3.out⟩
end Go.Proofs.YtibgigffedejpaaGreatDoor
namespace Go.Proofs.YtibgigffedejpaaGreatDoor
set_option linter.unusedVariables false
set_option linter.unusedSimpArgs false
open Go.RowKit
set_option linter.unusedVariables false
set_option linter.unusedSimpArgs false

/-- What stands between curly brackets, one by one, J holding between them. -/
structure SomeJ {α : Type} (w0 : World) (g b n c : Nat) (ts : List Tk) (one : Nat → Except Nat (α × Nat)) (J : List α → Nat → World → Prop) : Prop where
  pa : ∀ {l i W}, J l i W → Pa W g b n c ts i
  tow : ∀ {l i j W W'}, J l i W → Fr g W W' → Pa W' g b n c ts j → i ≤ j → J l j W'
  fr : ∀ {l i W}, J l i W → Fr g w0 W
  lt : ∀ {i j x}, one i = .ok (x, j) → i < j ∧ j < ts.length
def SomePost {α : Type} (w0 : World) (g : Nat) (J : List α → Nat → World → Prop) (r : Except Nat (List α × Nat)) (e : Ending) (w' : World) : Prop :=
  match r with
  | .error a => e = .panicked (wrS a) ∧ Fr g w0 w'
  | .ok (l, j) => e = .returned (.tuple #[]) ∧ J l j w'

set_option maxRecDepth 100000 in
set_option maxHeartbeats 4000000 in
theorem some30_c {α : Type} (w0 : World) (g b n c i O pb : Nat) (ts : List Tk) (one : Nat → Except Nat (α × Nat)) (J : List α → Nat → World → Prop) (hJ : SomeJ w0 g b n c ts one J) (w : World) (h : J [] i w)
    (hone : ∀ l i W, J l i W → ∀ r, one i = r → Calls Tryz.prog 30 #[.pointer (some ⟨O, 0, none⟩), .pointer (some ⟨pb, 0, none⟩)] W (OnePost w0 g J l r)) (r : Except Nat (List α × Nat)) (hr : someT ts one i = r) :
    Calls Tryz.prog 29 #[.pointer (some ⟨g, 0, none⟩), .func (.func 30) #[] #[.pointer (some ⟨O, 0, none⟩), .pointer (some ⟨pb, 0, none⟩)]] w (SomePost w0 g J r) := by
  have HR := Sd.mk hr
  have H0 := Sd.mk h
  have HJ := Sd.mk hJ
  have HO := Sd.mk hone
  have hgl := (hJ.pa h).glt
  have hlt := (hJ.pa h).lt
  have HE := Sd.mk (hJ.pa h).fin
  clear h hJ hone hr
  go_enter Tryz.func29, Tryz.ntmps29
  cases hT : takeT ts [⟨#[123]⟩] i with
  | error a =>
    have HE : Sd (r = .error a) := ⟨by rw [← HR.out]; unfold someT; rw [hT]; try rfl⟩
    have cT := fun W q cc (h : Pa W g b n c ts i) hq hqg => take_c W g b n c i ts [⟨#[123]⟩] q 1 cc h hq hqg rfl (by decide) (by simp; decide) _ hT
    unfold PPost at cT
    simp only at cT
    clear HR hT
    go_wp2_with (go_at_call 32; refine (cT _ _ _ ((HJ.out.pa H0.out).alloc _) (lit_cells w 9 _ _ rfl) (by omega)).mono ?_; rintro e w1 ⟨rfl, h2⟩; have HF1 := Sd.mk (((HJ.out.fr H0.out).alloc _).trans h2); clear h2)
    refine ⟨rfl, ?_⟩
    unfold SomePost
    rw [HE.out]
    exact ⟨rfl, HF1.out⟩
  | ok p =>
    obtain ⟨u, j⟩ := p
    have hj := takeT_ok HE.out (by simp; decide) hlt hT
    have hij : i ≤ j := by omega
    have cT := fun W q cc (h : Pa W g b n c ts i) hq hqg => take_c W g b n c i ts [⟨#[123]⟩] q 1 cc h hq hqg rfl (by decide) (by simp; decide) _ hT
    unfold PPost at cT
    simp only at cT
    have HR2 : Sd (r = match one j with
      | .error a => .error a
      | .ok (x, q) => manyT ts one ts.length [x] q) := ⟨by rw [← HR.out]; unfold someT; rw [hT]; try rfl⟩
    clear HR hT hj
    go_upto_region 1 with (go_at_call 32; refine (cT _ _ _ ((HJ.out.pa H0.out).alloc _) (lit_cells w 9 _ _ rfl) (by omega)).mono ?_; rintro e w1 ⟨rfl, h1, h2⟩; have H1 := Sd.mk (HJ.out.tow H0.out (((Fr.refl g w).alloc _).trans h2) h1 hij); clear h1 h2)
    cases ho : one j with
    | error a =>
      have HE : Sd (r = .error a) := ⟨by rw [HR2.out, ho]; try rfl⟩
      have cO := HO.out [] j w1 H1.out _ ho
      unfold OnePost at cO
      simp only at cO
      clear HR2 ho
      go_wp2_with (go_at_call 30; refine cO.mono ?_; rintro e w2 ⟨rfl, h2⟩; have HF2 := Sd.mk h2; clear h2)
      refine ⟨rfl, ?_⟩
      unfold SomePost
      rw [HE.out]
      exact ⟨rfl, HF2.out⟩
    | ok p =>
      obtain ⟨x, q⟩ := p
      have HR3 : Sd (manyT ts one ts.length [x] q = r) := ⟨by rw [HR2.out, ho]; try rfl⟩
      have hq := HJ.out.lt ho
      have cO := HO.out [] j w1 H1.out _ ho
      unfold OnePost at cO
      simp only [List.nil_append] at cO
      clear HR2 ho
      go_wp2_with (go_at_call 30; refine cO.mono ?_; rintro e w2 ⟨rfl, h2⟩; have H2 := Sd.mk h2; clear h2)
      clear cO cT
      go_loopw [] (fun wr => ∃ (m i' : Nat) (l : List α), Sd (J l i' wr) ∧ ts.length ≤ m + i' ∧ i' < ts.length ∧ Sd (manyT ts one m l i' = r)) (fun wr => ts.length - atOf g wr)
      case atStart => exact ⟨ts.length, q, [x], H2, by omega, hq.2, HR3⟩
      case round =>
        obtain ⟨m, i', l, H3, hm, hi', HM⟩ := hrel
        obtain ⟨m, rfl⟩ : ∃ m', m = m' + 1 := ⟨m - 1, by omega⟩
        cases hs : skipT ts 0 ⟨#[125]⟩ i' with
        | true =>
          have cS := fun W h => skS_t W g b n c i' ts 0 ⟨#[125]⟩ h (by decide) hs
          have HE : Sd (r = .ok (l, i' + 1)) := ⟨by rw [← HM.out, manyT, hs]; rfl⟩
          clear hs HM
          go_wp2_with (go_at_call 27; refine (cS _ (HJ.out.pa H3.out)).mono ?_; rintro e w4 ⟨rfl, h1, h2⟩; have H4 := Sd.mk (HJ.out.tow H3.out h2 h1 (by omega)); clear h1 h2)
          unfold SomePost
          rw [HE.out]
          go_end0
          exact ⟨rfl, H4.out⟩
        | false =>
          have cS := fun W h => skS_f W g b n c i' ts 0 ⟨#[125]⟩ h hs
          have HM2 : Sd (r = match one i' with
            | .error a => .error a
            | .ok (x, j) => manyT ts one m (l ++ [x]) j) := ⟨by rw [← HM.out, manyT, hs]; rfl⟩
          clear hs HM
          cases ho : one i' with
          | error a =>
            have HE : Sd (r = .error a) := ⟨by rw [HM2.out, ho]; try rfl⟩
            have cO := fun W h => HO.out l i' W h _ ho
            unfold OnePost at cO
            simp only at cO
            clear HM2 ho
            go_wp2_with (first | (go_at_call 27; refine (cS _ (HJ.out.pa H3.out)).mono ?_; rintro e w4 ⟨rfl, h1, h2⟩; have H4 := Sd.mk (HJ.out.tow H3.out h2 h1 (by omega)); clear h1 h2) | (go_at_call 30; refine (cO _ H4.out).mono ?_; rintro e w5 ⟨rfl, h2⟩; have HF5 := Sd.mk h2; clear h2))
            refine ⟨rfl, ?_⟩
            unfold SomePost
            rw [HE.out]
            exact ⟨rfl, HF5.out⟩
          | ok p =>
            obtain ⟨y, z⟩ := p
            have HM3 : Sd (manyT ts one m (l ++ [y]) z = r) := ⟨by rw [HM2.out, ho]; try rfl⟩
            have hz := HJ.out.lt ho
            have cO := fun W h => HO.out l i' W h _ ho
            unfold OnePost at cO
            simp only at cO
            clear HM2 ho
            go_wp2_with (first | (go_at_call 27; refine (cS _ (HJ.out.pa H3.out)).mono ?_; rintro e w4 ⟨rfl, h1, h2⟩; have H4 := Sd.mk (HJ.out.tow H3.out h2 h1 (by omega)); clear h1 h2) | (go_at_call 30; refine (cO _ H4.out).mono ?_; rintro e w5 ⟨rfl, h2⟩; have H5 := Sd.mk h2; clear h2))
            go_roundw
            case rel => exact ⟨m, z, l ++ [y], H5, by omega, hz.2, HM3⟩
            case measure => exact meas_Pa (HJ.out.pa H3.out) (HJ.out.pa H5.out) hz.1

set_option maxRecDepth 100000 in
set_option maxHeartbeats 4000000 in
theorem some33_c {α : Type} (w0 : World) (g b n c i O pb : Nat) (ts : List Tk) (one : Nat → Except Nat (α × Nat)) (J : List α → Nat → World → Prop) (hJ : SomeJ w0 g b n c ts one J) (w : World) (h : J [] i w)
    (hone : ∀ l i W, J l i W → ∀ r, one i = r → Calls Tryz.prog 33 #[.pointer (some ⟨O, 0, none⟩), .pointer (some ⟨pb, 0, none⟩)] W (OnePost w0 g J l r)) (r : Except Nat (List α × Nat)) (hr : someT ts one i = r) :
    Calls Tryz.prog 29 #[.pointer (some ⟨g, 0, none⟩), .func (.func 33) #[] #[.pointer (some ⟨O, 0, none⟩), .pointer (some ⟨pb, 0, none⟩)]] w (SomePost w0 g J r) := by
  have HR := Sd.mk hr
  have H0 := Sd.mk h
  have HJ := Sd.mk hJ
  have HO := Sd.mk hone
  have hgl := (hJ.pa h).glt
  have hlt := (hJ.pa h).lt
  have HE := Sd.mk (hJ.pa h).fin
  clear h hJ hone hr
  go_enter Tryz.func29, Tryz.ntmps29
  cases hT : takeT ts [⟨#[123]⟩] i with
  | error a =>
    have HE : Sd (r = .error a) := ⟨by rw [← HR.out]; unfold someT; rw [hT]; try rfl⟩
    have cT := fun W q cc (h : Pa W g b n c ts i) hq hqg => take_c W g b n c i ts [⟨#[123]⟩] q 1 cc h hq hqg rfl (by decide) (by simp; decide) _ hT
    unfold PPost at cT
    simp only at cT
    clear HR hT
    go_wp2_with (go_at_call 32; refine (cT _ _ _ ((HJ.out.pa H0.out).alloc _) (lit_cells w 9 _ _ rfl) (by omega)).mono ?_; rintro e w1 ⟨rfl, h2⟩; have HF1 := Sd.mk (((HJ.out.fr H0.out).alloc _).trans h2); clear h2)
    refine ⟨rfl, ?_⟩
    unfold SomePost
    rw [HE.out]
    exact ⟨rfl, HF1.out⟩
  | ok p =>
    obtain ⟨u, j⟩ := p
    have hj := takeT_ok HE.out (by simp; decide) hlt hT
    have hij : i ≤ j := by omega
    have cT := fun W q cc (h : Pa W g b n c ts i) hq hqg => take_c W g b n c i ts [⟨#[123]⟩] q 1 cc h hq hqg rfl (by decide) (by simp; decide) _ hT
    unfold PPost at cT
    simp only at cT
    have HR2 : Sd (r = match one j with
      | .error a => .error a
      | .ok (x, q) => manyT ts one ts.length [x] q) := ⟨by rw [← HR.out]; unfold someT; rw [hT]; try rfl⟩
    clear HR hT hj
    go_upto_region 1 with (go_at_call 32; refine (cT _ _ _ ((HJ.out.pa H0.out).alloc _) (lit_cells w 9 _ _ rfl) (by omega)).mono ?_; rintro e w1 ⟨rfl, h1, h2⟩; have H1 := Sd.mk (HJ.out.tow H0.out (((Fr.refl g w).alloc _).trans h2) h1 hij); clear h1 h2)
    cases ho : one j with
    | error a =>
      have HE : Sd (r = .error a) := ⟨by rw [HR2.out, ho]; try rfl⟩
      have cO := HO.out [] j w1 H1.out _ ho
      unfold OnePost at cO
      simp only at cO
      clear HR2 ho
      go_wp2_with (go_at_call 33; refine cO.mono ?_; rintro e w2 ⟨rfl, h2⟩; have HF2 := Sd.mk h2; clear h2)
      refine ⟨rfl, ?_⟩
      unfold SomePost
      rw [HE.out]
      exact ⟨rfl, HF2.out⟩
    | ok p =>
      obtain ⟨x, q⟩ := p
      have HR3 : Sd (manyT ts one ts.length [x] q = r) := ⟨by rw [HR2.out, ho]; try rfl⟩
      have hq := HJ.out.lt ho
      have cO := HO.out [] j w1 H1.out _ ho
      unfold OnePost at cO
      simp only [List.nil_append] at cO
      clear HR2 ho
      go_wp2_with (go_at_call 33; refine cO.mono ?_; rintro e w2 ⟨rfl, h2⟩; have H2 := Sd.mk h2; clear h2)
      clear cO cT
      go_loopw [] (fun wr => ∃ (m i' : Nat) (l : List α), Sd (J l i' wr) ∧ ts.length ≤ m + i' ∧ i' < ts.length ∧ Sd (manyT ts one m l i' = r)) (fun wr => ts.length - atOf g wr)
      case atStart => exact ⟨ts.length, q, [x], H2, by omega, hq.2, HR3⟩
      case round =>
        obtain ⟨m, i', l, H3, hm, hi', HM⟩ := hrel
        obtain ⟨m, rfl⟩ : ∃ m', m = m' + 1 := ⟨m - 1, by omega⟩
        cases hs : skipT ts 0 ⟨#[125]⟩ i' with
        | true =>
          have cS := fun W h => skS_t W g b n c i' ts 0 ⟨#[125]⟩ h (by decide) hs
          have HE : Sd (r = .ok (l, i' + 1)) := ⟨by rw [← HM.out, manyT, hs]; rfl⟩
          clear hs HM
          go_wp2_with (go_at_call 27; refine (cS _ (HJ.out.pa H3.out)).mono ?_; rintro e w4 ⟨rfl, h1, h2⟩; have H4 := Sd.mk (HJ.out.tow H3.out h2 h1 (by omega)); clear h1 h2)
          unfold SomePost
          rw [HE.out]
          go_end0
          exact ⟨rfl, H4.out⟩
        | false =>
          have cS := fun W h => skS_f W g b n c i' ts 0 ⟨#[125]⟩ h hs
          have HM2 : Sd (r = match one i' with
            | .error a => .error a
            | .ok (x, j) => manyT ts one m (l ++ [x]) j) := ⟨by rw [← HM.out, manyT, hs]; rfl⟩
          clear hs HM
          cases ho : one i' with
          | error a =>
            have HE : Sd (r = .error a) := ⟨by rw [HM2.out, ho]; try rfl⟩
            have cO := fun W h => HO.out l i' W h _ ho
            unfold OnePost at cO
            simp only at cO
            clear HM2 ho
            go_wp2_with (first | (go_at_call 27; refine (cS _ (HJ.out.pa H3.out)).mono ?_; rintro e w4 ⟨rfl, h1, h2⟩; have H4 := Sd.mk (HJ.out.tow H3.out h2 h1 (by omega)); clear h1 h2) | (go_at_call 33; refine (cO _ H4.out).mono ?_; rintro e w5 ⟨rfl, h2⟩; have HF5 := Sd.mk h2; clear h2))
            refine ⟨rfl, ?_⟩
            unfold SomePost
            rw [HE.out]
            exact ⟨rfl, HF5.out⟩
          | ok p =>
            obtain ⟨y, z⟩ := p
            have HM3 : Sd (manyT ts one m (l ++ [y]) z = r) := ⟨by rw [HM2.out, ho]; try rfl⟩
            have hz := HJ.out.lt ho
            have cO := fun W h => HO.out l i' W h _ ho
            unfold OnePost at cO
            simp only at cO
            clear HM2 ho
            go_wp2_with (first | (go_at_call 27; refine (cS _ (HJ.out.pa H3.out)).mono ?_; rintro e w4 ⟨rfl, h1, h2⟩; have H4 := Sd.mk (HJ.out.tow H3.out h2 h1 (by omega)); clear h1 h2) | (go_at_call 33; refine (cO _ H4.out).mono ?_; rintro e w5 ⟨rfl, h2⟩; have H5 := Sd.mk h2; clear h2))
            go_roundw
            case rel => exact ⟨m, z, l ++ [y], H5, by omega, hz.2, HM3⟩
            case measure => exact meas_Pa (HJ.out.pa H3.out) (HJ.out.pa H5.out) hz.1

theorem OJ.some (w0 : World) (O pb g b n c : Nat) (ts : List Tk) (nm : ByteArray) (he : EndsT ts) : SomeJ w0 g b n c ts (fieldT ts) (OJ w0 O pb g b n c ts nm) :=
  ⟨fun h => h.pa, fun h hf hp hij => h.to hf hp hij, fun h => h.fr, fun h => fieldT_ok he h⟩
theorem EJ.some (w0 : World) (O pb g b n c : Nat) (ts : List Tk) (nm : ByteArray) (he : EndsT ts) : SomeJ w0 g b n c ts (wordT ts) (EJ w0 O pb g b n c ts nm) :=
  ⟨fun h => h.pa, fun h hf hp hij => h.to hf hp hij, fun h => h.fr, fun h => wordT_ok he h⟩
theorem fields_c (w0 : World) (O pb g b n c i : Nat) (ts : List Tk) (nm : ByteArray) (w : World) (h : OJ w0 O pb g b n c ts nm [] i w) (r : Except Nat (List Fd × Nat)) (hr : someT ts (fieldT ts) i = r) :
    Calls Tryz.prog 29 #[.pointer (some ⟨g, 0, none⟩), .func (.func 30) #[] #[.pointer (some ⟨O, 0, none⟩), .pointer (some ⟨pb, 0, none⟩)]] w (SomePost w0 g (OJ w0 O pb g b n c ts nm) r) :=
  some30_c w0 g b n c i O pb ts (fieldT ts) _ (OJ.some w0 O pb g b n c ts nm h.pa.fin) w h (fun l i W h r hr => fieldOne_c w0 O pb g b n c ts nm l i W h r hr) r hr
theorem words_c (w0 : World) (O pb g b n c i : Nat) (ts : List Tk) (nm : ByteArray) (w : World) (h : EJ w0 O pb g b n c ts nm [] i w) (r : Except Nat (List ByteArray × Nat)) (hr : someT ts (wordT ts) i = r) :
    Calls Tryz.prog 29 #[.pointer (some ⟨g, 0, none⟩), .func (.func 33) #[] #[.pointer (some ⟨O, 0, none⟩), .pointer (some ⟨pb, 0, none⟩)]] w (SomePost w0 g (EJ w0 O pb g b n c ts nm) r) :=
  some33_c w0 g b n c i O pb ts (wordT ts) _ (EJ.some w0 O pb g b n c ts nm h.pa.fin) w h (fun l i W h r hr => wordOne_c w0 O pb g b n c ts nm l i W h r hr) r hr
end Go.Proofs.YtibgigffedejpaaGreatDoor
