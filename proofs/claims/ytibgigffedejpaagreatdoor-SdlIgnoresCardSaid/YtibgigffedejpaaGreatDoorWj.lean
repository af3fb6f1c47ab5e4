import Derived.Test.YtibgigffedejpaaGreatDoorWi
/- A token says the same wherever it stands: no program in sight. -/
namespace Go.Proofs.YtibgigffedejpaaGreatDoor
set_option linter.unusedVariables false
set_option linter.unusedSimpArgs false
set_option linter.unusedVariables false
set_option linter.unusedSimpArgs false

/-- L bytes of s at A stand in b at C. -/
structure Cp (s b : ByteArray) (A C L : Nat) : Prop where
  fs : A + L ≤ s.size
  fb : C + L ≤ b.size
  eq : ∀ x, x < L → bt b (C + x) = bt s (A + x)
/-- A byte that goes on with no token. -/
def stopB (c : Nat) : Bool := !(isMore c) && c != 34 && c != 43 && c != 45
theorem stopB_0 : stopB 0 = true := by decide
theorem decodeN_few {n n' b0 b1 b2 b3 c1 c2 c3 c k : Nat} (h : Lib.decodeN n b0 b1 b2 b3 = (c, k)) (hk : k ≤ n') (hv : ¬ (c = 65533 ∧ k < 2)) (h1 : 1 < k → c1 = b1) (h2 : 2 < k → c2 = b2) (h3 : 3 < k → c3 = b3) : Lib.decodeN n' b0 c1 c2 c3 = (c, k) := by
  unfold Lib.decodeN at h
  split at h
  · rename_i h0
    unfold Lib.decodeN; rw [if_pos h0]; exact h
  · rename_i h0
    split at h
    · rename_i ha
      split at h
      · rename_i hb
        simp only [Prod.mk.injEq] at h
        obtain ⟨rfl, rfl⟩ := h
        rw [h1 (by decide)]
        unfold Lib.decodeN
        rw [if_neg h0, if_pos ⟨ha.1, by omega, ha.2.2⟩, if_pos hb]
      · simp only [Prod.mk.injEq] at h; omega
    · rename_i ha
      split at h
      · rename_i hc
        split at h
        · rename_i hb
          simp only [Prod.mk.injEq] at h
          obtain ⟨rfl, rfl⟩ := h
          rw [h1 (by decide), h2 (by decide)]
          unfold Lib.decodeN
          rw [if_neg h0, if_neg (by omega), if_pos ⟨hc.1, ⟨by omega, hc.2.1.2⟩, by omega, hc.2.2.2⟩, if_pos hb]
        · simp only [Prod.mk.injEq] at h; omega
      · rename_i hc
        split at h
        · rename_i hd
          split at h
          · rename_i hb
            simp only [Prod.mk.injEq] at h
            obtain ⟨rfl, rfl⟩ := h
            rw [h1 (by decide), h2 (by decide), h3 (by decide)]
            unfold Lib.decodeN
            rw [if_neg h0, if_neg (by omega), if_neg (by omega), if_pos ⟨hd.1, ⟨by omega, hd.2.1.2⟩, ⟨by omega, hd.2.2.1.2⟩, by omega, hd.2.2.2.2⟩, if_pos hb]
          · simp only [Prod.mk.injEq] at h; omega
        · simp only [Prod.mk.injEq] at h; omega

theorem drop_bt (s : ByteArray) (i : Nat) (h : i < s.size) : s.data.toList.drop i = (bt s i).toUInt8 :: s.data.toList.drop (i + 1) := by
  have hl : i < s.data.toList.length := by rw [← Lib.size_eq]; exact h
  rw [List.drop_eq_getElem_cons hl, ← bt_u8 s i h]
  simp
theorem pre_nil (s : ByteArray) (i : Nat) : pre s i [] = true := by unfold pre; cases s.data.toList.drop i <;> rfl
theorem pre_cons (s : ByteArray) (i : Nat) (c : UInt8) (p : List UInt8) : pre s i (c :: p) = (decide (i < s.size) && (bt s i == c.toNat) && pre s (i + 1) p) := by
  by_cases h : i < s.size
  · unfold pre
    rw [drop_bt s i h]
    have : (c == (bt s i).toUInt8) = (bt s i == c.toNat) := by
      rw [Bool.eq_iff_iff]
      simp only [beq_iff_eq]
      refine ⟨fun h => ?_, fun h => ?_⟩
      · rw [h, bt_back]
      · rw [h]; simp
    unfold Lib.hasPrefix
    rw [List.isPrefixOf_cons_cons, this]
    simp [h]
  · have hp : pre s i (c :: p) = false := by
      cases hp : pre s i (c :: p) with
      | false => rfl
      | true => have := pre_size hp; simp at this; omega
    rw [hp]
    simp [h]
section
variable {s b : ByteArray} {A C L : Nat}
theorem Cp.at (h : Cp s b A C L) {x : Nat} (hx : x < L) : bt b (C + x) = bt s (A + x) := h.eq x hx
theorem Cp.sub (h : Cp s b A C L) (x : Nat) (hx : x ≤ L) : Cp s b (A + x) (C + x) (L - x) :=
  ⟨by have := h.fs; omega, by have := h.fb; omega, fun y hy => by rw [Nat.add_assoc, Nat.add_assoc]; exact h.eq _ (by omega)⟩
theorem Cp.pre (h : Cp s b A C L) : ∀ (p : List UInt8) (x : Nat), x + p.length ≤ L → pre b (C + x) p = pre s (A + x) p
  | [], x, hx => by rw [pre_nil, pre_nil]
  | c :: p, x, hx => by
    simp only [List.length_cons] at hx
    have h1 := h.fs
    have h2 := h.fb
    rw [pre_cons, pre_cons, h.eq x (by omega), Nat.add_assoc, Nat.add_assoc, h.pre p (x + 1) (by omega)]
    simp [show C + x < b.size by omega, show A + x < s.size by omega]
theorem Cp.src (h : Cp s b A C L) {x c k : Nat} (hs : src s (A + x) = some (c, k)) (hx : x + k ≤ L) : src b (C + x) = some (c, k) := by
  have h0 := src_some hs
  have hA := h.fs
  have hC := h.fb
  have hr := h0.1
  unfold rune at hr
  rw [if_pos h0.2.2.2.2.2.2] at hr
  split at hr
  · simp only [Prod.mk.injEq] at hr; omega
  · rename_i hv
    have hd : dec b (C + x) = (c, k) := by
      have hv' := hv
      rw [hr] at hv'
      unfold dec at hr ⊢
      rw [h.eq x (by omega)]
      exact decodeN_few hr (by omega) hv' (fun hk => by rw [Nat.add_assoc, h.eq _ (by omega), Nat.add_assoc]) (fun hk => by rw [Nat.add_assoc, h.eq _ (by omega), Nat.add_assoc]) (fun hk => by omega)
    rw [hr] at hv
    have hrb : rune b (C + x) = (c, k) := by
      unfold rune
      rw [if_pos (by omega), hd, if_neg hv]
    unfold Go.Proofs.YtibgigffedejpaaGreatDoor.src at hs ⊢
    rw [hrb]
    rw [h0.1] at hs
    exact hs
theorem Cp.run (h : Cp s b A C L) {p : Nat → Bool} (hp : p (bt b (C + L)) = false) : ∀ (n x : Nat), runN p s (A + x) = n → x + n ≤ L → runN p b (C + x) = n
  | 0, x, hr, hx => by
    by_cases hb : C + x < b.size
    · refine runN_no hb ?_
      by_cases hxl : x < L
      · rw [h.eq x hxl]
        have hs : A + x < s.size := by have := h.fs; omega
        cases hc : p (bt s (A + x)) with
        | false => rfl
        | true => rw [runN_in hs hc] at hr; omega
      · obtain rfl : x = L := by omega
        exact hp
    · exact runN_out hb
  | n + 1, x, hr, hx => by
    have hs : A + x < s.size := by have := h.fs; omega
    have hb : C + x < b.size := by have := h.fb; omega
    cases hc : p (bt s (A + x)) with
    | false => rw [runN_no hs hc] at hr; omega
    | true =>
      rw [runN_in hs hc] at hr
      rw [runN_in hb (by rw [h.eq x (by omega)]; exact hc), Nat.add_assoc, h.run hp n (x + 1) (by rw [← Nat.add_assoc]; omega) (by omega)]
theorem Cp.skip (h : Cp s b A C L) {x : Nat} (hx : x < L) (c : Nat) : skipB b (C + x) c = skipB s (A + x) c := by
  have := h.fs
  have := h.fb
  unfold skipB
  rw [h.eq x hx]
  simp [show C + x < b.size by omega, show A + x < s.size by omega]
theorem stop_skip {c : Nat} (hs : stopB (bt b C) = true) (hc : stopB c = false) : skipB b C c = false := by
  unfold skipB
  cases h : bt b C == c with
  | false => simp
  | true => rw [beq_iff_eq] at h; rw [h, hc] at hs; cases hs
theorem stop_more {c : Nat} (hs : stopB c = true) : isMore c = false := by
  unfold stopB at hs
  simp at hs
  exact hs.1.1.1
theorem stop_name {c : Nat} (hs : stopB c = true) : isName c = false := by
  have := stop_more hs
  unfold isMore at this
  simp at this
  exact this.1
theorem stop_digit {c : Nat} (hs : stopB c = true) : isDigit c = false := by
  have := stop_name hs
  unfold isName at this
  simp at this
  exact this.2
theorem Cp.digs (h : Cp s b A C L) (hp : stopB (bt b (C + L)) = true) {x y : Nat} (hd : digs s (A + x) = some (A + y)) (hy : y ≤ L) : Go.Proofs.YtibgigffedejpaaGreatDoor.digs b (C + x) = some (C + y) := by
  unfold Go.Proofs.YtibgigffedejpaaGreatDoor.digs at hd
  split at hd
  · rename_i h0
    simp only [Option.some.injEq] at hd
    have hr := h.run (p := isDigit) (stop_digit hp) (y - x) x (by omega) (by omega)
    rw [digs_d hr (by omega)]
    congr 1; omega
  · cases hd
end
end Go.Proofs.YtibgigffedejpaaGreatDoor
namespace Go.Proofs.YtibgigffedejpaaGreatDoor
set_option linter.unusedVariables false
set_option linter.unusedSimpArgs false
set_option linter.unusedVariables false
set_option linter.unusedSimpArgs false

section
variable {s b : ByteArray} {A C L : Nat}
/-- Ends as offsets. -/
theorem digs_off {i j : Nat} (h : digs s i = some j) : i < j := digs_lt h
theorem Cp.skipN (h : Cp s b A C L) (hp : stopB (bt b (C + L)) = true) {c x y : Nat} (hc : stopB c = false) (hx : x ≤ L) (hd : Go.Proofs.YtibgigffedejpaaGreatDoor.skipN s (A + x) c = A + y) (hy : y ≤ L) : Go.Proofs.YtibgigffedejpaaGreatDoor.skipN b (C + x) c = C + y := by
  cases hs : skipB s (A + x) c with
  | true =>
    rw [skipN_t hs] at hd
    rw [skipN_t (by rw [h.skip (by omega)]; exact hs)]; omega
  | false =>
    rw [skipN_f hs] at hd
    have : skipB b (C + x) c = false := by
      by_cases hxl : x < L
      · rw [h.skip hxl]; exact hs
      · obtain rfl : x = L := by omega
        exact stop_skip hp hc
    rw [skipN_f this]; omega
theorem Cp.num (h : Cp s b A C L) (hp : stopB (bt b (C + L)) = true) {k : Nat} (hn : num s A = some (A + L, k)) : Go.Proofs.YtibgigffedejpaaGreatDoor.num b C = some (C + L, k) := by
  have hA := h.fs
  have hB := h.fb
  unfold Go.Proofs.YtibgigffedejpaaGreatDoor.num at hn ⊢
  rw [Option.bind_eq_some_iff] at hn
  obtain ⟨a, ha, hn⟩ := hn
  rw [Option.bind_eq_some_iff] at hn
  obtain ⟨p, hb, hn⟩ := hn
  rw [Option.bind_eq_some_iff] at hn
  obtain ⟨q, hc, hn⟩ := hn
  have k0 := skipN_le (c := 45) (s := s) (i := A) (by omega)
  have h1 : Go.Proofs.YtibgigffedejpaaGreatDoor.skipN s A 45 < a ∧ a ≤ s.size := by
    unfold num1 at ha
    split at ha
    · rename_i hb
      have hlt : Go.Proofs.YtibgigffedejpaaGreatDoor.skipN s A 45 < s.size := Nat.lt_of_not_le fun h => by rw [bt_out s _ h] at hb; omega
      simp only [Option.some.injEq] at ha; omega
    · exact ⟨digs_lt ha, (digs_le ha k0.1).2⟩
  have h2 : a ≤ p.1 ∧ p.1 ≤ s.size := by
    unfold num2 at hb
    split at hb
    · rename_i hs
      have := skipB_lt hs
      simp only [Option.map_eq_some_iff] at hb
      obtain ⟨x, hx, rfl⟩ := hb
      have := digs_le hx (by omega)
      simp only; omega
    · simp only [Option.some.injEq] at hb; subst hb; simp only; omega
  have h3 : p.1 ≤ q.1 := by
    unfold num3 at hc
    split at hc
    · rename_i hs
      have hlt : p.1 < s.size := by
        simp only [Bool.or_eq_true] at hs
        rcases hs with hs | hs <;> exact skipB_lt hs
      simp only [Option.map_eq_some_iff] at hc
      obtain ⟨x, hx, rfl⟩ := hc
      have h5 : p.1 + 1 ≤ (if skipB s (p.1 + 1) 43 = true then p.1 + 2 else Go.Proofs.YtibgigffedejpaaGreatDoor.skipN s (p.1 + 1) 45) ∧ (if skipB s (p.1 + 1) 43 = true then p.1 + 2 else Go.Proofs.YtibgigffedejpaaGreatDoor.skipN s (p.1 + 1) 45) ≤ s.size := by
        split
        · rename_i h6; have := skipB_lt h6; omega
        · have := skipN_le (c := 45) (s := s) (i := p.1 + 1) (by omega); omega
      have := digs_le hx h5.2
      simp only; omega
    · simp only [Option.some.injEq] at hc; subst hc; exact Nat.le_refl _
  have h4 : q = (A + L, k) := by
    unfold num4 at hn
    split at hn
    · cases hn
    · simp only [Option.some.injEq, Prod.mk.injEq] at hn
      exact Prod.ext hn.1 hn.2
  subst h4
  simp only at h3
  obtain ⟨z, hz⟩ : ∃ z, Go.Proofs.YtibgigffedejpaaGreatDoor.skipN s A 45 = A + z := ⟨Go.Proofs.YtibgigffedejpaaGreatDoor.skipN s A 45 - A, by omega⟩
  obtain ⟨y, rfl⟩ : ∃ y, a = A + y := ⟨a - A, by omega⟩
  obtain ⟨p1, p2⟩ := p
  simp only at h2 h3 hc
  obtain ⟨v, rfl⟩ : ∃ v, p1 = A + v := ⟨p1 - A, by omega⟩
  rw [hz] at ha h1
  have e0 : Go.Proofs.YtibgigffedejpaaGreatDoor.skipN b C 45 = C + z := h.skipN hp (c := 45) (x := 0) (by decide) (by omega) hz (by omega)
  rw [e0]
  have e1 : num1 b (C + z) = some (C + y) := by
    unfold num1 at ha ⊢
    rw [h.eq z (by omega)]
    split at ha
    · rename_i h48
      simp only [Option.some.injEq] at ha
      rw [if_pos h48]; congr 1; omega
    · rename_i h48
      rw [if_neg h48]
      exact h.digs hp ha (by omega)
  have e2 : num2 b (C + y) = some (C + v, p2) := by
    unfold num2 at hb ⊢
    split at hb
    · rename_i hs
      simp only [Option.map_eq_some_iff, Prod.mk.injEq] at hb
      obtain ⟨x, hx, rfl, rfl⟩ := hb
      have := digs_lt hx
      rw [if_pos (by rw [h.skip (by omega)]; exact hs), Nat.add_assoc, h.digs hp (x := y + 1) (y := v) hx (by omega)]
      rfl
    · rename_i hs
      simp only [Option.some.injEq, Prod.mk.injEq] at hb
      have : skipB b (C + y) 46 = false := by
        by_cases hxl : y < L
        · rw [h.skip hxl]; simpa using hs
        · obtain rfl : y = L := by omega
          exact stop_skip hp (by decide)
      rw [if_neg (by rw [this]; decide)]
      congr 1; exact Prod.ext (by simp only; omega) hb.2
  have e3 : num3 b (C + v) p2 = some (C + L, k) := by
    unfold num3 at hc ⊢
    split at hc
    · rename_i hs
      simp only [Option.map_eq_some_iff, Prod.mk.injEq] at hc
      obtain ⟨x, hx, rfl, rfl⟩ := hc
      have hlt := digs_lt hx
      have hv : v < L := by
        have : A + v + 1 ≤ (if skipB s (A + v + 1) 43 = true then A + v + 2 else Go.Proofs.YtibgigffedejpaaGreatDoor.skipN s (A + v + 1) 45) := by
          split
          · omega
          · have := skipN_le (c := 45) (s := s) (i := A + v + 1); unfold Go.Proofs.YtibgigffedejpaaGreatDoor.skipN; split <;> omega
        omega
      rw [if_pos (by rw [h.skip hv, h.skip hv]; exact hs)]
      cases h43 : skipB s (A + v + 1) 43 with
      | true =>
        rw [if_pos h43] at hx hlt
        rw [if_pos (by rw [Nat.add_assoc, h.skip (by omega)]; exact h43), Nat.add_assoc, h.digs hp (x := v + 2) hx (Nat.le_refl _)]
        rfl
      | false =>
        rw [if_neg (by rw [h43]; decide)] at hx hlt
        have : skipB b (C + v + 1) 43 = false := by
          by_cases hxl : v + 1 < L
          · rw [Nat.add_assoc, h.skip hxl]; exact h43
          · have : C + v + 1 = C + L := by omega
            rw [this]; exact stop_skip hp (by decide)
        rw [if_neg (by rw [this]; decide)]
        obtain ⟨u, hu⟩ : ∃ u, Go.Proofs.YtibgigffedejpaaGreatDoor.skipN s (A + v + 1) 45 = A + u := ⟨Go.Proofs.YtibgigffedejpaaGreatDoor.skipN s (A + v + 1) 45 - A, by unfold Go.Proofs.YtibgigffedejpaaGreatDoor.skipN; split <;> omega⟩
        rw [hu] at hx hlt
        rw [Nat.add_assoc, h.skipN hp (c := 45) (x := v + 1) (y := u) (by decide) (by omega) hu (by omega), h.digs hp hx (Nat.le_refl _)]
        rfl
    · rename_i hs
      simp only [Option.some.injEq, Prod.mk.injEq] at hc
      have : (skipB b (C + v) 101 || skipB b (C + v) 69) = false := by
        by_cases hxl : v < L
        · rw [h.skip hxl, h.skip hxl]; simpa using hs
        · obtain rfl : v = L := by omega
          rw [stop_skip hp (by decide), stop_skip hp (by decide)]; rfl
      rw [if_neg (by rw [this]; decide)]
      congr 1; exact Prod.ext (by simp only; omega) hc.2
  rw [e1, Option.bind_some, e2, Option.bind_some]
  simp only
  rw [e3, Option.bind_some]
  unfold num4
  rw [if_neg (by simp only; rw [stop_more hp]; simp)]
theorem blkE_3le : ∀ {i j : Nat}, blkE s i = some j → i + 3 ≤ j
  | i, j, h => by
    by_cases hc : i < s.size
    · cases h1 : pre s i [92, 34, 34, 34] with
      | true => rw [blkE_1 hc h1] at h; have := blkE_3le h; omega
      | false =>
        cases h2 : pre s i [34, 34, 34] with
        | true => rw [blkE_2 hc h1 h2] at h; simp only [Option.some.injEq] at h; omega
        | false =>
          cases h3 : src s i with
          | none => rw [blkE_3 h1 h2 h3] at h; cases h
          | some q =>
            obtain ⟨c, k⟩ := q
            have := src_some h3
            rw [blkE_4 h1 h2 h3] at h; have := blkE_3le h; omega
    · rw [blkE, dif_neg hc] at h; cases h
termination_by i => s.size - i
theorem Cp.blk (h : Cp s b A C L) : ∀ (x : Nat), blkE s (A + x) = some (A + L) → blkE b (C + x) = some (C + L)
  | x, hb => by
    have hA := h.fs
    have hB := h.fb
    have hL := blkE_3le hb
    have hc : A + x < s.size := by omega
    have hc' : C + x < b.size := by omega
    cases h1 : Go.Proofs.YtibgigffedejpaaGreatDoor.pre s (A + x) [92, 34, 34, 34] with
    | true =>
      rw [blkE_1 hc h1, Nat.add_assoc] at hb
      have := blkE_3le hb
      rw [blkE_1 hc' (by rw [h.pre _ _ (by simp; omega)]; exact h1), Nat.add_assoc]
      exact h.blk _ hb
    | false =>
      cases h2 : Go.Proofs.YtibgigffedejpaaGreatDoor.pre s (A + x) [34, 34, 34] with
      | true =>
        rw [blkE_2 hc h1 h2] at hb
        simp only [Option.some.injEq] at hb
        have h2' : Go.Proofs.YtibgigffedejpaaGreatDoor.pre b (C + x) [34, 34, 34] = true := by rw [h.pre _ _ (by simp; omega)]; exact h2
        have h1' : Go.Proofs.YtibgigffedejpaaGreatDoor.pre b (C + x) [92, 34, 34, 34] = false := by
          rw [pre_cons] at h2' ⊢
          simp only [Bool.and_eq_true, beq_iff_eq] at h2'
          rw [h2'.1.2]
          simp
        rw [blkE_2 hc' h1' h2']; congr 1; omega
      | false =>
        cases h3 : Go.Proofs.YtibgigffedejpaaGreatDoor.src s (A + x) with
        | none => rw [blkE_3 h1 h2 h3] at hb; cases hb
        | some q =>
          obtain ⟨c, k⟩ := q
          have hs := src_some h3
          rw [blkE_4 h1 h2 h3, Nat.add_assoc] at hb
          have := blkE_3le hb
          rw [blkE_4 (by rw [h.pre _ _ (by simp; omega)]; exact h1) (by rw [h.pre _ _ (by simp; omega)]; exact h2) (h.src h3 (by omega)), Nat.add_assoc]
          exact h.blk _ hb
termination_by x => L - x
decreasing_by all_goals omega
theorem Cp.esc (h : Cp s b A C L) {x y : Nat} {t : List UInt8} (he : esc s (A + x) = some (t, A + y)) (hy : y ≤ L) : ∃ t', Go.Proofs.YtibgigffedejpaaGreatDoor.esc b (C + x) = some (t', C + y) := by
  have hA := h.fs
  have hB := h.fb
  have hl := esc_len he
  have hc : A + x < s.size := by omega
  have hx : x < L := by omega
  unfold Go.Proofs.YtibgigffedejpaaGreatDoor.esc at he
  rw [if_pos hc] at he
  cases hs : sign (bt s (A + x)) with
  | some c =>
    rw [hs] at he
    simp only [Option.some.injEq, Prod.mk.injEq] at he
    refine ⟨[c], ?_⟩
    rw [esc_sign (by omega) (by rw [h.eq _ hx]; exact hs)]
    congr 1; exact Prod.ext rfl (by simp only; omega)
  | none =>
    rw [hs] at he
    simp only at he
    split at he
    · rename_i hu
      simp only [Option.some.injEq, Prod.mk.injEq] at he
      have hq : ∀ k, k < 5 → bt b (C + x + k) = bt s (A + x + k) := fun k hk => by rw [Nat.add_assoc, h.eq _ (by omega), Nat.add_assoc]
      refine ⟨unit (hex4 b (C + x + 1)), ?_⟩
      rw [esc_u (by omega) (by rw [h.eq _ hx]; exact hs) (by rw [h.eq _ hx]; exact hu.1) (by omega) (fun k hk => ?_)]
      · congr 1; exact Prod.ext rfl (by simp only; omega)
      · rw [Nat.add_assoc (C + x), hq _ (by omega)]
        rcases k with _ | _ | _ | _ | k
        · exact hu.2.2.1
        · exact hu.2.2.2.1
        · exact hu.2.2.2.2.1
        · exact hu.2.2.2.2.2
        · omega
    · cases he
theorem Cp.txt (h : Cp s b A C L) : ∀ (x : Nat) (acc acc' t : List UInt8), txt s (A + x) acc = some (t, A + L) → ∃ t', Go.Proofs.YtibgigffedejpaaGreatDoor.txt b (C + x) acc' = some (t', C + L)
  | x, acc, acc', t, hb => by
    have hA := h.fs
    have hB := h.fb
    cases h3 : Go.Proofs.YtibgigffedejpaaGreatDoor.src s (A + x) with
    | none => rw [txt_none h3] at hb; cases hb
    | some q =>
      obtain ⟨c, k⟩ := q
      have hs := src_some h3
      by_cases hn : c = 10 ∨ c = 13
      · rw [txt_nl h3 hn] at hb; cases hb
      · by_cases h34 : c = 34
        · subst h34
          rw [txt_end h3] at hb
          simp only [Option.some.injEq, Prod.mk.injEq] at hb
          refine ⟨acc', ?_⟩
          rw [txt_end (h.src h3 (by omega))]
          congr 1; exact Prod.ext rfl (by simp only; omega)
        · by_cases h92 : c = 92
          · subst h92
            cases he : Go.Proofs.YtibgigffedejpaaGreatDoor.esc s (A + x + k) with
            | none => rw [txt_esc0 h3 he] at hb; cases hb
            | some q =>
              obtain ⟨t1, j⟩ := q
              have hl := esc_len he
              rw [txt_esc h3 he] at hb
              have hj := txt_le hb
              obtain ⟨y, rfl⟩ : ∃ y, j = A + y := ⟨j - A, by omega⟩
              obtain ⟨t2, he2⟩ := h.esc (x := x + k) (by rw [← Nat.add_assoc]; exact he) (show y ≤ L by omega)
              obtain ⟨t3, h3'⟩ := h.txt y (acc ++ t1) (acc' ++ t2) t hb
              refine ⟨t3, ?_⟩
              rw [txt_esc (h.src h3 (by omega)) (by rw [Nat.add_assoc]; exact he2)]
              exact h3'
          · rw [txt_on h3 (by omega) (by omega) h34 h92] at hb
            have hj := txt_le hb
            rw [Nat.add_assoc] at hb
            have hsb := h.src h3 (by omega)
            obtain ⟨t3, h3'⟩ := h.txt (x + k) _ (acc' ++ Go.Proofs.YtibgigffedejpaaGreatDoor.sub b (C + x) (C + x + k)) t hb
            refine ⟨t3, ?_⟩
            rw [txt_on hsb (by omega) (by omega) h34 h92, Nat.add_assoc]
            rw [Nat.add_assoc] at h3'
            exact h3'
termination_by x => L - x
decreasing_by all_goals omega
end
/-- The first byte of a token. -/
def firstB (c : Nat) : Bool := isPunct c || isLetter c || isDigit c || c == 46 || c == 45 || c == 34
theorem pre_head {s : ByteArray} {i : Nat} {c : UInt8} {p : List UInt8} (h : pre s i (c :: p) = true) : bt s i = c.toNat := by
  rw [pre_cons] at h
  simp only [Bool.and_eq_true, beq_iff_eq] at h
  exact h.1.2
theorem tok_head {s : ByteArray} {i j k : Nat} (h : tok s i = .ok (k, j)) : firstB (bt s i) = true := by
  unfold tok at h
  split at h
  · rename_i hp; rw [pre_head hp]; rfl
  · split at h
    · rename_i h1; unfold firstB; rw [h1]; rfl
    · split at h
      · rename_i h1; unfold firstB; rw [h1]; simp
      · split at h
        · rename_i h1
          unfold firstB
          rcases h1 with h1 | h1 <;> rw [h1] <;> simp
        · split at h
          · rename_i hp; rw [pre_head hp]; rfl
          · split at h
            · rename_i h1; rw [h1]; rfl
            · cases h
end Go.Proofs.YtibgigffedejpaaGreatDoor
namespace Go.Proofs.YtibgigffedejpaaGreatDoor
set_option linter.unusedVariables false
set_option linter.unusedSimpArgs false
set_option linter.unusedVariables false
set_option linter.unusedSimpArgs false

theorem first_not {c : Nat} (h : firstB c = true) (hc : c < 256) : isIgn c = false ∧ c ≠ 239 ∧ c ≠ 35 := by
  have : ∀ c, c < 256 → firstB c = true → isIgn c = false ∧ c ≠ 239 ∧ c ≠ 35 := by decide +kernel
  exact this c hc h
theorem isPunct_46 : isPunct 46 = false := by decide
theorem letter_more {c : Nat} (h : isLetter c = true) : isName c = true := by unfold isName; rw [h]; rfl
theorem tok_cp {s b : ByteArray} {A C L k : Nat} (h : Cp s b A C L) (ht : tok s A = .ok (k, A + L)) (hL : 0 < L) (hp : isPunct (bt s A) = true ∨ stopB (bt b (C + L)) = true) : tok b C = .ok (k, C + L) := by
  have hA := h.fs
  have hB := h.fb
  have e0 : bt b C = bt s A := h.eq 0 hL
  unfold tok at ht
  by_cases h1 : pre s A [46, 46, 46] = true
  · rw [if_pos h1] at ht
    simp only [Except.ok.injEq, Prod.mk.injEq] at ht
    have : pre b C [46, 46, 46] = true := by rw [← h1]; exact h.pre _ 0 (by simp; omega)
    unfold tok
    rw [if_pos this]
    congr 1; exact Prod.ext ht.1 (by simp only; omega)
  · rw [if_neg h1] at ht
    have n46 : bt s A ≠ 46 := by
      intro h46
      rw [h46] at ht
      rw [if_neg (by decide), if_neg (by decide), if_neg (by decide), if_neg (fun hq => by have := pre_head hq; rw [h46] at this; exact absurd this (by decide)), if_neg (by decide)] at ht
      cases ht
    have h1' : ¬ pre b C [46, 46, 46] = true := fun hq => by
      have := pre_head hq; rw [e0] at this; exact n46 this
    unfold tok
    rw [if_neg h1', e0]
    by_cases h2 : isPunct (bt s A) = true
    · rw [if_pos h2] at ht ⊢
      simp only [Except.ok.injEq, Prod.mk.injEq] at ht
      congr 1; exact Prod.ext ht.1 (by simp only; omega)
    · rw [if_neg h2] at ht ⊢
      have hs : stopB (bt b (C + L)) = true := hp.resolve_left h2
      by_cases h3 : isLetter (bt s A) = true
      · rw [if_pos h3] at ht ⊢
        simp only [Except.ok.injEq, Prod.mk.injEq] at ht
        have := h.run (p := isName) (stop_name hs) (runN isName s A) 0 rfl (by omega)
        rw [Nat.add_zero] at this
        rw [this]
        congr 1; exact Prod.ext ht.1 (by simp only; omega)
      · rw [if_neg h3] at ht ⊢
        by_cases h4 : bt s A = 45 ∨ isDigit (bt s A) = true
        · rw [if_pos h4] at ht ⊢
          split at ht
          · cases ht
          · rename_i j k' hn
            simp only [Except.ok.injEq, Prod.mk.injEq] at ht
            obtain ⟨rfl, rfl⟩ := ht
            rw [h.num hs hn]
        · rw [if_neg h4] at ht ⊢
          by_cases h5 : pre s A [34, 34, 34] = true
          · rw [if_pos h5] at ht
            have h6 := pre_size h5
            simp at h6
            split at ht
            · cases ht
            · rename_i j hn
              simp only [Except.ok.injEq, Prod.mk.injEq] at ht
              obtain ⟨rfl, rfl⟩ := ht
              have h7 := blkE_3le hn
              rw [if_pos (by rw [← h5]; exact h.pre _ 0 (by simp; omega)), h.blk 3 hn]
          · rw [if_neg h5] at ht
            by_cases h6 : bt s A = 34
            · rw [if_pos h6] at ht
              split at ht
              · cases ht
              · rename_i t j hn
                simp only [Except.ok.injEq, Prod.mk.injEq] at ht
                obtain ⟨rfl, rfl⟩ := ht
                have hj := txt_le hn
                have h5' : ¬ pre b C [34, 34, 34] = true := by
                  by_cases hl : 3 ≤ L
                  · rw [show pre b C [34, 34, 34] = pre s A [34, 34, 34] from h.pre _ 0 (by simp; omega)]; exact h5
                  · intro hq
                    have hq0 := hq
                    rw [pre_cons, pre_cons, pre_cons] at hq
                    simp only [Bool.and_eq_true, beq_iff_eq] at hq
                    by_cases hl2 : L = 2
                    · subst hl2
                      have := hq.2.2.1.2
                      rw [Nat.add_assoc] at this
                      rw [this] at hs
                      exact absurd hs (by decide)
                    · have hl1 : L = 1 := by omega
                      subst hl1
                      rw [hq.2.1.2] at hs
                      exact absurd hs (by decide)
                rw [if_neg h5', if_pos h6]
                obtain ⟨t', ht'⟩ := h.txt 1 [] [] t hn
                rw [ht']
            · rw [if_neg h6] at ht
              cases ht
end Go.Proofs.YtibgigffedejpaaGreatDoor
namespace Go.Proofs.YtibgigffedejpaaGreatDoor
set_option linter.unusedVariables false
set_option linter.unusedSimpArgs false
set_option linter.unusedVariables false
set_option linter.unusedSimpArgs false

/-- What stands in b from p on. -/
def DB (b : ByteArray) (p : Nat) (l : List UInt8) : Prop := b.data.toList.drop p = l
theorem DB.cons {b : ByteArray} {p : Nat} {c : UInt8} {l : List UInt8} (h : DB b p (c :: l)) : p < b.size ∧ bt b p = c.toNat ∧ DB b (p + 1) l := by
  unfold DB at h ⊢
  have hp : p < b.size := by
    refine Nat.lt_of_not_le fun hl => ?_
    rw [List.drop_eq_nil_of_le (by rw [← Lib.size_eq]; exact hl)] at h
    cases h
  rw [drop_bt b p hp] at h
  simp only [List.cons.injEq] at h
  refine ⟨hp, ?_, h.2⟩
  rw [← h.1, bt_back]
theorem DB.nil {b : ByteArray} {p : Nat} (h : DB b p []) : b.size ≤ p := by
  unfold DB at h
  rw [List.drop_eq_nil_iff, ← Lib.size_eq] at h
  exact h
theorem sub_succ (s : ByteArray) (i L : Nat) (h : i < s.size) : sub s i (i + (L + 1)) = (bt s i).toUInt8 :: sub s (i + 1) (i + 1 + L) := by
  unfold sub
  rw [drop_bt s i h, show i + (L + 1) - i = L + 1 by omega, show i + 1 + L - (i + 1) = L by omega, List.take_succ_cons]
theorem sub_zero (s : ByteArray) (i : Nat) : sub s i (i + 0) = [] := by unfold sub; simp
theorem DB.sub {s b : ByteArray} {l : List UInt8} : ∀ (L i p : Nat), p ≤ b.size → i + L ≤ s.size → DB b p (sub s i (i + L) ++ l) → Cp s b i p L ∧ DB b (p + L) l
  | 0, i, p, hp, hi, h => ⟨⟨hi, hp, fun x hx => absurd hx (Nat.not_lt_zero x)⟩, by rw [sub_zero] at h; exact h⟩
  | L + 1, i, p, hp, hi, h => by
    rw [sub_succ s i L (by omega), List.cons_append] at h
    obtain ⟨h1, h2, h3⟩ := h.cons
    obtain ⟨hc, hd⟩ := DB.sub L (i + 1) (p + 1) h1 (by omega) h3
    rw [bt_back] at h2
    refine ⟨⟨hi, by have := hc.fb; omega, fun x hx => ?_⟩, by rw [show p + (L + 1) = p + 1 + L by omega]; exact hd⟩
    cases x with
    | zero => exact h2
    | succ x => have := hc.eq x (by omega); rw [show p + (x + 1) = p + 1 + x by omega, show i + (x + 1) = i + 1 + x by omega]; exact this
theorem Cp.subs {s b : ByteArray} : ∀ (L A C : Nat), Cp s b A C L → Go.Proofs.YtibgigffedejpaaGreatDoor.sub b C (C + L) = Go.Proofs.YtibgigffedejpaaGreatDoor.sub s A (A + L)
  | 0, A, C, h => by rw [sub_zero, sub_zero]
  | L + 1, A, C, h => by
    have h1 := h.fs
    have h2 := h.fb
    rw [sub_succ s A L (by omega), sub_succ b C L (by omega), show bt b C = bt s A from h.eq 0 (by omega), Cp.subs L (A + 1) (C + 1) (h.sub 1 (by omega))]
theorem Cp.text {s b : ByteArray} {A C L : Nat} (h : Cp s b A C L) : b.extract C (C + L) = s.extract A (A + L) := by
  refine ByteArray.ext (Array.ext' ?_)
  rw [sub_ext b C _ h.fb, sub_ext s A _ h.fs, Cp.subs L A C h]

/-! ### What is ignored -/
theorem src_ascii {b : ByteArray} {p : Nat} (hp : p < b.size) (h1 : 32 ≤ bt b p) (h2 : bt b p < 128) : src b p = some (bt b p, 1) := by
  have hd : dec b p = (bt b p, 1) := by unfold dec; unfold Lib.decodeN; rw [if_pos h2]
  have hr : rune b p = (bt b p, 1) := by
    unfold rune
    rw [if_pos hp, hd, if_neg (by simp only; omega)]
  unfold src
  rw [hr, if_neg (by simp only; omega)]
theorem ign_first {b : ByteArray} {p : Nat} (hp : p < b.size) (h : firstB (bt b p) = true) : ign b p = .ok p := by
  have h1 := first_not h (bt_lt b p)
  refine ign_4 hp h1.1 ?_ h1.2.2
  cases hq : pre b p [239, 187, 191] with
  | false => rfl
  | true => exact absurd (pre_head hq) h1.2.1
theorem ign_sep {b : ByteArray} {p g : Nat} {l : List UInt8} (hg : g < 4) (h : DB b p ((sepT g).data.toList ++ l)) : ign b p = ign b (p + (sepT g).size) ∧ DB b (p + (sepT g).size) l ∧ p + (sepT g).size ≤ b.size ∧ stopB (bt b p) = true := by
  obtain rfl | rfl | rfl | rfl : g = 0 ∨ g = 1 ∨ g = 2 ∨ g = 3 := by omega
  · obtain ⟨h1, h2, h3⟩ := (show DB b p (32 :: l) from h).cons
    exact ⟨ign_1 h1 (by rw [h2]; rfl), h3, h1, by rw [h2]; rfl⟩
  · obtain ⟨h1, h2, h3⟩ := (show DB b p (44 :: l) from h).cons
    exact ⟨ign_1 h1 (by rw [h2]; rfl), h3, h1, by rw [h2]; rfl⟩
  · obtain ⟨h1, h2, h3⟩ := (show DB b p (35 :: 120 :: 10 :: l) from h).cons
    obtain ⟨h4, h5, h6⟩ := h3.cons
    obtain ⟨h7, h8, h9⟩ := h6.cons
    refine ⟨?_, h9, h7, by rw [h2]; rfl⟩
    have e35 : (35 : UInt8).toNat = 35 := rfl
    have e120 : (120 : UInt8).toNat = 120 := rfl
    have e10 : (10 : UInt8).toNat = 10 := rfl
    rw [e35] at h2
    rw [e120] at h5
    rw [e10] at h8
    have hc : com b p = .ok (p + 2) := by
      rw [com_on (by omega) (src_ascii h1 (by omega) (by omega)), com_on (by omega) (src_ascii h4 (by omega) (by omega)), com_out (by omega)]
    have hq : pre b p [239, 187, 191] = false := by
      cases hq : pre b p [239, 187, 191] with
      | false => rfl
      | true => have := pre_head hq; rw [h2] at this; exact absurd this (by decide)
    rw [ign_3o h1 (by rw [h2]; rfl) hq h2 hc, ign_1 (i := p + 2) h7 (by rw [show p + 2 = p + 1 + 1 from rfl, h8]; rfl)]
    rfl
  · obtain ⟨h1, h2, h3⟩ := (show DB b p (9 :: 13 :: 10 :: l) from h).cons
    obtain ⟨h4, h5, h6⟩ := h3.cons
    obtain ⟨h7, h8, h9⟩ := h6.cons
    refine ⟨?_, h9, h7, by rw [h2]; rfl⟩
    rw [ign_1 h1 (by rw [h2]; rfl), ign_1 h4 (by rw [h5]; rfl), ign_1 h7 (by rw [h8]; rfl)]
    rfl
/-- The keys in the text with the gaps. -/
def shK : Nat → List (Nat × Nat × Nat) → List Nat → List (Nat × Nat × Nat)
  | p, (k, i, j) :: ks, g :: gs => (k, p + (sepT g).size, p + (sepT g).size + (j - i)) :: shK (p + (sepT g).size + (j - i)) ks gs
  | _, _, _ => []
theorem gap_stop {s b : ByteArray} {p : Nat} : ∀ {ks : List (Nat × Nat × Nat)} {gs : List Nat}, (∀ g ∈ gs, g < 4) → DB b p (gapT s ks gs) → stopB (bt b p) = true
  | (k, i, j) :: ks, g :: gs, hg, h => (ign_sep (hg g (by simp)) h).2.2.2
  | [], gs, hg, h => by rw [bt_out b p (DB.nil (by cases gs <;> exact h))]; rfl
  | (k, i, j) :: ks, [], hg, h => by rw [bt_out b p (DB.nil h)]; rfl
/-- A lexer's turn that goes well. -/
theorem lx_inv {s : ByteArray} {i n : Nat} {ks : List (Nat × Nat × Nat)} (h : lx s i n = (ks, none)) (hi : i ≤ s.size) :
    (ks = [] ∧ ∃ j, ign s i = .ok j ∧ s.size ≤ j) ∨ ∃ k j q ks', ks = (k, j, q) :: ks' ∧ ign s i = .ok j ∧ j < s.size ∧ n < 2048 ∧ tok s j = .ok (k, q) ∧ lx s q (n + 1) = (ks', none) := by
  cases h1 : ign s i with
  | error p => rw [lx_ign h1] at h; cases h
  | ok j =>
    by_cases hj : j < s.size
    · by_cases hn : n < 2048
      · cases ht : tok s j with
        | error e => rw [lx_err h1 hj hn ht] at h; cases h
        | ok q =>
          obtain ⟨k, q⟩ := q
          rw [lx_tok h1 hi hj hn ht] at h
          simp only [Prod.mk.injEq] at h
          exact .inr ⟨k, j, q, _, h.1.symm, rfl, hj, hn, ht, Prod.ext rfl h.2⟩
      · rw [lx_many h1 hj hn] at h; cases h
    · rw [lx_end h1 hj] at h
      simp only [Prod.mk.injEq, and_true] at h
      exact .inl ⟨h.symm, j, rfl, Nat.le_of_not_lt hj⟩
theorem lx_keys {s : ByteArray} : ∀ {ks : List (Nat × Nat × Nat)} {i n : Nat}, lx s i n = (ks, none) → i ≤ s.size → ks.length + n ≤ max n 2048 ∧ ∀ x ∈ ks, x.2.1 ≤ x.2.2 ∧ x.2.2 ≤ s.size
  | [], i, n, h, hi => ⟨by simp; omega, by simp⟩
  | x :: ks, i, n, h, hi => by
    rcases lx_inv h hi with ⟨hk, _⟩ | ⟨k, j, q, ks', hk, h1, h2, h3, h4, h5⟩
    · cases hk
    · cases hk
      have := tok_lt h4 h2
      have h6 := lx_keys h5 this.2
      refine ⟨by simp only [List.length_cons]; omega, fun y hy => ?_⟩
      rcases List.mem_cons.1 hy with rfl | hy
      · exact ⟨by simp only; omega, this.2⟩
      · exact h6.2 y hy
theorem lx_gap {s b : ByteArray} : ∀ {ks : List (Nat × Nat × Nat)} {gs : List Nat} {i n p : Nat}, lx s i n = (ks, none) → i ≤ s.size → gs.length = ks.length → (∀ g ∈ gs, g < 4) → p ≤ b.size → DB b p (gapT s ks gs) →
    lx b p n = (shK p ks gs, none) ∧ (shK p ks gs).map (fun x => (x.1, b.extract x.2.1 x.2.2)) = ks.map (fun x => (x.1, s.extract x.2.1 x.2.2))
  | [], gs, i, n, p, h, hi, hl, hg, hp, hd => by
    have hs : shK p [] gs = [] := by cases gs <;> rfl
    rw [hs]
    have := (show DB b p [] by cases gs <;> exact hd).nil
    exact ⟨lx_end (ign_out (by omega)) (by omega), rfl⟩
  | x :: ks, [], i, n, p, h, hi, hl, hg, hp, hd => by simp at hl
  | x :: ks, g :: gs, i, n, p, h, hi, hl, hg, hp, hd => by
    rcases lx_inv h hi with ⟨hk, _⟩ | ⟨k, j, q, ks', hk, h1, h2, h3, h4, h5⟩
    · cases hk
    · cases hk
      have ht := tok_lt h4 h2
      obtain ⟨e1, e2, e3, e4⟩ := ign_sep (hg g (by simp)) (show DB b p ((sepT g).data.toList ++ ((s.extract j q).data.toList ++ gapT s ks gs)) from hd)
      obtain ⟨L, rfl⟩ : ∃ L, q = j + L := ⟨q - j, by omega⟩
      rw [sub_ext s j _ ht.2] at e2
      obtain ⟨hc, hd2⟩ := DB.sub L j _ e3 ht.2 e2
      have hs := gap_stop (fun g hg' => hg g (by simp [hg'])) hd2
      have htb := tok_cp hc h4 (by omega) (.inr hs)
      have hf := hc.eq 0 (by omega)
      have hlt : p + (sepT g).size < b.size := by have := hc.fb; omega
      have hi2 : ign b p = .ok (p + (sepT g).size) := by
        rw [e1]
        refine ign_first hlt ?_
        rw [show bt b (p + (sepT g).size) = bt s j from hf]
        exact tok_head h4
      obtain ⟨r1, r2⟩ := lx_gap (gs := gs) h5 ht.2 (by simpa using hl) (fun g hg' => hg g (by simp [hg'])) hc.fb hd2
      rw [shK, show j + L - j = L by omega]
      rw [lx_tok hi2 hp hlt h3 htb, r1]
      refine ⟨rfl, ?_⟩
      rw [List.map_cons, List.map_cons, r2, hc.text]
end Go.Proofs.YtibgigffedejpaaGreatDoor
namespace Go.Proofs.YtibgigffedejpaaGreatDoor
set_option linter.unusedVariables false
set_option linter.unusedSimpArgs false
set_option linter.unusedVariables false
set_option linter.unusedSimpArgs false

/-! ### Where a token stands is nothing to what the parser finds -/
def strip (x : Tk) : Tk := ⟨x.k, 0, 0, x.t⟩
/-- Both are wrong, or both say the same. -/
def EqO {α : Type} (r r' : Except Nat α) : Prop := (∃ a a', r = .error a ∧ r' = .error a') ∨ ∃ x, r = .ok x ∧ r' = .ok x
theorem EqO.ok {α : Type} (x : α) : EqO (.ok x) (.ok x) := .inr ⟨x, rfl, rfl⟩
theorem EqO.err {α : Type} (a a' : Nat) : EqO (α := α) (.error a) (.error a') := .inl ⟨a, a', rfl, rfl⟩
section
variable {ts us : List Tk}
theorem st_get (h : ts.map strip = us.map strip) (i : Nat) : (ts[i]?).map strip = (us[i]?).map strip := by rw [← List.getElem?_map, ← List.getElem?_map, h]
theorem st_len (h : ts.map strip = us.map strip) : ts.length = us.length := by have := congrArg List.length h; simpa using this
theorem strip_eq {x y : Tk} (h : strip x = strip y) : x.k = y.k ∧ x.t = y.t := by unfold strip at h; simp only [Tk.mk.injEq, true_and] at h; exact h
theorem skipT_st (h : ts.map strip = us.map strip) (kind : Int) (s : ByteArray) (i : Nat) : skipT ts kind s i = skipT us kind s i := by
  have := st_get h i
  unfold skipT
  cases h1 : ts[i]? with
  | none => cases h2 : us[i]? with
    | none => rfl
    | some y => rw [h1, h2] at this; cases this
  | some x => cases h2 : us[i]? with
    | none => rw [h1, h2] at this; cases this
    | some y =>
      rw [h1, h2] at this
      simp only [Option.map_some, Option.some.injEq] at this
      have := strip_eq this
      simp only [this.1, this.2]
theorem nmT_st (h : ts.map strip = us.map strip) (no : List ByteArray) (i : Nat) : EqO (nmT ts no i) (nmT us no i) := by
  have := st_get h i
  unfold nmT
  cases h1 : ts[i]? with
  | none => cases h2 : us[i]? with
    | none => exact .err _ _
    | some y => rw [h1, h2] at this; cases this
  | some x => cases h2 : us[i]? with
    | none => rw [h1, h2] at this; cases this
    | some y =>
      rw [h1, h2] at this
      simp only [Option.map_some, Option.some.injEq] at this
      have := strip_eq this
      simp only [this.1, this.2]
      split
      · exact .ok _
      · exact .err _ _
theorem takeT_st (h : ts.map strip = us.map strip) : ∀ (l : List ByteArray) (i : Nat), EqO (takeT ts l i) (takeT us l i)
  | [], i => .ok _
  | s :: l, i => by
    rw [takeT, takeT, skipT_st h]
    split
    · exact takeT_st h l _
    · exact .err _ _
theorem bangT_st (h : ts.map strip = us.map strip) (i : Nat) : bangT ts i = bangT us i := by unfold bangT; rw [skipT_st h]
theorem kindT_st (h : ts.map strip = us.map strip) (i : Nat) : EqO (kindT ts i) (kindT us i) := by
  unfold kindT
  rw [skipT_st h]
  unfold kindA
  generalize skipT us 0 ⟨#[91]⟩ i = lb
  rcases nmT_st h [] (if lb = true then i + 1 else i) with ⟨a, a', e1, e2⟩ | ⟨⟨nm, j⟩, e1, e2⟩
  · rw [e1, e2]; exact .err _ _
  · rw [e1, e2]
    simp only
    rw [bangT_st h j]
    cases lb with
    | true =>
      rw [if_pos rfl, if_pos rfl]
      rcases takeT_st h [⟨#[93]⟩] (bangT us j).2 with ⟨a, a', e1, e2⟩ | ⟨⟨u, q⟩, e1, e2⟩
      · rw [e1, e2]; exact .err _ _
      · rw [e1, e2]; simp only; rw [bangT_st h q]; exact .ok _
    | false => rw [if_neg (by decide), if_neg (by decide)]; exact .ok _
theorem marksT_st (h : ts.map strip = us.map strip) : ∀ (m : Nat) (f : Fd) (i : Nat), EqO (marksT ts m f i) (marksT us m f i)
  | 0, f, i => .ok _
  | m + 1, f, i => by
    rw [marksT, marksT, skipT_st h, skipT_st h]
    split
    · split
      · exact marksT_st h m _ _
      · split
        · rcases takeT_st h tInv (i + 1) with ⟨a, a', e1, e2⟩ | ⟨⟨u, q⟩, e1, e2⟩
          · rw [e1, e2]; exact .err _ _
          · rw [e1, e2]
            simp only
            rcases nmT_st h [] q with ⟨a, a', e1, e2⟩ | ⟨⟨nm, j⟩, e1, e2⟩
            · rw [e1, e2]; exact .err _ _
            · rw [e1, e2]
              simp only
              rcases takeT_st h [⟨#[41]⟩] j with ⟨a, a', e1, e2⟩ | ⟨⟨u, z⟩, e1, e2⟩
              · rw [e1, e2]; exact .err _ _
              · rw [e1, e2]; exact marksT_st h m _ _
        · exact .err _ _
    · exact .ok _
theorem fieldT_st (h : ts.map strip = us.map strip) (i : Nat) : EqO (fieldT ts i) (fieldT us i) := by
  unfold fieldT
  rcases nmT_st h [] i with ⟨a, a', e1, e2⟩ | ⟨⟨nm, j⟩, e1, e2⟩
  · rw [e1, e2]; exact .err _ _
  · rw [e1, e2]
    simp only
    rcases takeT_st h [⟨#[58]⟩] j with ⟨a, a', e1, e2⟩ | ⟨⟨u, q⟩, e1, e2⟩
    · rw [e1, e2]; exact .err _ _
    · rw [e1, e2]
      simp only
      rcases kindT_st h q with ⟨a, a', e1, e2⟩ | ⟨⟨rf, z⟩, e1, e2⟩
      · rw [e1, e2]; exact .err _ _
      · rw [e1, e2, st_len h]; exact marksT_st h _ _ _
theorem manyT_st {α : Type} {one one' : Nat → Except Nat (α × Nat)} (h : ts.map strip = us.map strip) (ho : ∀ i, EqO (one i) (one' i)) : ∀ (m : Nat) (l : List α) (i : Nat), EqO (manyT ts one m l i) (manyT us one' m l i)
  | 0, l, i => .ok _
  | m + 1, l, i => by
    rw [manyT, manyT, skipT_st h]
    split
    · exact .ok _
    · rcases ho i with ⟨a, a', e1, e2⟩ | ⟨⟨x, j⟩, e1, e2⟩
      · rw [e1, e2]; exact .err _ _
      · rw [e1, e2]; exact manyT_st h ho m _ _
theorem someT_st {α : Type} {one one' : Nat → Except Nat (α × Nat)} (h : ts.map strip = us.map strip) (ho : ∀ i, EqO (one i) (one' i)) (i : Nat) : EqO (someT ts one i) (someT us one' i) := by
  unfold someT
  rcases takeT_st h [⟨#[123]⟩] i with ⟨a, a', e1, e2⟩ | ⟨⟨u, q⟩, e1, e2⟩
  · rw [e1, e2]; exact .err _ _
  · rw [e1, e2]
    simp only
    rcases ho q with ⟨a, a', e1, e2⟩ | ⟨⟨x, j⟩, e1, e2⟩
    · rw [e1, e2]; exact .err _ _
    · rw [e1, e2, st_len h]; exact manyT_st h ho _ _ _
theorem defT_st (h : ts.map strip = us.map strip) (s : Sc) (i : Nat) : EqO (defT ts s i) (defT us s i) := by
  unfold defT
  rw [skipT_st h]
  split
  · rcases nmT_st h [] (i + 1) with ⟨a, a', e1, e2⟩ | ⟨⟨nm, j⟩, e1, e2⟩
    · rw [e1, e2]; exact .err _ _
    · rw [e1, e2]
      simp only
      rcases someT_st h (fieldT_st h) j with ⟨a, a', e1, e2⟩ | ⟨⟨l, q⟩, e1, e2⟩
      · rw [e1, e2]; exact .err _ _
      · rw [e1, e2]; exact .ok _
  · rcases takeT_st h [tEnum] i with ⟨a, a', e1, e2⟩ | ⟨⟨u, z⟩, e1, e2⟩
    · rw [e1, e2]; exact .err _ _
    · rw [e1, e2]
      simp only
      rcases nmT_st h [] z with ⟨a, a', e1, e2⟩ | ⟨⟨nm, j⟩, e1, e2⟩
      · rw [e1, e2]; exact .err _ _
      · rw [e1, e2]
        simp only
        rcases someT_st (one := wordT ts) (one' := wordT us) h (fun i => nmT_st h tNot i) j with ⟨a, a', e1, e2⟩ | ⟨⟨l, q⟩, e1, e2⟩
        · rw [e1, e2]; exact .err _ _
        · rw [e1, e2]; exact .ok _
theorem loopT_st (h : ts.map strip = us.map strip) : ∀ (m : Nat) (f : Bool) (s : Sc) (i : Nat), EqO (loopT ts m f s i) (loopT us m f s i)
  | 0, f, s, i => .ok _
  | m + 1, f, s, i => by
    rw [loopT, loopT, st_len h]
    split
    · rcases defT_st h s i with ⟨a, a', e1, e2⟩ | ⟨⟨x, j⟩, e1, e2⟩
      · rw [e1, e2]; exact .err _ _
      · rw [e1, e2]; exact loopT_st h m _ _ _
    · exact .ok _
theorem readT_st (h : ts.map strip = us.map strip) : EqO (readT ts) (readT us) := by
  unfold readT
  rw [st_len h]
  exact loopT_st h _ _ _ _
end

/-! ### Places -/
section
variable {ts : List Tk} {N : Nat}
/-- What is wrong is at a place up to N. -/
def AtMost {α : Type} (N : Nat) (r : Except Nat α) : Prop := ∀ a, r = .error a → a ≤ N
theorem AtMost.ok {α : Type} (x : α) : AtMost N (.ok x) := fun a h => by cases h
theorem AtMost.err {α : Type} {a : Nat} (h : a ≤ N) : AtMost (α := α) N (.error a) := fun b hb => by cases hb; exact h
theorem AtMost.of {α : Type} {r : Except Nat α} {a : Nat} (h : AtMost N r) (e : r = .error a) : a ≤ N := h a e
theorem atT_le (h : ∀ x ∈ ts, x.i ≤ N) (i : Nat) : atT ts i ≤ N := by
  unfold atT
  cases h1 : ts[i]? with
  | none => exact Nat.zero_le _
  | some x => exact h x (List.mem_of_getElem? h1)
theorem nmT_at (h : ∀ x ∈ ts, x.i ≤ N) (no : List ByteArray) (i : Nat) : AtMost N (nmT ts no i) := by
  unfold nmT
  cases h1 : ts[i]? with
  | none => exact .err (Nat.zero_le _)
  | some x =>
    simp only
    split
    · exact .ok _
    · exact .err (h x (List.mem_of_getElem? h1))
theorem takeT_at (h : ∀ x ∈ ts, x.i ≤ N) : ∀ (l : List ByteArray) (i : Nat), AtMost N (takeT ts l i)
  | [], i => .ok _
  | s :: l, i => by
    rw [takeT]
    split
    · exact takeT_at h l _
    · exact .err (atT_le h i)
theorem kindT_at (h : ∀ x ∈ ts, x.i ≤ N) (i : Nat) : AtMost N (kindT ts i) := by
  unfold kindT kindA
  split
  · rename_i e; exact .err ((nmT_at h _ _).of e)
  · split
    · split
      · rename_i e; exact .err ((takeT_at h _ _).of e)
      · exact .ok _
    · exact .ok _
theorem marksT_at (h : ∀ x ∈ ts, x.i ≤ N) : ∀ (m : Nat) (f : Fd) (i : Nat), AtMost N (marksT ts m f i)
  | 0, f, i => .ok _
  | m + 1, f, i => by
    rw [marksT]
    split
    · split
      · exact marksT_at h m _ _
      · split
        · split
          · rename_i e; exact .err ((takeT_at h _ _).of e)
          · split
            · rename_i e; exact .err ((nmT_at h _ _).of e)
            · split
              · rename_i e; exact .err ((takeT_at h _ _).of e)
              · exact marksT_at h m _ _
        · exact .err (atT_le h _)
    · exact .ok _
theorem fieldT_at (h : ∀ x ∈ ts, x.i ≤ N) (i : Nat) : AtMost N (fieldT ts i) := by
  unfold fieldT
  split
  · rename_i e; exact .err ((nmT_at h _ _).of e)
  · split
    · rename_i e; exact .err ((takeT_at h _ _).of e)
    · split
      · rename_i e; exact .err ((kindT_at h _).of e)
      · exact marksT_at h _ _ _
theorem manyT_at {α : Type} {one : Nat → Except Nat (α × Nat)} (ho : ∀ i, AtMost N (one i)) : ∀ (m : Nat) (l : List α) (i : Nat), AtMost N (manyT ts one m l i)
  | 0, l, i => .ok _
  | m + 1, l, i => by
    rw [manyT]
    split
    · exact .ok _
    · split
      · rename_i e; exact .err ((ho _).of e)
      · exact manyT_at ho m _ _
theorem someT_at {α : Type} {one : Nat → Except Nat (α × Nat)} (h : ∀ x ∈ ts, x.i ≤ N) (ho : ∀ i, AtMost N (one i)) (i : Nat) : AtMost N (someT ts one i) := by
  unfold someT
  split
  · rename_i e; exact .err ((takeT_at h _ _).of e)
  · split
    · rename_i e; exact .err ((ho _).of e)
    · exact manyT_at ho _ _ _
theorem defT_at (h : ∀ x ∈ ts, x.i ≤ N) (s : Sc) (i : Nat) : AtMost N (defT ts s i) := by
  unfold defT
  split
  · split
    · rename_i e; exact .err ((nmT_at h _ _).of e)
    · split
      · rename_i e; exact .err ((someT_at h (fieldT_at h) _).of e)
      · exact .ok _
  · split
    · rename_i e; exact .err ((takeT_at h _ _).of e)
    · split
      · rename_i e; exact .err ((nmT_at h _ _).of e)
      · split
        · rename_i e; exact .err ((someT_at h (fun i => nmT_at h tNot i) _).of e)
        · exact .ok _
theorem loopT_at (h : ∀ x ∈ ts, x.i ≤ N) : ∀ (m : Nat) (f : Bool) (s : Sc) (i : Nat), AtMost N (loopT ts m f s i)
  | 0, f, s, i => .ok _
  | m + 1, f, s, i => by
    rw [loopT]
    split
    · split
      · rename_i e; exact .err ((defT_at h _ _).of e)
      · exact loopT_at h m _ _ _
    · exact .ok _
end

/-! ### How many -/
theorem manyT_len {α : Type} {ts : List Tk} {one : Nat → Except Nat (α × Nat)} : ∀ {m : Nat} {l l' : List α} {i j : Nat}, manyT ts one m l i = .ok (l', j) → l'.length ≤ l.length + m
  | 0, l, l', i, j, h => by
    simp only [manyT, Except.ok.injEq, Prod.mk.injEq] at h
    rw [← h.1]; omega
  | m + 1, l, l', i, j, h => by
    rw [manyT] at h
    split at h
    · simp only [Except.ok.injEq, Prod.mk.injEq] at h
      rw [← h.1]; omega
    · split at h
      · cases h
      · have := manyT_len h
        simp only [List.length_append, List.length_cons, List.length_nil] at this
        omega
theorem someT_len {α : Type} {ts : List Tk} {one : Nat → Except Nat (α × Nat)} {i j : Nat} {l : List α} (h : someT ts one i = .ok (l, j)) : l.length ≤ ts.length + 1 := by
  unfold someT at h
  split at h
  · cases h
  · split at h
    · cases h
    · have := manyT_len h
      simp only [List.length_cons, List.length_nil] at this
      omega
/-- A schema of at most so much. -/
structure Few (n m : Nat) (s : Sc) : Prop where
  objs : s.objs.length ≤ n
  enums : s.enums.length ≤ n
  fields : ∀ o ∈ s.objs, o.fields.length ≤ m
  words : ∀ x ∈ s.enums, x.words.length ≤ m
theorem defT_few {ts : List Tk} {n : Nat} {s s' : Sc} {i j : Nat} (hf : Few n (ts.length + 1) s) (h : defT ts s i = .ok (s', j)) : Few (n + 1) (ts.length + 1) s' := by
  have h1 := hf.objs
  have h2 := hf.enums
  unfold defT at h
  split at h
  · split at h
    · cases h
    · split at h
      · cases h
      · rename_i l q hl
        simp only [Except.ok.injEq, Prod.mk.injEq] at h
        rw [← h.1]
        refine ⟨by simp; omega, by simp; omega, fun o ho => ?_, hf.words⟩
        rcases List.mem_append.1 ho with ho | ho
        · exact hf.fields o ho
        · obtain rfl := List.mem_singleton.1 ho
          exact someT_len hl
  · split at h
    · cases h
    · split at h
      · cases h
      · split at h
        · cases h
        · rename_i l q hl
          simp only [Except.ok.injEq, Prod.mk.injEq] at h
          rw [← h.1]
          refine ⟨by simp; omega, by simp; omega, hf.fields, fun o ho => ?_⟩
          rcases List.mem_append.1 ho with ho | ho
          · exact hf.words o ho
          · obtain rfl := List.mem_singleton.1 ho
            exact someT_len hl
theorem loopT_few {ts : List Tk} : ∀ {m n : Nat} {f : Bool} {s s' : Sc} {i : Nat}, Few n (ts.length + 1) s → loopT ts m f s i = .ok s' → Few (n + m) (ts.length + 1) s'
  | 0, n, f, s, s', i, hf, h => by
    simp only [loopT, Except.ok.injEq] at h
    rw [← h]; exact hf
  | m + 1, n, f, s, s', i, hf, h => by
    rw [loopT] at h
    split at h
    · split at h
      · cases h
      · rename_i s1 j hd
        have := loopT_few (m := m) (defT_few hf hd) h
        rw [show n + (m + 1) = n + 1 + m by omega]; exact this
    · simp only [Except.ok.injEq] at h
      rw [← h]
      exact ⟨by have := hf.objs; omega, by have := hf.enums; omega, hf.fields, hf.words⟩
end Go.Proofs.YtibgigffedejpaaGreatDoor
namespace Go.Proofs.YtibgigffedejpaaGreatDoor
set_option linter.unusedVariables false
set_option linter.unusedSimpArgs false
set_option linter.unusedVariables false
set_option linter.unusedSimpArgs false

theorem com_at {s : ByteArray} : ∀ {i p : Nat}, com s i = .error p → i ≤ s.size → p ≤ s.size
  | i, p, h, hi => by
    by_cases hc : i < s.size ∧ bt s i ≠ 10 ∧ bt s i ≠ 13
    · cases h3 : src s i with
      | none => rw [com_err hc h3] at h; simp only [Except.error.injEq] at h; omega
      | some q =>
        obtain ⟨c, k⟩ := q
        have hs := src_some h3
        rw [com_on hc h3] at h
        exact com_at h hs.2.2.2.2.2.1
    · rw [com_out hc] at h; cases h
termination_by i => s.size - i
theorem ign_at {s : ByteArray} : ∀ {i p : Nat}, ign s i = .error p → i ≤ s.size → p ≤ s.size
  | i, p, h, hi => by
    by_cases hc : i < s.size
    · cases h1 : isIgn (bt s i) with
      | true => rw [ign_1 hc h1] at h; exact ign_at h hc
      | false =>
        cases h2 : pre s i [239, 187, 191] with
        | true =>
          have hp := pre_size h2
          simp at hp
          rw [ign_2 hc h1 h2] at h; exact ign_at h (by omega)
        | false =>
          by_cases h3 : bt s i = 35
          · cases h4 : com s i with
            | error q => rw [ign_3e hc h1 h2 h3 h4] at h; simp only [Except.error.injEq] at h; have := com_at h4 hi; omega
            | ok q =>
              have h5 := com_lt h4 hc h3
              have h6 := com_le h4 hi
              rw [ign_3o hc h1 h2 h3 h4] at h
              exact ign_at h h6.2
          · rw [ign_4 hc h1 h2 h3] at h; cases h
    · rw [ign_out hc] at h; cases h
termination_by i => s.size - i
theorem lx_at {s : ByteArray} : ∀ {i n p : Nat} {e : Int}, (lx s i n).2 = some (p, e) → i ≤ s.size → p ≤ s.size
  | i, n, p, e, h, hi => by
    cases h1 : ign s i with
    | error q =>
      rw [lx_ign h1] at h
      simp only [Option.some.injEq, Prod.mk.injEq] at h
      have := ign_at h1 hi; omega
    | ok j =>
      by_cases hj : j < s.size
      · by_cases hn : n < 2048
        · cases ht : tok s j with
          | error er => rw [lx_err h1 hj hn ht] at h; simp only [Option.some.injEq, Prod.mk.injEq] at h; omega
          | ok q =>
            obtain ⟨k, q⟩ := q
            have h2 := ign_le h1 hi
            have h3 := tok_lt ht hj
            rw [lx_tok h1 hi hj hn ht] at h
            exact lx_at h h3.2
        · rw [lx_many h1 hj hn] at h; simp only [Option.some.injEq, Prod.mk.injEq] at h; omega
      · rw [lx_end h1 hj] at h; cases h
termination_by i => s.size - i
theorem toks_lx {s : ByteArray} {ks : List (Nat × Nat × Nat)} (h : toks s = (ks, none)) : s.size ≤ 16384 ∧ lx s 0 0 = (ks, none) := by
  unfold toks at h
  split at h
  · cases h
  · exact ⟨by omega, h⟩
theorem toks_mk {s : ByteArray} (h : s.size ≤ 16384) : toks s = lx s 0 0 := by unfold toks; rw [if_neg (by omega)]
theorem parseT_ok {s : ByteArray} {sc : Sc} (h : parseT s = .ok sc) : ∃ ks, toks s = (ks, none) ∧ readT (ks.map (keyTk s) ++ [endTk s.size]) = .ok sc := by
  unfold parseT at h
  obtain ⟨⟨ks, er⟩, ht⟩ : ∃ q, toks s = q := ⟨_, rfl⟩
  rw [ht] at h
  cases er with
  | some q => cases h
  | none =>
    simp only at h
    split at h
    · cases h
    · rename_i sc' hr
      simp only [Except.ok.injEq] at h
      subst h
      exact ⟨ks, ht, hr⟩
theorem parseT_mk {s : ByteArray} {ks : List (Nat × Nat × Nat)} (ht : toks s = (ks, none)) : parseT s = match readT (ks.map (keyTk s) ++ [endTk s.size]) with
    | .error a => .error (a, 80)
    | .ok sc => .ok sc := by unfold parseT; rw [ht]; rfl
/-- Texts of the same tokens. -/
theorem keys_st {s b : ByteArray} {ks ks' : List (Nat × Nat × Nat)} (h : ks'.map (fun x => (x.1, b.extract x.2.1 x.2.2)) = ks.map (fun x => (x.1, s.extract x.2.1 x.2.2))) : (ks'.map (keyTk b) ++ [endTk b.size]).map strip = (ks.map (keyTk s) ++ [endTk s.size]).map strip := by
  have hf : ∀ (u : ByteArray) (l : List (Nat × Nat × Nat)), (l.map (keyTk u)).map strip = (l.map (fun x => (x.1, u.extract x.2.1 x.2.2))).map (fun y => (⟨y.1, 0, 0, if y.1 = 4 then ⟨#[]⟩ else y.2⟩ : Tk)) := fun u l => by
    rw [List.map_map, List.map_map]; rfl
  rw [List.map_append, List.map_append, hf, hf, h]
  rfl
theorem parse_same {s b : ByteArray} {ks ks' : List (Nat × Nat × Nat)} (ht : toks s = (ks, none)) (hb : toks b = (ks', none)) (h : ks'.map (fun x => (x.1, b.extract x.2.1 x.2.2)) = ks.map (fun x => (x.1, s.extract x.2.1 x.2.2))) :
    (∃ p q e, parseT s = .error (p, e) ∧ parseT b = .error (q, e)) ∨ ∃ sc, parseT s = .ok sc ∧ parseT b = .ok sc := by
  rw [parseT_mk ht, parseT_mk hb]
  rcases readT_st (keys_st h) with ⟨a, a', e1, e2⟩ | ⟨sc, e1, e2⟩
  · rw [e1, e2]; exact .inl ⟨_, _, _, rfl, rfl⟩
  · rw [e1, e2]; exact .inr ⟨_, rfl, rfl⟩
theorem gap_same {s : ByteArray} {ks : List (Nat × Nat × Nat)} {gs : List Nat} (ht : toks s = (ks, none)) (hl : gs.length = ks.length) (hg : ∀ g ∈ gs, g < 4) (hz : (gapT s ks gs).length ≤ 16384) :
    (∃ p q e, parseT s = .error (p, e) ∧ parseT ⟨(gapT s ks gs).toArray⟩ = .error (q, e)) ∨ ∃ sc, parseT s = .ok sc ∧ parseT ⟨(gapT s ks gs).toArray⟩ = .ok sc := by
  have h0 := toks_lx ht
  have hs : (⟨(gapT s ks gs).toArray⟩ : ByteArray).size = (gapT s ks gs).length := by simp [ByteArray.size]
  obtain ⟨h1, h2⟩ := lx_gap (b := ⟨(gapT s ks gs).toArray⟩) (p := 0) h0.2 (Nat.zero_le _) hl hg (Nat.zero_le _) (by unfold DB; simp)
  exact parse_same ht (by rw [toks_mk (by omega), h1]) h2
theorem law_i (s : ByteArray) : LawI s where
  place := fun p e h => by
    unfold parseT at h
    obtain ⟨⟨ks, er⟩, ht⟩ : ∃ q, toks s = q := ⟨_, rfl⟩
    rw [ht] at h
    cases er with
    | some q =>
      simp only [Except.error.injEq] at h
      subst h
      unfold toks at ht
      split at ht
      · simp only [Prod.mk.injEq, Option.some.injEq] at ht; omega
      · exact lx_at (s := s) (i := 0) (n := 0) (e := e) (by rw [ht]) (Nat.zero_le _)
    | none =>
      simp only at h
      have h0 := toks_lx ht
      have hk := lx_keys h0.2 (Nat.zero_le _)
      split at h
      · rename_i a ha
        simp only [Except.error.injEq, Prod.mk.injEq] at h
        rw [← h.1]
        refine loopT_at (N := s.size) (fun x hx => ?_) _ _ _ _ a ha
        rcases List.mem_append.1 hx with hx | hx
        · obtain ⟨y, hy, rfl⟩ := List.mem_map.1 hx
          have := hk.2 y hy
          unfold keyTk; simp only; omega
        · obtain rfl := List.mem_singleton.1 hx
          unfold endTk; exact Nat.le_refl _
      · cases h
  keys := fun ks ht => by
    have h0 := toks_lx ht
    have hk := lx_keys h0.2 (Nat.zero_le _)
    exact ⟨h0.1, by have := hk.1; omega, hk.2⟩
  bad := fun ks gs p e ht hl hg hz hp => by
    rcases gap_same ht hl hg hz with ⟨p', q, e', h1, h2⟩ | ⟨sc, h1, h2⟩
    · rw [hp] at h1
      simp only [Except.error.injEq, Prod.mk.injEq] at h1
      exact ⟨q, by rw [h2, h1.2]⟩
    · rw [hp] at h1; cases h1
  good := fun ks gs sc ht hl hg hz hp => by
    rcases gap_same ht hl hg hz with ⟨p', q, e', h1, h2⟩ | ⟨sc', h1, h2⟩
    · rw [hp] at h1; cases h1
    · rw [hp] at h1
      simp only [Except.ok.injEq] at h1
      rw [h2, h1]
  count := fun sc hp => by
    obtain ⟨ks, ht, hr⟩ := parseT_ok hp
    have h0 := toks_lx ht
    have hk := (lx_keys h0.2 (Nat.zero_le _)).1
    have hf := loopT_few (n := 0) ⟨by simp, by simp, by simp, by simp⟩ hr
    have hl : (ks.map (keyTk s) ++ [endTk s.size]).length = ks.length + 1 := by simp
    rw [hl] at hf
    exact ⟨by have := hf.objs; omega, by have := hf.enums; omega, fun o ho => by have := hf.fields o ho; omega, fun o ho => by have := hf.words o ho; omega⟩
end Go.Proofs.YtibgigffedejpaaGreatDoor
