import Derived.Test.YtibgigffedejpaaGreatDoorWe
import Derived.Deep.AppendLies
import Derived.Laws.OwnMore
import Derived.Deep.RegionHeld3
import Derived.Deep.RegionLaw
import Derived.Deep.DrawnRows
/- What sdl's parser says, in plain words, over a row of tokens; the last one is nothing. -/
namespace Go.Proofs.YtibgigffedejpaaGreatDoor
set_option linter.unusedVariables false
set_option linter.unusedSimpArgs false
set_option linter.unusedVariables false
set_option linter.unusedSimpArgs false

/-- The kind of the only token that a text is; -1: it is none. -/
def oneT (s : ByteArray) : Int :=
  match toks s with
  | ([(k, i, j)], none) => if 0 < i ∨ j < s.size then -1 else k
  | _ => -1
def nmB (s : ByteArray) : Bool := oneT s == 1

def skipT (ts : List Tk) (kind : Int) (s : ByteArray) (i : Nat) : Bool :=
  match ts[i]? with
  | some x => ((x.k : Int) == kind) && decide (x.t = s)
  | none => false
def atT (ts : List Tk) (i : Nat) : Nat := match ts[i]? with | some x => x.i | none => 0
def kindOf (s : ByteArray) : Int := if nmB s then 1 else 0
def takeT (ts : List Tk) : List ByteArray → Nat → Except Nat (Unit × Nat)
  | [], i => .ok ((), i)
  | s :: l, i => if skipT ts (kindOf s) s i then takeT ts l (i + 1) else .error (atT ts i)
def nmT (ts : List Tk) (no : List ByteArray) (i : Nat) : Except Nat (ByteArray × Nat) :=
  match ts[i]? with
  | some x => if x.k = 1 ∧ Lib.containsS no x.t = false then .ok (x.t, i + 1) else .error x.i
  | none => .error 0
def bangT (ts : List Tk) (i : Nat) : ByteArray × Nat := if skipT ts 0 ⟨#[33]⟩ i then (⟨#[33]⟩, i + 1) else (⟨#[]⟩, i)

/-- A type, a field, an object, an enum, a schema. -/
structure Rf where
  name : ByteArray
  wraps : ByteArray
structure Fd where
  name : ByteArray
  ref : Rf
  search : Bool
  inv : ByteArray
structure Ob where
  name : ByteArray
  fields : List Fd
structure En where
  name : ByteArray
  words : List ByteArray
structure Sc where
  objs : List Ob
  enums : List En

def kindA (ts : List Tk) (lb : Bool) (i : Nat) : Except Nat (Rf × Nat) :=
  match nmT ts [] i with
  | .error a => .error a
  | .ok (nm, j) =>
    if lb then
      match takeT ts [⟨#[93]⟩] (bangT ts j).2 with
      | .error a => .error a
      | .ok (_, q) => .ok (⟨nm, (bangT ts j).1 ++ (⟨#[91]⟩ ++ (bangT ts q).1)⟩, (bangT ts q).2)
    else .ok (⟨nm, (bangT ts j).1⟩, (bangT ts j).2)
def kindT (ts : List Tk) (i : Nat) : Except Nat (Rf × Nat) := kindA ts (skipT ts 0 ⟨#[91]⟩ i) (if skipT ts 0 ⟨#[91]⟩ i then i + 1 else i)

def tSearch : ByteArray := ⟨#[115, 101, 97, 114, 99, 104]⟩
def tInv : List ByteArray := [⟨#[104, 97, 115, 73, 110, 118, 101, 114, 115, 101]⟩, ⟨#[40]⟩, ⟨#[102, 105, 101, 108, 100]⟩, ⟨#[58]⟩]
/-- What stands behind a field's type, at most m of it. -/
def marksT (ts : List Tk) : Nat → Fd → Nat → Except Nat (Fd × Nat)
  | 0, f, i => .ok (f, i)
  | m + 1, f, i =>
    if (f.search = false ∨ f.inv = ⟨#[]⟩) ∧ skipT ts 0 ⟨#[64]⟩ i = true then
      if f.search = false ∧ skipT ts 1 tSearch (i + 1) = true then marksT ts m { f with search := true } (i + 2)
      else if f.inv = ⟨#[]⟩ then
        match takeT ts tInv (i + 1) with
        | .error a => .error a
        | .ok (_, j) =>
          match nmT ts [] j with
          | .error a => .error a
          | .ok (nm, q) =>
            match takeT ts [⟨#[41]⟩] q with
            | .error a => .error a
            | .ok (_, z) => marksT ts m { f with inv := nm } z
      else .error (atT ts (i + 1))
    else .ok (f, i)
def fieldT (ts : List Tk) (i : Nat) : Except Nat (Fd × Nat) :=
  match nmT ts [] i with
  | .error a => .error a
  | .ok (nm, j) =>
    match takeT ts [⟨#[58]⟩] j with
    | .error a => .error a
    | .ok (_, q) =>
      match kindT ts q with
      | .error a => .error a
      | .ok (rf, z) => marksT ts ts.length ⟨nm, rf, false, ⟨#[]⟩⟩ z
def tNot : List ByteArray := [⟨#[116, 114, 117, 101]⟩, ⟨#[102, 97, 108, 115, 101]⟩, ⟨#[110, 117, 108, 108]⟩]
def wordT (ts : List Tk) (i : Nat) : Except Nat (ByteArray × Nat) := nmT ts tNot i

section
variable {α : Type} (ts : List Tk) (one : Nat → Except Nat (α × Nat))
/-- More of them, until it closes. -/
def manyT : Nat → List α → Nat → Except Nat (List α × Nat)
  | 0, l, i => .ok (l, i)
  | m + 1, l, i =>
    if skipT ts 0 ⟨#[125]⟩ i then .ok (l, i + 1)
    else match one i with
      | .error a => .error a
      | .ok (x, j) => manyT m (l ++ [x]) j
def someT (i : Nat) : Except Nat (List α × Nat) :=
  match takeT ts [⟨#[123]⟩] i with
  | .error a => .error a
  | .ok (_, j) =>
    match one j with
    | .error a => .error a
    | .ok (x, q) => manyT ts one ts.length [x] q
end
def tType : ByteArray := ⟨#[116, 121, 112, 101]⟩
def tEnum : ByteArray := ⟨#[101, 110, 117, 109]⟩
/-- One definition, put behind the others. -/
def defT (ts : List Tk) (s : Sc) (i : Nat) : Except Nat (Sc × Nat) :=
  if skipT ts 1 tType i then
    match nmT ts [] (i + 1) with
    | .error a => .error a
    | .ok (nm, j) =>
      match someT ts (fieldT ts) j with
      | .error a => .error a
      | .ok (l, q) => .ok ({ s with objs := s.objs ++ [⟨nm, l⟩] }, q)
  else
    match takeT ts [tEnum] i with
    | .error a => .error a
    | .ok (_, z) =>
      match nmT ts [] z with
      | .error a => .error a
      | .ok (nm, j) =>
        match someT ts (wordT ts) j with
        | .error a => .error a
        | .ok (l, q) => .ok ({ s with enums := s.enums ++ [⟨nm, l⟩] }, q)
/-- One definition after another; f: the first one. -/
def loopT (ts : List Tk) : Nat → Bool → Sc → Nat → Except Nat Sc
  | 0, _, s, _ => .ok s
  | m + 1, f, s, i =>
    if f = true ∨ i + 1 < ts.length then
      match defT ts s i with
      | .error a => .error a
      | .ok (s', j) => loopT ts m false s' j
    else .ok s
def readT (ts : List Tk) : Except Nat Sc := loopT ts ts.length true ⟨[], []⟩ 0

/-! ### Places -/
/-- The row ends in what is nothing. -/
def EndsT (ts : List Tk) : Prop := ∃ l p, ts = l ++ [⟨0, p, 0, ⟨#[]⟩⟩]
theorem EndsT.pos {ts : List Tk} (h : EndsT ts) : 0 < ts.length := by obtain ⟨l, p, rfl⟩ := h; simp
theorem EndsT.last {ts : List Tk} (h : EndsT ts) {i : Nat} {x : Tk} (hx : ts[i]? = some x) (hi : ¬ i + 1 < ts.length) : x.k = 0 ∧ x.t = ⟨#[]⟩ := by
  obtain ⟨l, p, rfl⟩ := h
  have := (List.getElem?_eq_some_iff.1 hx).1
  simp at this hi
  obtain rfl : i = l.length := by omega
  simp at hx
  subst hx
  exact ⟨rfl, rfl⟩
theorem skipT_lt {ts : List Tk} (he : EndsT ts) {kind : Int} {s : ByteArray} {i : Nat} (hs : 0 < s.size) (h : skipT ts kind s i = true) : i + 1 < ts.length := by
  unfold skipT at h
  split at h
  · rename_i x hx
    refine Nat.lt_of_not_le fun hl => ?_
    have := he.last hx (by omega)
    simp only [Bool.and_eq_true, decide_eq_true_eq] at h
    have h2 := h.2
    rw [this.2] at h2
    subst h2
    exact absurd hs (by decide)
  · cases h
theorem nmT_ok {ts : List Tk} (he : EndsT ts) {no : List ByteArray} {i j : Nat} {nm : ByteArray} (h : nmT ts no i = .ok (nm, j)) : j = i + 1 ∧ j < ts.length := by
  unfold nmT at h
  split at h
  · rename_i x hx
    split at h
    · rename_i hk
      simp only [Except.ok.injEq, Prod.mk.injEq] at h
      refine ⟨h.2.symm, ?_⟩
      refine Nat.lt_of_not_le fun hl => ?_
      have := he.last hx (by omega)
      omega
    · cases h
  · cases h
theorem bangT_ok {ts : List Tk} (he : EndsT ts) {i : Nat} (hi : i < ts.length) : i ≤ (bangT ts i).2 ∧ (bangT ts i).2 < ts.length := by
  unfold bangT
  split
  · rename_i h
    have := skipT_lt he (by decide) h
    exact ⟨by simp, this⟩
  · exact ⟨Nat.le_refl _, hi⟩
theorem takeT_ok {ts : List Tk} (he : EndsT ts) : ∀ {l : List ByteArray} {i j : Nat} {u : Unit}, (∀ s ∈ l, 0 < s.size) → i < ts.length → takeT ts l i = .ok (u, j) → j = i + l.length ∧ j < ts.length
  | [], i, j, u, hl, hi, h => by
    simp only [takeT, Except.ok.injEq, Prod.mk.injEq] at h
    simp; omega
  | s :: l, i, j, u, hl, hi, h => by
    rw [takeT] at h
    split at h
    · rename_i hs
      have h1 := skipT_lt he (hl s (by simp)) hs
      have := takeT_ok he (fun x hx => hl x (by simp [hx])) h1 h
      simp; omega
    · cases h
theorem kindT_ok {ts : List Tk} (he : EndsT ts) {i j : Nat} {r : Rf} (h : kindT ts i = .ok (r, j)) : i < j ∧ j < ts.length := by
  have h0 : i ≤ (if skipT ts 0 ⟨#[91]⟩ i = true then i + 1 else i) := by split <;> omega
  unfold kindT at h
  generalize (if skipT ts 0 ⟨#[91]⟩ i = true then i + 1 else i) = i0 at h h0
  unfold kindA at h
  split at h
  · cases h
  · rename_i nm q hn
    have h1 := nmT_ok he hn
    have h2 := bangT_ok he h1.2
    split at h
    · split at h
      · cases h
      · rename_i u z ht
        have h3 := takeT_ok he (by simp; decide) h2.2 ht
        have h4 := bangT_ok he h3.2
        simp only [Except.ok.injEq, Prod.mk.injEq] at h
        omega
    · simp only [Except.ok.injEq, Prod.mk.injEq] at h
      omega
theorem marksT_ok {ts : List Tk} (he : EndsT ts) : ∀ {m : Nat} {f f' : Fd} {i j : Nat}, i < ts.length → marksT ts m f i = .ok (f', j) → i ≤ j ∧ j < ts.length
  | 0, f, f', i, j, hi, h => by
    simp only [marksT, Except.ok.injEq, Prod.mk.injEq] at h
    omega
  | m + 1, f, f', i, j, hi, h => by
    rw [marksT] at h
    split at h
    · rename_i hs
      have h1 := skipT_lt he (by decide) hs.2
      split at h
      · rename_i h2
        have h3 := skipT_lt he (by decide) h2.2
        have := marksT_ok he h3 h
        omega
      · split at h
        · split at h
          · cases h
          · rename_i u q ht
            have h3 := takeT_ok he (by unfold tInv; simp; decide) h1 ht
            split at h
            · cases h
            · rename_i nm z hn
              have h4 := nmT_ok he hn
              split at h
              · cases h
              · rename_i u2 y ht2
                have h5 := takeT_ok he (by simp; decide) h4.2 ht2
                have := marksT_ok he h5.2 h
                omega
        · cases h
    · simp only [Except.ok.injEq, Prod.mk.injEq] at h
      omega
theorem fieldT_ok {ts : List Tk} (he : EndsT ts) {i j : Nat} {r : Fd} (h : fieldT ts i = .ok (r, j)) : i < j ∧ j < ts.length := by
  unfold fieldT at h
  split at h
  · cases h
  · rename_i nm q hn
    have h1 := nmT_ok he hn
    split at h
    · cases h
    · rename_i u z ht
      have h2 := takeT_ok he (by simp; decide) h1.2 ht
      split at h
      · cases h
      · rename_i rf y hk
        have h3 := kindT_ok he hk
        have := marksT_ok he h3.2 h
        omega
theorem wordT_ok {ts : List Tk} (he : EndsT ts) {i j : Nat} {r : ByteArray} (h : wordT ts i = .ok (r, j)) : i < j ∧ j < ts.length := by
  have := nmT_ok he h
  omega
theorem manyT_ok {α : Type} {ts : List Tk} {one : Nat → Except Nat (α × Nat)} (he : EndsT ts) (h1 : ∀ {i j x}, one i = .ok (x, j) → i < j ∧ j < ts.length) : ∀ {m : Nat} {l l' : List α} {i j : Nat}, i < ts.length → manyT ts one m l i = .ok (l', j) → i ≤ j ∧ j < ts.length
  | 0, l, l', i, j, hi, h => by
    simp only [manyT, Except.ok.injEq, Prod.mk.injEq] at h
    omega
  | m + 1, l, l', i, j, hi, h => by
    rw [manyT] at h
    split at h
    · rename_i hs
      have := skipT_lt he (by decide) hs
      simp only [Except.ok.injEq, Prod.mk.injEq] at h
      omega
    · split at h
      · cases h
      · rename_i x q ho
        have h2 := h1 ho
        have := manyT_ok he h1 h2.2 h
        omega
theorem someT_ok {α : Type} {ts : List Tk} {one : Nat → Except Nat (α × Nat)} (he : EndsT ts) (h1 : ∀ {i j x}, one i = .ok (x, j) → i < j ∧ j < ts.length) {l : List α} {i j : Nat} (hi : i < ts.length) (h : someT ts one i = .ok (l, j)) : i < j ∧ j < ts.length := by
  unfold someT at h
  split at h
  · cases h
  · rename_i u q ht
    have h2 := takeT_ok he (by simp; decide) hi ht
    split at h
    · cases h
    · rename_i x z ho
      have h3 := h1 ho
      have := manyT_ok he h1 h3.2 h
      omega
theorem defT_ok {ts : List Tk} (he : EndsT ts) {s s' : Sc} {i j : Nat} (hi : i < ts.length) (h : defT ts s i = .ok (s', j)) : i < j ∧ j < ts.length := by
  unfold defT at h
  split at h
  · rename_i hs
    have h0 := skipT_lt he (by decide) hs
    split at h
    · cases h
    · rename_i nm q hn
      have h1 := nmT_ok he hn
      split at h
      · cases h
      · rename_i l z hl
        have h2 := someT_ok he (fun h => fieldT_ok he h) h1.2 hl
        simp only [Except.ok.injEq, Prod.mk.injEq] at h
        omega
  · split at h
    · cases h
    · rename_i u z ht
      have h0 := takeT_ok he (by simp; decide) hi ht
      split at h
      · cases h
      · rename_i nm q hn
        have h1 := nmT_ok he hn
        split at h
        · cases h
        · rename_i l z2 hl
          have h2 := someT_ok he (fun h => wordT_ok he h) h1.2 hl
          simp only [Except.ok.injEq, Prod.mk.injEq] at h
          omega
end Go.Proofs.YtibgigffedejpaaGreatDoor
namespace Go.Proofs.YtibgigffedejpaaGreatDoor
set_option linter.unusedVariables false
set_option linter.unusedSimpArgs false
open Go.RowKit
set_option linter.unusedVariables false
set_option linter.unusedSimpArgs false

theorem tok_err_ne {s : ByteArray} {i : Nat} {e : Int} (h : tok s i = .error e) : e ≠ 0 := by
  unfold tok at h
  repeat' split at h
  all_goals first
    | (cases h; decide)
    | cases h
theorem lx_err_ne {s : ByteArray} {i n p : Nat} {e : Int} (h : (lx s i n).2 = some (p, e)) : e ≠ 0 := by
  rw [lx] at h
  split at h
  · simp at h; omega
  · split at h
    · split at h
      · split at h
        · rename_i e' ht
          simp at h
          rw [← h.2]
          exact tok_err_ne ht
        · split at h
          · exact lx_err_ne h
          · cases h
      · simp at h; omega
    · cases h
termination_by s.size - i
decreasing_by omega
theorem toks_err_ne {s : ByteArray} {p : Nat} {e : Int} (h : (toks s).2 = some (p, e)) : e ≠ 0 := by
  unfold toks at h
  split at h
  · simp at h; omega
  · exact lx_err_ne h

theorem key_one {pre : List Tk} {k i j : Nat} (h : pre.map Tk.key = [(k, i, j)]) : ∃ t, pre = [⟨k, i, j, t⟩] := by
  match pre, h with
  | [⟨k', i', j', t⟩], h =>
    simp [Tk.key] at h
    obtain ⟨rfl, rfl, rfl⟩ := h
    exact ⟨t, rfl⟩
theorem ownsRow_slice {W : World} {base : Nat} {e : TypeId} {size : Nat} {v : Value} {k : Nat} {xs : List Value} (h : W.ownsRow base e size v k xs) : ∃ ao cc, v = .slice ao k cc := by
  rcases h.2 with ⟨rfl, rfl⟩ | ⟨g, cap, cur, hv, _⟩
  · exact ⟨_, _, rfl⟩
  · exact ⟨_, _, hv⟩
set_option maxRecDepth 100000 in
set_option maxHeartbeats 1000000 in
theorem one_c (w : World) (s : ByteArray) (hs : s.size ≤ 9223372036854775807) (E : Env w) :
    Calls Tryz.prog 59 #[.string s] w fun e w' => e = .returned (.int .i64 (oneT s)) ∧ Below w.heap.size w w' := by
  obtain ⟨⟨ks, er⟩, hr⟩ : ∃ r, toks s = r := ⟨_, rfl⟩
  have c1 := tokens_c w s hs E _ hr
  unfold ReadPost at c1
  cases er with
  | some q =>
    obtain ⟨p, e1⟩ := q
    have hne : e1 ≠ 0 := toks_err_ne (s := s) (p := p) (by rw [hr])
    have ho : oneT s = -1 := by unfold oneT; rw [hr]; split <;> simp_all
    have p1 : (e1 != 0) = true := by simpa using hne
    rw [ho]
    simp only at c1
    clear hr ho hne
    go_enter Tryz.func59, Tryz.ntmps59
    go_wp2_with (go_at_call 14; refine c1.mono ?_; rintro e w1 ⟨rfl, h1⟩; have H1 := Sd.mk h1; clear h1)
    go_ret
    exact ⟨rfl, H1.out⟩
  | none =>
    simp only at c1
    match ks, hr with
    | [], hr =>
      have ho : oneT s = -1 := by unfold oneT; rw [hr]
      rw [ho]
      clear hr ho
      go_enter Tryz.func59, Tryz.ntmps59
      go_wp2_with (go_at_call 14; refine c1.mono ?_; rintro e w1 ⟨v, pre, rfl, h1, h2, h3, h4, h5⟩; obtain rfl : pre = [] := (by simpa using h1); obtain ⟨ao, cc, rfl⟩ := ownsRow_slice h4; have H5 := Sd.mk h5; clear h1 h2 h3 h4 h5)
      go_ret
      exact ⟨rfl, H5.out⟩
    | [(k, i, j)], hr =>
      have ho : oneT s = if 0 < i ∨ j < s.size then -1 else (k : Int) := by unfold oneT; rw [hr]
      clear hr
      by_cases hi : 0 < i
      · have p1 : (0 < i) = True := eq_true (by omega)
        rw [if_pos (.inl hi)] at ho
        rw [ho]
        clear ho hi
        go_enter Tryz.func59, Tryz.ntmps59
        go_wp2_with (go_at_call 14; refine c1.mono ?_; rintro e w1 ⟨v, pre, rfl, h1, h2, h3, h4, h5⟩; obtain ⟨t, rfl⟩ := key_one h1; obtain ⟨g', cap, rfl, hg1, hg2⟩ := h4.form (by simp); have q2 : w1.cell? ⟨g', 2, none⟩ = some (.int .i64 i) := (by rw [h4.cellAt 2 (by simp)]; rfl); have H5 := Sd.mk h5; clear h1 h2 h3 h4 h5)
        go_ret
        exact ⟨rfl, H5.out⟩
      · have p1 : decide (0 < i) = false := by simp; omega
        by_cases hj : j < s.size
        · have p2 : (j < s.size) = True := eq_true (by omega)
          rw [if_pos (.inr hj)] at ho
          rw [ho]
          clear ho hi
          go_enter Tryz.func59, Tryz.ntmps59
          go_wp2_with (go_at_call 14; refine c1.mono ?_; rintro e w1 ⟨v, pre, rfl, h1, h2, h3, h4, h5⟩; obtain ⟨t, rfl⟩ := key_one h1; obtain ⟨g', cap, rfl, hg1, hg2⟩ := h4.form (by simp); have q2 : w1.cell? ⟨g', 2, none⟩ = some (.int .i64 i) := (by rw [h4.cellAt 2 (by simp)]; rfl); have q3 : w1.cell? ⟨g', 3, none⟩ = some (.int .i64 j) := (by rw [h4.cellAt 3 (by simp)]; rfl); have H5 := Sd.mk h5; clear h1 h2 h3 h4 h5)
          go_ret
          exact ⟨rfl, H5.out⟩
        · have p2 : decide (j < s.size) = false := by simp; omega
          rw [if_neg (by omega)] at ho
          rw [ho]
          clear ho hi
          go_enter Tryz.func59, Tryz.ntmps59
          go_wp2_with (go_at_call 14; refine c1.mono ?_; rintro e w1 ⟨v, pre, rfl, h1, h2, h3, h4, h5⟩; obtain ⟨t, rfl⟩ := key_one h1; obtain ⟨g', cap, rfl, hg1, hg2⟩ := h4.form (by simp); have q0 : w1.cell? ⟨g', 0, none⟩ = some (.int .i64 k) := (by rw [h4.cellAt 0 (by simp)]; rfl); have q2 : w1.cell? ⟨g', 2, none⟩ = some (.int .i64 i) := (by rw [h4.cellAt 2 (by simp)]; rfl); have q3 : w1.cell? ⟨g', 3, none⟩ = some (.int .i64 j) := (by rw [h4.cellAt 3 (by simp)]; rfl); have H5 := Sd.mk h5; clear h1 h2 h3 h4 h5)
          go_ret
          exact ⟨rfl, H5.out⟩
    | a :: b :: l, hr =>
      have ho : oneT s = -1 := by unfold oneT; rw [hr]
      rw [ho]
      clear hr ho
      obtain ⟨N, hN⟩ : ∃ N, l.length + 2 = N := ⟨_, rfl⟩
      have p1 : ((N : Int) != 1) = true := by simp; omega
      go_enter Tryz.func59, Tryz.ntmps59
      go_wp2_with (go_at_call 14; refine c1.mono ?_; rintro e w1 ⟨v, pre, rfl, h1, h2, h3, h4, h5⟩; obtain ⟨ao, cc, rfl⟩ := ownsRow_slice h4; have hl : pre.length = N := (by have := congrArg List.length h1; simp at this; omega); rw [hl]; have H5 := Sd.mk h5; clear h1 h2 h3 h4 h5 hl)
      go_ret
      exact ⟨rfl, H5.out⟩
set_option maxHeartbeats 1000000 in
theorem nm_c (w : World) (s : ByteArray) (hs : s.size ≤ 9223372036854775807) (E : Env w) :
    Calls Tryz.prog 40 #[.string s] w fun e w' => e = .returned (.bool (nmB s)) ∧ Below w.heap.size w w' := by
  go_enter Tryz.func40, Tryz.ntmps40
  go_wp2_with (go_at_call 59; refine (one_c _ s hs E).mono ?_; rintro e w1 ⟨rfl, h1⟩; have H1 := Sd.mk h1; clear h1)
  go_ret
  exact ⟨rfl, H1.out⟩
end Go.Proofs.YtibgigffedejpaaGreatDoor
namespace Go.Proofs.YtibgigffedejpaaGreatDoor
set_option linter.unusedVariables false
set_option linter.unusedSimpArgs false
open Go.RowKit
set_option linter.unusedVariables false
set_option linter.unusedSimpArgs false

/-- The parser at block g over the tokens ts, before token i. -/
structure Pa (w : World) (g b n c : Nat) (ts : List Tk) (i : Nat) : Prop where
  pr : PR w g b n c i
  tl : TL w b ts
  len : ts.length = n
  bnd : n ≤ 100000
  ne : b ≠ g
  lt : i < ts.length
  fin : EndsT ts
  env : Env w
  glob : 3 ≤ g
section
variable {w w' : World} {g b n c i j : Nat} {ts : List Tk}
theorem TL.lt (h : TL w b ts) : b < w.heap.size := by obtain ⟨cur, hb, _⟩ := h; exact (Array.getElem?_eq_some_iff.1 hb).1
theorem Pa.to (h : Pa w g b n c ts i) (hf : Fr g w w') (hp : PR w' g b n c j) (hj : j < ts.length) : Pa w' g b n c ts j :=
  ⟨hp, by obtain ⟨cur, hb, ht⟩ := h.tl; exact ⟨cur, (hf.block b h.tl.lt h.ne).trans hb, ht⟩, h.len, h.bnd, h.ne, hj, h.fin, hf.env h.glob h.env, h.glob⟩
theorem Pa.below (h : Pa w g b n c ts i) (hb : Below w.heap.size w w') : Pa w' g b n c ts i := h.to (Fr.of_below hb) (h.pr.below hb) h.lt
theorem Pa.drew (h : Pa w g b n c ts i) : Pa w.drew g b n c ts i := h.to (Fr.refl g w).drew h.pr.drew h.lt
theorem Pa.drewN (h : Pa w g b n c ts i) (m : Nat) : Pa (w.drewN m) g b n c ts i := h.to ((Fr.refl g w).drewN m) (h.pr.drewN m) h.lt
theorem Pa.glt (h : Pa w g b n c ts i) : g < w.heap.size := h.pr.lt
theorem Pa.get (h : Pa w g b n c ts i) : ts[i]? = some (ts[i]'h.lt) := List.getElem?_eq_getElem h.lt
theorem atT_get (h : i < ts.length) : atT ts i = (ts[i]).i := by unfold atT; rw [List.getElem?_eq_getElem h]
end

theorem must_ok (w : World) (g : Nat) :
    Calls Tryz.prog 47 #[.pointer (some ⟨g, 0, none⟩), .bool true] w fun e w' => e = .returned (.tuple #[]) ∧ w = w' :=
  (must47_t w g).mono fun e w' ⟨h1, h2⟩ => ⟨h1, h2.symm⟩
theorem must_no (w : World) (g b n c i : Nat) (ts : List Tk) (h : Pa w g b n c ts i) (a : Nat) (ha : atT ts i = a) :
    Calls Tryz.prog 47 #[.pointer (some ⟨g, 0, none⟩), .bool false] w fun e w' => e = .panicked (wrS a) ∧ Fr g w w' :=
  (must47_f w g b n c i ts _ h.pr h.tl h.get h.len).mono fun e w' ⟨h1, h2⟩ => ⟨by rw [h1, ← ha, atT_get h.lt], by obtain ⟨m, rfl⟩ := h2.out; exact (Fr.refl g w).drewN m⟩
theorem skS_t (w : World) (g b n c i : Nat) (ts : List Tk) (kind : Int) (s : ByteArray) (h : Pa w g b n c ts i) (hs : 0 < s.size) (hr : skipT ts kind s i = true) :
    Calls Tryz.prog 27 #[.pointer (some ⟨g, 0, none⟩), .int .i64 kind, .string s] w fun e w' => e = .returned (.bool true) ∧ Pa w' g b n c ts (i + 1) ∧ Fr g w w' := by
  have hlt := skipT_lt h.fin hs hr
  unfold skipT at hr
  rw [h.get] at hr
  simp only [Bool.and_eq_true, decide_eq_true_eq] at hr
  refine (skip27_c w g b n c i ts _ kind s h.pr h.tl h.get h.len h.bnd h.ne hr.1 hr.2).mono ?_
  rintro e w' ⟨h1, h2, h3⟩
  exact ⟨h1, h.to h3 h2 hlt, h3⟩
theorem skS_f (w : World) (g b n c i : Nat) (ts : List Tk) (kind : Int) (s : ByteArray) (h : Pa w g b n c ts i) (hr : skipT ts kind s i = false) :
    Calls Tryz.prog 27 #[.pointer (some ⟨g, 0, none⟩), .int .i64 kind, .string s] w fun e w' => e = .returned (.bool false) ∧ Pa w' g b n c ts i ∧ Fr g w w' := by
  unfold skipT at hr
  rw [h.get] at hr
  simp only at hr
  cases hk : (((ts[i]'h.lt).k : Int) == kind) with
  | true =>
    rw [hk, Bool.true_and, decide_eq_false_iff_not] at hr
    refine (skip27_s w g b n c i ts _ kind s h.pr h.tl h.get h.len h.bnd h.ne hk hr).mono ?_
    rintro e w' ⟨h1, h2, h3⟩
    exact ⟨h1, h.to h3 h2 h.lt, h3⟩
  | false =>
    refine (skip27_k w g b n c i ts _ kind s h.pr h.tl h.get h.len h.bnd h.ne hk).mono ?_
    rintro e w' ⟨h1, h2, h3⟩
    exact ⟨h1, h.to h3 h2 h.lt, h3⟩

/-- What a call of the parser does. -/
def PPost {α : Type} (g b n c : Nat) (ts : List Tk) (w : World) (val : α → Value) (r : Except Nat (α × Nat)) (e : Ending) (w' : World) : Prop :=
  match r with
  | .error a => e = .panicked (wrS a) ∧ Fr g w w'
  | .ok (x, j) => e = .returned (val x) ∧ Pa w' g b n c ts j ∧ Fr g w w'

set_option maxRecDepth 100000 in
set_option maxHeartbeats 2000000 in
theorem take_c (w : World) (g b n c i : Nat) (ts : List Tk) (l : List ByteArray) (q N cc : Nat) (h : Pa w g b n c ts i) (hq : ∀ j x, l[j]? = some x → w.cell? ⟨q, j, none⟩ = some (.string x)) (hqg : q ≠ g) (hN : l.length = N) (hl : N ≤ 100) (hs : ∀ s ∈ l, 0 < s.size ∧ s.size ≤ 100)
    (r : Except Nat (Unit × Nat)) (hr : takeT ts l i = r) :
    Calls Tryz.prog 32 #[.pointer (some ⟨g, 0, none⟩), .slice (some ⟨q, 0, none⟩) N cc] w (PPost g b n c ts w (fun _ => .tuple #[]) r) := by
  have H0 := Sd.mk h
  have HQ := Sd.mk hq
  have HS := Sd.mk hs
  have HR := Sd.mk hr
  have HN := Sd.mk hN
  clear h hq hs hr hN
  go_enter Tryz.func32, Tryz.ntmps32
  go_wp2
  go_loopw [9] (fun t9 wr => ∃ (k i' : Nat), t9 = .int .i64 k ∧ k ≤ N ∧ Sd (Pa wr g b n c ts i') ∧ Sd (Fr g w wr) ∧ Sd (takeT ts (l.drop k) i' = r)) (fun t9 _ => N - (intOf t9).toNat)
  case atStart => exact ⟨0, i, rfl, Nat.zero_le _, H0, ⟨Fr.refl g w⟩, HR⟩
  case round =>
    obtain ⟨k, i', rfl, hk, H1, HF, HT⟩ := hrel
    by_cases hlt : k < N
    · have hkl : k < l.length := by rw [HN.out]; exact hlt
      obtain ⟨x, hx⟩ : ∃ x, l[k] = x := ⟨_, rfl⟩
      have hsz := HS.out x (by rw [← hx]; exact List.getElem_mem hkl)
      have HT2 : Sd (takeT ts (x :: l.drop (k + 1)) i' = r) := ⟨by have := HT.out; rw [List.drop_eq_getElem_cons hkl, hx] at this; exact this⟩
      have cx : w.cell? ⟨q, k, none⟩ = some (.string x) := HQ.out k x (by rw [List.getElem?_eq_getElem hkl, hx])
      have cx1 : wr.cell? ⟨q, k, none⟩ = some (.string x) := HF.out.cell hqg cx
      have p1 : (0 ≤ (k : Int)) = True := eq_true (by omega)
      have p2 : (k < N) = True := eq_true hlt
      have p2' : ((k : Int) < (N : Int)) = True := eq_true (by omega)
      have p3 : ((k : Int) ≤ 100) := by omega
      have hz1 := hsz.1
      have hz2 := hsz.2
      clear hsz hx cx HT hkl hk
      have cN := fun W (E : Env W) => nm_c W x (by omega) E
      have HK : Sd (kindOf x = if nmB x then 1 else 0) := ⟨rfl⟩
      generalize nmB x = nb at cN HK
      cases nb with
      | true =>
        have HK2 : Sd (takeT ts (x :: l.drop (k + 1)) i' = if skipT ts 1 x i' then takeT ts (l.drop (k + 1)) (i' + 1) else .error (atT ts i')) := ⟨by rw [takeT, HK.out]; rfl⟩
        cases hsk : skipT ts 1 x i' with
        | true =>
          have HT3 : Sd (takeT ts (l.drop (k + 1)) (i' + 1) = r) := ⟨by rw [← HT2.out, HK2.out, hsk]; rfl⟩
          have cS := fun W h => skS_t W g b n c i' ts 1 x h hz1 hsk
          clear hsk HK HK2 HT2
          go_wp2_with (first | (go_at_call 40; refine (cN _ H1.out.env).mono ?_; rintro e w1 ⟨rfl, h1⟩; have H2 := Sd.mk (H1.out.below h1); have HF2 := Sd.mk (HF.out.trans (Fr.of_below h1)); clear h1) | (go_at_call 27; refine (cS _ H2.out).mono ?_; rintro e w2 ⟨rfl, h1, h2⟩; have H3 := Sd.mk h1; have HF3 := Sd.mk (HF2.out.trans h2); clear h1 h2) | (go_at_call 47; refine (must_ok _ g).mono ?_; rintro e w3 ⟨rfl, rfl⟩))
          go_roundw
          case rel => exact ⟨k + 1, i' + 1, by go_num, by omega, H3, HF3, HT3⟩
          case measure => simp [intOf]; omega
        | false =>
          have HT3 : Sd (r = .error (atT ts i')) := ⟨by rw [← HT2.out, HK2.out, hsk]; rfl⟩
          have cS := fun W h => skS_f W g b n c i' ts 1 x h hsk
          clear hsk HK HK2 HT2
          go_wp2_with (first | (go_at_call 40; refine (cN _ H1.out.env).mono ?_; rintro e w1 ⟨rfl, h1⟩; have H2 := Sd.mk (H1.out.below h1); have HF2 := Sd.mk (HF.out.trans (Fr.of_below h1)); clear h1) | (go_at_call 27; refine (cS _ H2.out).mono ?_; rintro e w2 ⟨rfl, h1, h2⟩; have H3 := Sd.mk h1; have HF3 := Sd.mk (HF2.out.trans h2); clear h1 h2) | (go_at_call 47; refine (must_no _ g b n c i' ts H3.out _ rfl).mono ?_; rintro e w3 ⟨rfl, h1⟩; have HF4 := Sd.mk (HF3.out.trans h1); clear h1))
          refine ⟨rfl, ?_⟩
          unfold PPost
          rw [HT3.out]
          exact ⟨rfl, HF4.out⟩
      | false =>
        have HK2 : Sd (takeT ts (x :: l.drop (k + 1)) i' = if skipT ts 0 x i' then takeT ts (l.drop (k + 1)) (i' + 1) else .error (atT ts i')) := ⟨by rw [takeT, HK.out]; rfl⟩
        cases hsk : skipT ts 0 x i' with
        | true =>
          have HT3 : Sd (takeT ts (l.drop (k + 1)) (i' + 1) = r) := ⟨by rw [← HT2.out, HK2.out, hsk]; rfl⟩
          have cS := fun W h => skS_t W g b n c i' ts 0 x h hz1 hsk
          clear hsk HK HK2 HT2
          go_wp2_with (first | (go_at_call 40; refine (cN _ H1.out.env).mono ?_; rintro e w1 ⟨rfl, h1⟩; have H2 := Sd.mk (H1.out.below h1); have HF2 := Sd.mk (HF.out.trans (Fr.of_below h1)); clear h1) | (go_at_call 27; refine (cS _ H2.out).mono ?_; rintro e w2 ⟨rfl, h1, h2⟩; have H3 := Sd.mk h1; have HF3 := Sd.mk (HF2.out.trans h2); clear h1 h2) | (go_at_call 47; refine (must_ok _ g).mono ?_; rintro e w3 ⟨rfl, rfl⟩))
          go_roundw
          case rel => exact ⟨k + 1, i' + 1, by go_num, by omega, H3, HF3, HT3⟩
          case measure => simp [intOf]; omega
        | false =>
          have HT3 : Sd (r = .error (atT ts i')) := ⟨by rw [← HT2.out, HK2.out, hsk]; rfl⟩
          have cS := fun W h => skS_f W g b n c i' ts 0 x h hsk
          clear hsk HK HK2 HT2
          go_wp2_with (first | (go_at_call 40; refine (cN _ H1.out.env).mono ?_; rintro e w1 ⟨rfl, h1⟩; have H2 := Sd.mk (H1.out.below h1); have HF2 := Sd.mk (HF.out.trans (Fr.of_below h1)); clear h1) | (go_at_call 27; refine (cS _ H2.out).mono ?_; rintro e w2 ⟨rfl, h1, h2⟩; have H3 := Sd.mk h1; have HF3 := Sd.mk (HF2.out.trans h2); clear h1 h2) | (go_at_call 47; refine (must_no _ g b n c i' ts H3.out _ rfl).mono ?_; rintro e w3 ⟨rfl, h1⟩; have HF4 := Sd.mk (HF3.out.trans h1); clear h1))
          refine ⟨rfl, ?_⟩
          unfold PPost
          rw [HT3.out]
          exact ⟨rfl, HF4.out⟩
    · have hkN : k = N := by omega
      have HT3 : Sd (r = .ok ((), i')) := ⟨by rw [← HT.out, hkN, ← HN.out, List.drop_length]; rfl⟩
      have p2 : decide (k < N) = false := by simp; omega
      clear HT hkN hlt hk
      go_wp2
      unfold PPost
      rw [HT3.out]
      go_end0
      exact ⟨rfl, H1.out, HF.out⟩
end Go.Proofs.YtibgigffedejpaaGreatDoor
namespace Go.Proofs.YtibgigffedejpaaGreatDoor
set_option linter.unusedVariables false
set_option linter.unusedSimpArgs false
open Go.RowKit
set_option linter.unusedVariables false
set_option linter.unusedSimpArgs false

/-- A block that is known whole. -/
def At (w : World) (C t : Nat) (cs : Array Value) : Prop := w.heap[C]? = some (.cells cs t (0, 0))
section
variable {w w' : World} {C t g : Nat} {cs : Array Value}
theorem At.cell (h : At w C t cs) (j : Nat) {v : Value} (hv : cs[j]? = some v) : w.cell? ⟨C, j, none⟩ = some v := by rw [Lib.cell_of_heap h]; simpa using hv
theorem At.fz (h : At w C t cs) (j : Nat) : w.frozen? ⟨C, j, none⟩ = false := Lib.frozen_of_heap h j
theorem At.lt (h : At w C t cs) : C < w.heap.size := (Array.getElem?_eq_some_iff.1 h).1
theorem At.set (h : At w C t cs) (j : Nat) (v : Value) : At (w.setCell ⟨C, j, none⟩ v) C t (cs.setIfInBounds j v) := by
  unfold At at *; simp [World.setCell, Array.getElem?_modify, h]
theorem At.fr (h : At w C t cs) (hf : Fr g w w') (hne : C ≠ g) : At w' C t cs := (hf.block C h.lt hne).trans h
theorem At.far (h : At w C t cs) {p : Addr} (hp : p.block ≠ C) (u : Value) : At (w.setCell p u) C t cs := (Below.heap_setCell w p u C (Ne.symm hp)).trans h
theorem At.drew (h : At w C t cs) : At w.drew C t cs := h
theorem At.drewN (h : At w C t cs) (m : Nat) : At (w.drewN m) C t cs := h
theorem At.below (h : At w C t cs) (hb : Below w.heap.size w w') : At w' C t cs := (hb.block C h.lt).trans h
theorem At.alloc (h : At w C t cs) (o : Obj) : At (w.alloc o) C t cs := h.below ((Below.refl _ w).alloc (Nat.le_refl _) o)
theorem At.fresh (w : World) (t : Nat) (cs : Array Value) : At (w.alloc (.cells cs t)) w.heap.size t cs := heap_alloc_new w _
end
section
variable {w w' : World} {g b n c i j : Nat} {ts : List Tk}
theorem Pa.setC (h : Pa w g b n c ts i) {C : Nat} (hC : C ≠ g ∧ C ≠ b ∧ 3 ≤ C) (o : Nat) (u : Value) : Pa (w.setCell ⟨C, o, none⟩ u) g b n c ts i := by
  have hf : Fr C w (w.setCell ⟨C, o, none⟩ u) := (Fr.refl C w).setCell (.inl rfl) u
  refine ⟨(hf.block g h.pr.lt (Ne.symm hC.1)).trans h.pr, ?_, h.len, h.bnd, h.ne, h.lt, h.fin, hf.env hC.2.2 h.env, h.glob⟩
  obtain ⟨cur, hb, ht⟩ := h.tl
  exact ⟨cur, (hf.block b h.tl.lt (Ne.symm hC.2.1)).trans hb, ht⟩
theorem Pa.alloc (h : Pa w g b n c ts i) (o : Obj) : Pa (w.alloc o) g b n c ts i := h.below ((Below.refl _ w).alloc (Nat.le_refl _) o)
theorem Pa.set1 (h : Pa w g b n c ts i) (j : Nat) (hj : j < ts.length) : Pa (w.setCell ⟨g, 1, none⟩ (.int .i64 j)) g b n c ts j :=
  h.to ((Fr.refl g w).setCell (.inl rfl) _) (h.pr.set1 j) hj
theorem Pa.blt (h : Pa w g b n c ts i) : b < w.heap.size := h.tl.lt
end

theorem bang_c (w : World) (g b n c i : Nat) (ts : List Tk) (h : Pa w g b n c ts i) :
    Calls Tryz.prog 70 #[.pointer (some ⟨g, 0, none⟩)] w fun e w' => e = .returned (.string (bangT ts i).1) ∧ Pa w' g b n c ts (bangT ts i).2 ∧ Fr g w w' := by
  cases hr : skipT ts 0 ⟨#[33]⟩ i with
  | true =>
    have e : bangT ts i = (⟨#[33]⟩, i + 1) := by unfold bangT; rw [hr]; rfl
    rw [e]
    have cS := skS_t w g b n c i ts 0 ⟨#[33]⟩ h (by decide) hr
    clear hr e h
    go_enter Tryz.func70, Tryz.ntmps70
    go_wp2_with (go_at_call 27; refine cS.mono ?_; rintro e w2 ⟨rfl, h1, h2⟩; have H3 := Sd.mk h1; have HF3 := Sd.mk h2; clear h1 h2)
    go_ret
    exact ⟨rfl, H3.out, HF3.out⟩
  | false =>
    have e : bangT ts i = (⟨#[]⟩, i) := by unfold bangT; rw [hr]; rfl
    rw [e]
    have cS := skS_f w g b n c i ts 0 ⟨#[33]⟩ h hr
    clear hr e h
    go_enter Tryz.func70, Tryz.ntmps70
    go_wp2_with (go_at_call 27; refine cS.mono ?_; rintro e w2 ⟨rfl, h1, h2⟩; have H3 := Sd.mk h1; have HF3 := Sd.mk h2; clear h1 h2)
    go_ret
    exact ⟨rfl, H3.out, HF3.out⟩

set_option maxRecDepth 100000 in
set_option maxHeartbeats 2000000 in
theorem name_c (w : World) (g b n c i : Nat) (ts : List Tk) (no : List ByteArray) (v : Value) (h : Pa w g b n c ts i)
    (hC : ∀ (W : World) (t : ByteArray), Fr g w W → Calls Tryz.prog 48 #[v, .string t] W fun e w' => e = .returned (.bool (Lib.containsS no t)) ∧ W = w')
    (r : Except Nat (ByteArray × Nat)) (hr : nmT ts no i = r) :
    Calls Tryz.prog 28 #[.pointer (some ⟨g, 0, none⟩), v] w (PPost g b n c ts w (fun t => .string t) r) := by
  have h0 := h.pr.c0
  have h1 := h.pr.c1
  have f1 := h.pr.fz 1
  obtain ⟨x, hx⟩ : ∃ x, ts[i]'h.lt = x := ⟨_, rfl⟩
  have hi : ts[i]? = some x := by rw [h.get, hx]
  have ha : atT ts i = x.i := by rw [atT_get h.lt, hx]
  have HR : Sd ((if x.k = 1 ∧ Lib.containsS no x.t = false then .ok (x.t, i + 1) else .error x.i) = r) := ⟨by rw [← hr]; unfold nmT; rw [hi]⟩
  have HC := Sd.mk hC
  have HA := Sd.mk ha
  have HNm : Sd (x.k = 1 ∧ Lib.containsS no x.t = false → i + 1 < ts.length) := ⟨fun hk => (nmT_ok (no := no) (nm := x.t) (j := i + 1) h.fin (by unfold nmT; rw [hi]; exact if_pos hk)).2⟩
  have c0 := h.tl.cell hi (o := 0) (by decide) rfl
  have c1 := h.tl.cell hi (o := 1) (by decide) rfl
  have c2 := h.tl.cell hi (o := 2) (by decide) rfl
  have c3 := h.tl.cell hi (o := 3) (by decide) rfl
  simp only [Nat.add_zero] at c0
  have hlt := h.lt
  have hlen := h.len
  have hbnd := h.bnd
  have hbg := h.ne
  have p1 : (0 ≤ (i : Int)) = True := eq_true (by omega)
  have p2 : ((i : Int) < (n : Int)) = True := eq_true (by omega)
  have hm : i * 4 = 4 * i := Nat.mul_comm _ _
  have hib : (i : Int) ≤ 100000 := by omega
  have hgl := h.glt
  have ka : ∀ {p : Addr} {v : Value}, w.cell? p = some v → (w.alloc (.cells #[.int .i64 0, .string ⟨#[]⟩, .int .i64 0, .int .i64 0] 43)).cell? p = some v := fun hc => below_cell ((Below.refl _ w).alloc (Nat.le_refl _) _) (by
      refine Nat.lt_of_not_le fun hl => ?_
      unfold World.cell? at hc
      rw [Array.getElem?_eq_none hl] at hc; cases hc) hc
  have a0 := ka h0
  have a1 := ka h1
  have d0 := ka c0
  have d1 := ka c1
  have d2 := ka c2
  have d3 := ka c3
  have H := Sd.mk h
  clear h hi ka hr hC ha hx hlen hlt
  go_enter Tryz.func28, Tryz.ntmps28
  go_upto_region 1 with (fail)
  go_region
  clear h0 h1 f1 c0 c1 c2 c3 a0 a1 d0 d1 d2 d3
  have H1 : Sd (Pa (w.alloc (.cells #[.int .i64 x.k, .string x.t, .int .i64 x.i, .int .i64 x.j] 43)).drew g b n c ts i) := ⟨(H.out.alloc _).drew⟩
  have HF1 : Sd (Fr g w (w.alloc (.cells #[.int .i64 x.k, .string x.t, .int .i64 x.i, .int .i64 x.j] 43)).drew) := ⟨((Fr.refl g w).alloc _).drew⟩
  have HT1 : Sd (At (w.alloc (.cells #[.int .i64 x.k, .string x.t, .int .i64 x.i, .int .i64 x.j] 43)).drew w.heap.size 43 #[.int .i64 x.k, .string x.t, .int .i64 x.i, .int .i64 x.j]) := ⟨heap_alloc_new w _⟩
  generalize (w.alloc (.cells #[.int .i64 x.k, .string x.t, .int .i64 x.i, .int .i64 x.j] 43)).drew = w1 at H1 HF1 HT1 ⊢
  have h1 := H1.out.pr.c1
  have f1 := H1.out.pr.fz 1
  have t0 := HT1.out.cell 0 rfl
  have t1 := HT1.out.cell 1 rfl
  have hneC : w.heap.size ≠ g := by omega
  by_cases hk : x.k = 1
  · have e1 : ((x.k : Int) == 1) = true := by simp [hk]
    have cC := HC.out w1 x.t HF1.out
    cases hcon : Lib.containsS no x.t with
    | true =>
      rw [hcon] at cC
      have HE : Sd (r = .error x.i) := ⟨by rw [← HR.out, hcon, if_neg (by simp)]⟩
      clear hcon hk HR HC HNm
      go_wp2_with (first | (go_at_call 48; refine cC.mono ?_; rintro e w2 ⟨rfl, rfl⟩) | (go_at_call 47; refine (must_no _ g b n c i ts H1.out _ HA.out).mono ?_; rintro e w3 ⟨rfl, h1⟩; have HF4 := Sd.mk (HF1.out.trans h1); clear h1))
      refine ⟨rfl, ?_⟩
      unfold PPost
      rw [HE.out]
      exact ⟨rfl, HF4.out⟩
    | false =>
      rw [hcon] at cC
      have HE : Sd (r = .ok (x.t, i + 1)) := ⟨by rw [← HR.out, if_pos ⟨hk, hcon⟩]⟩
      have HL : Sd (i + 1 < ts.length) := ⟨HNm.out ⟨hk, hcon⟩⟩
      have HP := Sd.mk (H1.out.set1 (i + 1) HL.out)
      have HT2 := Sd.mk (HT1.out.far (p := ⟨g, 1, none⟩) (Ne.symm hneC) (.int .i64 ((i + 1 : Nat) : Int)))
      have HF2 := Sd.mk (HF1.out.setCell (p := ⟨g, 1, none⟩) (.inl rfl) (.int .i64 ((i + 1 : Nat) : Int)))
      have t1' := HT2.out.cell 1 rfl
      clear hcon hk HR HC HNm
      go_wp2_with (first | (go_at_call 48; refine cC.mono ?_; rintro e w2 ⟨rfl, rfl⟩) | (go_at_call 47; refine (must_ok _ g).mono ?_; rintro e w3 ⟨rfl, rfl⟩))
      go_ret
      unfold PPost
      rw [HE.out]
      exact ⟨rfl, HP.out, HF2.out⟩
  · have e1 : ((x.k : Int) == 1) = false := by simp; omega
    have HE : Sd (r = .error x.i) := ⟨by rw [← HR.out, if_neg (fun h => hk h.1)]⟩
    clear hk HR HC HNm
    go_wp2_with (go_at_call 47; refine (must_no _ g b n c i ts H1.out _ HA.out).mono ?_; rintro e w3 ⟨rfl, h1⟩; have HF4 := Sd.mk (HF1.out.trans h1); clear h1)
    refine ⟨rfl, ?_⟩
    unfold PPost
    rw [HE.out]
    exact ⟨rfl, HF4.out⟩
theorem name0_c (w : World) (g b n c i : Nat) (ts : List Tk) (h : Pa w g b n c ts i) (r : Except Nat (ByteArray × Nat)) (hr : nmT ts [] i = r) :
    Calls Tryz.prog 28 #[.pointer (some ⟨g, 0, none⟩), .slice none 0 0] w (PPost g b n c ts w (fun t => .string t) r) :=
  name_c w g b n c i ts [] _ h (fun W t _ => (Tryz.slices_Contains_string_empty none 0 t W).mono fun e w' ⟨h1, h2⟩ => ⟨h1, h2.symm⟩) r hr
end Go.Proofs.YtibgigffedejpaaGreatDoor
namespace Go.Proofs.YtibgigffedejpaaGreatDoor
set_option linter.unusedVariables false
set_option linter.unusedSimpArgs false
open Go.RowKit
set_option linter.unusedVariables false
set_option linter.unusedSimpArgs false
attribute [local go_sem ↓] Go.wp_at_zero Go.wp_at_succ

theorem bang_size (ts : List Tk) (i : Nat) : (bangT ts i).1.size ≤ 1 := by
  unfold bangT; split <;> simp <;> decide
theorem At.p0 {w : World} {C t : Nat} {a b : Value} (h : At w C t #[a, b]) (v : Value) : At (w.setCell ⟨C, 0, none⟩ v) C t #[v, b] := h.set 0 v
theorem At.p1 {w : World} {C t : Nat} {a b : Value} (h : At w C t #[a, b]) (v : Value) : At (w.setCell ⟨C, 1, none⟩ v) C t #[a, v] := h.set 1 v
theorem lit_cells (w : World) (t : Nat) (l : List ByteArray) (cs : Array Value) (hcs : cs = (l.map Value.string).toArray) : ∀ (j : Nat) (x : ByteArray), l[j]? = some x → (w.alloc (.cells cs t)).cell? ⟨w.heap.size, j, none⟩ = some (.string x) := by
  intro j x h
  rw [Lib.cell_of_heap (heap_alloc_new w _)]
  simp [hcs, h]
def Rf.val (r : Rf) : Value := .agg #[.string r.name, .string r.wraps]
theorem kind_res {w : World} {C : Nat} {a b : ByteArray} (h : At w C 56 #[.string a, .string b]) (tmps : Array Value) (hp : tmps.getD 2 undef = .pointer (some ⟨C, 0, none⟩)) :
    (results Tryz.f49 tmps).run Tryz.prog w = .ok (.agg #[.string a, .string b]) w :=
  results_cell_row rfl tmps w C 56 _ _ _ hp h Tryz.underlying56 rfl (by kernel_rfl)

set_option maxRecDepth 100000 in
set_option maxHeartbeats 4000000 in
theorem kind_c (w : World) (g b n c i : Nat) (ts : List Tk) (h : Pa w g b n c ts i) (r : Except Nat (Rf × Nat)) (hr : kindT ts i = r) :
    Calls Tryz.prog 49 #[.pointer (some ⟨g, 0, none⟩)] w (PPost g b n c ts w Rf.val r) := by
  have HR := Sd.mk hr
  have hgl := h.glt
  have hbl := h.blt
  have hg3 := h.glob
  have HT0 := Sd.mk (At.fresh w 56 #[.string ⟨#[]⟩, .string ⟨#[]⟩])
  have HF0 := Sd.mk ((Fr.refl g w).alloc (.cells #[.string ⟨#[]⟩, .string ⟨#[]⟩] 56))
  have H0 := Sd.mk (h.alloc (.cells #[.string ⟨#[]⟩, .string ⟨#[]⟩] 56))
  obtain ⟨C, hC⟩ : ∃ C, w.heap.size = C := ⟨_, rfl⟩
  rw [hC] at HT0
  have hne : C ≠ g ∧ C ≠ b ∧ 3 ≤ C := ⟨by omega, by omega, by omega⟩
  obtain ⟨lb, hlb⟩ : ∃ lb, skipT ts 0 ⟨#[91]⟩ i = lb := ⟨_, rfl⟩
  obtain ⟨i0, hi0⟩ : ∃ i0, (if lb then i + 1 else i) = i0 := ⟨_, rfl⟩
  have HS : Sd (∀ W, Pa W g b n c ts i → Calls Tryz.prog 27 #[.pointer (some ⟨g, 0, none⟩), .int .i64 0, .string ⟨#[91]⟩] W fun e w' => e = .returned (.bool lb) ∧ Pa w' g b n c ts i0 ∧ Fr g W w') := ⟨by
    intro W hW
    cases lb with
    | true => subst hi0; exact skS_t W g b n c i ts 0 _ hW (by decide) hlb
    | false => subst hi0; exact skS_f W g b n c i ts 0 _ hW hlb⟩
  have HK : Sd (kindT ts i = kindA ts lb i0) := ⟨by unfold kindT; rw [hlb, hi0]⟩
  clear h hr hlb hi0
  go_enter Tryz.func49, Tryz.ntmps49
  go_upto_region 1 with (fail)
  generalize w.alloc (.cells #[.string ⟨#[]⟩, .string ⟨#[]⟩] 56) = w1 at H0 HT0 HF0 ⊢
  cases hn : nmT ts [] i0 with
  | error a =>
    have HE : Sd (r = .error a) := ⟨by rw [← HR.out, HK.out]; unfold kindA; rw [hn]⟩
    have cN := fun W h => name0_c W g b n c i0 ts h _ hn
    unfold PPost at cN
    simp only at cN
    clear HK HR hn
    go_wp2_with (first | (go_at_call 27; refine (HS.out _ H0.out).mono ?_; rintro e w2 ⟨rfl, h1, h2⟩; have H2 := Sd.mk h1; have HF2 := Sd.mk (HF0.out.trans h2); clear h1 h2) | (go_at_call 28; refine (cN _ H2.out).mono ?_; rintro e w3 ⟨rfl, h2⟩; have HF3 := Sd.mk (HF2.out.trans h2); clear h2))
    refine ⟨rfl, ?_⟩
    unfold PPost
    rw [HE.out]
    exact ⟨rfl, HF3.out⟩
  | ok p =>
    obtain ⟨nm, j⟩ := p
    have cN := fun W h => name0_c W g b n c i0 ts h _ hn
    unfold PPost at cN
    simp only at cN
    obtain ⟨b1, j1, hb1⟩ : ∃ b1 j1, bangT ts j = (b1, j1) := ⟨_, _, rfl⟩
    have cB := fun W h => bang_c W g b n c j ts h
    have hz1 := bang_size ts j
    rw [hb1] at cB hz1
    simp only at cB hz1
    cases lb with
    | false =>
      have HE : Sd (r = .ok (⟨nm, b1⟩, j1)) := ⟨by rw [← HR.out, HK.out]; unfold kindA; rw [hn]; simp only; rw [hb1]; rfl⟩
      clear HK HR hn hb1
      go_wp2_with (first
        | (go_at_call 27; refine (HS.out _ H0.out).mono ?_; rintro e w2 ⟨rfl, h1, h2⟩; have H2 := Sd.mk h1; have HF2 := Sd.mk (HF0.out.trans h2); have HT2 := Sd.mk (HT0.out.fr h2 hne.1); clear h1 h2)
        | (go_at_call 28; refine (cN _ H2.out).mono ?_; rintro e w3 ⟨rfl, h1, h2⟩; have HT3 := Sd.mk (HT2.out.fr h2 hne.1); have t0 := HT3.out.cell 0 rfl; have f0 := HT3.out.fz 0; have H3 := Sd.mk (h1.setC hne 0 (.string nm)); have HF3 := Sd.mk ((HF2.out.trans h2).setC (C := C) (by omega) 0 (.string nm)); have HT4 := Sd.mk (HT3.out.p0 (.string nm)); clear h1 h2)
        | (go_at_call 70; refine (cB _ H3.out).mono ?_; rintro e w4 ⟨rfl, h1, h2⟩; clear t0 f0; have HT5 := Sd.mk (HT4.out.fr h2 hne.1); have t1 := HT5.out.cell 1 rfl; have f1 := HT5.out.fz 1; have H5 := Sd.mk (h1.setC hne 1 (.string b1)); have HF5 := Sd.mk ((HF3.out.trans h2).setC (C := C) (by omega) 1 (.string b1)); have HT6 := Sd.mk (HT5.out.p1 (.string b1)); have q0 := HT6.out.cell 0 rfl; have q1 := HT6.out.cell 1 rfl; have z0 := HT6.out.fz 0; have z1 := HT6.out.fz 1; clear h1 h2))
      refine bodyPost_ret (kind_res ((HT6.out.p0 (.string nm)).p1 (.string b1)) _ rfl) rfl ?_
      unfold PPost
      rw [HE.out]
      exact ⟨rfl, (H5.out.setC hne 0 _).setC hne 1 _, (HF5.out.setC (C := C) (by omega) 0 _).setC (C := C) (by omega) 1 _⟩
    | true =>
      have HK2 : Sd (r = match takeT ts [⟨#[93]⟩] j1 with
        | .error a => .error a
        | .ok (_, q) => .ok (⟨nm, b1 ++ (⟨#[91]⟩ ++ (bangT ts q).1)⟩, (bangT ts q).2)) := ⟨by rw [← HR.out, HK.out]; unfold kindA; rw [hn]; simp only; rw [hb1]; rfl⟩
      clear HK HR hn hb1
      go_upto_region 4 with (first
        | (go_at_call 27; refine (HS.out _ H0.out).mono ?_; rintro e w2 ⟨rfl, h1, h2⟩; have H2 := Sd.mk h1; have HF2 := Sd.mk (HF0.out.trans h2); have HT2 := Sd.mk (HT0.out.fr h2 hne.1); clear h1 h2)
        | (go_at_call 28; refine (cN _ H2.out).mono ?_; rintro e w3 ⟨rfl, h1, h2⟩; have HT3 := Sd.mk (HT2.out.fr h2 hne.1); have t0 := HT3.out.cell 0 rfl; have f0 := HT3.out.fz 0; have H3 := Sd.mk (h1.setC hne 0 (.string nm)); have HF3 := Sd.mk ((HF2.out.trans h2).setC (C := C) (by omega) 0 (.string nm)); have HT4 := Sd.mk (HT3.out.p0 (.string nm)); clear h1 h2)
        | (go_at_call 70; refine (cB _ H3.out).mono ?_; rintro e w4 ⟨rfl, h1, h2⟩; clear t0 f0; have HT5 := Sd.mk (HT4.out.fr h2 hne.1); have t1 := HT5.out.cell 1 rfl; have f1 := HT5.out.fz 1; have H5 := Sd.mk (h1.setC hne 1 (.string b1)); have HF5 := Sd.mk ((HF3.out.trans h2).setC (C := C) (by omega) 1 (.string b1)); have HT6 := Sd.mk (HT5.out.p1 (.string b1)); clear h1 h2)
        )
      generalize w4.setCell ⟨C, 1, none⟩ (.string b1) = w6 at H5 HF5 HT6 ⊢
      clear t1 f1
      have hg6 := H5.out.glt
      have hs6 : w.heap.size ≤ w6.heap.size := HF5.out.size
      cases hT : takeT ts [⟨#[93]⟩] j1 with
      | error a =>
        have HE : Sd (r = .error a) := ⟨by rw [HK2.out, hT]⟩
        have cT := fun W q cc (h : Pa W g b n c ts j1) hq hqg => take_c W g b n c j1 ts [⟨#[93]⟩] q 1 cc h hq hqg rfl (by decide) (by simp; decide) _ hT
        unfold PPost at cT
        simp only at cT
        clear HK2 hT
        go_wp2_with (go_at_call 32; refine (cT _ _ _ (H5.out.alloc _) (lit_cells w6 9 _ _ rfl) (by omega)).mono ?_; rintro e w7 ⟨rfl, h2⟩; have HF7 := Sd.mk ((HF5.out.alloc _).trans h2); clear h2)
        refine ⟨rfl, ?_⟩
        unfold PPost
        rw [HE.out]
        exact ⟨rfl, HF7.out⟩
      | ok p2 =>
        obtain ⟨u, q2⟩ := p2
        obtain ⟨b2, j2, hb2⟩ : ∃ b2 j2, bangT ts q2 = (b2, j2) := ⟨_, _, rfl⟩
        have HE : Sd (r = .ok (⟨nm, b1 ++ (⟨#[91]⟩ ++ b2)⟩, j2)) := ⟨by rw [HK2.out, hT]; simp only; rw [hb2]⟩
        have cT := fun W q cc (h : Pa W g b n c ts j1) hq hqg => take_c W g b n c j1 ts [⟨#[93]⟩] q 1 cc h hq hqg rfl (by decide) (by simp; decide) _ hT
        unfold PPost at cT
        simp only at cT
        have cB2 := fun W h => bang_c W g b n c q2 ts h
        have hz2 := bang_size ts q2
        rw [hb2] at cB2 hz2
        simp only at cB2 hz2
        clear HK2 hT hb2
        go_upto_region 6 with (go_at_call 32; refine (cT _ _ _ (H5.out.alloc _) (lit_cells w6 9 _ _ rfl) (by omega)).mono ?_; rintro e w7 ⟨rfl, h1, h2⟩; have H7 := Sd.mk h1; have HF7 := Sd.mk ((HF5.out.alloc _).trans h2); have HT7 := Sd.mk ((HT6.out.alloc _).fr h2 hne.1); clear h1 h2)
        have t1 := HT7.out.cell 1 rfl
        have s1 : (9223372036854775807 < 1 + b2.size) = False := eq_false (by omega)
        have s2 : (9223372036854775807 < b1.size + (1 + b2.size)) = False := eq_false (by omega)
        have t1' : w7.drew.cell? ⟨C, 1, none⟩ = some (.string b1) := t1
        go_region_law ((go_simp; go_at_call 70; refine (cB2 _ H7.out.drew).mono ?_; rintro e w8 ⟨rfl, h1, h2⟩; have H8 := Sd.mk h1; have HF8 := Sd.mk (HF7.out.drew.trans h2); have HT8 := Sd.mk (HT7.out.drew.fr h2 hne.1); have t8 := HT8.out.cell 1 rfl; have z8 := HT8.out.fz 1; clear h1 h2))
        all_goals
          have HT9 := Sd.mk (HT8.out.p1 (.string (b1 ++ (⟨#[91]⟩ ++ b2))))
          have q0 := HT9.out.cell 0 rfl
          have q1 := HT9.out.cell 1 rfl
          have z0 := HT9.out.fz 0
          have z1 := HT9.out.fz 1
          clear t8 z8 t1 t1' s1 s2
          go_wp2
          refine bodyPost_ret (kind_res ((HT9.out.p0 (.string nm)).p1 (.string (b1 ++ (⟨#[91]⟩ ++ b2)))) _ rfl) rfl ?_
          unfold PPost
          rw [HE.out]
          exact ⟨rfl, ((H8.out.setC hne 1 _).setC hne 0 _).setC hne 1 _, ((HF8.out.setC (C := C) (by omega) 1 _).setC (C := C) (by omega) 0 _).setC (C := C) (by omega) 1 _⟩
end Go.Proofs.YtibgigffedejpaaGreatDoor
