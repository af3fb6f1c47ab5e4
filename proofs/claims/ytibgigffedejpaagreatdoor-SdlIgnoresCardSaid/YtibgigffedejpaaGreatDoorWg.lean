import Derived.Test.YtibgigffedejpaaGreatDoorWm
namespace Go.Proofs.YtibgigffedejpaaGreatDoor
set_option linter.unusedVariables false
set_option linter.unusedSimpArgs false
open Go.RowKit
set_option linter.unusedVariables false
set_option linter.unusedSimpArgs false

/-- Rows of fields, of objects, of words, of enums, of the call's own; a schema. -/
def FieldsAt (W : World) (lo : Nat) (v : Value) (fs : List Fd) : Prop := W.ownsRow lo 58 5 v fs.length (fs.flatMap Fd.cells)
def WordsAt (W : World) (lo : Nat) (v : Value) (fs : List ByteArray) : Prop := W.ownsRow lo 9 1 v fs.length (fs.map Value.string)
def ObjsAt (W : World) (lo : Nat) (v : Value) (l : List Ob) : Prop :=
  ∃ vs : List Value, vs.length = l.length ∧ W.ownsRow lo 53 2 v l.length ((l.zip vs).flatMap fun p => [.string p.1.name, p.2]) ∧ ∀ p ∈ l.zip vs, FieldsAt W lo p.2 p.1.fields
def EnsAt (W : World) (lo : Nat) (v : Value) (l : List En) : Prop :=
  ∃ vs : List Value, vs.length = l.length ∧ W.ownsRow lo 61 2 v l.length ((l.zip vs).flatMap fun p => [.string p.1.name, p.2]) ∧ ∀ p ∈ l.zip vs, WordsAt W lo p.2 p.1.words
def SchAt (W : World) (lo : Nat) (v : Value) (s : Sc) : Prop := ∃ vo ve, v = .agg #[vo, ve] ∧ ObjsAt W lo vo s.objs ∧ EnsAt W lo ve s.enums

section
variable {W W' : World} {e e1 e2 : TypeId} {b1 b2 s1 s2 k1 k2 base size k x t : Nat} {v v1 v2 : Value} {xs l1 l2 : List Value} {cs : Array Value}
theorem ownsRow_heap (h : W.ownsRow base e size v k xs) {j : Nat} (hj : v.ownBlock = some j) : ∃ cur, W.heap[j]? = some (.cells cur e (0, 0)) := by
  rcases h.2 with ⟨rfl, _⟩ | ⟨g, cap, cur, rfl, hg, hgb, _⟩
  · cases hj
  · have : g = j := by simpa [Value.ownBlock] using hj
    subst this
    exact ⟨cur, hgb⟩
theorem ownsRow_typ (h : W.ownsRow base e size v k xs) (hx : W.heap[x]? = some (.cells cs t (0, 0))) (hne : t ≠ e) : v.ownBlock = none ∨ v.ownBlock ≠ some x := by
  refine .inr fun hv => ?_
  obtain ⟨cur, hc⟩ := ownsRow_heap h hv
  rw [hx] at hc
  simp only [Option.some.injEq, Obj.cells.injEq] at hc
  exact hne hc.2.1
theorem rows_apart (h1 : W.ownsRow b1 e1 s1 v1 k1 l1) (h2 : W.ownsRow b2 e2 s2 v2 k2 l2) (hne : e1 ≠ e2) : v1.ownBlock = none ∨ v1.ownBlock ≠ v2.ownBlock := by
  cases hv : v1.ownBlock with
  | none => exact .inl rfl
  | some j =>
    refine .inr fun hv2 => ?_
    obtain ⟨cur, hc⟩ := ownsRow_heap h1 hv
    obtain ⟨cur2, hc2⟩ := ownsRow_heap h2 hv2.symm
    rw [hc] at hc2
    simp only [Option.some.injEq, Obj.cells.injEq] at hc2
    exact hne hc2.2.1
theorem ownsRow_grown (h : W.ownsRow b1 e1 s1 v1 k1 l1) (h2 : W.ownsRow b2 e2 s2 v2 k2 l2) (hne : e1 ≠ e2) (hg : W.grownBy W' v2.ownBlock) : W'.ownsRow b1 e1 s1 v1 k1 l1 :=
  h.kept hg (rows_apart h h2 hne)
theorem ownsRow_set (h : W.ownsRow base e size v k xs) (hx : At W x t cs) (hne : t ≠ e) (o : Nat) (u : Value) : (W.setCell ⟨x, o, none⟩ u).ownsRow base e size v k xs :=
  h.kept (row := some x) ⟨rfl, rfl, rfl, by simp [World.setCell], fun k _ hk => Below.heap_setCell _ _ _ k (fun e => hk (by rw [e]))⟩ (ownsRow_typ h hx hne)
theorem ownsRow_frT {g : Nat} (h : W.ownsRow base e size v k xs) (hf : Fr g W W') (hx : W.heap[g]? = some (.cells cs t (0, 0))) (hne : t ≠ e) : W'.ownsRow base e size v k xs :=
  h.kept (row := some g) ⟨hf.os, hf.tape, hf.output, hf.size, fun k hk hkg => hf.block k hk (fun e => hkg (by rw [e]))⟩ (ownsRow_typ h hx hne)
theorem ownsRow_same (h : W.ownsRow base e size v k xs) (hk : ∀ j, v.ownBlock = some j → W'.heap[j]? = W.heap[j]?) : W'.ownsRow base e size v k xs := by
  refine ⟨h.1, ?_⟩
  rcases h.2 with ⟨rfl, h0⟩ | ⟨g, cap, cur, rfl, hg, hgb, h3⟩
  · exact .inl ⟨rfl, h0⟩
  · exact .inr ⟨g, cap, cur, rfl, hg, (hk g rfl).trans hgb, h3⟩
theorem ownsRow_mono (h : W.ownsRow base e size v k xs) (hb : b1 ≤ base) : W.ownsRow b1 e size v k xs :=
  ⟨h.1, h.2.imp id fun ⟨g, cap, cur, h1, h2, h3⟩ => ⟨g, cap, cur, h1, by omega, h3⟩⟩
end

/-- One change serves all the rows of a schema: 'K' says of a kind of rows that they are as they were. -/
def Keeps (W W' : World) (e : TypeId) : Prop := ∀ (base size k : Nat) (v : Value) (xs : List Value), W.ownsRow base e size v k xs → W'.ownsRow base e size v k xs
section
variable {W W' : World} {lo : Nat} {v : Value}
theorem FieldsAt.to {fs : List Fd} (h : FieldsAt W lo v fs) (hk : Keeps W W' 58) : FieldsAt W' lo v fs := hk _ _ _ _ _ h
theorem WordsAt.to {fs : List ByteArray} (h : WordsAt W lo v fs) (hk : Keeps W W' 9) : WordsAt W' lo v fs := hk _ _ _ _ _ h
theorem ObjsAt.to {l : List Ob} (h : ObjsAt W lo v l) (h1 : Keeps W W' 53) (h2 : Keeps W W' 58) : ObjsAt W' lo v l := by
  obtain ⟨vs, hl, hr, hf⟩ := h
  exact ⟨vs, hl, h1 _ _ _ _ _ hr, fun p hp => (hf p hp).to h2⟩
theorem EnsAt.to {l : List En} (h : EnsAt W lo v l) (h1 : Keeps W W' 61) (h2 : Keeps W W' 9) : EnsAt W' lo v l := by
  obtain ⟨vs, hl, hr, hf⟩ := h
  exact ⟨vs, hl, h1 _ _ _ _ _ hr, fun p hp => (hf p hp).to h2⟩
theorem ObjsAt.nil (W : World) (lo : Nat) : ObjsAt W lo (.slice none 0 0) [] := ⟨[], rfl, World.ownsRow_nil W lo 53 2, by simp⟩
theorem EnsAt.nil (W : World) (lo : Nat) : EnsAt W lo (.slice none 0 0) [] := ⟨[], rfl, World.ownsRow_nil W lo 61 2, by simp⟩
theorem Keeps.trans {a b c : World} {e : TypeId} (h : Keeps a b e) (k : Keeps b c e) : Keeps a c e := fun _ _ _ _ _ hr => k _ _ _ _ _ (h _ _ _ _ _ hr)
theorem Keeps.fr {g : Nat} {e : TypeId} {t : Nat} {cs : Array Value} (hf : Fr g W W') (hx : W.heap[g]? = some (.cells cs t (0, 0))) (hne : t ≠ e) : Keeps W W' e := fun _ _ _ _ _ hr => ownsRow_frT hr hf hx hne
theorem Keeps.below {e : TypeId} (hb : Below W.heap.size W W') : Keeps W W' e := fun _ _ _ v _ hr => ownsRow_same hr fun j hj => by
  obtain ⟨cur, hc⟩ := ownsRow_heap hr hj
  exact hb.block j (Array.getElem?_eq_some_iff.1 hc).1
theorem Keeps.set {e : TypeId} {x t : Nat} {cs : Array Value} (hx : At W x t cs) (hne : t ≠ e) (o : Nat) (u : Value) : Keeps W (W.setCell ⟨x, o, none⟩ u) e := fun _ _ _ _ _ hr => ownsRow_set hr hx hne o u
theorem Keeps.grown {e e2 : TypeId} {b2 s2 k2 : Nat} {v2 : Value} {l2 : List Value} (h2 : W.ownsRow b2 e2 s2 v2 k2 l2) (hne : e ≠ e2) (hg : W.grownBy W' v2.ownBlock) : Keeps W W' e := fun _ _ _ _ _ hr => ownsRow_grown hr h2 hne hg
/-- One object more. -/
theorem ObjsAt.snoc2 {l : List Ob} {v' vf : Value} {o : Ob} {vs : List Value} (hl : vs.length = l.length) (hfs : ∀ p ∈ l.zip vs, FieldsAt W lo p.2 p.1.fields) (hk : Keeps W W' 58) (hf : FieldsAt W lo vf o.fields)
    (hr : W'.ownsRow lo 53 2 v' (l.length + 1) (((l.zip vs).flatMap fun p => [.string p.1.name, p.2]) ++ [.string o.name, vf])) : ObjsAt W' lo v' (l ++ [o]) := by
  refine ⟨vs ++ [vf], by simp [hl], ?_, ?_⟩
  · rw [List.zip_append hl.symm]
    simpa using hr
  · rw [List.zip_append hl.symm]
    intro p hp
    rw [List.mem_append] at hp
    rcases hp with hp | hp
    · exact (hfs p hp).to hk
    · simp at hp; subst hp; exact hf.to hk
theorem EnsAt.snoc2 {l : List En} {v' vf : Value} {o : En} {vs : List Value} (hl : vs.length = l.length) (hfs : ∀ p ∈ l.zip vs, WordsAt W lo p.2 p.1.words) (hk : Keeps W W' 9) (hf : WordsAt W lo vf o.words)
    (hr : W'.ownsRow lo 61 2 v' (l.length + 1) (((l.zip vs).flatMap fun p => [.string p.1.name, p.2]) ++ [.string o.name, vf])) : EnsAt W' lo v' (l ++ [o]) := by
  refine ⟨vs ++ [vf], by simp [hl], ?_, ?_⟩
  · rw [List.zip_append hl.symm]
    simpa using hr
  · rw [List.zip_append hl.symm]
    intro p hp
    rw [List.mem_append] at hp
    rcases hp with hp | hp
    · exact (hfs p hp).to hk
    · simp at hp; subst hp; exact hf.to hk
end

/-- Between two definitions: the results' boxes at B, B + 1, B + 2, the parser at g, its box at pb. -/
structure RJ (w0 : World) (b0 B g b n c pb : Nat) (ts : List Tk) (sc : Sc) (i : Nat) (W : World) : Prop where
  pa : Pa W g b n c ts i
  box : ∃ vo ve, At W B 25 #[vo, ve] ∧ ObjsAt W b0 vo sc.objs ∧ EnsAt W b0 ve sc.enums
  c1 : At W (B + 1) 3 #[.int .i64 0]
  c2 : At W (B + 2) 26 #[.int .i64 0]
  pbc : At W pb 68 #[.pointer (some ⟨g, 0, none⟩)]
  below : Below b0 w0 W
  cnt : sc.objs.length + sc.enums.length ≤ i
  low : b0 ≤ B ∧ b0 ≤ g
  lo3 : 3 ≤ b0
theorem At_ne {W : World} {x y t t' : Nat} {cs cs' : Array Value} (h : At W x t cs) (h' : At W y t' cs') (hne : t ≠ t') : x ≠ y := by
  rintro rfl
  unfold At at *
  rw [h] at h'
  simp only [Option.some.injEq, Obj.cells.injEq] at h'
  exact hne h'.2.1
theorem PR.at {w : World} {g b n c i : Nat} (h : PR w g b n c i) : At w g 70 #[.slice (some ⟨b, 0, none⟩) n c, .int .i64 i] := h
section
variable {w0 W W' : World} {b0 B g b n c pb : Nat} {ts : List Tk} {sc : Sc} {i j : Nat}
theorem RJ.tow (h : RJ w0 b0 B g b n c pb ts sc i W) (hf : Fr g W W') (hp : Pa W' g b n c ts j) (hij : i ≤ j) : RJ w0 b0 B g b n c pb ts sc j W' := by
  obtain ⟨vo, ve, hb, ho, he⟩ := h.box
  have hg := h.pa.pr.at
  refine ⟨hp, ⟨vo, ve, hb.fr hf (At_ne hb hg (by decide)), ho.to (.fr hf hg (by decide)) (.fr hf hg (by decide)), he.to (.fr hf hg (by decide)) (.fr hf hg (by decide))⟩,
    h.c1.fr hf (At_ne h.c1 hg (by decide)), h.c2.fr hf (At_ne h.c2 hg (by decide)), h.pbc.fr hf (At_ne h.pbc hg (by decide)), ?_, Nat.le_trans h.cnt hij, h.low, h.lo3⟩
  exact ⟨hf.os.trans h.below.os, hf.tape.trans h.below.tape, hf.output.trans h.below.output, Nat.le_trans h.below.size hf.size, fun k hk => (hf.block k (by have := hb.lt; have := h.low.1; omega) (by have := h.low.2; omega)).trans (h.below.block k hk)⟩
end
theorem OJ.start {w0 W : World} {b0 B g b n c pb i : Nat} {ts : List Tk} {sc : Sc} (h : RJ w0 b0 B g b n c pb ts sc i W) (nm : ByteArray) : OJ W W.heap.size pb g b n c ts nm [] i (W.alloc (.cells #[.string nm, .slice none 0 0] 53)) :=
  ⟨h.pa.alloc _, ⟨_, At.fresh W _ _, World.ownsRow_nil _ _ 58 5⟩, (h.pbc.alloc _).cell 0 rfl, (Fr.refl g W).alloc _, Nat.zero_le _, rfl, h.pa.glt, h.pa.blt, h.pbc.lt, At_ne h.pbc h.pa.pr.at (by decide)⟩
theorem EJ.start {w0 W : World} {b0 B g b n c pb i : Nat} {ts : List Tk} {sc : Sc} (h : RJ w0 b0 B g b n c pb ts sc i W) (nm : ByteArray) : EJ W W.heap.size pb g b n c ts nm [] i (W.alloc (.cells #[.string nm, .slice none 0 0] 61)) :=
  ⟨h.pa.alloc _, ⟨_, At.fresh W _ _, World.ownsRow_nil _ _ 9 1⟩, (h.pbc.alloc _).cell 0 rfl, (Fr.refl g W).alloc _, Nat.zero_le _, rfl, h.pa.glt, h.pa.blt, h.pbc.lt, At_ne h.pbc h.pa.pr.at (by decide)⟩

section
variable {w0 W w6 : World} {b0 B g b n c pb x t e size k base q cap : Nat} {ts : List Tk} {sc : Sc} {j : Nat} {cs : Array Value} {v vo ve : Value} {xs : List Value} {o : Obj}
theorem At.grown (hx : At W x t cs) (hr : W.ownsRow base e size v k xs) (hne : t ≠ e) (hg : (W.alloc o).grownBy w6 v.ownBlock) : At w6 x t cs := by
  refine (hg.block x (by have := hx.lt; simp; omega) ?_).trans (hx.alloc o)
  rcases ownsRow_typ hr hx hne with h | h
  · rw [h]; simp
  · exact fun e => h e.symm
/-- What a row's growth, and a store into the results' box, leave of all else. -/
theorem RJ.grown (h : RJ w0 b0 B g b n c pb ts sc j W) (hb : At W B 25 #[vo, ve]) (hr : W.ownsRow b0 e size v k xs) (he : e = 53 ∨ e = 61) (hg : (W.alloc o).grownBy w6 v.ownBlock) (y : Nat) (u : Value) :
    Pa (w6.setCell ⟨B, y, none⟩ u) g b n c ts j ∧ At (w6.setCell ⟨B, y, none⟩ u) (B + 1) 3 #[.int .i64 0] ∧ At (w6.setCell ⟨B, y, none⟩ u) (B + 2) 26 #[.int .i64 0] ∧ At (w6.setCell ⟨B, y, none⟩ u) pb 68 #[.pointer (some ⟨g, 0, none⟩)] ∧
    Below b0 w0 (w6.setCell ⟨B, y, none⟩ u) ∧ At w6 B 25 #[vo, ve] := by
  have hlo := h.low
  have h3 := h.lo3
  have hpr := h.pa.pr.at
  have hne : ∀ t : Nat, t ≠ 53 → t ≠ 61 → t ≠ e := fun t h1 h2 => by rcases he with rfl | rfl <;> assumption
  have fin : ∀ {x t : Nat} {cs : Array Value}, At W x t cs → t ≠ 53 → t ≠ 61 → t ≠ 25 → At (w6.setCell ⟨B, y, none⟩ u) x t cs := fun hx h1 h2 h3 => (hx.grown hr (hne _ h1 h2) hg).far (At_ne hb hx (Ne.symm h3)) u
  have hbel1 : Below b0 W w6 := ⟨hg.os, hg.tape, hg.output, by have := hg.size; simp at this; omega, fun i hi => by
    refine (hg.block i (by have := hb.lt; simp; omega) ?_).trans (Below.heap_alloc _ _ i (by have := hb.lt; omega))
    intro hv
    have := hr.lt i hv.symm
    omega⟩
  have hbel : Below b0 W (w6.setCell ⟨B, y, none⟩ u) := hbel1.setCell (p := ⟨B, y, none⟩) hlo.1 u
  have hc : ∀ {q : Addr} {u' : Value}, q.block < b0 → W.cell? q = some u' → (w6.setCell ⟨B, y, none⟩ u).cell? q = some u' := fun hp hv => by
    unfold World.cell? at *
    rw [hbel.block _ hp]; exact hv
  have E := h.pa.env
  obtain ⟨cur, hcur, htake⟩ := h.pa.tl
  refine ⟨⟨fin hpr (by decide) (by decide) (by decide), ⟨cur, (fin (cs := cur) hcur (by decide) (by decide) (by decide)), htake⟩, h.pa.len, h.pa.bnd, h.pa.ne, h.pa.lt, h.pa.fin, ?_, h.pa.glob⟩, fin h.c1 (by decide) (by decide) (by decide), fin h.c2 (by decide) (by decide) (by decide), fin h.pbc (by decide) (by decide) (by decide), h.below.trans (hbel |> fun hb => ⟨hb.os, hb.tape, hb.output, hb.size, hb.block⟩), hb.grown hr (hne _ (by decide) (by decide)) hg⟩
  exact ⟨⟨fun c' hc' => hc (by simp; omega) (E.tabs.1 c' hc'), fun i hi => ⟨hc (by simp; omega) (E.tabs.2 i hi).1, hc (by simp; omega) (E.tabs.2 i hi).2⟩⟩, let ⟨m, hm⟩ := E.maxl; ⟨m, hc (by simp; omega) hm⟩, Nat.le_trans E.glob hbel.size⟩
theorem RJ.addObj (h : RJ w0 b0 B g b n c pb ts sc j W) (hb : At W B 25 #[vo, ve]) {vs : List Value} (hl : vs.length = sc.objs.length) (hrow : W.ownsRow b0 53 2 vo sc.objs.length ((sc.objs.zip vs).flatMap fun p => [.string p.1.name, p.2]))
    (hfs : ∀ p ∈ sc.objs.zip vs, FieldsAt W b0 p.2 p.1.fields) (he : EnsAt W b0 ve sc.enums) {nm : ByteArray} {l : List Fd} (hf : FieldsAt W b0 v l) (hg : (W.alloc o).grownBy w6 vo.ownBlock)
    (hnew : w6.ownsRow b0 53 2 (.slice (some ⟨q, 0, none⟩) (sc.objs.length + 1) cap) (sc.objs.length + 1) (((sc.objs.zip vs).flatMap fun p => [.string p.1.name, p.2]) ++ [.string nm, v])) (hcnt : sc.objs.length + sc.enums.length + 1 ≤ j) :
    RJ w0 b0 B g b n c pb ts { sc with objs := sc.objs ++ [⟨nm, l⟩] } j (w6.setCell ⟨B, 0, none⟩ (.slice (some ⟨q, 0, none⟩) (sc.objs.length + 1) cap)) := by
  obtain ⟨h1, h2, h3, h4, h5, h6⟩ := h.grown hb hrow (.inl rfl) hg 0 (.slice (some ⟨q, 0, none⟩) (sc.objs.length + 1) cap)
  have hk : ∀ e : Nat, e ≠ 53 → e ≠ 25 → Keeps W (w6.setCell ⟨B, 0, none⟩ (.slice (some ⟨q, 0, none⟩) (sc.objs.length + 1) cap)) e := fun e hne hne2 =>
    (Keeps.below ((Below.refl _ W).alloc (Nat.le_refl _) o)).trans ((Keeps.grown (hrow.alloc o) hne hg).trans (Keeps.set h6 (Ne.symm hne2) 0 _))
  exact ⟨h1, ⟨_, ve, h6.p0 _, ObjsAt.snoc2 hl hfs (hk 58 (by decide) (by decide)) hf (ownsRow_set hnew h6 (by decide) 0 _), he.to (hk 61 (by decide) (by decide)) (hk 9 (by decide) (by decide))⟩, h2, h3, h4, h5, by simp; omega, h.low, h.lo3⟩
theorem RJ.addEn (h : RJ w0 b0 B g b n c pb ts sc j W) (hb : At W B 25 #[vo, ve]) {vs : List Value} (hl : vs.length = sc.enums.length) (hrow : W.ownsRow b0 61 2 ve sc.enums.length ((sc.enums.zip vs).flatMap fun p => [.string p.1.name, p.2]))
    (hfs : ∀ p ∈ sc.enums.zip vs, WordsAt W b0 p.2 p.1.words) (he : ObjsAt W b0 vo sc.objs) {nm : ByteArray} {l : List ByteArray} (hf : WordsAt W b0 v l) (hg : (W.alloc o).grownBy w6 ve.ownBlock)
    (hnew : w6.ownsRow b0 61 2 (.slice (some ⟨q, 0, none⟩) (sc.enums.length + 1) cap) (sc.enums.length + 1) (((sc.enums.zip vs).flatMap fun p => [.string p.1.name, p.2]) ++ [.string nm, v])) (hcnt : sc.objs.length + sc.enums.length + 1 ≤ j) :
    RJ w0 b0 B g b n c pb ts { sc with enums := sc.enums ++ [⟨nm, l⟩] } j (w6.setCell ⟨B, 1, none⟩ (.slice (some ⟨q, 0, none⟩) (sc.enums.length + 1) cap)) := by
  obtain ⟨h1, h2, h3, h4, h5, h6⟩ := h.grown hb hrow (.inr rfl) hg 1 (.slice (some ⟨q, 0, none⟩) (sc.enums.length + 1) cap)
  have hk : ∀ e : Nat, e ≠ 61 → e ≠ 25 → Keeps W (w6.setCell ⟨B, 1, none⟩ (.slice (some ⟨q, 0, none⟩) (sc.enums.length + 1) cap)) e := fun e hne hne2 =>
    (Keeps.below ((Below.refl _ W).alloc (Nat.le_refl _) o)).trans ((Keeps.grown (hrow.alloc o) hne hg).trans (Keeps.set h6 (Ne.symm hne2) 1 _))
  exact ⟨h1, ⟨vo, _, h6.p1 _, he.to (hk 53 (by decide) (by decide)) (hk 58 (by decide) (by decide)), EnsAt.snoc2 hl hfs (hk 9 (by decide) (by decide)) hf (ownsRow_set hnew h6 (by decide) 1 _)⟩, h2, h3, h4, h5, by simp; omega, h.low, h.lo3⟩
end
end Go.Proofs.YtibgigffedejpaaGreatDoor
namespace Go.Proofs.YtibgigffedejpaaGreatDoor
set_option linter.unusedVariables false
set_option linter.unusedSimpArgs false
open Go.RowKit
set_option linter.unusedVariables false
set_option linter.unusedSimpArgs false

set_option maxRecDepth 100000 in
set_option maxHeartbeats 2000000 in
theorem catchS_idle (n b2 b3 b4 : Nat) (w : World) :
    CallsDIn Fence.wide n Tryz.prog 26 #[.pointer (some ⟨b2, 0, none⟩), .pointer (some ⟨b3, 0, none⟩), .pointer (some ⟨b4, 0, none⟩)] .returning w fun e u' w' => e = .returned (.tuple #[]) ∧ u' = .returning ∧ Below w.heap.size w w' := by
  refine callsDIn_of_wpS Tryz.func26 rfl fun c₀ cs hu => ?_
  simp only [Tryz.ntmps26, List.size_toArray, List.length_cons, List.length_nil, Nat.reduceAdd, Nat.reduceSub, Array.replicate_succ, Array.replicate_zero, List.push_toArray, List.append_toArray, List.nil_append, List.cons_append]
  apply wpS_seq
  refine wpS_region_norecover (fun ρ w => rfl) rfl (by simp [recoverD, hu]) (fun Qx hQx => ?_)
  simp only [Act.put, List.setIfInBounds_toArray, List.set_cons_zero, List.set_cons_succ]
  have HU := Sd.mk hu
  have HQ := Sd.mk hQx
  clear hu hQx
  repeat (refine wpL_step (fun K hK => ?_); have HK := Sd.mk hK; clear hK; go_simp; refine HK.out _ _ ?_; clear HK K)
  refine wpL_nil ?_
  refine HQ.out _ _ _ ?_
  clear HQ Qx
  refine wpS_of_wp ?_
  go_wp2
  exact ⟨rfl, .returning, by rw [← HU.out], _, results_none rfl _ _ _, rfl, rfl, (Below.refl _ w).alloc (Nat.le_refl _) _⟩

set_option maxRecDepth 100000 in
set_option maxHeartbeats 2000000 in
theorem catchS_wrong (n B b2 b3 b4 f : Nat) (v20 v21 : Value) (v3 v4 : Int) (w : World) (hB : B ≤ w.heap.size) (h2B : B ≤ b2) (h3B : B ≤ b3) (h4B : B ≤ b4) (h23 : b2 ≠ b3) (h24 : b2 ≠ b4) (h34 : b3 ≠ b4)
    (h2 : At w b2 25 #[v20, v21]) (h3 : At w b3 3 #[.int .i64 v3]) (h4 : At w b4 26 #[.int .i64 v4]) :
    CallsDIn Fence.wide n Tryz.prog 26 #[.pointer (some ⟨b2, 0, none⟩), .pointer (some ⟨b3, 0, none⟩), .pointer (some ⟨b4, 0, none⟩)] (.panicking (wrS f)) w fun e u' w' => e = .returned (.tuple #[]) ∧ (∃ v, u' = .panicking [{ v := v, recovered := true }]) ∧ Below B w w' ∧
      At w' b2 25 #[.slice none 0 0, .slice none 0 0] ∧ At w' b3 3 #[.int .i64 f] ∧ At w' b4 26 #[.int .i64 80] := by
  have l2 := h2.lt
  have l3 := h3.lt
  have l4 := h4.lt
  refine callsDIn_of_wpS Tryz.func26 rfl fun c₀ cs hu => ?_
  simp only [Tryz.ntmps26, List.size_toArray, List.length_cons, List.length_nil, Nat.reduceAdd, Nat.reduceSub, Array.replicate_succ, Array.replicate_zero, List.push_toArray, List.append_toArray, List.nil_append, List.cons_append]
  apply wpS_seq
  refine wpS_region_recover (v := .iface 66 (.agg #[.int .i64 f])) (cs' := { c₀ with mode := .panicking [{ v := .iface 66 (.agg #[.int .i64 f]), recovered := true }] } :: cs) (fun ρ w => rfl) rfl (by simp [recoverD, hu, wrS]) (fun Qx hQx => ?_)
  simp only [Act.put, List.setIfInBounds_toArray, List.set_cons_zero, List.set_cons_succ]
  have HQ := Sd.mk hQx
  clear hu hQx
  have H2 := Sd.mk h2
  have H3 := Sd.mk h3
  have H4 := Sd.mk h4
  clear h2 h3 h4
  repeat (refine wpL_step (fun K hK => ?_); have HK := Sd.mk hK; clear hK; go_simp; refine HK.out _ _ ?_; clear HK K)
  refine wpL_nil ?_
  refine HQ.out _ _ _ ?_
  clear HQ Qx
  refine wpS_of_wp ?_
  obtain ⟨N, hN⟩ : ∃ N, w.heap.size = N := ⟨_, rfl⟩
  have HN : Sd (At (w.alloc (.cells #[.int .i64 f] 66)) N 66 #[.int .i64 f]) := ⟨by rw [← hN]; exact heap_alloc_new w _⟩
  have K2 := Sd.mk (H2.out.alloc (.cells #[.int .i64 f] 66))
  have K3 := Sd.mk (H3.out.alloc (.cells #[.int .i64 f] 66))
  have K4 := Sd.mk (H4.out.alloc (.cells #[.int .i64 f] 66))
  have HBl : Sd (Below B w (w.alloc (.cells #[.int .i64 f] 66))) := ⟨(Below.refl _ w).alloc hB _⟩
  rw [hN]
  rw [hN] at l2 l3 l4 hB
  generalize w.alloc (.cells #[.int .i64 f] 66) = w1 at HN K2 K3 K4 HBl ⊢
  clear H2 H3 H4
  have c0 : w1.cell? ⟨N, 0, none⟩ = some (.int .i64 f) := HN.out.cell 0 rfl
  have d2 := K2.out.cell 0 rfl
  have d2' := K2.out.cell 1 rfl
  have d3 := K3.out.cell 0 rfl
  have d4 := K4.out.cell 0 rfl
  have z2 := K2.out.fz 0
  have z2' := K2.out.fz 1
  have z3 := K3.out.fz 0
  have z4 := K4.out.fz 0
  have i1 : (b2 = b3) = False := eq_false h23
  have i2 : (b2 = b4) = False := eq_false h24
  have i3 : (b3 = b4) = False := eq_false h34
  have i4 : (N = b2) = False := eq_false (by omega)
  have i5 : (N = b3) = False := eq_false (by omega)
  have i6 : (N = b4) = False := eq_false (by omega)
  have i7 : (b3 = b2) = False := eq_false (by omega)
  have i8 : (b4 = b2) = False := eq_false (by omega)
  have i9 : (b4 = b3) = False := eq_false (by omega)
  generalize hpost : (fun (e : Exit) (a' : Act) (w' : World) => bodyPostS Tryz.prog Tryz.f26 c₀ cs _ e a' _ w') = QQ
  have HQQ := Sd.mk hpost
  clear hpost
  go_wp2
  go_region
  rw [← HQQ.out]
  refine ⟨rfl, _, rfl, _, results_none rfl _ _ _, rfl, ⟨_, rfl⟩, ?_, ?_, ?_, ?_⟩
  · exact ((((HBl.out.setCell (p := ⟨b2, 0, none⟩) h2B _).setCell (p := ⟨b2, 1, none⟩) h2B _).setCell (p := ⟨b3, 0, none⟩) h3B _).setCell (p := ⟨b4, 0, none⟩) h4B _).drew
  · exact ((((K2.out.p0 _).p1 _).far (p := ⟨b3, 0, none⟩) (Ne.symm h23) _).far (p := ⟨b4, 0, none⟩) (Ne.symm h24) _).drew
  · exact ((((K3.out.far (p := ⟨b2, 0, none⟩) h23 _).far (p := ⟨b2, 1, none⟩) h23 _).set 0 _).far (p := ⟨b4, 0, none⟩) (Ne.symm h34) _).drew
  · exact ((((K4.out.far (p := ⟨b2, 0, none⟩) h24 _).far (p := ⟨b2, 1, none⟩) h24 _).far (p := ⟨b3, 0, none⟩) h34 _).set 0 _).drew
end Go.Proofs.YtibgigffedejpaaGreatDoor
namespace Go.Proofs.YtibgigffedejpaaGreatDoor
set_option linter.unusedVariables false
set_option linter.unusedSimpArgs false
open Go.RowKit
set_option linter.unusedVariables false
set_option linter.unusedSimpArgs false

def endTk (p : Nat) : Tk := ⟨0, p, 0, ⟨#[]⟩⟩
def SRPost (b0 : Nat) (w : World) (r : Except Nat Sc) (e : Ending) (w' : World) : Prop :=
  match r with
  | .error a => e = .returned (.tuple #[.agg #[.slice none 0 0, .slice none 0 0], .int .i64 a, .int .i64 80]) ∧ Below b0 w w'
  | .ok sc => ∃ v, e = .returned (.tuple #[v, .int .i64 0, .int .i64 0]) ∧ SchAt w' b0 v sc ∧ Below b0 w w'

/-- The results' boxes. -/
structure Bx (w0 : World) (b0 B : Nat) (W : World) : Prop where
  box : ∃ vo ve, At W B 25 #[vo, ve]
  c1 : At W (B + 1) 3 #[.int .i64 0]
  c2 : At W (B + 2) 26 #[.int .i64 0]
  below : Below b0 w0 W
  low : b0 ≤ B
theorem RJ.bx {w0 W : World} {b0 B g b n c pb i : Nat} {ts : List Tk} {sc : Sc} (h : RJ w0 b0 B g b n c pb ts sc i W) : Bx w0 b0 B W :=
  let ⟨vo, ve, hb, _, _⟩ := h.box
  ⟨⟨vo, ve, hb⟩, h.c1, h.c2, h.below, h.low.1⟩
theorem RJ.bxfr {w0 W W' : World} {b0 B g b n c pb i : Nat} {ts : List Tk} {sc : Sc} (h : RJ w0 b0 B g b n c pb ts sc i W) (hf : Fr g W W') : Bx w0 b0 B W' := by
  obtain ⟨vo, ve, hb, _, _⟩ := h.box
  have hg := h.pa.pr.at
  exact ⟨⟨vo, ve, hb.fr hf (At_ne hb hg (by decide))⟩, h.c1.fr hf (At_ne h.c1 hg (by decide)), h.c2.fr hf (At_ne h.c2 hg (by decide)),
    ⟨hf.os.trans h.below.os, hf.tape.trans h.below.tape, hf.output.trans h.below.output, Nat.le_trans h.below.size hf.size, fun k hk => (hf.block k (by have := hb.lt; have := h.low.1; omega) (by have := h.low.2; omega)).trans (h.below.block k hk)⟩, h.low.1⟩
def sdefers (B : Nat) : List Deferred := [{ target := .fn (.func 26) #[.pointer (some ⟨B, 0, none⟩), .pointer (some ⟨B + 1, 0, none⟩), .pointer (some ⟨B + 1 + 1, 0, none⟩)], args := #[] }]
theorem sread_res {W : World} {B : Nat} {vo ve : Value} {x y : Int} (h0 : At W B 25 #[vo, ve]) (h1 : At W (B + 1) 3 #[.int .i64 x]) (h2 : At W (B + 2) 26 #[.int .i64 y]) (tmps : Array Value)
    (h4 : tmps[4]? = some (.pointer (some ⟨B, 0, none⟩))) (h5 : tmps[5]? = some (.pointer (some ⟨B + 1, 0, none⟩))) (h6 : tmps[6]? = some (.pointer (some ⟨B + 1 + 1, 0, none⟩))) :
    (results Tryz.f15 tmps).run Tryz.prog W = .ok (.tuple #[.agg #[vo, ve], .int .i64 x, .int .i64 y]) W := by
  have a0 := h0.cell 0 rfl
  have a1 := h0.cell 1 rfl
  have a2 := h1.cell 0 rfl
  have a3 : W.cell? ⟨B + 1 + 1, 0, none⟩ = some (.int .i64 y) := h2.cell 0 rfl
  simp [results, Tryz.results15, go_sem, h4, h5, h6, a0, a1, a2, a3]
theorem sread_wrong {w W : World} {b0 B a : Nat} (hx : Bx w b0 B W) {r : Except Nat Sc} (hr : r = .error a) (tmps : Array Value)
    (h4 : tmps[4]? = some (.pointer (some ⟨B, 0, none⟩))) (h5 : tmps[5]? = some (.pointer (some ⟨B + 1, 0, none⟩))) (h6 : tmps[6]? = some (.pointer (some ⟨B + 1 + 1, 0, none⟩))) :
    bodyPostM Fence.wide 3 Tryz.prog Tryz.f15 (SRPost b0 w r) (.panic (wrS a)) { tmps := tmps, defers := sdefers B } W := by
  obtain ⟨vo, ve, hb⟩ := hx.box
  have hsz := hb.lt
  have hlow := hx.low
  refine ⟨by simp, .inr ⟨fun h => (by cases h), _, _, 26, #[.pointer (some ⟨B, 0, none⟩), .pointer (some ⟨B + 1, 0, none⟩), .pointer (some ⟨B + 1 + 1, 0, none⟩)], rfl, by simp [invoke, go_sem, enters_of Tryz.func26 (by kernel_rfl) rfl], fun _ _ => trivial, ?_⟩⟩
  refine (catchS_wrong 2 b0 B (B + 1) (B + 2) a vo ve 0 0 W (by omega) hlow (by omega) (by omega) (by omega) (by omega) (by omega) hb hx.c1 hx.c2).mono ?_
  rintro e u' w' ⟨rfl, ⟨pv, rfl⟩, hbl, l0, l1, l2⟩
  refine ⟨.tuple #[.agg #[.slice none 0 0, .slice none 0 0], .int .i64 a, .int .i64 80], sread_res l0 l1 l2 tmps h4 h5 h6, ?_⟩
  unfold SRPost
  rw [hr]
  exact ⟨rfl, hx.below.trans hbl⟩
theorem sread_right {w W : World} {b0 B : Nat} {vo ve : Value} {sc : Sc} (h0 : At W B 25 #[vo, ve]) (h1 : At W (B + 1) 3 #[.int .i64 0]) (h2 : At W (B + 2) 26 #[.int .i64 0]) (ho : ObjsAt W b0 vo sc.objs) (he : EnsAt W b0 ve sc.enums) (hbl : Below b0 w W) (hlow : b0 ≤ B)
    {r : Except Nat Sc} (hr : r = .ok sc) (tmps : Array Value)
    (h4 : tmps[4]? = some (.pointer (some ⟨B, 0, none⟩))) (h5 : tmps[5]? = some (.pointer (some ⟨B + 1, 0, none⟩))) (h6 : tmps[6]? = some (.pointer (some ⟨B + 1 + 1, 0, none⟩))) :
    bodyPostM Fence.wide 3 Tryz.prog Tryz.f15 (SRPost b0 w r) .ret { tmps := tmps, defers := sdefers B } W := by
  have hsz := h0.lt
  refine ⟨by simp, .inr ⟨fun h => (by cases h), _, _, 26, #[.pointer (some ⟨B, 0, none⟩), .pointer (some ⟨B + 1, 0, none⟩), .pointer (some ⟨B + 1 + 1, 0, none⟩)], rfl, by simp [invoke, go_sem, enters_of Tryz.func26 (by kernel_rfl) rfl], fun _ _ => trivial, ?_⟩⟩
  refine (catchS_idle 2 B (B + 1) (B + 1 + 1) W).mono ?_
  rintro e u' w' ⟨rfl, rfl, hb⟩
  refine ⟨.tuple #[.agg #[vo, ve], .int .i64 0, .int .i64 0], sread_res (h0.below hb) (h1.below hb) (h2.below hb) tmps h4 h5 h6, ?_⟩
  unfold SRPost
  rw [hr]
  exact ⟨_, rfl, ⟨vo, ve, rfl, ho.to (Keeps.below hb) (Keeps.below hb), he.to (Keeps.below hb) (Keeps.below hb)⟩, hbl.trans (hb.mono hbl.size |> fun _ => ⟨hb.os, hb.tape, hb.output, hb.size, fun k hk => hb.block k (by omega)⟩)⟩

theorem sread_fin {w0 W : World} {b0 B g b n c pb i : Nat} {ts : List Tk} {sc : Sc} (h : RJ w0 b0 B g b n c pb ts sc i W) {vo ve : Value} (hb : At W B 25 #[vo, ve]) (ho : ObjsAt W b0 vo sc.objs) (he : EnsAt W b0 ve sc.enums)
    {r : Except Nat Sc} (hr : r = .ok sc) (tmps : Array Value)
    (h4 : tmps[4]? = some (.pointer (some ⟨B, 0, none⟩))) (h5 : tmps[5]? = some (.pointer (some ⟨B + 1, 0, none⟩))) (h6 : tmps[6]? = some (.pointer (some ⟨B + 1 + 1, 0, none⟩))) :
    bodyPostM Fence.wide 3 Tryz.prog Tryz.f15 (SRPost b0 w0 r) .ret { tmps := tmps, defers := sdefers B } ((((W.setCell ⟨B, 0, none⟩ vo).setCell ⟨B, 1, none⟩ ve).setCell ⟨B + 1, 0, none⟩ (.int .i64 0)).setCell ⟨B + 1 + 1, 0, none⟩ (.int .i64 0)) := by
  have k1 := hb.p0 vo
  have k2 := k1.p1 ve
  have c1a := (h.c1.far (p := ⟨B, 0, none⟩) (by simp) vo).far (p := ⟨B, 1, none⟩) (by simp) ve
  have c2a := (h.c2.far (p := ⟨B, 0, none⟩) (by simp) vo).far (p := ⟨B, 1, none⟩) (by simp) ve
  have k3 := k2.far (p := ⟨B + 1, 0, none⟩) (by simp) (.int .i64 0)
  have c1b : At _ (B + 1) 3 #[.int .i64 0] := c1a.set 0 (.int .i64 0)
  have c2b := c2a.far (p := ⟨B + 1, 0, none⟩) (by simp) (.int .i64 0)
  have k4 := k3.far (p := ⟨B + 1 + 1, 0, none⟩) (by simp <;> omega) (.int .i64 0)
  have c1c := c1b.far (p := ⟨B + 1 + 1, 0, none⟩) (by simp) (.int .i64 0)
  have c2c : At _ (B + 2) 26 #[.int .i64 0] := c2b.set 0 (.int .i64 0)
  have hk : ∀ e : Nat, e ≠ 25 → e ≠ 3 → e ≠ 26 → Keeps W ((((W.setCell ⟨B, 0, none⟩ vo).setCell ⟨B, 1, none⟩ ve).setCell ⟨B + 1, 0, none⟩ (.int .i64 0)).setCell ⟨B + 1 + 1, 0, none⟩ (.int .i64 0)) e := fun e e1 e2 e3 =>
    (Keeps.set hb (Ne.symm e1) 0 vo).trans ((Keeps.set k1 (Ne.symm e1) 1 ve).trans ((Keeps.set c1a (Ne.symm e2) 0 _).trans (Keeps.set c2b (Ne.symm e3) 0 _)))
  have hlow := h.low.1
  refine sread_right k4 c1c c2c (ho.to (hk 53 (by decide) (by decide) (by decide)) (hk 58 (by decide) (by decide) (by decide))) (he.to (hk 61 (by decide) (by decide) (by decide)) (hk 9 (by decide) (by decide) (by decide))) ?_ hlow hr tmps h4 h5 h6
  exact (((h.below.setCell (p := ⟨B, 0, none⟩) hlow _).setCell (p := ⟨B, 1, none⟩) hlow _).setCell (p := ⟨B + 1, 0, none⟩) (by simp; omega) _).setCell (p := ⟨B + 1 + 1, 0, none⟩) (by simp; omega) _
theorem sread_start (w W0 w3 : World) (b0 B b c : Nat) (v : Value) (pre : List Tk) (p : Nat) (hlen : pre.length ≤ 2048) (E : Env w) (h3 : 3 ≤ b0) (hb0 : b0 ≤ B) (hs0 : W0.heap.size = B + 3)
    (KL : ∀ k, v.ownBlock = some k → b0 ≤ k ∧ k < B) (K0 : At W0 B 25 #[.slice none 0 0, .slice none 0 0]) (K1 : At W0 (B + 1) 3 #[.int .i64 0]) (K2 : At W0 (B + 2) 26 #[.int .i64 0]) (KB : Below B w W0) (hb1 : b0 ≤ b) (o : Obj)
    (HW3 : w3.ownsRow b0 43 4 (.slice (some ⟨b, 0, none⟩) (pre.length + 1) c) (pre.length + 1) (pre.flatMap Tk.cells ++ (endTk p).cells)) (HG3 : (W0.alloc o).grownBy w3 v.ownBlock) :
    RJ w b0 B w3.heap.size b (pre.length + 1) c (w3.heap.size + 1) (pre ++ [endTk p]) ⟨[], []⟩ 0 ((w3.alloc (.cells #[.slice (some ⟨b, 0, none⟩) (pre.length + 1) c, .int .i64 0] 70)).alloc (.cells #[.pointer (some ⟨w3.heap.size, 0, none⟩)] 68)) := by
  obtain ⟨N, hN⟩ : ∃ N, w3.heap.size = N := ⟨_, rfl⟩
  have hsz : B + 4 ≤ N := by have := HG3.size; simp at this; omega
  have keep : ∀ k, k < B + 3 → v.ownBlock ≠ some k → w3.heap[k]? = W0.heap[k]? := fun k hk hne => (HG3.block k (by simp; omega) (fun e => hne e.symm)).trans (Below.heap_alloc _ _ k (by omega))
  have keepB : ∀ k, B ≤ k → k < B + 3 → w3.heap[k]? = W0.heap[k]? := fun k hk hk2 => keep k hk2 (fun e => by have := KL k e; omega)
  have keepL : ∀ k, k < b0 → w3.heap[k]? = w.heap[k]? := fun k hk => (keep k (by omega) (fun e => by have := KL k e; omega)).trans (KB.block k (by omega))
  obtain ⟨W4, hW4⟩ : ∃ W4, (w3.alloc (.cells #[.slice (some ⟨b, 0, none⟩) (pre.length + 1) c, .int .i64 0] 70)).alloc (.cells #[.pointer (some ⟨w3.heap.size, 0, none⟩)] 68) = W4 := ⟨_, rfl⟩
  have k4 : ∀ k, k < N → W4.heap[k]? = w3.heap[k]? := fun k hk => by rw [← hW4]; exact (Below.heap_alloc _ _ k (by simp; omega)).trans (Below.heap_alloc _ _ k (by omega))
  have hg4 : At W4 N 70 #[.slice (some ⟨b, 0, none⟩) (pre.length + 1) c, .int .i64 0] := by rw [← hW4, ← hN]; exact (At.fresh w3 _ _).alloc _
  have hp4 : At W4 (N + 1) 68 #[.pointer (some ⟨N, 0, none⟩)] := by rw [← hW4, ← hN]; simpa using At.fresh (w3.alloc (.cells #[.slice (some ⟨b, 0, none⟩) (pre.length + 1) c, .int .i64 0] 70)) 68 #[.pointer (some ⟨w3.heap.size, 0, none⟩)]
  have hs4 : W4.heap.size = N + 2 := by rw [← hW4]; simp [hN]
  have ho4 : W4.os = w.os ∧ W4.tape = w.tape ∧ W4.output = w.output := by
    rw [← hW4]
    exact ⟨HG3.os.trans KB.os, HG3.tape.trans KB.tape, HG3.output.trans KB.output⟩
  rw [hW4, hN]
  have hbel : Below b0 w W4 := ⟨ho4.1, ho4.2.1, ho4.2.2, by have := KB.size; omega, fun k hk => (k4 k (by omega)).trans (keepL k hk)⟩
  obtain ⟨cur, hcur, htake⟩ : ∃ cur : Array Value, w3.heap[b]? = some (.cells cur 43 (0, 0)) ∧ cur.toList.take ((pre.length + 1) * 4) = pre.flatMap Tk.cells ++ (endTk p).cells := by
    rcases HW3.2 with ⟨hv, _⟩ | ⟨g', cap', cur, hv, hg', hh, _, _, _, ht⟩
    · cases hv
    · simp only [Value.slice.injEq, Option.some.injEq, Addr.mk.injEq, and_true, true_and] at hv
      obtain ⟨rfl, rfl⟩ := hv
      exact ⟨cur, hh, ht⟩
  have hbN : b < N := by rw [← hN]; exact (Array.getElem?_eq_some_iff.1 hcur).1
  have hc : ∀ {q : Addr} {u : Value}, q.block < b0 → w.cell? q = some u → W4.cell? q = some u := fun hp hv => by
    unfold World.cell? at *
    rw [hbel.block _ hp]; exact hv
  refine ⟨⟨hg4, ⟨cur, (k4 b hbN).trans hcur, ?_⟩, by simp, by omega, by omega, by simp, ⟨pre, p, rfl⟩, ?_, by omega⟩, ⟨_, _, (k4 B (by omega)).trans ((keepB B (by omega) (by omega)).trans K0), ObjsAt.nil _ _, EnsAt.nil _ _⟩,
    (k4 _ (by omega)).trans ((keepB _ (by omega) (by omega)).trans K1), (k4 _ (by omega)).trans ((keepB _ (by omega) (by omega)).trans K2), hp4, hbel, by simp, ⟨hb0, by omega⟩, h3⟩
  · rw [List.length_append]
    simpa using htake
  · exact ⟨⟨fun c' hc' => hc (by simp; omega) (E.tabs.1 c' hc'), fun i hi => ⟨hc (by simp; omega) (E.tabs.2 i hi).1, hc (by simp; omega) (E.tabs.2 i hi).2⟩⟩, let ⟨m, hm⟩ := E.maxl; ⟨m, hc (by simp; omega) hm⟩, Nat.le_trans E.glob hbel.size⟩

end Go.Proofs.YtibgigffedejpaaGreatDoor
namespace Go.Proofs.YtibgigffedejpaaGreatDoor
set_option linter.unusedVariables false
set_option linter.unusedSimpArgs false
open Go.RowKit
set_option linter.unusedVariables false
set_option linter.unusedSimpArgs false

theorem info53 : (Tryz.prog.info? 53).map (fun i => (i.zero, i.size, i.bytes)) = some (some (.agg #[.string ⟨#[]⟩, .slice none 0 0]), 2, 40) := by kernel_rfl
theorem info61 : (Tryz.prog.info? 61).map (fun i => (i.zero, i.size, i.bytes)) = some (some (.agg #[.string ⟨#[]⟩, .slice none 0 0]), 2, 40) := by kernel_rfl
set_option maxRecDepth 100000 in
set_option maxHeartbeats 16000000 in
theorem sread_c (w : World) (b0 : Nat) (v : Value) (pre : List Tk) (p : Nat) (hrow : w.ownsRow b0 43 4 v pre.length (pre.flatMap Tk.cells)) (hb0 : b0 ≤ w.heap.size) (h3 : 3 ≤ b0) (hlen : pre.length ≤ 2048) (E : Env w) (r : Except Nat Sc) (hr : readT (pre ++ [endTk p]) = r) :
    Calls Tryz.prog 15 #[v, .int .i64 p] w (SRPost b0 w r) := by
  have hmf : ∀ (fn : Fn) (first cap : Array Value) (w : World), (Instr.makeFunc fn first cap).run Tryz.prog w = .ok (.func fn first cap) w := fun _ _ _ _ => rfl
  obtain ⟨i0, hi, hz0, hz1, hz2⟩ := info_parts info43
  obtain ⟨j0, hij, hjz0, hjz1, hjz2⟩ := info_parts info53
  obtain ⟨l0, hil, hlz0, hlz1, hlz2⟩ := info_parts info61
  obtain ⟨ao, cc, rfl⟩ := ownsRow_slice hrow
  have HR := Sd.mk hr
  have HRow := Sd.mk hrow
  clear hr hrow
  refine (callsIn_wide (n := 3)).1 ?_
  refine callsIn_of_wp_marks Tryz.func15 rfl trivial ?_ rfl
  simp only [Tryz.ntmps15, List.size_toArray, List.length_cons, List.length_nil, Nat.reduceAdd, Nat.reduceSub, Array.replicate_succ, Array.replicate_zero, List.push_toArray, List.append_toArray, List.nil_append, List.cons_append]
  refine wpIn_wide.2 ?_
  go_upto_region 2 with (fail)
  obtain ⟨B, hB⟩ : ∃ B, w.heap.size = B := ⟨_, rfl⟩
  obtain ⟨W0, hW0⟩ : ∃ W0, ((w.alloc (.cells #[.slice none 0 0, .slice none 0 0] 25)).alloc (.cells #[.int .i64 0] 3)).alloc (.cells #[.int .i64 0] 26) = W0 := ⟨_, rfl⟩
  have hs0 : W0.heap.size = B + 3 := by rw [← hW0, ← hB]; simp
  have hbl0 : Below B w W0 := by
    rw [← hW0, ← hB]
    exact (((Below.refl _ w).alloc (Nat.le_refl _) _).alloc (by simp) _).alloc (by simp; omega) _
  have k0 : At W0 B 25 #[.slice none 0 0, .slice none 0 0] := by rw [← hW0, ← hB]; exact ((At.fresh w _ _).alloc _).alloc _
  have k1 : At W0 (B + 1) 3 #[.int .i64 0] := by rw [← hW0, ← hB]; have := (At.fresh (w.alloc (.cells #[.slice none 0 0, .slice none 0 0] 25)) 3 #[.int .i64 0]).alloc (.cells #[.int .i64 0] 26); simpa using this
  have k2 : At W0 (B + 2) 26 #[.int .i64 0] := by rw [← hW0, ← hB]; simpa using At.fresh ((w.alloc (.cells #[.slice none 0 0, .slice none 0 0] 25)).alloc (.cells #[.int .i64 0] 3)) 26 #[.int .i64 0]
  have kr : W0.ownsRow b0 43 4 (.slice ao pre.length cc) pre.length (pre.flatMap Tk.cells) := by rw [← hW0]; exact ((HRow.out.alloc _).alloc _).alloc _
  have kl := HRow.out.lt
  rw [hB] at kl
  have KL := Sd.mk kl
  have K0 := Sd.mk k0
  have K1 := Sd.mk k1
  have K2 := Sd.mk k2
  have KR := Sd.mk kr
  have KB := Sd.mk hbl0
  rw [hW0]
  rw [hB] at hb0 ⊢
  have HB := Sd.mk hB
  clear hW0 k0 k1 k2 kr hbl0 kl hB HRow
  have hnews : ∀ j u, (endTk p).cells[j]? = some u → (W0.alloc (.cells #[.int .i64 0, .string ⟨#[]⟩, .int .i64 p, .int .i64 0] 43)).cell? ((⟨B + 3, 0, none⟩ : Addr).add j) = some u := by
    have := World.news_of_block (cs := #[.int .i64 0, .string ⟨#[]⟩, .int .i64 p, .int .i64 0]) (t := 43) (fr := (0, 0)) (w := W0.alloc (.cells #[.int .i64 0, .string ⟨#[]⟩, .int .i64 p, .int .i64 0] 43)) (B := B + 3) (by rw [← hs0]; exact heap_alloc_new W0 _)
    exact this
  have HN := Sd.mk hnews
  clear hnews
  go_upto_region 3 with (at_builtin; refine wpList_append_own _ rfl _ _ 37 rfl b0 43 i0 (.agg #[.int .i64 0, .string ⟨#[]⟩, .int .i64 0, .int .i64 0]) 4 40 Tryz.underlying37 hi hz0 hz1 hz2 rfl (by decide) (.slice ao pre.length cc) pre.length (pre.flatMap Tk.cells) rfl (KR.out.alloc _) ⟨B + 3, 0, none⟩ 1 1 (endTk p).cells rfl rfl HN.out (by simp [endTk, Tk.cells, Value.oneCell']) (by unfold maxLen; omega) (by omega) (by simp; omega) ?_; intro v' w3 hown' hg3 hnil3; obtain ⟨b, c, rfl, hb1, hb2⟩ := hown'.form (by omega); have HW3 := Sd.mk hown'; have HG3 := Sd.mk hg3; clear hown' hg3 hnil3)
  have HJ := Sd.mk (sread_start w W0 w3 b0 B b c (.slice ao pre.length cc) pre p hlen E h3 hb0 hs0 KL.out K0.out K1.out K2.out KB.out hb1 _ HW3.out HG3.out)
  have hN3 : w3.heap.size < ((w3.alloc (.cells #[.slice (some ⟨b, 0, none⟩) (pre.length + 1) c, .int .i64 0] 70)).alloc (.cells #[.pointer (some ⟨w3.heap.size, 0, none⟩)] 68)).heap.size := by simp; omega
  generalize (w3.alloc (.cells #[.slice (some ⟨b, 0, none⟩) (pre.length + 1) c, .int .i64 0] 70)).alloc (.cells #[.pointer (some ⟨w3.heap.size, 0, none⟩)] 68) = W4 at HJ hN3 ⊢
  clear HN HG3 HW3 hb2 KL K0 K1 K2 KR KB hs0
  obtain ⟨ts, hts⟩ : ∃ ts, pre ++ [endTk p] = ts := ⟨_, rfl⟩
  have hlen2 : ts.length = pre.length + 1 := by rw [← hts]; simp
  rw [hts] at HR HJ
  obtain ⟨n, hn⟩ : ∃ n, pre.length = n := ⟨_, rfl⟩
  rw [hn] at HJ hlen hlen2 ⊢
  generalize w3.heap.size = g at HJ hN3 ⊢
  have HTS := Sd.mk hts
  clear hts
  have hsc : Sd (loopT ts ts.length true ⟨[], []⟩ 0 = r) := ⟨HR.out⟩
  clear HR
  go_wp2
  go_loopw [8] (fun t8 wr => ∃ (m i : Nat) (f : Bool) (sc : Sc), t8 = .bool f ∧ Sd (RJ w b0 B g b (n + 1) c (g + 1) ts sc i wr) ∧ ts.length ≤ m + i ∧ Sd (loopT ts m f sc i = r)) (fun _ wr => ts.length - atOf g wr)
  case atStart => exact ⟨ts.length, 0, true, ⟨[], []⟩, rfl, HJ, by omega, hsc⟩
  case round =>
    obtain ⟨m, i, f, sc, rfl, H1, hm, HM⟩ := hrel
    have pc := H1.out.pbc.cell 0 rfl
    have a1 := H1.out.pa.pr.c1
    obtain ⟨m, rfl⟩ : ∃ m', m = m' + 1 := ⟨m - 1, by have := H1.out.pa.lt; omega⟩
    have hit := H1.out.pa.lt
    have HL : Sd ((if f = true ∨ i + 1 < ts.length then (match defT ts sc i with | .error a => .error a | .ok (s', j) => loopT ts m false s' j) else .ok sc) = r) := ⟨by rw [← HM.out, loopT]; rfl⟩
    clear HM
    by_cases hc : f = true ∨ i + 1 < ts.length
    · have HL2 : Sd ((match defT ts sc i with | .error a => .error a | .ok (s', j) => loopT ts m false s' j) = r) := ⟨by rw [← HL.out, if_pos hc]⟩
      clear HL
      have hcond : f = true ∨ (f = false ∧ i < n) := by
        cases f with
        | true => exact .inl rfl
        | false => exact .inr ⟨rfl, by simp at hc; omega⟩
      clear hc
      rcases hcond with hf | ⟨hf, hin⟩
      · subst hf
        go_upto_region 6 with (fail)
        cases hs : skipT ts 1 tType i with
        | true =>
          have cS := fun W h => skS_t W g b (n + 1) c i ts 1 tType h (by decide) hs
          unfold tType at cS
          cases hn1 : nmT ts [] (i + 1) with
          | error a =>
            have HE : Sd (r = .error a) := ⟨by rw [← HL2.out]; unfold defT; rw [hs]; simp only [if_true]; rw [hn1]⟩
            have cN := fun W h => name0_c W g b (n + 1) c (i + 1) ts h _ hn1
            unfold PPost at cN
            simp only at cN
            clear HL2 hs hn1
            go_wp2_with (first | (go_at_call 27; refine (cS _ H1.out.pa).mono ?_; rintro e w1 ⟨rfl, h1, h2⟩; have H2 := Sd.mk (H1.out.tow h2 h1 (by omega)); have pc2 := H2.out.pbc.cell 0 rfl; clear h1 h2) | (go_at_call 28; refine (cN _ H2.out.pa).mono ?_; rintro e w2 ⟨rfl, h2⟩; have HF3 := Sd.mk h2; clear h2))
            exact sread_wrong (H2.out.bxfr HF3.out) HE.out _ rfl rfl rfl
          | ok p1 =>
            obtain ⟨nm, y1⟩ := p1
            have hy1 := nmT_ok H1.out.pa.fin hn1
            have cN := fun W h => name0_c W g b (n + 1) c (i + 1) ts h _ hn1
            unfold PPost at cN
            simp only at cN
            cases hsm : someT ts (fieldT ts) y1 with
            | error a =>
              have HE : Sd (r = .error a) := ⟨by rw [← HL2.out]; unfold defT; rw [hs]; simp only [if_true]; rw [hn1]; simp only; rw [hsm]⟩
              go_upto_region 8 with (first | (go_at_call 27; refine (cS _ H1.out.pa).mono ?_; rintro e w1 ⟨rfl, h1, h2⟩; have H2 := Sd.mk (H1.out.tow h2 h1 (by omega)); have pc2 := H2.out.pbc.cell 0 rfl; clear h1 h2) | (go_at_call 28; refine (cN _ H2.out.pa).mono ?_; rintro e w2 ⟨rfl, h1, h2⟩; have H3 := Sd.mk (H2.out.tow h2 h1 (by omega)); clear h1 h2))
              have HO := Sd.mk (OJ.start H3.out nm)
              have HF3 := Sd.mk ((Fr.refl g w2).alloc (.cells #[.string nm, .slice none 0 0] 53))
              have pc3 := (H3.out.pbc.alloc (.cells #[.string nm, .slice none 0 0] 53)).cell 0 rfl
              have cF := fields_c w2 w2.heap.size (g + 1) g b (n + 1) c y1 ts nm _ HO.out _ hsm
              unfold SomePost at cF
              simp only at cF
              generalize (w2.alloc (.cells #[.string nm, .slice none 0 0] 53)) = w4 at HO HF3 pc3 cF ⊢
              generalize w2.heap.size = O at HO cF ⊢
              clear HL2 hs hn1 hsm cN cS
              go_wp2_with (go_at_call 29; refine cF.mono ?_; rintro e w5 ⟨rfl, h2⟩; have HF5 := Sd.mk h2; clear h2)
              exact sread_wrong (H3.out.bxfr HF5.out) HE.out _ rfl rfl rfl
            | ok p2 =>
              obtain ⟨fl, y2⟩ := p2
              have hy2 := someT_ok H1.out.pa.fin (fun h => fieldT_ok H1.out.pa.fin h) hy1.2 hsm
              have HE : Sd (loopT ts m false ⟨sc.objs ++ [⟨nm, fl⟩], sc.enums⟩ y2 = r) := ⟨by rw [← HL2.out]; unfold defT; rw [hs]; simp only [if_true]; rw [hn1]; simp only; rw [hsm]⟩
              go_upto_region 8 with (first | (go_at_call 27; refine (cS _ H1.out.pa).mono ?_; rintro e w1 ⟨rfl, h1, h2⟩; have H2 := Sd.mk (H1.out.tow h2 h1 (by omega)); have pc2 := H2.out.pbc.cell 0 rfl; clear h1 h2) | (go_at_call 28; refine (cN _ H2.out.pa).mono ?_; rintro e w2 ⟨rfl, h1, h2⟩; have H3 := Sd.mk (H2.out.tow h2 h1 (by omega)); clear h1 h2))
              have HO := Sd.mk (OJ.start H3.out nm)
              have pc3 := (H3.out.pbc.alloc (.cells #[.string nm, .slice none 0 0] 53)).cell 0 rfl
              have hOb : b0 ≤ w2.heap.size := by have := H3.out.pa.glt; have := H3.out.low.2; omega
              have cF := fields_c w2 w2.heap.size (g + 1) g b (n + 1) c y1 ts nm _ HO.out _ hsm
              unfold SomePost at cF
              simp only at cF
              generalize (w2.alloc (.cells #[.string nm, .slice none 0 0] 53)) = w4 at HO pc3 cF ⊢
              generalize w2.heap.size = O at HO cF hOb ⊢
              clear HL2 hs hn1 hsm cN cS
              go_upto_region 9 with (go_at_call 29; refine cF.mono ?_; rintro e w5 ⟨rfl, h2⟩; have HO5 := Sd.mk h2; clear h2)
              have H5 := Sd.mk (H3.out.tow HO5.out.fr HO5.out.pa (by omega))
              obtain ⟨v, hv, hvr⟩ := HO5.out.box
              obtain ⟨vo, ve, hbx, hob, hen⟩ := H5.out.box
              have HOB := Sd.mk hob
              have HEN := Sd.mk hen
              obtain ⟨vs, hvl, hvrow, hvf⟩ := HOB.out
              have x0 := hv.cell 0 rfl
              have x1 := hv.cell 1 rfl
              have y0 := hbx.cell 0 rfl
              have hcn := H5.out.cnt
              have hcn0 := H3.out.cnt
              have hy2l := hy2.2
              have hbl5 : b0 ≤ w5.heap.size := by have := hbx.lt; have := H5.out.low.1; omega
              have HV := Sd.mk hv
              have HVR := Sd.mk hvr
              have HBX := Sd.mk hbx
              have HROW := Sd.mk hvrow
              have HVF := Sd.mk hvf
              have HVL := Sd.mk hvl
              clear hv hvr hbx hvrow hvf hvl
              go_wp2_with (at_builtin; refine wpList_append_own _ rfl _ _ 22 rfl b0 53 j0 (.agg #[.string ⟨#[]⟩, .slice none 0 0]) 2 40 Tryz.underlying22 hij hjz0 hjz1 hjz2 rfl (by decide) vo sc.objs.length _ rfl (HROW.out.alloc _) ⟨w5.heap.size, 0, none⟩ 1 1 [.string nm, v] rfl rfl (World.news_of_block (heap_alloc_new w5 _)) (by have := ownsRow_slice HVR.out; obtain ⟨ao', cc', rfl⟩ := this; simp [Value.oneCell']) (by unfold maxLen; omega) (by omega) (by simp; omega) ?_; intro v' w6 hown' hg3 hnil3; obtain ⟨q, cp, rfl, hq1, hq2⟩ := hown'.form (by omega); have HW6 := Sd.mk hown'; have HG6 := Sd.mk hg3; have HB6 := Sd.mk (HBX.out.grown HROW.out (by decide) hg3); have e0 := HB6.out.cell 0 rfl; have ez := HB6.out.fz 0; clear hown' hg3 hnil3; go_frame)
              have H7 := Sd.mk (H5.out.addObj HBX.out HVL.out HROW.out HVF.out HEN.out (nm := nm) (l := fl) (ownsRow_mono HVR.out (by omega)) HG6.out HW6.out (by omega))
              go_roundw
              case rel => exact ⟨m, y2, false, ⟨sc.objs ++ [⟨nm, fl⟩], sc.enums⟩, rfl, H7, by omega, HE⟩
              case measure => exact meas_Pa H1.out.pa H7.out.pa (by omega)
        | false =>
          have cS := fun W h => skS_f W g b (n + 1) c i ts 1 tType h hs
          unfold tType at cS
          cases hT : takeT ts [tEnum] i with
          | error a =>
            have HE : Sd (r = .error a) := ⟨by rw [← HL2.out]; unfold defT; rw [hs]; simp only [Bool.false_eq_true, if_false]; rw [hT]⟩
            have cT := fun W q cc (h : Pa W g b (n + 1) c ts i) hq hqg => take_c W g b (n + 1) c i ts [tEnum] q 1 cc h hq hqg rfl (by decide) (by unfold tEnum; simp; decide) _ hT
            unfold PPost at cT
            simp only at cT
            clear HL2 hs hT
            go_wp2_with (first | (go_at_call 27; refine (cS _ H1.out.pa).mono ?_; rintro e w1 ⟨rfl, h1, h2⟩; have H2 := Sd.mk (H1.out.tow h2 h1 (by omega)); have pc2 := H2.out.pbc.cell 0 rfl; clear h1 h2) | (go_at_call 32; refine (cT _ _ _ (H2.out.pa.alloc _) (lit_cells _ 9 _ _ rfl) (by have := H2.out.pa.glt; omega)).mono ?_; rintro e w1' ⟨rfl, h2⟩; have HF3 := Sd.mk (((Fr.refl g _).alloc _).trans h2); clear h2))
            exact sread_wrong (H2.out.bxfr HF3.out) HE.out _ rfl rfl rfl
          | ok p0 =>
            obtain ⟨u0, z1⟩ := p0
            have hz1' := takeT_ok H1.out.pa.fin (by unfold tEnum; simp; decide) hit hT
            have hz1l : i ≤ z1 ∧ z1 < ts.length := ⟨by omega, hz1'.2⟩
            have cT := fun W q cc (h : Pa W g b (n + 1) c ts i) hq hqg => take_c W g b (n + 1) c i ts [tEnum] q 1 cc h hq hqg rfl (by decide) (by unfold tEnum; simp; decide) _ hT
            unfold PPost at cT
            simp only at cT
            clear hz1'
            cases hn1 : nmT ts [] z1 with
            | error a =>
              have HE : Sd (r = .error a) := ⟨by rw [← HL2.out]; unfold defT; rw [hs]; simp only [Bool.false_eq_true, if_false]; rw [hT]; simp only; rw [hn1]⟩
              have cN := fun W h => name0_c W g b (n + 1) c z1 ts h _ hn1
              unfold PPost at cN
              simp only at cN
              clear HL2 hs hn1 hT
              go_wp2_with (first | (go_at_call 27; refine (cS _ H1.out.pa).mono ?_; rintro e w1 ⟨rfl, h1, h2⟩; have H2 := Sd.mk (H1.out.tow h2 h1 (by omega)); have pc2 := H2.out.pbc.cell 0 rfl; clear h1 h2) | (go_at_call 32; refine (cT _ _ _ (H2.out.pa.alloc _) (lit_cells _ 9 _ _ rfl) (by have := H2.out.pa.glt; omega)).mono ?_; rintro e w1' ⟨rfl, h1, h2⟩; have H2' := Sd.mk (H2.out.tow (((Fr.refl g _).alloc _).trans h2) h1 (by omega)); have pc2' := H2'.out.pbc.cell 0 rfl; clear h1 h2) | (go_at_call 28; refine (cN _ H2'.out.pa).mono ?_; rintro e w2 ⟨rfl, h2⟩; have HF3 := Sd.mk h2; clear h2))
              exact sread_wrong (H2'.out.bxfr HF3.out) HE.out _ rfl rfl rfl
            | ok p1 =>
              obtain ⟨nm, y1⟩ := p1
              have hy1 := nmT_ok H1.out.pa.fin hn1
              have cN := fun W h => name0_c W g b (n + 1) c z1 ts h _ hn1
              unfold PPost at cN
              simp only at cN
              cases hsm : someT ts (wordT ts) y1 with
              | error a =>
                have HE : Sd (r = .error a) := ⟨by rw [← HL2.out]; unfold defT; rw [hs]; simp only [Bool.false_eq_true, if_false]; rw [hT]; simp only; rw [hn1]; simp only; rw [hsm]⟩
                go_upto_region 12 with (first | (go_at_call 27; refine (cS _ H1.out.pa).mono ?_; rintro e w1 ⟨rfl, h1, h2⟩; have H2 := Sd.mk (H1.out.tow h2 h1 (by omega)); have pc2 := H2.out.pbc.cell 0 rfl; clear h1 h2) | (go_at_call 32; refine (cT _ _ _ (H2.out.pa.alloc _) (lit_cells _ 9 _ _ rfl) (by have := H2.out.pa.glt; omega)).mono ?_; rintro e w1' ⟨rfl, h1, h2⟩; have H2' := Sd.mk (H2.out.tow (((Fr.refl g _).alloc _).trans h2) h1 (by omega)); have pc2' := H2'.out.pbc.cell 0 rfl; clear h1 h2) | (go_at_call 28; refine (cN _ H2'.out.pa).mono ?_; rintro e w2 ⟨rfl, h1, h2⟩; have H3 := Sd.mk (H2'.out.tow h2 h1 (by omega)); clear h1 h2))
                have HO := Sd.mk (EJ.start H3.out nm)
                have HF3 := Sd.mk ((Fr.refl g w2).alloc (.cells #[.string nm, .slice none 0 0] 61))
                have pc3 := (H3.out.pbc.alloc (.cells #[.string nm, .slice none 0 0] 61)).cell 0 rfl
                have cF := words_c w2 w2.heap.size (g + 1) g b (n + 1) c y1 ts nm _ HO.out _ hsm
                unfold SomePost at cF
                simp only at cF
                generalize (w2.alloc (.cells #[.string nm, .slice none 0 0] 61)) = w4 at HO HF3 pc3 cF ⊢
                generalize w2.heap.size = O at HO cF ⊢
                clear HL2 hs hn1 hsm cN cS
                go_wp2_with (go_at_call 29; refine cF.mono ?_; rintro e w5 ⟨rfl, h2⟩; have HF5 := Sd.mk h2; clear h2)
                exact sread_wrong (H3.out.bxfr HF5.out) HE.out _ rfl rfl rfl
              | ok p2 =>
                obtain ⟨fl, y2⟩ := p2
                have hy2 := someT_ok H1.out.pa.fin (fun h => wordT_ok H1.out.pa.fin h) hy1.2 hsm
                have HE : Sd (loopT ts m false ⟨sc.objs, sc.enums ++ [⟨nm, fl⟩]⟩ y2 = r) := ⟨by rw [← HL2.out]; unfold defT; rw [hs]; simp only [Bool.false_eq_true, if_false]; rw [hT]; simp only; rw [hn1]; simp only; rw [hsm]⟩
                go_upto_region 12 with (first | (go_at_call 27; refine (cS _ H1.out.pa).mono ?_; rintro e w1 ⟨rfl, h1, h2⟩; have H2 := Sd.mk (H1.out.tow h2 h1 (by omega)); have pc2 := H2.out.pbc.cell 0 rfl; clear h1 h2) | (go_at_call 32; refine (cT _ _ _ (H2.out.pa.alloc _) (lit_cells _ 9 _ _ rfl) (by have := H2.out.pa.glt; omega)).mono ?_; rintro e w1' ⟨rfl, h1, h2⟩; have H2' := Sd.mk (H2.out.tow (((Fr.refl g _).alloc _).trans h2) h1 (by omega)); have pc2' := H2'.out.pbc.cell 0 rfl; clear h1 h2) | (go_at_call 28; refine (cN _ H2'.out.pa).mono ?_; rintro e w2 ⟨rfl, h1, h2⟩; have H3 := Sd.mk (H2'.out.tow h2 h1 (by omega)); clear h1 h2))
                have HO := Sd.mk (EJ.start H3.out nm)
                have pc3 := (H3.out.pbc.alloc (.cells #[.string nm, .slice none 0 0] 61)).cell 0 rfl
                have hOb : b0 ≤ w2.heap.size := by have := H3.out.pa.glt; have := H3.out.low.2; omega
                have cF := words_c w2 w2.heap.size (g + 1) g b (n + 1) c y1 ts nm _ HO.out _ hsm
                unfold SomePost at cF
                simp only at cF
                generalize (w2.alloc (.cells #[.string nm, .slice none 0 0] 61)) = w4 at HO pc3 cF ⊢
                generalize w2.heap.size = O at HO cF hOb ⊢
                clear HL2 hs hn1 hsm cN cS
                go_upto_region 13 with (go_at_call 29; refine cF.mono ?_; rintro e w5 ⟨rfl, h2⟩; have HO5 := Sd.mk h2; clear h2)
                have H5 := Sd.mk (H3.out.tow HO5.out.fr HO5.out.pa (by omega))
                obtain ⟨v, hv, hvr⟩ := HO5.out.box
                obtain ⟨vo, ve, hbx, hob, hen⟩ := H5.out.box
                have HOB := Sd.mk hob
                have HEN := Sd.mk hen
                obtain ⟨vs, hvl, hvrow, hvf⟩ := HEN.out
                have x0 := hv.cell 0 rfl
                have x1 := hv.cell 1 rfl
                have y0 := hbx.cell 1 rfl
                have hcn := H5.out.cnt
                have hcn0 := H3.out.cnt
                have hy2l := hy2.2
                have hbl5 : b0 ≤ w5.heap.size := by have := hbx.lt; have := H5.out.low.1; omega
                have HV := Sd.mk hv
                have HVR := Sd.mk hvr
                have HBX := Sd.mk hbx
                have HROW := Sd.mk hvrow
                have HVF := Sd.mk hvf
                have HVL := Sd.mk hvl
                clear hv hvr hbx hvrow hvf hvl
                go_wp2_with (at_builtin; refine wpList_append_own _ rfl _ _ 23 rfl b0 61 l0 (.agg #[.string ⟨#[]⟩, .slice none 0 0]) 2 40 Tryz.underlying23 hil hlz0 hlz1 hlz2 rfl (by decide) ve sc.enums.length _ rfl (HROW.out.alloc _) ⟨w5.heap.size, 0, none⟩ 1 1 [.string nm, v] rfl rfl (World.news_of_block (heap_alloc_new w5 _)) (by have := ownsRow_slice HVR.out; obtain ⟨ao', cc', rfl⟩ := this; simp [Value.oneCell']) (by unfold maxLen; omega) (by omega) (by simp; omega) ?_; intro v' w6 hown' hg3 hnil3; obtain ⟨q, cp, rfl, hq1, hq2⟩ := hown'.form (by omega); have HW6 := Sd.mk hown'; have HG6 := Sd.mk hg3; have HB6 := Sd.mk (HBX.out.grown HROW.out (by decide) hg3); have e0 := HB6.out.cell 1 rfl; have ez := HB6.out.fz 1; clear hown' hg3 hnil3; go_frame)
                have H7 := Sd.mk (H5.out.addEn HBX.out HVL.out HROW.out HVF.out HOB.out (nm := nm) (l := fl) (ownsRow_mono HVR.out (by omega)) HG6.out HW6.out (by omega))
                go_roundw
                case rel => exact ⟨m, y2, false, ⟨sc.objs, sc.enums ++ [⟨nm, fl⟩]⟩, rfl, H7, by omega, HE⟩
                case measure => exact meas_Pa H1.out.pa H7.out.pa (by omega)
      · subst hf
        have p1 : (i < n) = True := eq_true hin
        go_upto_region 6 with (fail)
        clear p1 hin
        cases hs : skipT ts 1 tType i with
        | true =>
          have cS := fun W h => skS_t W g b (n + 1) c i ts 1 tType h (by decide) hs
          unfold tType at cS
          cases hn1 : nmT ts [] (i + 1) with
          | error a =>
            have HE : Sd (r = .error a) := ⟨by rw [← HL2.out]; unfold defT; rw [hs]; simp only [if_true]; rw [hn1]⟩
            have cN := fun W h => name0_c W g b (n + 1) c (i + 1) ts h _ hn1
            unfold PPost at cN
            simp only at cN
            clear HL2 hs hn1
            go_wp2_with (first | (go_at_call 27; refine (cS _ H1.out.pa).mono ?_; rintro e w1 ⟨rfl, h1, h2⟩; have H2 := Sd.mk (H1.out.tow h2 h1 (by omega)); have pc2 := H2.out.pbc.cell 0 rfl; clear h1 h2) | (go_at_call 28; refine (cN _ H2.out.pa).mono ?_; rintro e w2 ⟨rfl, h2⟩; have HF3 := Sd.mk h2; clear h2))
            exact sread_wrong (H2.out.bxfr HF3.out) HE.out _ rfl rfl rfl
          | ok p1 =>
            obtain ⟨nm, y1⟩ := p1
            have hy1 := nmT_ok H1.out.pa.fin hn1
            have cN := fun W h => name0_c W g b (n + 1) c (i + 1) ts h _ hn1
            unfold PPost at cN
            simp only at cN
            cases hsm : someT ts (fieldT ts) y1 with
            | error a =>
              have HE : Sd (r = .error a) := ⟨by rw [← HL2.out]; unfold defT; rw [hs]; simp only [if_true]; rw [hn1]; simp only; rw [hsm]⟩
              go_upto_region 8 with (first | (go_at_call 27; refine (cS _ H1.out.pa).mono ?_; rintro e w1 ⟨rfl, h1, h2⟩; have H2 := Sd.mk (H1.out.tow h2 h1 (by omega)); have pc2 := H2.out.pbc.cell 0 rfl; clear h1 h2) | (go_at_call 28; refine (cN _ H2.out.pa).mono ?_; rintro e w2 ⟨rfl, h1, h2⟩; have H3 := Sd.mk (H2.out.tow h2 h1 (by omega)); clear h1 h2))
              have HO := Sd.mk (OJ.start H3.out nm)
              have HF3 := Sd.mk ((Fr.refl g w2).alloc (.cells #[.string nm, .slice none 0 0] 53))
              have pc3 := (H3.out.pbc.alloc (.cells #[.string nm, .slice none 0 0] 53)).cell 0 rfl
              have cF := fields_c w2 w2.heap.size (g + 1) g b (n + 1) c y1 ts nm _ HO.out _ hsm
              unfold SomePost at cF
              simp only at cF
              generalize (w2.alloc (.cells #[.string nm, .slice none 0 0] 53)) = w4 at HO HF3 pc3 cF ⊢
              generalize w2.heap.size = O at HO cF ⊢
              clear HL2 hs hn1 hsm cN cS
              go_wp2_with (go_at_call 29; refine cF.mono ?_; rintro e w5 ⟨rfl, h2⟩; have HF5 := Sd.mk h2; clear h2)
              exact sread_wrong (H3.out.bxfr HF5.out) HE.out _ rfl rfl rfl
            | ok p2 =>
              obtain ⟨fl, y2⟩ := p2
              have hy2 := someT_ok H1.out.pa.fin (fun h => fieldT_ok H1.out.pa.fin h) hy1.2 hsm
              have HE : Sd (loopT ts m false ⟨sc.objs ++ [⟨nm, fl⟩], sc.enums⟩ y2 = r) := ⟨by rw [← HL2.out]; unfold defT; rw [hs]; simp only [if_true]; rw [hn1]; simp only; rw [hsm]⟩
              go_upto_region 8 with (first | (go_at_call 27; refine (cS _ H1.out.pa).mono ?_; rintro e w1 ⟨rfl, h1, h2⟩; have H2 := Sd.mk (H1.out.tow h2 h1 (by omega)); have pc2 := H2.out.pbc.cell 0 rfl; clear h1 h2) | (go_at_call 28; refine (cN _ H2.out.pa).mono ?_; rintro e w2 ⟨rfl, h1, h2⟩; have H3 := Sd.mk (H2.out.tow h2 h1 (by omega)); clear h1 h2))
              have HO := Sd.mk (OJ.start H3.out nm)
              have pc3 := (H3.out.pbc.alloc (.cells #[.string nm, .slice none 0 0] 53)).cell 0 rfl
              have hOb : b0 ≤ w2.heap.size := by have := H3.out.pa.glt; have := H3.out.low.2; omega
              have cF := fields_c w2 w2.heap.size (g + 1) g b (n + 1) c y1 ts nm _ HO.out _ hsm
              unfold SomePost at cF
              simp only at cF
              generalize (w2.alloc (.cells #[.string nm, .slice none 0 0] 53)) = w4 at HO pc3 cF ⊢
              generalize w2.heap.size = O at HO cF hOb ⊢
              clear HL2 hs hn1 hsm cN cS
              go_upto_region 9 with (go_at_call 29; refine cF.mono ?_; rintro e w5 ⟨rfl, h2⟩; have HO5 := Sd.mk h2; clear h2)
              have H5 := Sd.mk (H3.out.tow HO5.out.fr HO5.out.pa (by omega))
              obtain ⟨v, hv, hvr⟩ := HO5.out.box
              obtain ⟨vo, ve, hbx, hob, hen⟩ := H5.out.box
              have HOB := Sd.mk hob
              have HEN := Sd.mk hen
              obtain ⟨vs, hvl, hvrow, hvf⟩ := HOB.out
              have x0 := hv.cell 0 rfl
              have x1 := hv.cell 1 rfl
              have y0 := hbx.cell 0 rfl
              have hcn := H5.out.cnt
              have hcn0 := H3.out.cnt
              have hy2l := hy2.2
              have hbl5 : b0 ≤ w5.heap.size := by have := hbx.lt; have := H5.out.low.1; omega
              have HV := Sd.mk hv
              have HVR := Sd.mk hvr
              have HBX := Sd.mk hbx
              have HROW := Sd.mk hvrow
              have HVF := Sd.mk hvf
              have HVL := Sd.mk hvl
              clear hv hvr hbx hvrow hvf hvl
              go_wp2_with (at_builtin; refine wpList_append_own _ rfl _ _ 22 rfl b0 53 j0 (.agg #[.string ⟨#[]⟩, .slice none 0 0]) 2 40 Tryz.underlying22 hij hjz0 hjz1 hjz2 rfl (by decide) vo sc.objs.length _ rfl (HROW.out.alloc _) ⟨w5.heap.size, 0, none⟩ 1 1 [.string nm, v] rfl rfl (World.news_of_block (heap_alloc_new w5 _)) (by have := ownsRow_slice HVR.out; obtain ⟨ao', cc', rfl⟩ := this; simp [Value.oneCell']) (by unfold maxLen; omega) (by omega) (by simp; omega) ?_; intro v' w6 hown' hg3 hnil3; obtain ⟨q, cp, rfl, hq1, hq2⟩ := hown'.form (by omega); have HW6 := Sd.mk hown'; have HG6 := Sd.mk hg3; have HB6 := Sd.mk (HBX.out.grown HROW.out (by decide) hg3); have e0 := HB6.out.cell 0 rfl; have ez := HB6.out.fz 0; clear hown' hg3 hnil3; go_frame)
              have H7 := Sd.mk (H5.out.addObj HBX.out HVL.out HROW.out HVF.out HEN.out (nm := nm) (l := fl) (ownsRow_mono HVR.out (by omega)) HG6.out HW6.out (by omega))
              go_roundw
              case rel => exact ⟨m, y2, false, ⟨sc.objs ++ [⟨nm, fl⟩], sc.enums⟩, rfl, H7, by omega, HE⟩
              case measure => exact meas_Pa H1.out.pa H7.out.pa (by omega)
        | false =>
          have cS := fun W h => skS_f W g b (n + 1) c i ts 1 tType h hs
          unfold tType at cS
          cases hT : takeT ts [tEnum] i with
          | error a =>
            have HE : Sd (r = .error a) := ⟨by rw [← HL2.out]; unfold defT; rw [hs]; simp only [Bool.false_eq_true, if_false]; rw [hT]⟩
            have cT := fun W q cc (h : Pa W g b (n + 1) c ts i) hq hqg => take_c W g b (n + 1) c i ts [tEnum] q 1 cc h hq hqg rfl (by decide) (by unfold tEnum; simp; decide) _ hT
            unfold PPost at cT
            simp only at cT
            clear HL2 hs hT
            go_wp2_with (first | (go_at_call 27; refine (cS _ H1.out.pa).mono ?_; rintro e w1 ⟨rfl, h1, h2⟩; have H2 := Sd.mk (H1.out.tow h2 h1 (by omega)); have pc2 := H2.out.pbc.cell 0 rfl; clear h1 h2) | (go_at_call 32; refine (cT _ _ _ (H2.out.pa.alloc _) (lit_cells _ 9 _ _ rfl) (by have := H2.out.pa.glt; omega)).mono ?_; rintro e w1' ⟨rfl, h2⟩; have HF3 := Sd.mk (((Fr.refl g _).alloc _).trans h2); clear h2))
            exact sread_wrong (H2.out.bxfr HF3.out) HE.out _ rfl rfl rfl
          | ok p0 =>
            obtain ⟨u0, z1⟩ := p0
            have hz1' := takeT_ok H1.out.pa.fin (by unfold tEnum; simp; decide) hit hT
            have hz1l : i ≤ z1 ∧ z1 < ts.length := ⟨by omega, hz1'.2⟩
            have cT := fun W q cc (h : Pa W g b (n + 1) c ts i) hq hqg => take_c W g b (n + 1) c i ts [tEnum] q 1 cc h hq hqg rfl (by decide) (by unfold tEnum; simp; decide) _ hT
            unfold PPost at cT
            simp only at cT
            clear hz1'
            cases hn1 : nmT ts [] z1 with
            | error a =>
              have HE : Sd (r = .error a) := ⟨by rw [← HL2.out]; unfold defT; rw [hs]; simp only [Bool.false_eq_true, if_false]; rw [hT]; simp only; rw [hn1]⟩
              have cN := fun W h => name0_c W g b (n + 1) c z1 ts h _ hn1
              unfold PPost at cN
              simp only at cN
              clear HL2 hs hn1 hT
              go_wp2_with (first | (go_at_call 27; refine (cS _ H1.out.pa).mono ?_; rintro e w1 ⟨rfl, h1, h2⟩; have H2 := Sd.mk (H1.out.tow h2 h1 (by omega)); have pc2 := H2.out.pbc.cell 0 rfl; clear h1 h2) | (go_at_call 32; refine (cT _ _ _ (H2.out.pa.alloc _) (lit_cells _ 9 _ _ rfl) (by have := H2.out.pa.glt; omega)).mono ?_; rintro e w1' ⟨rfl, h1, h2⟩; have H2' := Sd.mk (H2.out.tow (((Fr.refl g _).alloc _).trans h2) h1 (by omega)); have pc2' := H2'.out.pbc.cell 0 rfl; clear h1 h2) | (go_at_call 28; refine (cN _ H2'.out.pa).mono ?_; rintro e w2 ⟨rfl, h2⟩; have HF3 := Sd.mk h2; clear h2))
              exact sread_wrong (H2'.out.bxfr HF3.out) HE.out _ rfl rfl rfl
            | ok p1 =>
              obtain ⟨nm, y1⟩ := p1
              have hy1 := nmT_ok H1.out.pa.fin hn1
              have cN := fun W h => name0_c W g b (n + 1) c z1 ts h _ hn1
              unfold PPost at cN
              simp only at cN
              cases hsm : someT ts (wordT ts) y1 with
              | error a =>
                have HE : Sd (r = .error a) := ⟨by rw [← HL2.out]; unfold defT; rw [hs]; simp only [Bool.false_eq_true, if_false]; rw [hT]; simp only; rw [hn1]; simp only; rw [hsm]⟩
                go_upto_region 12 with (first | (go_at_call 27; refine (cS _ H1.out.pa).mono ?_; rintro e w1 ⟨rfl, h1, h2⟩; have H2 := Sd.mk (H1.out.tow h2 h1 (by omega)); have pc2 := H2.out.pbc.cell 0 rfl; clear h1 h2) | (go_at_call 32; refine (cT _ _ _ (H2.out.pa.alloc _) (lit_cells _ 9 _ _ rfl) (by have := H2.out.pa.glt; omega)).mono ?_; rintro e w1' ⟨rfl, h1, h2⟩; have H2' := Sd.mk (H2.out.tow (((Fr.refl g _).alloc _).trans h2) h1 (by omega)); have pc2' := H2'.out.pbc.cell 0 rfl; clear h1 h2) | (go_at_call 28; refine (cN _ H2'.out.pa).mono ?_; rintro e w2 ⟨rfl, h1, h2⟩; have H3 := Sd.mk (H2'.out.tow h2 h1 (by omega)); clear h1 h2))
                have HO := Sd.mk (EJ.start H3.out nm)
                have HF3 := Sd.mk ((Fr.refl g w2).alloc (.cells #[.string nm, .slice none 0 0] 61))
                have pc3 := (H3.out.pbc.alloc (.cells #[.string nm, .slice none 0 0] 61)).cell 0 rfl
                have cF := words_c w2 w2.heap.size (g + 1) g b (n + 1) c y1 ts nm _ HO.out _ hsm
                unfold SomePost at cF
                simp only at cF
                generalize (w2.alloc (.cells #[.string nm, .slice none 0 0] 61)) = w4 at HO HF3 pc3 cF ⊢
                generalize w2.heap.size = O at HO cF ⊢
                clear HL2 hs hn1 hsm cN cS
                go_wp2_with (go_at_call 29; refine cF.mono ?_; rintro e w5 ⟨rfl, h2⟩; have HF5 := Sd.mk h2; clear h2)
                exact sread_wrong (H3.out.bxfr HF5.out) HE.out _ rfl rfl rfl
              | ok p2 =>
                obtain ⟨fl, y2⟩ := p2
                have hy2 := someT_ok H1.out.pa.fin (fun h => wordT_ok H1.out.pa.fin h) hy1.2 hsm
                have HE : Sd (loopT ts m false ⟨sc.objs, sc.enums ++ [⟨nm, fl⟩]⟩ y2 = r) := ⟨by rw [← HL2.out]; unfold defT; rw [hs]; simp only [Bool.false_eq_true, if_false]; rw [hT]; simp only; rw [hn1]; simp only; rw [hsm]⟩
                go_upto_region 12 with (first | (go_at_call 27; refine (cS _ H1.out.pa).mono ?_; rintro e w1 ⟨rfl, h1, h2⟩; have H2 := Sd.mk (H1.out.tow h2 h1 (by omega)); have pc2 := H2.out.pbc.cell 0 rfl; clear h1 h2) | (go_at_call 32; refine (cT _ _ _ (H2.out.pa.alloc _) (lit_cells _ 9 _ _ rfl) (by have := H2.out.pa.glt; omega)).mono ?_; rintro e w1' ⟨rfl, h1, h2⟩; have H2' := Sd.mk (H2.out.tow (((Fr.refl g _).alloc _).trans h2) h1 (by omega)); have pc2' := H2'.out.pbc.cell 0 rfl; clear h1 h2) | (go_at_call 28; refine (cN _ H2'.out.pa).mono ?_; rintro e w2 ⟨rfl, h1, h2⟩; have H3 := Sd.mk (H2'.out.tow h2 h1 (by omega)); clear h1 h2))
                have HO := Sd.mk (EJ.start H3.out nm)
                have pc3 := (H3.out.pbc.alloc (.cells #[.string nm, .slice none 0 0] 61)).cell 0 rfl
                have hOb : b0 ≤ w2.heap.size := by have := H3.out.pa.glt; have := H3.out.low.2; omega
                have cF := words_c w2 w2.heap.size (g + 1) g b (n + 1) c y1 ts nm _ HO.out _ hsm
                unfold SomePost at cF
                simp only at cF
                generalize (w2.alloc (.cells #[.string nm, .slice none 0 0] 61)) = w4 at HO pc3 cF ⊢
                generalize w2.heap.size = O at HO cF hOb ⊢
                clear HL2 hs hn1 hsm cN cS
                go_upto_region 13 with (go_at_call 29; refine cF.mono ?_; rintro e w5 ⟨rfl, h2⟩; have HO5 := Sd.mk h2; clear h2)
                have H5 := Sd.mk (H3.out.tow HO5.out.fr HO5.out.pa (by omega))
                obtain ⟨v, hv, hvr⟩ := HO5.out.box
                obtain ⟨vo, ve, hbx, hob, hen⟩ := H5.out.box
                have HOB := Sd.mk hob
                have HEN := Sd.mk hen
                obtain ⟨vs, hvl, hvrow, hvf⟩ := HEN.out
                have x0 := hv.cell 0 rfl
                have x1 := hv.cell 1 rfl
                have y0 := hbx.cell 1 rfl
                have hcn := H5.out.cnt
                have hcn0 := H3.out.cnt
                have hy2l := hy2.2
                have hbl5 : b0 ≤ w5.heap.size := by have := hbx.lt; have := H5.out.low.1; omega
                have HV := Sd.mk hv
                have HVR := Sd.mk hvr
                have HBX := Sd.mk hbx
                have HROW := Sd.mk hvrow
                have HVF := Sd.mk hvf
                have HVL := Sd.mk hvl
                clear hv hvr hbx hvrow hvf hvl
                go_wp2_with (at_builtin; refine wpList_append_own _ rfl _ _ 23 rfl b0 61 l0 (.agg #[.string ⟨#[]⟩, .slice none 0 0]) 2 40 Tryz.underlying23 hil hlz0 hlz1 hlz2 rfl (by decide) ve sc.enums.length _ rfl (HROW.out.alloc _) ⟨w5.heap.size, 0, none⟩ 1 1 [.string nm, v] rfl rfl (World.news_of_block (heap_alloc_new w5 _)) (by have := ownsRow_slice HVR.out; obtain ⟨ao', cc', rfl⟩ := this; simp [Value.oneCell']) (by unfold maxLen; omega) (by omega) (by simp; omega) ?_; intro v' w6 hown' hg3 hnil3; obtain ⟨q, cp, rfl, hq1, hq2⟩ := hown'.form (by omega); have HW6 := Sd.mk hown'; have HG6 := Sd.mk hg3; have HB6 := Sd.mk (HBX.out.grown HROW.out (by decide) hg3); have e0 := HB6.out.cell 1 rfl; have ez := HB6.out.fz 1; clear hown' hg3 hnil3; go_frame)
                have H7 := Sd.mk (H5.out.addEn HBX.out HVL.out HROW.out HVF.out HOB.out (nm := nm) (l := fl) (ownsRow_mono HVR.out (by omega)) HG6.out HW6.out (by omega))
                go_roundw
                case rel => exact ⟨m, y2, false, ⟨sc.objs, sc.enums ++ [⟨nm, fl⟩]⟩, rfl, H7, by omega, HE⟩
                case measure => exact meas_Pa H1.out.pa H7.out.pa (by omega)
    · have HE : Sd (r = .ok sc) := ⟨by rw [← HL.out, if_neg hc]⟩
      obtain ⟨hf, hin⟩ : f = false ∧ ¬ i < n := by
        cases f with
        | true => exact absurd (.inl rfl) hc
        | false => exact ⟨rfl, fun h => hc (.inr (by omega))⟩
      subst hf
      have p1 : decide (i < n) = false := by simp; omega
      clear HL hc hin
      obtain ⟨vo, ve, hbx, hob, hen⟩ := H1.out.box
      have HOB := Sd.mk hob
      have HEN := Sd.mk hen
      obtain ⟨vs1, _, hr1, _⟩ := hob
      obtain ⟨ao1, cc1, rfl⟩ := ownsRow_slice hr1
      obtain ⟨vs2, _, hr2, _⟩ := hen
      obtain ⟨ao2, cc2, rfl⟩ := ownsRow_slice hr2
      clear hr1 hr2
      have y0 := hbx.cell 0 rfl
      have y1 := hbx.cell 1 rfl
      have x1 := H1.out.c1.cell 0 rfl
      have x2 : wr.cell? ⟨B + 1 + 1, 0, none⟩ = some (.int .i64 0) := H1.out.c2.cell 0 rfl
      have z0 := hbx.fz 0
      have z1 := hbx.fz 1
      have z2 := H1.out.c1.fz 0
      have z3 : wr.frozen? ⟨B + 1 + 1, 0, none⟩ = false := H1.out.c2.fz 0
      have HBX := Sd.mk hbx
      clear hbx
      go_wp2
      exact sread_fin H1.out HBX.out HOB.out HEN.out HE.out _ rfl rfl rfl
end Go.Proofs.YtibgigffedejpaaGreatDoor
namespace Go.Proofs.YtibgigffedejpaaGreatDoor
set_option linter.unusedVariables false
set_option linter.unusedSimpArgs false
open Go.RowKit
set_option linter.unusedVariables false
set_option linter.unusedSimpArgs false

/-! ### What a text says is nothing to the parser -/
def norm (x : Tk) : Tk := if x.k = 4 then { x with t := ⟨#[]⟩ } else x
section
variable {ts : List Tk}
theorem norm_k (x : Tk) : (norm x).k = x.k := by unfold norm; split <;> rfl
theorem norm_i (x : Tk) : (norm x).i = x.i := by unfold norm; split <;> rfl
theorem skipT_norm {kind : Int} (hk : kind ≠ 4) (s : ByteArray) (i : Nat) : skipT (ts.map norm) kind s i = skipT ts kind s i := by
  unfold skipT
  rw [List.getElem?_map]
  cases ts[i]? with
  | none => rfl
  | some x =>
    simp only [Option.map_some, norm_k]
    by_cases h : x.k = 4
    · have : ((x.k : Int) == kind) = false := by rw [h]; simpa using fun e => hk e.symm
      rw [this]; rfl
    · unfold norm; rw [if_neg h]
theorem atT_norm (i : Nat) : atT (ts.map norm) i = atT ts i := by
  unfold atT
  rw [List.getElem?_map]
  cases ts[i]? with
  | none => rfl
  | some x => simp only [Option.map_some, norm_i]
theorem nmT_norm (no : List ByteArray) (i : Nat) : nmT (ts.map norm) no i = nmT ts no i := by
  unfold nmT
  rw [List.getElem?_map]
  cases ts[i]? with
  | none => rfl
  | some x =>
    simp only [Option.map_some, norm_k, norm_i]
    by_cases h : x.k = 4
    · rw [if_neg (by omega), if_neg (by omega)]
    · unfold norm; rw [if_neg h]
theorem kindOf_ne (s : ByteArray) : kindOf s ≠ 4 := by unfold kindOf; split <;> decide
theorem takeT_norm : ∀ (l : List ByteArray) (i : Nat), takeT (ts.map norm) l i = takeT ts l i
  | [], i => rfl
  | s :: l, i => by rw [takeT, takeT, skipT_norm (kindOf_ne s), takeT_norm l, atT_norm]
theorem bangT_norm (i : Nat) : bangT (ts.map norm) i = bangT ts i := by unfold bangT; rw [skipT_norm (by decide)]
theorem kindT_norm (i : Nat) : kindT (ts.map norm) i = kindT ts i := by
  unfold kindT
  rw [skipT_norm (by decide)]
  unfold kindA
  simp only [nmT_norm, takeT_norm, bangT_norm]
theorem marksT_norm : ∀ (m : Nat) (f : Fd) (i : Nat), marksT (ts.map norm) m f i = marksT ts m f i
  | 0, f, i => rfl
  | m + 1, f, i => by
    rw [marksT, marksT]
    simp only [skipT_norm (show (0 : Int) ≠ 4 by decide), skipT_norm (show (1 : Int) ≠ 4 by decide), nmT_norm, takeT_norm, atT_norm, marksT_norm m]
theorem fieldT_norm (i : Nat) : fieldT (ts.map norm) i = fieldT ts i := by
  unfold fieldT
  simp only [nmT_norm, takeT_norm, kindT_norm, marksT_norm, List.length_map]
theorem manyT_norm {α : Type} {one one' : Nat → Except Nat (α × Nat)} (h : ∀ i, one i = one' i) : ∀ (m : Nat) (l : List α) (i : Nat), manyT (ts.map norm) one m l i = manyT ts one' m l i
  | 0, l, i => rfl
  | m + 1, l, i => by
    rw [manyT, manyT, skipT_norm (by decide), h]
    simp only [manyT_norm h m]
theorem someT_norm {α : Type} {one one' : Nat → Except Nat (α × Nat)} (h : ∀ i, one i = one' i) (i : Nat) : someT (ts.map norm) one i = someT ts one' i := by
  unfold someT
  simp only [takeT_norm, h, manyT_norm h, List.length_map]
theorem defT_norm (s : Sc) (i : Nat) : defT (ts.map norm) s i = defT ts s i := by
  have h1 : ∀ i, someT (ts.map norm) (fieldT (ts.map norm)) i = someT ts (fieldT ts) i := someT_norm fieldT_norm
  have h2 : ∀ i, someT (ts.map norm) (wordT (ts.map norm)) i = someT ts (wordT ts) i := someT_norm (fun i => nmT_norm tNot i)
  unfold defT
  simp only [skipT_norm (show (1 : Int) ≠ 4 by decide), nmT_norm, takeT_norm, h1, h2]
theorem loopT_norm : ∀ (m : Nat) (f : Bool) (s : Sc) (i : Nat), loopT (ts.map norm) m f s i = loopT ts m f s i
  | 0, f, s, i => rfl
  | m + 1, f, s, i => by
    rw [loopT, loopT]
    simp only [defT_norm, loopT_norm m, List.length_map]
theorem readT_norm : readT (ts.map norm) = readT ts := by
  unfold readT
  rw [loopT_norm, List.length_map]
end

/-- The tokens that keys say. -/
def keyTk (s : ByteArray) (k : Nat × Nat × Nat) : Tk := ⟨k.1, k.2.1, k.2.2, if k.1 = 4 then ⟨#[]⟩ else s.extract k.2.1 k.2.2⟩
theorem norm_key {s : ByteArray} {x : Tk} (h : x.ok s) : norm x = keyTk s x.key := by
  obtain ⟨k, i, j, t⟩ := x
  unfold norm keyTk Tk.key
  simp only
  by_cases hk : k = 4
  · rw [if_pos hk, if_pos hk]
  · rw [if_neg hk, if_neg hk]
    have := h hk
    simp only at this
    rw [this]
/-- What sdl.Parse answers. -/
def parseT (s : ByteArray) : Except (Nat × Int) Sc :=
  match toks s with
  | (_, some q) => .error q
  | (ks, none) =>
    match readT (ks.map (keyTk s) ++ [endTk s.size]) with
    | .error a => .error (a, 80)
    | .ok sc => .ok sc
theorem read_keys {s : ByteArray} {pre : List Tk} {ks : List (Nat × Nat × Nat)} (h1 : pre.map Tk.key = ks) (h2 : ∀ x ∈ pre, x.ok s) : readT (pre ++ [endTk s.size]) = readT (ks.map (keyTk s) ++ [endTk s.size]) := by
  rw [← readT_norm]
  congr 1
  rw [List.map_append]
  congr 1
  subst h1
  rw [List.map_map]
  exact List.map_congr_left fun x hx => norm_key (h2 x hx)

def ParsePost (w : World) (r : Except (Nat × Int) Sc) (e : Ending) (w' : World) : Prop :=
  match r with
  | .error (p, er) => e = .returned (.tuple #[.agg #[.slice none 0 0, .slice none 0 0], .int .i64 p, .int .i64 er]) ∧ Below w.heap.size w w'
  | .ok sc => ∃ v, e = .returned (.tuple #[v, .int .i64 0, .int .i64 0]) ∧ SchAt w' w.heap.size v sc ∧ Below w.heap.size w w'

section
variable {W : World} {lo lo' : Nat} {v : Value}
theorem ObjsAt.mono {l : List Ob} (h : ObjsAt W lo v l) (hl : lo' ≤ lo) : ObjsAt W lo' v l := by
  obtain ⟨vs, h1, h2, h3⟩ := h
  exact ⟨vs, h1, ownsRow_mono h2 hl, fun p hp => ownsRow_mono (h3 p hp) hl⟩
theorem EnsAt.mono {l : List En} (h : EnsAt W lo v l) (hl : lo' ≤ lo) : EnsAt W lo' v l := by
  obtain ⟨vs, h1, h2, h3⟩ := h
  exact ⟨vs, h1, ownsRow_mono h2 hl, fun p hp => ownsRow_mono (h3 p hp) hl⟩
theorem ObjsAt.slice {l : List Ob} (h : ObjsAt W lo v l) : ∃ ao cc, v = .slice ao l.length cc := by
  obtain ⟨vs, h1, h2, h3⟩ := h
  exact ownsRow_slice h2
theorem EnsAt.slice {l : List En} (h : EnsAt W lo v l) : ∃ ao cc, v = .slice ao l.length cc := by
  obtain ⟨vs, h1, h2, h3⟩ := h
  exact ownsRow_slice h2
end
theorem At.belowO {w w' : World} {C t O : Nat} {cs : Array Value} (h : At w C t cs) (hb : Below O w w') (hO : C < O) : At w' C t cs := (hb.block C hO).trans h
theorem parse_res {W : World} {C : Nat} {vo ve : Value} {x y : Int} (h0 : At W C 25 #[vo, ve]) (tmps : Array Value)
    (h2 : tmps[2]? = some (.pointer (some ⟨C, 0, none⟩))) (h3 : tmps[3]? = some (.int .i64 x)) (h4 : tmps[4]? = some (.int .i64 y)) :
    (results Tryz.f8 tmps).run Tryz.prog W = .ok (.tuple #[.agg #[vo, ve], .int .i64 x, .int .i64 y]) W := by
  have a0 := h0.cell 0 rfl
  have a1 := h0.cell 1 rfl
  simp [results, Tryz.results8, go_sem, h2, h3, h4, a0, a1]

set_option maxRecDepth 100000 in
set_option maxHeartbeats 4000000 in
theorem parse_c (w : World) (s : ByteArray) (hs : s.size ≤ 9223372036854775807) (E : Env w) (r : Except (Nat × Int) Sc) (hr : parseT s = r) :
    Calls Tryz.prog 8 #[.string s] w (ParsePost w r) := by
  have HR := Sd.mk hr
  have HE0 := Sd.mk E
  have hgl := E.glob
  have HT0 := Sd.mk (At.fresh w 25 #[.slice none 0 0, .slice none 0 0])
  have HB0 := Sd.mk ((Below.refl _ w).alloc (Nat.le_refl w.heap.size) (.cells #[.slice none 0 0, .slice none 0 0] 25))
  have HE1 : Sd (Env (w.alloc (.cells #[.slice none 0 0, .slice none 0 0] 25))) := ⟨((Fr.refl 3 w).alloc _).env (by decide) E⟩
  have hsz : (w.alloc (.cells #[.slice none 0 0, .slice none 0 0] 25)).heap.size = w.heap.size + 1 := by simp
  obtain ⟨C, hC⟩ : ∃ C, w.heap.size = C := ⟨_, rfl⟩
  rw [hC] at HT0 HB0 hsz hgl
  clear hr E
  go_enter Tryz.func8, Tryz.ntmps8
  go_upto_region 1 with (fail)
  generalize w.alloc (.cells #[.slice none 0 0, .slice none 0 0] 25) = w1 at HT0 HB0 HE1 hsz ⊢
  obtain ⟨⟨ks, er⟩, ht⟩ : ∃ q, toks s = q := ⟨_, rfl⟩
  have c1 := tokens_c w1 s hs HE1.out _ ht
  unfold ReadPost at c1
  cases er with
  | some q =>
    obtain ⟨p, e1⟩ := q
    have hne : e1 ≠ 0 := toks_err_ne (s := s) (p := p) (by rw [ht])
    have p1 : (e1 != 0) = true := by simpa using hne
    have HE : Sd (r = .error (p, e1)) := ⟨by rw [← HR.out]; unfold parseT; rw [ht]⟩
    simp only at c1
    clear HR ht hne
    go_wp2_with (go_at_call 14; refine c1.mono ?_; rintro e w2 ⟨rfl, h1⟩; have HB2 := Sd.mk h1; have HT2 := Sd.mk (HT0.out.below h1); have x0 := HT2.out.cell 0 rfl; have x1 := HT2.out.cell 1 rfl; have z0 := HT2.out.fz 0; have z1 := HT2.out.fz 1; clear h1)
    refine bodyPost_ret (parse_res ((HT2.out.p0 (.slice none 0 0)).p1 (.slice none 0 0)) _ rfl rfl rfl) rfl ?_
    unfold ParsePost
    rw [HE.out]
    refine ⟨rfl, ?_⟩
    rw [hC]
    have := HB0.out.trans (HB2.out |> fun hb => (⟨hb.os, hb.tape, hb.output, hb.size, fun k hk => hb.block k (by omega)⟩ : Below C w1 w2))
    exact (this.setCell (p := ⟨C, 0, none⟩) (Nat.le_refl _) _).setCell (p := ⟨C, 1, none⟩) (Nat.le_refl _) _
  | none =>
    simp only at c1
    go_upto_region 4 with (go_at_call 14; refine c1.mono ?_; rintro e w2 ⟨v, pre, rfl, h1, h2, h3, h4, h5⟩; have H1 := Sd.mk h1; have H2 := Sd.mk h2; have H4 := Sd.mk h4; have H5 := Sd.mk h5; clear h1 h2 h4 h5)
    have HT2 := Sd.mk (HT0.out.below H5.out)
    have HE2 : Sd (Env w2) := ⟨(Fr.of_below (g := 3) H5.out).env (by decide) HE1.out⟩
    have hk := read_keys H1.out H2.out
    have hsz2 : C + 1 ≤ w2.heap.size := by have := H5.out.size; omega
    have hrow := H4.out
    rw [hsz] at hrow
    cases hrd : readT (ks.map (keyTk s) ++ [endTk s.size]) with
    | error a =>
      have HE : Sd (r = .error (a, 80)) := ⟨by rw [← HR.out]; unfold parseT; rw [ht]; simp only; rw [hrd]⟩
      have cR := sread_c w2 (C + 1) v pre s.size hrow hsz2 (by omega) h3 HE2.out _ (hk.trans hrd)
      unfold SRPost at cR
      simp only at cR
      clear HR ht hrd hk hrow c1
      go_wp2_with (go_at_call 15; refine cR.mono ?_; rintro e w3 ⟨rfl, h1⟩; have HB3 := Sd.mk h1; have HT3 := Sd.mk (HT2.out.belowO h1 (Nat.lt_succ_self C)); have x0 := HT3.out.cell 0 rfl; have x1 := HT3.out.cell 1 rfl; have z0 := HT3.out.fz 0; have z1 := HT3.out.fz 1; clear h1)
      refine bodyPost_ret (parse_res ((HT3.out.p0 (.slice none 0 0)).p1 (.slice none 0 0)) _ rfl rfl rfl) rfl ?_
      unfold ParsePost
      rw [HE.out]
      refine ⟨rfl, ?_⟩
      rw [hC]
      have h12 : Below C w1 w2 := ⟨H5.out.os, H5.out.tape, H5.out.output, H5.out.size, fun k hk => H5.out.block k (by omega)⟩
      have h23 : Below C w2 w3 := ⟨HB3.out.os, HB3.out.tape, HB3.out.output, HB3.out.size, fun k hk => HB3.out.block k (by omega)⟩
      exact (((HB0.out.trans h12).trans h23).setCell (p := ⟨C, 0, none⟩) (Nat.le_refl _) _).setCell (p := ⟨C, 1, none⟩) (Nat.le_refl _) _
    | ok sc =>
      have HE : Sd (r = .ok sc) := ⟨by rw [← HR.out]; unfold parseT; rw [ht]; simp only; rw [hrd]⟩
      have cR := sread_c w2 (C + 1) v pre s.size hrow hsz2 (by omega) h3 HE2.out _ (hk.trans hrd)
      unfold SRPost at cR
      simp only at cR
      clear HR ht hrd hk hrow c1
      go_wp2_with (go_at_call 15; refine cR.mono ?_; rintro e w3 ⟨v3, rfl, ⟨vo, ve, rfl, hob, hen⟩, h1⟩; have HOB := Sd.mk hob; have HEN := Sd.mk hen; obtain ⟨ao1, cc1, rfl⟩ := hob.slice; obtain ⟨ao2, cc2, rfl⟩ := hen.slice; have HB3 := Sd.mk h1; have HT3 := Sd.mk (HT2.out.belowO h1 (Nat.lt_succ_self C)); have x0 := HT3.out.cell 0 rfl; have x1 := HT3.out.cell 1 rfl; have z0 := HT3.out.fz 0; have z1 := HT3.out.fz 1; clear h1 hob hen)
      have k1 := HT3.out.p0 (.slice ao1 sc.objs.length cc1)
      have k2 := k1.p1 (.slice ao2 sc.enums.length cc2)
      have hk : ∀ e : Nat, e ≠ 25 → Keeps w3 ((w3.setCell ⟨C, 0, none⟩ (.slice ao1 sc.objs.length cc1)).setCell ⟨C, 1, none⟩ (.slice ao2 sc.enums.length cc2)) e := fun e he => (Keeps.set HT3.out (Ne.symm he) 0 _).trans (Keeps.set k1 (Ne.symm he) 1 _)
      refine bodyPost_ret (parse_res k2 _ rfl rfl rfl) rfl ?_
      unfold ParsePost
      rw [HE.out]
      have h12 : Below C w1 w2 := ⟨H5.out.os, H5.out.tape, H5.out.output, H5.out.size, fun k hk => H5.out.block k (by omega)⟩
      have h23 : Below C w2 w3 := ⟨HB3.out.os, HB3.out.tape, HB3.out.output, HB3.out.size, fun k hk => HB3.out.block k (by omega)⟩
      refine ⟨_, rfl, ?_, ?_⟩
      · rw [hC]
        exact ⟨_, _, rfl, (HOB.out.to (hk 53 (by decide)) (hk 58 (by decide))).mono (Nat.le_succ C), (HEN.out.to (hk 61 (by decide)) (hk 9 (by decide))).mono (Nat.le_succ C)⟩
      · rw [hC]
        exact (((HB0.out.trans h12).trans h23).setCell (p := ⟨C, 0, none⟩) (Nat.le_refl _) _).setCell (p := ⟨C, 1, none⟩) (Nat.le_refl _) _
end Go.Proofs.YtibgigffedejpaaGreatDoor
