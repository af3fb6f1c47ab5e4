import Derived.Test.YtibgigffedejpaaGreatDoorWg
import Derived.Deep.DeepCutAuto
import Derived.Deep.RegionHeld3
import Derived.KernelRfl
namespace Go.Proofs.YtibgigffedejpaaGreatDoor
set_option linter.unusedVariables false
set_option linter.unusedSimpArgs false
open Go.RowKit
set_option linter.unusedVariables false
set_option linter.unusedSimpArgs false

/-- A type's tokens; false: it may not be. -/
def kindTxt (r : Rf) : ByteArray × Bool :=
  if r.wraps = ⟨#[]⟩ ∨ r.wraps = ⟨#[33]⟩ then (⟨(Lib.trimRightB (r.name ++ ⟨#[32]⟩ ++ r.wraps).data.toList 32).toArray⟩, true)
  else if r.wraps = ⟨#[91]⟩ then (⟨#[91, 32]⟩ ++ r.name ++ ⟨#[32, 93]⟩, true)
  else if r.wraps = ⟨#[91, 33]⟩ then (⟨#[91, 32]⟩ ++ r.name ++ ⟨#[32, 93]⟩ ++ ⟨#[32, 33]⟩, true)
  else if r.wraps = ⟨#[33, 91]⟩ then (⟨#[91, 32]⟩ ++ r.name ++ ⟨#[32, 33]⟩ ++ ⟨#[32, 93]⟩, true)
  else if r.wraps = ⟨#[33, 91, 33]⟩ then (⟨#[91, 32]⟩ ++ r.name ++ ⟨#[32, 33]⟩ ++ ⟨#[32, 93]⟩ ++ ⟨#[32, 33]⟩, true)
  else (⟨#[]⟩, false)

set_option maxRecDepth 100000 in
set_option maxHeartbeats 4000000 in
theorem kind0 (w : World) (nm : ByteArray) (hs : nm.size ≤ 1000000000000) (E : Env w) :
    Calls Tryz.prog 41 #[.agg #[.string nm, .string ⟨#[]⟩]] w fun e w' => e = .returned (.tuple #[.string (kindTxt ⟨nm, ⟨#[]⟩⟩).1, .bool (kindTxt ⟨nm, ⟨#[]⟩⟩).2]) ∧ Below w.heap.size w w' := by
  obtain ⟨m, hm⟩ := E.maxl
  have hgl := E.glob
  have hm1 : Sd ((w.alloc (.cells #[.string nm, .string ⟨#[]⟩] 56)).cell? ⟨0, 0, none⟩ = some (.int .i64 m)) := ⟨below_cell (w := w) ((Below.refl _ w).alloc (Nat.le_refl _) _) (by simp; omega) hm⟩
  clear hm
  have hts : (nm ++ ⟨#[32]⟩ ++ ⟨#[]⟩ : ByteArray).size ≤ 9223372036854775807 := by
    rw [ByteArray.size_append, ByteArray.size_append]
    have e1 : (⟨#[32]⟩ : ByteArray).size = 1 := rfl
    have e2 : (⟨#[]⟩ : ByteArray).size = 0 := rfl
    omega
  have HB := Sd.mk ((Below.refl _ w).alloc (Nat.le_refl w.heap.size) (.cells #[.string nm, .string ⟨#[]⟩] 56))
  go_enter Tryz.func41, Tryz.ntmps41
  go_wp2_with (go_at_call 60; refine (Tryz.strings_TrimRight_one _ 32 (by decide) _ hts).mono ?_; rintro e w1 ⟨rfl, rfl⟩)
  go_ret2
  exact ⟨by simp [kindTxt], HB.out⟩

set_option maxRecDepth 100000 in
set_option maxHeartbeats 4000000 in
theorem kind1 (w : World) (nm : ByteArray) (hs : nm.size ≤ 1000000000000) (E : Env w) :
    Calls Tryz.prog 41 #[.agg #[.string nm, .string ⟨#[33]⟩]] w fun e w' => e = .returned (.tuple #[.string (kindTxt ⟨nm, ⟨#[33]⟩⟩).1, .bool (kindTxt ⟨nm, ⟨#[33]⟩⟩).2]) ∧ Below w.heap.size w w' := by
  obtain ⟨m, hm⟩ := E.maxl
  have hgl := E.glob
  have hm1 : Sd ((w.alloc (.cells #[.string nm, .string ⟨#[33]⟩] 56)).cell? ⟨0, 0, none⟩ = some (.int .i64 m)) := ⟨below_cell (w := w) ((Below.refl _ w).alloc (Nat.le_refl _) _) (by simp; omega) hm⟩
  clear hm
  have hts : (nm ++ ⟨#[32]⟩ ++ ⟨#[33]⟩ : ByteArray).size ≤ 9223372036854775807 := by
    rw [ByteArray.size_append, ByteArray.size_append]
    have e1 : (⟨#[32]⟩ : ByteArray).size = 1 := rfl
    have e2 : (⟨#[33]⟩ : ByteArray).size = 1 := rfl
    omega
  have HB := Sd.mk ((Below.refl _ w).alloc (Nat.le_refl w.heap.size) (.cells #[.string nm, .string ⟨#[33]⟩] 56))
  go_enter Tryz.func41, Tryz.ntmps41
  go_wp2_with (go_at_call 60; refine (Tryz.strings_TrimRight_one _ 32 (by decide) _ hts).mono ?_; rintro e w1 ⟨rfl, rfl⟩)
  go_ret2
  exact ⟨by simp [kindTxt], HB.out⟩

set_option maxRecDepth 100000 in
set_option maxHeartbeats 4000000 in
theorem kind2 (w : World) (nm : ByteArray) (hs : nm.size ≤ 1000000000000) (E : Env w) :
    Calls Tryz.prog 41 #[.agg #[.string nm, .string ⟨#[91]⟩]] w fun e w' => e = .returned (.tuple #[.string (kindTxt ⟨nm, ⟨#[91]⟩⟩).1, .bool (kindTxt ⟨nm, ⟨#[91]⟩⟩).2]) ∧ Below w.heap.size w w' := by
  obtain ⟨m, hm⟩ := E.maxl
  have hgl := E.glob
  have hm1 : Sd ((w.alloc (.cells #[.string nm, .string ⟨#[91]⟩] 56)).cell? ⟨0, 0, none⟩ = some (.int .i64 m)) := ⟨below_cell (w := w) ((Below.refl _ w).alloc (Nat.le_refl _) _) (by simp; omega) hm⟩
  clear hm
  have hcut : Lib.cut (⟨#[91]⟩ : ByteArray).data.toList (⟨#[91]⟩ : ByteArray).data.toList = ([], [], true) := by decide
  have HB := Sd.mk ((Below.refl _ w).alloc (Nat.le_refl w.heap.size) (.cells #[.string nm, .string ⟨#[91]⟩] 56))
  go_enter Tryz.func41, Tryz.ntmps41
  go_wp2_with (go_at_call 61; refine (Tryz.strings_Cut ⟨#[91]⟩ ⟨#[91]⟩ m _ (by decide) hm1.out).mono ?_; rintro e w1 ⟨rfl, ⟨q, rfl⟩⟩)
  go_ret2
  exact ⟨by simp [kindTxt], ⟨HB.out.os, HB.out.tape, HB.out.output, HB.out.size, HB.out.block⟩⟩

set_option maxRecDepth 100000 in
set_option maxHeartbeats 4000000 in
theorem kind3 (w : World) (nm : ByteArray) (hs : nm.size ≤ 1000000000000) (E : Env w) :
    Calls Tryz.prog 41 #[.agg #[.string nm, .string ⟨#[91, 33]⟩]] w fun e w' => e = .returned (.tuple #[.string (kindTxt ⟨nm, ⟨#[91, 33]⟩⟩).1, .bool (kindTxt ⟨nm, ⟨#[91, 33]⟩⟩).2]) ∧ Below w.heap.size w w' := by
  obtain ⟨m, hm⟩ := E.maxl
  have hgl := E.glob
  have hm1 : Sd ((w.alloc (.cells #[.string nm, .string ⟨#[91, 33]⟩] 56)).cell? ⟨0, 0, none⟩ = some (.int .i64 m)) := ⟨below_cell (w := w) ((Below.refl _ w).alloc (Nat.le_refl _) _) (by simp; omega) hm⟩
  clear hm
  have hcut : Lib.cut (⟨#[91, 33]⟩ : ByteArray).data.toList (⟨#[91]⟩ : ByteArray).data.toList = ([], [33], true) := by decide
  have HB := Sd.mk ((Below.refl _ w).alloc (Nat.le_refl w.heap.size) (.cells #[.string nm, .string ⟨#[91, 33]⟩] 56))
  go_enter Tryz.func41, Tryz.ntmps41
  go_wp2_with (go_at_call 61; refine (Tryz.strings_Cut ⟨#[91, 33]⟩ ⟨#[91]⟩ m _ (by decide) hm1.out).mono ?_; rintro e w1 ⟨rfl, ⟨q, rfl⟩⟩)
  go_ret2
  exact ⟨by simp [kindTxt], ⟨HB.out.os, HB.out.tape, HB.out.output, HB.out.size, HB.out.block⟩⟩

set_option maxRecDepth 100000 in
set_option maxHeartbeats 4000000 in
theorem kind4 (w : World) (nm : ByteArray) (hs : nm.size ≤ 1000000000000) (E : Env w) :
    Calls Tryz.prog 41 #[.agg #[.string nm, .string ⟨#[33, 91]⟩]] w fun e w' => e = .returned (.tuple #[.string (kindTxt ⟨nm, ⟨#[33, 91]⟩⟩).1, .bool (kindTxt ⟨nm, ⟨#[33, 91]⟩⟩).2]) ∧ Below w.heap.size w w' := by
  obtain ⟨m, hm⟩ := E.maxl
  have hgl := E.glob
  have hm1 : Sd ((w.alloc (.cells #[.string nm, .string ⟨#[33, 91]⟩] 56)).cell? ⟨0, 0, none⟩ = some (.int .i64 m)) := ⟨below_cell (w := w) ((Below.refl _ w).alloc (Nat.le_refl _) _) (by simp; omega) hm⟩
  clear hm
  have hcut : Lib.cut (⟨#[33, 91]⟩ : ByteArray).data.toList (⟨#[91]⟩ : ByteArray).data.toList = ([33], [], true) := by decide
  have HB := Sd.mk ((Below.refl _ w).alloc (Nat.le_refl w.heap.size) (.cells #[.string nm, .string ⟨#[33, 91]⟩] 56))
  go_enter Tryz.func41, Tryz.ntmps41
  go_wp2_with (go_at_call 61; refine (Tryz.strings_Cut ⟨#[33, 91]⟩ ⟨#[91]⟩ m _ (by decide) hm1.out).mono ?_; rintro e w1 ⟨rfl, ⟨q, rfl⟩⟩)
  go_ret2
  exact ⟨by simp [kindTxt], ⟨HB.out.os, HB.out.tape, HB.out.output, HB.out.size, HB.out.block⟩⟩

set_option maxRecDepth 100000 in
set_option maxHeartbeats 4000000 in
theorem kind5 (w : World) (nm : ByteArray) (hs : nm.size ≤ 1000000000000) (E : Env w) :
    Calls Tryz.prog 41 #[.agg #[.string nm, .string ⟨#[33, 91, 33]⟩]] w fun e w' => e = .returned (.tuple #[.string (kindTxt ⟨nm, ⟨#[33, 91, 33]⟩⟩).1, .bool (kindTxt ⟨nm, ⟨#[33, 91, 33]⟩⟩).2]) ∧ Below w.heap.size w w' := by
  obtain ⟨m, hm⟩ := E.maxl
  have hgl := E.glob
  have hm1 : Sd ((w.alloc (.cells #[.string nm, .string ⟨#[33, 91, 33]⟩] 56)).cell? ⟨0, 0, none⟩ = some (.int .i64 m)) := ⟨below_cell (w := w) ((Below.refl _ w).alloc (Nat.le_refl _) _) (by simp; omega) hm⟩
  clear hm
  have hcut : Lib.cut (⟨#[33, 91, 33]⟩ : ByteArray).data.toList (⟨#[91]⟩ : ByteArray).data.toList = ([33], [33], true) := by decide
  have HB := Sd.mk ((Below.refl _ w).alloc (Nat.le_refl w.heap.size) (.cells #[.string nm, .string ⟨#[33, 91, 33]⟩] 56))
  go_enter Tryz.func41, Tryz.ntmps41
  go_wp2_with (go_at_call 61; refine (Tryz.strings_Cut ⟨#[33, 91, 33]⟩ ⟨#[91]⟩ m _ (by decide) hm1.out).mono ?_; rintro e w1 ⟨rfl, ⟨q, rfl⟩⟩)
  go_ret2
  exact ⟨by simp [kindTxt], ⟨HB.out.os, HB.out.tape, HB.out.output, HB.out.size, HB.out.block⟩⟩

set_option maxRecDepth 100000 in
set_option maxHeartbeats 4000000 in
theorem kind_other (w : World) (nm wr : ByteArray) (E : Env w) (h1 : ¬ wr = ⟨#[]⟩) (h2 : ¬ wr = ⟨#[33]⟩) (h3 : ¬ wr = ⟨#[91]⟩) (h4 : ¬ wr = ⟨#[91, 33]⟩) (h5 : ¬ wr = ⟨#[33, 91]⟩) (h6 : ¬ wr = ⟨#[33, 91, 33]⟩) :
    Calls Tryz.prog 41 #[.agg #[.string nm, .string wr]] w fun e w' => e = .returned (.tuple #[.string (kindTxt ⟨nm, wr⟩).1, .bool (kindTxt ⟨nm, wr⟩).2]) ∧ Below w.heap.size w w' := by
  have hk : kindTxt ⟨nm, wr⟩ = (⟨#[]⟩, false) := by unfold kindTxt; rw [if_neg (by simp [h1, h2]), if_neg h3, if_neg h4, if_neg h5, if_neg h6]
  rw [hk]
  have e1 : (wr.toList == []) = false := by have := text_ne (b := ⟨#[]⟩) h1; rw [ByteArray.toList_eq ⟨#[]⟩] at this; exact this
  have e1' : wr.toList.isEmpty = false := by rw [← e1]; cases wr.toList <;> rfl
  have e2 : (wr.toList == [33]) = false := by have := text_ne (b := ⟨#[33]⟩) h2; rw [ByteArray.toList_eq ⟨#[33]⟩] at this; exact this
  have e3 : (wr.toList == [91]) = false := by have := text_ne (b := ⟨#[91]⟩) h3; rw [ByteArray.toList_eq ⟨#[91]⟩] at this; exact this
  have e4 : (wr.toList == [91, 33]) = false := by have := text_ne (b := ⟨#[91, 33]⟩) h4; rw [ByteArray.toList_eq ⟨#[91, 33]⟩] at this; exact this
  have e5 : (wr.toList == [33, 91]) = false := by have := text_ne (b := ⟨#[33, 91]⟩) h5; rw [ByteArray.toList_eq ⟨#[33, 91]⟩] at this; exact this
  have e6 : (wr.toList == [33, 91, 33]) = false := by have := text_ne (b := ⟨#[33, 91, 33]⟩) h6; rw [ByteArray.toList_eq ⟨#[33, 91, 33]⟩] at this; exact this
  have HB := Sd.mk ((Below.refl _ w).alloc (Nat.le_refl w.heap.size) (.cells #[.string nm, .string wr] 56))
  clear h1 h2 h3 h4 h5 h6 hk
  go_enter Tryz.func41, Tryz.ntmps41
  go_wp2
  go_ret2
  exact ⟨rfl, HB.out⟩
theorem kind41_c (w : World) (r : Rf) (hs : r.name.size ≤ 1000000000000) (E : Env w) :
    Calls Tryz.prog 41 #[.agg #[.string r.name, .string r.wraps]] w fun e w' => e = .returned (.tuple #[.string (kindTxt r).1, .bool (kindTxt r).2]) ∧ Below w.heap.size w w' := by
  obtain ⟨nm, wr⟩ := r
  by_cases h1 : wr = ⟨#[]⟩
  · subst h1; exact kind0 w nm hs E
  by_cases h2 : wr = ⟨#[33]⟩
  · subst h2; exact kind1 w nm hs E
  by_cases h3 : wr = ⟨#[91]⟩
  · subst h3; exact kind2 w nm hs E
  by_cases h4 : wr = ⟨#[91, 33]⟩
  · subst h4; exact kind3 w nm hs E
  by_cases h5 : wr = ⟨#[33, 91]⟩
  · subst h5; exact kind4 w nm hs E
  by_cases h6 : wr = ⟨#[33, 91, 33]⟩
  · subst h6; exact kind5 w nm hs E
  exact kind_other w nm wr E h1 h2 h3 h4 h5 h6
end Go.Proofs.YtibgigffedejpaaGreatDoor
namespace Go.Proofs.YtibgigffedejpaaGreatDoor
set_option linter.unusedVariables false
set_option linter.unusedSimpArgs false
open Go.RowKit
set_option linter.unusedVariables false
set_option linter.unusedSimpArgs false

/-! ### A schema's pieces -/
def tOpen : ByteArray := ⟨#[123]⟩
def tClose : ByteArray := ⟨#[125]⟩
def tColon : ByteArray := ⟨#[58]⟩
def tAtSearch : ByteArray := ⟨#[64, 32, 115, 101, 97, 114, 99, 104]⟩
def tAtInv : ByteArray := ⟨#[64, 32, 104, 97, 115, 73, 110, 118, 101, 114, 115, 101, 32, 40, 32, 102, 105, 101, 108, 100, 32, 58]⟩
def tRp : ByteArray := ⟨#[41]⟩
def fieldP (f : Fd) : List ByteArray := [f.name, tColon, (kindTxt f.ref).1] ++ ((if f.search then [tAtSearch] else []) ++ (if f.inv = ⟨#[]⟩ then [] else [tAtInv, f.inv, tRp]))
def fieldK (f : Fd) : Bool := (kindTxt f.ref).2 && (nmB f.ref.name && (nmB f.name && (decide (f.inv = ⟨#[]⟩) || nmB f.inv)))
def objP (o : Ob) : List ByteArray := [tType, o.name, tOpen] ++ (o.fields.flatMap fieldP ++ [tClose])
def objK (o : Ob) : Bool := decide (0 < o.fields.length) && (nmB o.name && o.fields.all fieldK)
def enP (x : En) : List ByteArray := [tEnum, x.name, tOpen] ++ (x.words ++ [tClose])
def enK (x : En) : Bool := decide (0 < x.words.length) && (nmB x.name && x.words.all nmB)
def schP (s : Sc) : List ByteArray := s.objs.flatMap objP ++ s.enums.flatMap enP
def schK (s : Sc) : Bool := decide (0 < s.objs.length + s.enums.length) && (s.objs.all objK && s.enums.all enK)

/-! ### Rows that are read -/
def RowR (w : World) (v : Value) (size n : Nat) (cells : List Value) : Prop :=
  ∃ a c, v = .slice a n c ∧ cells.length = n * size ∧ ∀ j u, cells[j]? = some u → ∃ b off, a = some ⟨b, off, none⟩ ∧ w.cell? ⟨b, off + j, none⟩ = some u
def FieldsR (w : World) (v : Value) (fs : List Fd) : Prop := RowR w v 5 fs.length (fs.flatMap Fd.cells)
def WordsR (w : World) (v : Value) (ws : List ByteArray) : Prop := RowR w v 1 ws.length (ws.map Value.string)
def ObjsR (w : World) (v : Value) (l : List Ob) : Prop :=
  ∃ vs : List Value, vs.length = l.length ∧ RowR w v 2 l.length ((l.zip vs).flatMap fun p => [.string p.1.name, p.2]) ∧ ∀ p ∈ l.zip vs, FieldsR w p.2 p.1.fields
def EnsR (w : World) (v : Value) (l : List En) : Prop :=
  ∃ vs : List Value, vs.length = l.length ∧ RowR w v 2 l.length ((l.zip vs).flatMap fun p => [.string p.1.name, p.2]) ∧ ∀ p ∈ l.zip vs, WordsR w p.2 p.1.words
def SchR (w : World) (v : Value) (s : Sc) : Prop := ∃ vo ve, v = .agg #[vo, ve] ∧ ObjsR w vo s.objs ∧ EnsR w ve s.enums
section
variable {w w' : World} {v : Value} {size n lo : Nat} {xs : List Value}
theorem RowR.keep (h : RowR w v size n xs) (hk : ∀ p u, w.cell? p = some u → w'.cell? p = some u) : RowR w' v size n xs := by
  obtain ⟨a, c, h1, h2, h3⟩ := h
  exact ⟨a, c, h1, h2, fun j u hj => let ⟨b, off, e1, e2⟩ := h3 j u hj; ⟨b, off, e1, hk _ _ e2⟩⟩
theorem ObjsR.keep {l : List Ob} (h : ObjsR w v l) (hk : ∀ p u, w.cell? p = some u → w'.cell? p = some u) : ObjsR w' v l := by
  obtain ⟨vs, h1, h2, h3⟩ := h
  exact ⟨vs, h1, h2.keep hk, fun p hp => RowR.keep (h3 p hp) hk⟩
theorem EnsR.keep {l : List En} (h : EnsR w v l) (hk : ∀ p u, w.cell? p = some u → w'.cell? p = some u) : EnsR w' v l := by
  obtain ⟨vs, h1, h2, h3⟩ := h
  exact ⟨vs, h1, h2.keep hk, fun p hp => RowR.keep (h3 p hp) hk⟩
theorem SchR.keep {s : Sc} (h : SchR w v s) (hk : ∀ p u, w.cell? p = some u → w'.cell? p = some u) : SchR w' v s := by
  obtain ⟨vo, ve, h1, h2, h3⟩ := h
  exact ⟨vo, ve, h1, h2.keep hk, h3.keep hk⟩
theorem cell_lt {p : Addr} {u : Value} (h : w.cell? p = some u) : p.block < w.heap.size := by
  refine Nat.lt_of_not_le fun hl => ?_
  unfold World.cell? at h
  rw [Array.getElem?_eq_none hl] at h; cases h
theorem keepCells (hb : Below w.heap.size w w') : ∀ p u, w.cell? p = some u → w'.cell? p = some u := fun p u h => below_cell hb (cell_lt h) h
theorem RowR.of_owns {e : TypeId} (h : w.ownsRow lo e size v n xs) : RowR w v size n xs := by
  have hl := h.1
  rcases h.2 with ⟨rfl, rfl⟩ | ⟨g, cap, cur, rfl, hg, hgb, h1, h2, h3, h4⟩
  · exact ⟨_, _, rfl, hl, fun j u hj => by simp at hl; rw [hl] at hj; simp at hj⟩
  · refine ⟨_, _, rfl, hl, fun j u hj => ⟨g, 0, rfl, ?_⟩⟩
    have := h.cells (g := g) rfl j u hj
    unfold Addr.add at this
    split at this
    · rename_i h0; subst h0; exact this
    · exact this
theorem SchAt.read {s : Sc} (h : SchAt w lo v s) : SchR w v s := by
  obtain ⟨vo, ve, h0, ⟨vs, h1, h2, h3⟩, ⟨us, k1, k2, k3⟩⟩ := h
  exact ⟨vo, ve, h0, ⟨vs, h1, .of_owns h2, fun p hp => RowR.of_owns (h3 p hp)⟩, ⟨us, k1, .of_owns k2, fun p hp => RowR.of_owns (k3 p hp)⟩⟩
end
theorem flat2_get {γ : Type} (f g : γ → Value) : ∀ (l : List γ) (k : Nat) (x : γ), l[k]? = some x → (l.flatMap fun p => [f p, g p])[k * 2]? = some (f x) ∧ (l.flatMap fun p => [f p, g p])[k * 2 + 1]? = some (g x)
  | [], k, x, h => by simp at h
  | y :: l, 0, x, h => by simp at h; subst h; simp
  | y :: l, k + 1, x, h => by
    have := flat2_get f g l k x (by simpa using h)
    rw [List.flatMap_cons, show (k + 1) * 2 = k * 2 + 2 by omega]
    simpa using this
theorem flat5_get : ∀ (l : List Fd) (k : Nat) (x : Fd), l[k]? = some x → ∀ j, j < 5 → (l.flatMap Fd.cells)[k * 5 + j]? = x.cells[j]?
  | [], k, x, h, j, hj => by simp at h
  | y :: l, 0, x, h, j, hj => by
    simp at h; subst h
    rw [List.flatMap_cons, List.getElem?_append_left (by simp [Fd.cells]; omega)]
    simp
  | y :: l, k + 1, x, h, j, hj => by
    have := flat5_get l k x (by simpa using h) j hj
    rw [List.flatMap_cons, List.getElem?_append_right (by simp [Fd.cells]; omega)]
    rw [show (k + 1) * 5 + j - y.cells.length = k * 5 + j by simp [Fd.cells]; omega]
    exact this

/-! ### 'name' -/
set_option maxRecDepth 100000 in
set_option maxHeartbeats 1000000 in
theorem nameC_c (w : World) (K : Nat) (b : Bool) (s : ByteArray) (hs : s.size ≤ 9223372036854775807) (E : Env w) (hK : At w K 4 #[.bool b]) :
    Calls Tryz.prog 39 #[.string s, .pointer (some ⟨K, 0, none⟩)] w fun e w' => e = .returned (.string s) ∧ At w' K 4 #[.bool (b && nmB s)] ∧ Fr K w w' := by
  have c0 := hK.cell 0 rfl
  have f0 := hK.fz 0
  have HK := Sd.mk hK
  clear hK
  cases b with
  | false =>
    go_enter Tryz.func39, Tryz.ntmps39
    go_wp2
    go_ret
    exact ⟨rfl, HK.out.set 0 _, (Fr.refl K w).setCell (p := ⟨K, 0, none⟩) (.inl rfl) _⟩
  | true =>
    go_enter Tryz.func39, Tryz.ntmps39
    go_wp2_with (go_at_call 40; refine (nm_c _ s hs E).mono ?_; rintro e w1 ⟨rfl, h1⟩; have HB := Sd.mk h1; have HK1 := Sd.mk (HK.out.below h1); have c1 := HK1.out.cell 0 rfl; have f1 := HK1.out.fz 0; clear h1)
    go_ret
    exact ⟨rfl, HK1.out.set 0 _, (Fr.of_below (g := K) HB.out).setCell (p := ⟨K, 0, none⟩) (.inl rfl) _⟩

/-- While a schema's pieces are put: the row of those that are put, the schema's box at B, the box of 'ok'. -/
structure TI (w0 : World) (B K : Nat) (bx : Array Value) (acc : List ByteArray) (b : Bool) (v : Value) (W : World) : Prop where
  row : W.ownsRow B 9 1 v acc.length (acc.map Value.string)
  ok : At W K 4 #[.bool b]
  box : At W B 25 bx
  below : Below B w0 W
  low : B < K
  base : B = w0.heap.size
section
variable {w0 W W' : World} {B K : Nat} {bx : Array Value} {acc : List ByteArray} {b b' : Bool} {v v' : Value}
theorem TI.env (h : TI w0 B K bx acc b v W) (E : Env w0) : Env W := (Fr.of_below (g := 3) (h.base ▸ h.below)).env (by decide) E
theorem TI.bel (h : TI w0 B K bx acc b v W) (hb : Below W.heap.size W W') : TI w0 B K bx acc b v W' :=
  ⟨Keeps.below hb _ _ _ _ _ h.row, h.ok.below hb, h.box.below hb, h.below.trans ⟨hb.os, hb.tape, hb.output, hb.size, fun k hk => hb.block k (by have := h.ok.lt; have := h.low; omega)⟩, h.low, h.base⟩
theorem TI.frK (h : TI w0 B K bx acc b v W) (hf : Fr K W W') (hk : At W' K 4 #[.bool b']) : TI w0 B K bx acc b' v W' :=
  ⟨Keeps.fr hf h.ok (by decide) _ _ _ _ _ h.row, hk, h.box.fr hf (by have := h.low; omega), h.below.trans ⟨hf.os, hf.tape, hf.output, hf.size, fun k hk => hf.block k (by have := h.ok.lt; have := h.low; omega) (by have := h.low; omega)⟩, h.low, h.base⟩
theorem TI.set (h : TI w0 B K bx acc b v W) (b' : Bool) : TI w0 B K bx acc b' v (W.setCell ⟨K, 0, none⟩ (.bool b')) :=
  h.frK ((Fr.refl K W).setCell (.inl rfl) _) (h.ok.set 0 _)
theorem TI.app (h : TI w0 B K bx acc b v W) {o : Obj} {ps : List ByteArray} (hg : (W.alloc o).grownBy W' v.ownBlock) (hr : W'.ownsRow B 9 1 v' (acc.length + ps.length) (acc.map Value.string ++ ps.map Value.string)) : TI w0 B K bx (acc ++ ps) b v' W' := by
  refine ⟨by simpa using hr, h.ok.grown h.row (by decide) hg, h.box.grown h.row (by decide) hg, ?_, h.low, h.base⟩
  have h1 : Below B W W' := ⟨hg.os, hg.tape, hg.output, by have := hg.size; simp at this; omega, fun i hi => by
    refine (hg.block i (by have := h.ok.lt; have := h.low; simp; omega) ?_).trans (Below.heap_alloc _ _ i (by have := h.ok.lt; have := h.low; omega))
    intro hv
    have := h.row.lt i hv.symm
    omega⟩
  exact h.below.trans h1
theorem TI.alloc (h : TI w0 B K bx acc b v W) (o : Obj) : TI w0 B K bx acc b v (W.alloc o) := h.bel ((Below.refl _ W).alloc (Nat.le_refl _) o)
theorem TI.cell (h : TI w0 B K bx acc b v W) {p : Addr} {u : Value} (hc : w0.cell? p = some u) : W.cell? p = some u := keepCells (h.base ▸ h.below) p u hc
end
theorem row_at2 {γ : Type} {f g : γ → Value} {l : List γ} {w : World} {a : Option Addr} (h : ∀ j u, (l.flatMap fun p => [f p, g p])[j]? = some u → ∃ b off, a = some ⟨b, off, none⟩ ∧ w.cell? ⟨b, off + j, none⟩ = some u) {k : Nat} {x : γ} (hx : l[k]? = some x) :
    ∃ b off, a = some ⟨b, off, none⟩ ∧ w.cell? ⟨b, off + k * 2, none⟩ = some (f x) ∧ w.cell? ⟨b, off + k * 2 + 1, none⟩ = some (g x) := by
  obtain ⟨h0, h1⟩ := flat2_get f g l k x hx
  obtain ⟨b, off, rfl, c0⟩ := h _ _ h0
  obtain ⟨b', off', e, c1⟩ := h _ _ h1
  cases e
  exact ⟨b, off, rfl, c0, c1⟩
theorem row_at5 {l : List Fd} {w : World} {a : Option Addr} (h : ∀ j u, (l.flatMap Fd.cells)[j]? = some u → ∃ b off, a = some ⟨b, off, none⟩ ∧ w.cell? ⟨b, off + j, none⟩ = some u) {k : Nat} {x : Fd} (hx : l[k]? = some x) :
    ∃ b off, a = some ⟨b, off, none⟩ ∧ w.cell? ⟨b, off + k * 5, none⟩ = some (.string x.name) ∧ w.cell? ⟨b, off + k * 5 + 1, none⟩ = some (.string x.ref.name) ∧ w.cell? ⟨b, off + k * 5 + 2, none⟩ = some (.string x.ref.wraps) ∧
      w.cell? ⟨b, off + k * 5 + 3, none⟩ = some (.bool x.search) ∧ w.cell? ⟨b, off + k * 5 + 4, none⟩ = some (.string x.inv) := by
  have h5 := flat5_get l k x hx
  obtain ⟨b, off, rfl, c0⟩ := h (k * 5 + 0) _ ((h5 0 (by decide)).trans rfl)
  obtain ⟨_, _, e1, c1⟩ := h (k * 5 + 1) _ ((h5 1 (by decide)).trans rfl)
  obtain ⟨_, _, e2, c2⟩ := h (k * 5 + 2) _ ((h5 2 (by decide)).trans rfl)
  obtain ⟨_, _, e3, c3⟩ := h (k * 5 + 3) _ ((h5 3 (by decide)).trans rfl)
  obtain ⟨_, _, e4, c4⟩ := h (k * 5 + 4) _ ((h5 4 (by decide)).trans rfl)
  cases e1; cases e2; cases e3; cases e4
  exact ⟨b, off, rfl, c0, c1, c2, c3, c4⟩
theorem row_at1 {l : List ByteArray} {w : World} {a : Option Addr} (h : ∀ j u, (l.map Value.string)[j]? = some u → ∃ b off, a = some ⟨b, off, none⟩ ∧ w.cell? ⟨b, off + j, none⟩ = some u) {k : Nat} {x : ByteArray} (hx : l[k]? = some x) :
    ∃ b off, a = some ⟨b, off, none⟩ ∧ w.cell? ⟨b, off + k, none⟩ = some (.string x) := h _ _ (by simp [hx])
/-- A row of pieces grows. -/
theorem ti_append {ops : Array Oper} {rest : List Oper} {o : Oper} {a : Act} {Q : Exit → Act → World → Prop} (hgd : o.guard = none) (s x : Operand)
    (ho : o.op = .call { callee := .builtin .append, args := #[s, x], argTypes := #[41, 41] }) {w0 W : World} {B K m c : Nat} {bx : Array Value} {acc : List ByteArray} {b : Bool} {v : Value} {cs : Array Value} (ps : List ByteArray) (hps : ps.length = m) (hcs : cs = (ps.map Value.string).toArray)
    (h : TI w0 B K bx acc b v W) (hs : a.eval s = v) (hx : a.eval x = .slice (some ⟨W.heap.size, 0, none⟩) m c) (hc : acc.length + m ≤ 2000000000)
    (hk : ∀ v' w', TI w0 B K bx (acc ++ ps) b v' w' → (∀ (y t : Nat) (cs' : Array Value), At W y t cs' → t ≠ 9 → At w' y t cs') → wpList Tryz.prog ops Q rest (a.put o.dst v') w') : wpList Tryz.prog ops Q (o :: rest) a (W.alloc (.cells cs 9)) := by
  obtain ⟨i0, hi, hz0, hz1, hz2⟩ := info_parts info9
  subst hcs
  refine wpList_append_own _ hgd s x 41 ho B 9 i0 (.string ⟨#[]⟩) 1 16 Tryz.underlying41 hi hz0 hz1 hz2 rfl (by decide) v acc.length (acc.map Value.string) hs (h.row.alloc _) ⟨W.heap.size, 0, none⟩ m c (ps.map Value.string) hx (by simp [hps])
    (World.news_of_block (heap_alloc_new W _)) (by intro u hu; simp at hu; obtain ⟨_, _, rfl⟩ := hu; simp [Value.oneCell']) (by unfold maxLen; omega) (by omega) (by have := h.ok.lt; have := h.low; simp; omega) ?_
  intro v' w' hr hg _
  exact hk v' w' (h.app hg (by rw [hps]; exact hr)) (fun y t cs' hy ht => hy.grown h.row ht hg)
end Go.Proofs.YtibgigffedejpaaGreatDoor
namespace Go.Proofs.YtibgigffedejpaaGreatDoor
set_option linter.unusedVariables false
set_option linter.unusedSimpArgs false
open Go.RowKit
set_option linter.unusedVariables false
set_option linter.unusedSimpArgs false
attribute [local go_sem ↓] Go.wp_at_zero Go.wp_at_succ

/-- No text of it is longer than any machine bears. -/
def SmallSc (s : Sc) : Prop :=
  (∀ o ∈ s.objs, o.name.size ≤ 1000000000000 ∧ ∀ f ∈ o.fields, f.name.size ≤ 1000000000000 ∧ f.ref.name.size ≤ 1000000000000 ∧ f.inv.size ≤ 1000000000000) ∧
  ∀ x ∈ s.enums, x.name.size ≤ 1000000000000 ∧ ∀ y ∈ x.words, y.size ≤ 1000000000000
def schTxt (s : Sc) : ByteArray := ⟨(Lib.join ((schP s).map (·.data.toList)) [32]).toArray⟩
theorem flatMap_len {α β : Type} (f : α → List β) (h : ∀ x, 1 ≤ (f x).length) : ∀ l : List α, l.length ≤ (l.flatMap f).length
  | [] => Nat.le_refl _
  | x :: l => by
    have := flatMap_len f h l
    have := h x
    simp only [List.flatMap_cons, List.length_append, List.length_cons]; omega

set_option maxRecDepth 100000 in
set_option maxHeartbeats 16000000 in
theorem stext_c (w : World) (s : Sc) (vo ve : Value) (ho : ObjsR w vo s.objs) (he : EnsR w ve s.enums) (E : Env w) (hsz : SmallSc s) (hcount : (schP s).length ≤ 1000000000) (hjoin : (Lib.join ((schP s).map (·.data.toList)) [32]).length ≤ 140737488355328) :
    Calls Tryz.prog 23 #[.agg #[vo, ve]] w fun e w' => e = .returned (.tuple #[.string (schTxt s), .bool (schK s)]) ∧ Below w.heap.size w w' := by
  have hmf : ∀ (fn : Fn) (first cap : Array Value) (w : World), (Instr.makeFunc fn first cap).run Tryz.prog w = .ok (.func fn first cap) w := fun _ _ _ _ => rfl
  obtain ⟨vs, hvl, ⟨a1, c1, rfl, hol, hoc⟩, hof⟩ := ho
  obtain ⟨us, hul, ⟨a2, c2, rfl, hel, hec⟩, hef⟩ := he
  have hn1 : s.objs.length + s.enums.length ≤ 1000000000 := by
    have h1 := flatMap_len objP (fun x => by simp [objP]) s.objs
    have h2 := flatMap_len enP (fun x => by simp [enP]) s.enums
    unfold schP at hcount
    rw [List.length_append] at hcount; omega
  obtain ⟨N1, hN1⟩ : ∃ N, s.objs.length = N := ⟨_, rfl⟩
  obtain ⟨N2, hN2⟩ : ∃ N, s.enums.length = N := ⟨_, rfl⟩
  obtain ⟨d0, hd0⟩ : ∃ d, decide (0 < N1 + N2) = d := ⟨_, rfl⟩
  have hd0' : decide ((0 : Int) < (N1 : Int) + (N2 : Int)) = d0 := by rw [← hd0]; simp only [decide_eq_decide]; omega
  obtain ⟨T, hT⟩ : ∃ T, schP s = T := ⟨_, rfl⟩
  obtain ⟨KK, hKK⟩ : ∃ d, schK s = d := ⟨_, rfl⟩
  have HT : Sd ([] ++ ((s.objs.drop 0).flatMap objP ++ s.enums.flatMap enP) = T) := ⟨hT⟩
  have HK : Sd ((d0 && ((s.objs.drop 0).all objK && s.enums.all enK)) = KK) := ⟨by rw [← hKK, ← hd0, ← hN1, ← hN2]; rfl⟩
  have HPost : Sd (schTxt s = ⟨(Lib.join (T.map (·.data.toList)) [32]).toArray⟩) := ⟨by rw [← hT]; rfl⟩
  rw [hT] at hcount hjoin
  rw [hN1, hN2] at hn1
  rw [hN1] at hol hvl
  rw [hN2] at hel hul
  have HZ := Sd.mk hsz
  have HOC := Sd.mk hoc
  have HEC := Sd.mk hec
  have HOF := Sd.mk hof
  have HEF := Sd.mk hef
  have HVL := Sd.mk hvl
  have HUL := Sd.mk hul
  have HN1 := Sd.mk hN1
  have HN2 := Sd.mk hN2
  have HJ := Sd.mk hjoin
  obtain ⟨B, hB⟩ : ∃ B, w.heap.size = B := ⟨_, rfl⟩
  have HB := Sd.mk hB
  have HT0 : Sd (TI w B (B + 1) #[.slice a1 N1 c1, .slice a2 N2 c2] [] d0 (.slice none 0 0) ((w.alloc (.cells #[.slice a1 N1 c1, .slice a2 N2 c2] 25)).alloc (.cells #[.bool d0] 4))) := by
    subst hB
    refine ⟨⟨World.ownsRow_nil _ _ 9 1, ?_, (At.fresh w _ _).alloc _, ((Below.refl _ w).alloc (Nat.le_refl _) _).alloc (by simp) _, by omega, rfl⟩⟩
    have := At.fresh (w.alloc (.cells #[.slice a1 N1 c1, .slice a2 N2 c2] 25)) 4 #[.bool d0]
    simpa using this
  have HX0 : Sd (At ((w.alloc (.cells #[.slice a1 N1 c1, .slice a2 N2 c2] 25)).alloc (.cells #[.bool d0] 4)) B 25 #[.slice a1 N1 c1, .slice a2 N2 c2]) := ⟨by rw [← hB]; exact (At.fresh w _ _).alloc _⟩
  rw [hN1, hN2]
  rw [HPost.out, hKK]
  clear hsz hoc hec hof hef hvl hul hN1 hN2 hjoin hd0 hT hKK hB hol hel
  go_enter Tryz.func23, Tryz.ntmps23
  go_upto_region 4 with (fail)
  rw [HB.out]
  generalize (w.alloc (.cells #[.slice a1 N1 c1, .slice a2 N2 c2] 25)).alloc (.cells #[.bool d0] 4) = w1 at HT0 HX0 ⊢
  clear hd0'
  obtain ⟨bx, hbx⟩ : ∃ bx : Array Value, #[.slice a1 N1 c1, .slice a2 N2 c2] = bx := ⟨_, rfl⟩
  have HBX := Sd.mk hbx
  rw [hbx] at HT0
  clear hbx
  have y0 := HX0.out.cell 0 rfl
  go_wp2
  clear y0
  go_loopw [4, 29] (fun v4 t29 wr => ∃ (k : Nat) (acc : List ByteArray) (b : Bool), t29 = .int .i64 k ∧ k ≤ N1 ∧ Sd (TI w B (B + 1) bx acc b v4 wr) ∧ Sd (acc ++ ((s.objs.drop k).flatMap objP ++ s.enums.flatMap enP) = T) ∧ Sd ((b && ((s.objs.drop k).all objK && s.enums.all enK)) = KK)) (fun _ t29 _ => N1 - (intOf t29).toNat)
  case atStart => exact ⟨0, [], d0, rfl, Nat.zero_le _, HT0, HT, HK⟩
  case round =>
    obtain ⟨k, acc, b, rfl, hk, HT1, HTR, HKR⟩ := hrel
    by_cases hklt : k < N1
    · have hkl : k < s.objs.length := by rw [HN1.out]; exact hklt
      obtain ⟨o, ho⟩ : ∃ o, s.objs[k] = o := ⟨_, rfl⟩
      have hkv : k < vs.length := by rw [HVL.out]; exact hklt
      obtain ⟨vk, hvk⟩ : ∃ v, vs[k] = v := ⟨_, rfl⟩
      have hz : (s.objs.zip vs)[k]? = some (o, vk) := by rw [List.getElem?_zip_eq_some]; exact ⟨by rw [List.getElem?_eq_getElem hkl, ho], by rw [List.getElem?_eq_getElem hkv, hvk]⟩
      have HOZ := Sd.mk (HZ.out.1 o (ho ▸ List.getElem_mem hkl))
      have hoz := HOZ.out.1
      have hff : FieldsR w vk o.fields := HOF.out (o, vk) (List.mem_of_getElem? hz)
      obtain ⟨a3, c3, rfl, hfl, hfc⟩ := hff
      obtain ⟨b1, off1, rfl, g0, g1⟩ := row_at2 HOC.out hz
      have HFC := Sd.mk hfc
      obtain ⟨N3, hN3⟩ : ∃ N, o.fields.length = N := ⟨_, rfl⟩
      have HN3 := Sd.mk hN3
      rw [hN3] at g1
      obtain ⟨on, hon⟩ : ∃ on, o.name = on := ⟨_, rfl⟩
      have HON := Sd.mk hon
      simp only [hon] at g0
      rw [hon] at hoz
      obtain ⟨R, hR⟩ : ∃ R, [tClose] ++ ((s.objs.drop (k + 1)).flatMap objP ++ s.enums.flatMap enP) = R := ⟨_, rfl⟩
      obtain ⟨KR, hKR⟩ : ∃ KR, ((s.objs.drop (k + 1)).all objK && s.enums.all enK) = KR := ⟨_, rfl⟩
      have HRR := Sd.mk hR
      have HKRR := Sd.mk hKR
      have HTT : Sd (acc ++ [tType, on, tOpen] ++ (o.fields.flatMap fieldP ++ R) = T) := ⟨by rw [← HTR.out, List.drop_eq_getElem_cons hkl, ho, List.flatMap_cons, ← hR]; unfold objP; rw [hon]; simp⟩
      have HKQ : Sd ((b && (decide (0 < N3) && (nmB on && (o.fields.all fieldK && KR)))) = KK) := ⟨by rw [← HKR.out, List.drop_eq_getElem_cons hkl, ho, List.all_cons, ← hKR]; unfold objK; rw [hon, hN3]; simp [Bool.and_assoc]⟩
      have hacc : acc.length + N3 ≤ 1000000000 := by
        have h1 := congrArg List.length HTT.out
        have h2 := flatMap_len fieldP (fun x => by simp [fieldP]) o.fields
        simp only [List.length_append] at h1; omega
      have x0 := HT1.out.cell g0
      have x1 := HT1.out.cell g1
      have p1 : (0 ≤ (k : Int)) = True := eq_true (by omega)
      have p2 : (k < N1) = True := eq_true hklt
      have p3 : ((k : Int) < (N1 : Int)) = True := eq_true (by omega)
      have HC3 := Sd.mk (At.fresh wr 53 #[.string on, .slice a3 N3 c3])
      have HT3 := Sd.mk (HT1.out.alloc (.cells #[.string on, .slice a3 N3 c3] 53))
      have hCne : wr.heap.size ≠ B + 1 := by have := HT1.out.ok.lt; omega
      clear hkl ho hkv hvk hz hfl hfc hN3 hon hR hKR HTR HKR g0 g1
      go_upto_region 7 with (fail)
      generalize wr.alloc (.cells #[.string on, .slice a3 N3 c3] 53) = w3 at HC3 HT3 ⊢
      generalize wr.heap.size = C8 at HC3 hCne ⊢
      clear x0 x1
      have k1 := HC3.out.cell 1 rfl
      have q0 := HT3.out.ok.cell 0 rfl
      have q1 := HT3.out.ok.fz 0
      go_cut [] (fun wc => ∃ b5, Sd (TI w B (B + 1) bx acc b5 u4 wc) ∧ Sd (At wc C8 53 #[.string on, .slice a3 N3 c3]) ∧ Sd ((b5 && (nmB on && (o.fields.all fieldK && KR))) = KK))
      case first =>
        cases b with
        | true =>
          go_wp2
          go_meet
          case rel => exact ⟨decide (0 < N3), ⟨HT3.out.set _⟩, ⟨HC3.out.far (p := ⟨B + 1, 0, none⟩) (Ne.symm hCne) _⟩, ⟨by rw [← HKQ.out]; rfl⟩⟩
        | false =>
          go_wp2
          go_meet
          case rel => exact ⟨false, ⟨HT3.out.set false⟩, ⟨HC3.out.far (p := ⟨B + 1, 0, none⟩) (Ne.symm hCne) (.bool false)⟩, ⟨by rw [← HKQ.out]; rfl⟩⟩
      case rest =>
        obtain ⟨b5, HT5, HC5, HK5⟩ := hcut
        clear q0 q1 HKQ k1 HT3 HC3
        generalize wc = w5 at HT5 HC5 ⊢
        have k0 := HC5.out.cell 0 rfl
        go_upto_region 9 with (first | (go_at_call 39; refine (nameC_c _ (B + 1) _ on (by omega) (HT5.out.env E) HT5.out.ok).mono ?_; rintro e w6 ⟨rfl, hk6, hf6⟩; have HT6 := Sd.mk (HT5.out.frK hf6 hk6); have HC6 := Sd.mk (HC5.out.fr hf6 (by omega)); clear hk6 hf6) | (at_builtin; refine ti_append rfl _ _ rfl (m := 3) [tType, on, tOpen] rfl rfl HT6.out rfl rfl (by first | omega | (simp only [List.length_append, List.length_cons, List.length_nil]; omega)) ?_; intro v7 w7 h7 hat7; have HT7 := Sd.mk h7; have HC7 := Sd.mk (hat7 _ _ _ HC6.out (by decide)); clear h7 hat7))
        clear k0
        have k1 := HC7.out.cell 1 rfl
        have HTT2 : Sd (acc ++ [tType, on, tOpen] ++ ((o.fields.drop 0).flatMap fieldP ++ R) = T) := ⟨HTT.out⟩
        have HKK2 : Sd (((b5 && nmB on) && ((o.fields.drop 0).all fieldK && KR)) = KK) := ⟨by rw [← HK5.out]; simp [Bool.and_assoc]⟩
        clear HTT HK5
        go_wp2
        clear k1
        obtain ⟨wo, hwo⟩ : ∃ wo : World, wo = wr := ⟨_, rfl⟩
        clear hwo
        go_loopw [4, 50] (fun v4 t50 wr => ∃ (j : Nat) (acc : List ByteArray) (b : Bool), t50 = .int .i64 j ∧ j ≤ N3 ∧ Sd (TI w B (B + 1) bx acc b v4 wr) ∧ Sd (acc ++ ((o.fields.drop j).flatMap fieldP ++ R) = T) ∧ Sd ((b && ((o.fields.drop j).all fieldK && KR)) = KK)) (fun _ t50 _ => N3 - (intOf t50).toNat)
        case atStart => exact ⟨0, _, _, rfl, Nat.zero_le _, HT7, HTT2, HKK2⟩
        case round =>
          obtain ⟨j, acc, b, rfl, hj, HT2, HTR, HKR⟩ := hrel
          by_cases hjlt : j < N3
          · have hjl : j < o.fields.length := by rw [HN3.out]; exact hjlt
            obtain ⟨f, hf⟩ : ∃ f, o.fields[j] = f := ⟨_, rfl⟩
            have hf' : o.fields[j]? = some f := by rw [List.getElem?_eq_getElem hjl, hf]
            have hfz := (HOZ.out).2 f (hf ▸ List.getElem_mem hjl)
            have HTT' : Sd (acc ++ (fieldP f ++ (o.fields.drop (j + 1)).flatMap fieldP ++ R) = T) := ⟨by rw [← HTR.out, List.drop_eq_getElem_cons hjl, hf, List.flatMap_cons]⟩
            have HKK' : Sd ((b && ((fieldK f && (o.fields.drop (j + 1)).all fieldK) && KR)) = KK) := ⟨by rw [← HKR.out, List.drop_eq_getElem_cons hjl, hf, List.all_cons]⟩
            obtain ⟨b3, off3, rfl, g0, g1, g2, g3, g4⟩ := row_at5 HFC.out hf'
            obtain ⟨fn, ⟨rn, rw⟩, se, iv⟩ := f
            obtain ⟨kt, kb, hkt0⟩ : ∃ kt kb, kindTxt ⟨rn, rw⟩ = (kt, kb) := ⟨_, _, rfl⟩
            have hkt : Sd (kindTxt ⟨rn, rw⟩ = (kt, kb)) := ⟨hkt0⟩
            have hz1 : fn.size ≤ 1000000000000 := hfz.1
            have hz2 : rn.size ≤ 1000000000000 := hfz.2.1
            have hz3 : iv.size ≤ 1000000000000 := hfz.2.2
            have cK := fun W E => kind41_c W ⟨rn, rw⟩ hz2 E
            simp only at cK g0 g1 g2 g3 g4
            rw [hkt0] at cK
            simp only at cK
            have hacc : acc.length ≤ 1000000000 := by have := congrArg List.length HTT'.out; simp only [List.length_append] at this; omega
            have HTT : Sd (acc ++ (fieldP ⟨fn, ⟨rn, rw⟩, se, iv⟩ ++ (o.fields.drop (j + 1)).flatMap fieldP ++ R) = T) := ⟨HTT'.out⟩
            have HKQ : Sd ((b && (((kb && (nmB rn && (nmB fn && (decide (iv = ⟨#[]⟩) || nmB iv)))) && (o.fields.drop (j + 1)).all fieldK) && KR)) = KK) := ⟨by rw [← HKK'.out]; unfold fieldK; simp only [hkt0]⟩
            have x0 := HT2.out.cell g0
            have x1 := HT2.out.cell g1
            have x2 := HT2.out.cell g2
            have x3 := HT2.out.cell g3
            have x4 := HT2.out.cell g4
            have p1 : (0 ≤ (j : Int)) = True := eq_true (by omega)
            have p2 : (j < N3) = True := eq_true hjlt
            have p3 : ((j : Int) < (N3 : Int)) = True := eq_true (by omega)
            have hjb : (j : Int) ≤ 1000000000 := by omega
            have HC3 := Sd.mk (At.fresh wr 58 #[.string fn, .string rn, .string rw, .bool se, .string iv])
            have HT3 := Sd.mk (HT2.out.alloc (.cells #[.string fn, .string rn, .string rw, .bool se, .string iv] 58))
            have hCne : wr.heap.size ≠ B + 1 := by have := HT2.out.ok.lt; omega
            clear hjl hf hf' hfz HTT' HKK' HTR HKR hkt0 g0 g1 g2 g3 g4
            go_upto_region 12 with (fail)
            generalize wr.alloc (.cells #[.string fn, .string rn, .string rw, .bool se, .string iv] 58) = w3 at HC3 HT3 ⊢
            generalize wr.heap.size = C10 at HC3 hCne ⊢
            clear x0 x1 x2 x3 x4
            have k1 := HC3.out.cell 1 rfl
            have k2 := HC3.out.cell 2 rfl
            go_upto_region 13 with (go_at_call 41; refine (cK _ (HT3.out.env E)).mono ?_; rintro e w4 ⟨rfl, hb4⟩; have HT4 := Sd.mk (HT3.out.bel hb4); have HC4 := Sd.mk (HC3.out.below hb4); clear hb4)
            clear k1 k2 cK
            have q0 := HT4.out.ok.cell 0 rfl
            have q1 := HT4.out.ok.fz 0
            go_cut [] (fun wc => ∃ b5, Sd (TI w B (B + 1) bx acc b5 u4 wc) ∧ Sd (At wc C10 58 #[.string fn, .string rn, .string rw, .bool se, .string iv]) ∧ Sd ((b5 && ((((nmB rn && (nmB fn && (decide (iv = ⟨#[]⟩) || nmB iv)))) && (o.fields.drop (j + 1)).all fieldK) && KR)) = KK))
            case first =>
              cases b with
              | true =>
                go_wp2
                go_meet
                case rel => exact ⟨kb, ⟨HT4.out.set kb⟩, ⟨HC4.out.far (p := ⟨B + 1, 0, none⟩) (Ne.symm hCne) (.bool kb)⟩, ⟨by rw [← HKQ.out]; simp [Bool.and_assoc]⟩⟩
              | false =>
                go_wp2
                go_meet
                case rel => exact ⟨false, ⟨HT4.out.set false⟩, ⟨HC4.out.far (p := ⟨B + 1, 0, none⟩) (Ne.symm hCne) (.bool false)⟩, ⟨by rw [← HKQ.out]; rfl⟩⟩
            case rest =>
              obtain ⟨b5, HT5, HC5, HK5⟩ := hcut
              clear q0 q1 HKQ HT4 HC4 HT3 HC3
              by_cases hv : iv = ⟨#[]⟩
              · subst hv
                cases se with
                | true =>
                  have k1 := HC5.out.cell 1 rfl
                  go_upto_region 15 with (go_at_call 39; refine (nameC_c _ (B + 1) _ rn (by omega) (HT5.out.env E) HT5.out.ok).mono ?_; rintro e w6 ⟨rfl, hk6, hf6⟩; have HT6 := Sd.mk (HT5.out.frK hf6 hk6); have HC6 := Sd.mk (HC5.out.fr hf6 (by omega)); clear hk6 hf6)
                  clear k1
                  have k0 := HC6.out.cell 0 rfl
                  go_upto_region 16 with (first | (go_at_call 39; refine (nameC_c _ (B + 1) _ fn (by omega) (HT6.out.env E) HT6.out.ok).mono ?_; rintro e w7 ⟨rfl, hk7, hf7⟩; have HT7 := Sd.mk (HT6.out.frK hf7 hk7); have HC7 := Sd.mk (HC6.out.fr hf7 (by omega)); clear hk7 hf7) | (at_builtin; refine ti_append rfl _ _ rfl (m := 3) [fn, tColon, kt] rfl rfl HT7.out rfl rfl (by first | omega | (simp only [List.length_append, List.length_cons, List.length_nil]; omega)) ?_; intro v8 w8 h8 hat8; have HT8 := Sd.mk h8; have HC8 := Sd.mk (hat8 _ _ _ HC7.out (by decide)); clear h8 hat8))
                  clear k0
                  have k3 := HC8.out.cell 3 rfl
                  have k4 := HC8.out.cell 4 rfl
                  go_upto_region 18 with (at_builtin; refine ti_append rfl _ _ rfl (m := 1) [tAtSearch] rfl rfl HT8.out rfl rfl (by first | omega | (simp only [List.length_append, List.length_cons, List.length_nil]; omega)) ?_; intro v9 w9 h9 hat9; have HT9 := Sd.mk h9; have HC9 := Sd.mk (hat9 _ _ _ HC8.out (by decide)); clear h9 hat9)
                  clear k3 k4
                  have k4 := HC9.out.cell 4 rfl
                  go_wp2
                  go_roundw
                  case rel => exact ⟨j + 1, acc ++ [fn, tColon, kt] ++ [tAtSearch], (((b5 && nmB rn) && nmB fn)), by go_num, by omega, HT9, ⟨by rw [← HTT.out]; unfold fieldP; rw [hkt.out]; simp⟩, ⟨by rw [← HK5.out]; simp [Bool.and_assoc]⟩⟩
                  case measure => simp [intOf]; omega
                | false =>
                  have k1 := HC5.out.cell 1 rfl
                  go_upto_region 15 with (go_at_call 39; refine (nameC_c _ (B + 1) _ rn (by omega) (HT5.out.env E) HT5.out.ok).mono ?_; rintro e w6 ⟨rfl, hk6, hf6⟩; have HT6 := Sd.mk (HT5.out.frK hf6 hk6); have HC6 := Sd.mk (HC5.out.fr hf6 (by omega)); clear hk6 hf6)
                  clear k1
                  have k0 := HC6.out.cell 0 rfl
                  go_upto_region 16 with (first | (go_at_call 39; refine (nameC_c _ (B + 1) _ fn (by omega) (HT6.out.env E) HT6.out.ok).mono ?_; rintro e w7 ⟨rfl, hk7, hf7⟩; have HT7 := Sd.mk (HT6.out.frK hf7 hk7); have HC7 := Sd.mk (HC6.out.fr hf7 (by omega)); clear hk7 hf7) | (at_builtin; refine ti_append rfl _ _ rfl (m := 3) [fn, tColon, kt] rfl rfl HT7.out rfl rfl (by first | omega | (simp only [List.length_append, List.length_cons, List.length_nil]; omega)) ?_; intro v8 w8 h8 hat8; have HT8 := Sd.mk h8; have HC8 := Sd.mk (hat8 _ _ _ HC7.out (by decide)); clear h8 hat8))
                  clear k0
                  have k3 := HC8.out.cell 3 rfl
                  have k4 := HC8.out.cell 4 rfl
                  go_wp2
                  go_roundw
                  case rel => exact ⟨j + 1, acc ++ [fn, tColon, kt], (((b5 && nmB rn) && nmB fn)), by go_num, by omega, HT8, ⟨by rw [← HTT.out]; unfold fieldP; rw [hkt.out]; simp⟩, ⟨by rw [← HK5.out]; simp [Bool.and_assoc]⟩⟩
                  case measure => simp [intOf]; omega
              · have hv1 : (iv.toList == []) = false := by have := text_ne (a := iv) (b := ⟨#[]⟩) hv; rw [ByteArray.toList_eq ⟨#[]⟩] at this; exact this
                have hv2 : iv.toList.isEmpty = false := by rw [← hv1]; cases iv.toList <;> rfl
                have HIV := Sd.mk hv
                clear hv
                cases se with
                | true =>
                  have k1 := HC5.out.cell 1 rfl
                  go_upto_region 15 with (go_at_call 39; refine (nameC_c _ (B + 1) _ rn (by omega) (HT5.out.env E) HT5.out.ok).mono ?_; rintro e w6 ⟨rfl, hk6, hf6⟩; have HT6 := Sd.mk (HT5.out.frK hf6 hk6); have HC6 := Sd.mk (HC5.out.fr hf6 (by omega)); clear hk6 hf6)
                  clear k1
                  have k0 := HC6.out.cell 0 rfl
                  go_upto_region 16 with (first | (go_at_call 39; refine (nameC_c _ (B + 1) _ fn (by omega) (HT6.out.env E) HT6.out.ok).mono ?_; rintro e w7 ⟨rfl, hk7, hf7⟩; have HT7 := Sd.mk (HT6.out.frK hf7 hk7); have HC7 := Sd.mk (HC6.out.fr hf7 (by omega)); clear hk7 hf7) | (at_builtin; refine ti_append rfl _ _ rfl (m := 3) [fn, tColon, kt] rfl rfl HT7.out rfl rfl (by first | omega | (simp only [List.length_append, List.length_cons, List.length_nil]; omega)) ?_; intro v8 w8 h8 hat8; have HT8 := Sd.mk h8; have HC8 := Sd.mk (hat8 _ _ _ HC7.out (by decide)); clear h8 hat8))
                  clear k0
                  have k3 := HC8.out.cell 3 rfl
                  have k4 := HC8.out.cell 4 rfl
                  go_upto_region 18 with (at_builtin; refine ti_append rfl _ _ rfl (m := 1) [tAtSearch] rfl rfl HT8.out rfl rfl (by first | omega | (simp only [List.length_append, List.length_cons, List.length_nil]; omega)) ?_; intro v9 w9 h9 hat9; have HT9 := Sd.mk h9; have HC9 := Sd.mk (hat9 _ _ _ HC8.out (by decide)); clear h9 hat9)
                  clear k3 k4
                  have k4 := HC9.out.cell 4 rfl
                  go_wp2_with (first | (go_at_call 39; refine (nameC_c _ (B + 1) _ iv (by omega) (HT9.out.env E) HT9.out.ok).mono ?_; rintro e w10 ⟨rfl, hk10, hf10⟩; have HT10 := Sd.mk (HT9.out.frK hf10 hk10); clear hk10 hf10) | (at_builtin; refine ti_append rfl _ _ rfl (m := 3) [tAtInv, iv, tRp] rfl rfl HT10.out rfl rfl (by first | omega | (simp only [List.length_append, List.length_cons, List.length_nil]; omega)) ?_; intro v11 w11 h11 hat11; have HT11 := Sd.mk h11; clear h11 hat11))
                  go_roundw
                  case rel => exact ⟨j + 1, acc ++ [fn, tColon, kt] ++ [tAtSearch] ++ [tAtInv, iv, tRp], (((b5 && nmB rn) && nmB fn) && nmB iv), by go_num, by omega, HT11, ⟨by rw [← HTT.out]; unfold fieldP; rw [hkt.out]; simp [HIV.out]⟩, ⟨by rw [← HK5.out]; simp [Bool.and_assoc, HIV.out]⟩⟩
                  case measure => simp [intOf]; omega
                | false =>
                  have k1 := HC5.out.cell 1 rfl
                  go_upto_region 15 with (go_at_call 39; refine (nameC_c _ (B + 1) _ rn (by omega) (HT5.out.env E) HT5.out.ok).mono ?_; rintro e w6 ⟨rfl, hk6, hf6⟩; have HT6 := Sd.mk (HT5.out.frK hf6 hk6); have HC6 := Sd.mk (HC5.out.fr hf6 (by omega)); clear hk6 hf6)
                  clear k1
                  have k0 := HC6.out.cell 0 rfl
                  go_upto_region 16 with (first | (go_at_call 39; refine (nameC_c _ (B + 1) _ fn (by omega) (HT6.out.env E) HT6.out.ok).mono ?_; rintro e w7 ⟨rfl, hk7, hf7⟩; have HT7 := Sd.mk (HT6.out.frK hf7 hk7); have HC7 := Sd.mk (HC6.out.fr hf7 (by omega)); clear hk7 hf7) | (at_builtin; refine ti_append rfl _ _ rfl (m := 3) [fn, tColon, kt] rfl rfl HT7.out rfl rfl (by first | omega | (simp only [List.length_append, List.length_cons, List.length_nil]; omega)) ?_; intro v8 w8 h8 hat8; have HT8 := Sd.mk h8; have HC8 := Sd.mk (hat8 _ _ _ HC7.out (by decide)); clear h8 hat8))
                  clear k0
                  have k3 := HC8.out.cell 3 rfl
                  have k4 := HC8.out.cell 4 rfl
                  go_wp2_with (first | (go_at_call 39; refine (nameC_c _ (B + 1) _ iv (by omega) (HT8.out.env E) HT8.out.ok).mono ?_; rintro e w10 ⟨rfl, hk10, hf10⟩; have HT10 := Sd.mk (HT8.out.frK hf10 hk10); clear hk10 hf10) | (at_builtin; refine ti_append rfl _ _ rfl (m := 3) [tAtInv, iv, tRp] rfl rfl HT10.out rfl rfl (by first | omega | (simp only [List.length_append, List.length_cons, List.length_nil]; omega)) ?_; intro v11 w11 h11 hat11; have HT11 := Sd.mk h11; clear h11 hat11))
                  go_roundw
                  case rel => exact ⟨j + 1, acc ++ [fn, tColon, kt] ++ [tAtInv, iv, tRp], (((b5 && nmB rn) && nmB fn) && nmB iv), by go_num, by omega, HT11, ⟨by rw [← HTT.out]; unfold fieldP; rw [hkt.out]; simp [HIV.out]⟩, ⟨by rw [← HK5.out]; simp [Bool.and_assoc, HIV.out]⟩⟩
                  case measure => simp [intOf]; omega
          · have hjN : j = N3 := by omega
            have p2 : decide (j < N3) = false := by simp; omega
            have HTT : Sd (acc ++ [tClose] ++ ((s.objs.drop (k + 1)).flatMap objP ++ s.enums.flatMap enP) = T) := ⟨by rw [← HTR.out, hjN, ← HN3.out, List.drop_length, ← HRR.out]; simp⟩
            have HKQ : Sd ((b && ((s.objs.drop (k + 1)).all objK && s.enums.all enK)) = KK) := ⟨by rw [← HKR.out, hjN, ← HN3.out, List.drop_length, ← HKRR.out]; rfl⟩
            have hacc : acc.length ≤ 1000000000 := by have := congrArg List.length HTT.out; simp only [List.length_append] at this; omega
            clear hjN HTR HKR hjlt
            go_wp2_with (at_builtin; refine ti_append rfl _ _ rfl (m := 1) [tClose] rfl rfl HT2.out rfl rfl (by first | omega | (simp only [List.length_append, List.length_cons, List.length_nil]; omega)) ?_; intro v20 w20 h20 hat20; have HT20 := Sd.mk h20; clear h20 hat20)
            go_roundw
            case rel => exact ⟨k + 1, acc ++ [tClose], b, by go_num, by omega, HT20, HTT, HKQ⟩
            case measure => simp [intOf]; omega

    · have hkN : k = N1 := by omega
      have p2 : decide (k < N1) = false := by simp; omega
      have HTT : Sd (acc ++ (s.enums.drop 0).flatMap enP = T) := ⟨by rw [← HTR.out, hkN, ← HN1.out, List.drop_length]; rfl⟩
      have HKQ : Sd ((b && (s.enums.drop 0).all enK) = KK) := ⟨by rw [← HKR.out, hkN, ← HN1.out, List.drop_length]; rfl⟩
      have HX1 : Sd (At wr B 25 #[.slice a1 N1 c1, .slice a2 N2 c2]) := ⟨HBX.out ▸ HT1.out.box⟩
      have y1 := HX1.out.cell 1 rfl
      clear hkN HTR HKR hklt
      go_wp2
      clear y1
      obtain ⟨wo, hwo⟩ : ∃ wo : World, wo = wr := ⟨_, rfl⟩
      clear hwo
      go_loopw [4, 100] (fun v4 t100 wr => ∃ (k : Nat) (acc : List ByteArray) (b : Bool), t100 = .int .i64 k ∧ k ≤ N2 ∧ Sd (TI w B (B + 1) bx acc b v4 wr) ∧ Sd (acc ++ (s.enums.drop k).flatMap enP = T) ∧ Sd ((b && (s.enums.drop k).all enK) = KK)) (fun _ t100 _ => N2 - (intOf t100).toNat)
      case atStart => exact ⟨0, acc, b, rfl, Nat.zero_le _, HT1, HTT, HKQ⟩
      case round =>
        obtain ⟨k, acc, b, rfl, hk, HT1, HTR, HKR⟩ := hrel
        by_cases hklt : k < N2
        · have hkl : k < s.enums.length := by rw [HN2.out]; exact hklt
          obtain ⟨x, ho⟩ : ∃ o, s.enums[k] = o := ⟨_, rfl⟩
          have hkv : k < us.length := by rw [HUL.out]; exact hklt
          obtain ⟨vk, hvk⟩ : ∃ v, us[k] = v := ⟨_, rfl⟩
          have hz : (s.enums.zip us)[k]? = some (x, vk) := by rw [List.getElem?_zip_eq_some]; exact ⟨by rw [List.getElem?_eq_getElem hkl, ho], by rw [List.getElem?_eq_getElem hkv, hvk]⟩
          have HOZ := Sd.mk (HZ.out.2 x (ho ▸ List.getElem_mem hkl))
          have hoz := HOZ.out.1
          have hff : WordsR w vk x.words := HEF.out (x, vk) (List.mem_of_getElem? hz)
          obtain ⟨a3, c3, rfl, hfl, hfc⟩ := hff
          obtain ⟨b1, off1, rfl, g0, g1⟩ := row_at2 HEC.out hz
          have HFC := Sd.mk hfc
          obtain ⟨N3, hN3⟩ : ∃ N, x.words.length = N := ⟨_, rfl⟩
          have HN3 := Sd.mk hN3
          rw [hN3] at g1
          obtain ⟨on, hon⟩ : ∃ on, x.name = on := ⟨_, rfl⟩
          have HON := Sd.mk hon
          simp only [hon] at g0
          rw [hon] at hoz
          obtain ⟨R, hR⟩ : ∃ R, [tClose] ++ (s.enums.drop (k + 1)).flatMap enP = R := ⟨_, rfl⟩
          obtain ⟨KR, hKR⟩ : ∃ KR, (s.enums.drop (k + 1)).all enK = KR := ⟨_, rfl⟩
          have HRR := Sd.mk hR
          have HKRR := Sd.mk hKR
          have HTT : Sd (acc ++ [tEnum, on, tOpen] ++ (x.words ++ R) = T) := ⟨by rw [← HTR.out, List.drop_eq_getElem_cons hkl, ho, List.flatMap_cons, ← hR]; unfold enP; rw [hon]; simp⟩
          have HKQ : Sd ((b && (decide (0 < N3) && (nmB on && (x.words.all nmB && KR)))) = KK) := ⟨by rw [← HKR.out, List.drop_eq_getElem_cons hkl, ho, List.all_cons, ← hKR]; unfold enK; rw [hon, hN3]; simp [Bool.and_assoc]⟩
          have hacc : acc.length + N3 ≤ 1000000000 := by
            have h1 := congrArg List.length HTT.out
            simp only [List.length_append] at h1; omega
          have x0 := HT1.out.cell g0
          have x1 := HT1.out.cell g1
          have p1 : (0 ≤ (k : Int)) = True := eq_true (by omega)
          have p2 : (k < N2) = True := eq_true hklt
          have p3 : ((k : Int) < (N2 : Int)) = True := eq_true (by omega)
          have HC3 := Sd.mk (At.fresh wr 61 #[.string on, .slice a3 N3 c3])
          have HT3 := Sd.mk (HT1.out.alloc (.cells #[.string on, .slice a3 N3 c3] 61))
          have hCne : wr.heap.size ≠ B + 1 := by have := HT1.out.ok.lt; omega
          clear hkl ho hkv hvk hz hfl hfc hN3 hon hR hKR HTR HKR g0 g1
          go_upto_region 26 with (fail)
          generalize wr.alloc (.cells #[.string on, .slice a3 N3 c3] 61) = w3 at HC3 HT3 ⊢
          generalize wr.heap.size = C8 at HC3 hCne ⊢
          clear x0 x1
          have k1 := HC3.out.cell 1 rfl
          have q0 := HT3.out.ok.cell 0 rfl
          have q1 := HT3.out.ok.fz 0
          go_cut [] (fun wc => ∃ b5, Sd (TI w B (B + 1) bx acc b5 u4 wc) ∧ Sd (At wc C8 61 #[.string on, .slice a3 N3 c3]) ∧ Sd ((b5 && (nmB on && (x.words.all nmB && KR))) = KK))
          case first =>
            cases b with
            | true =>
              go_wp2
              go_meet
              case rel => exact ⟨decide (0 < N3), ⟨HT3.out.set _⟩, ⟨HC3.out.far (p := ⟨B + 1, 0, none⟩) (Ne.symm hCne) _⟩, ⟨by rw [← HKQ.out]; rfl⟩⟩
            | false =>
              go_wp2
              go_meet
              case rel => exact ⟨false, ⟨HT3.out.set false⟩, ⟨HC3.out.far (p := ⟨B + 1, 0, none⟩) (Ne.symm hCne) (.bool false)⟩, ⟨by rw [← HKQ.out]; rfl⟩⟩
          case rest =>
            obtain ⟨b5, HT5, HC5, HK5⟩ := hcut
            clear q0 q1 HKQ k1 HT3 HC3
            generalize wc = w5 at HT5 HC5 ⊢
            have k0 := HC5.out.cell 0 rfl
            go_upto_region 28 with (first | (go_at_call 39; refine (nameC_c _ (B + 1) _ on (by omega) (HT5.out.env E) HT5.out.ok).mono ?_; rintro e w6 ⟨rfl, hk6, hf6⟩; have HT6 := Sd.mk (HT5.out.frK hf6 hk6); have HC6 := Sd.mk (HC5.out.fr hf6 (by omega)); clear hk6 hf6) | (at_builtin; refine ti_append rfl _ _ rfl (m := 3) [tEnum, on, tOpen] rfl rfl HT6.out rfl rfl (by first | omega | (simp only [List.length_append, List.length_cons, List.length_nil]; omega)) ?_; intro v7 w7 h7 hat7; have HT7 := Sd.mk h7; have HC7 := Sd.mk (hat7 _ _ _ HC6.out (by decide)); clear h7 hat7))
            clear k0
            have k1 := HC7.out.cell 1 rfl
            have HTT2 : Sd (acc ++ [tEnum, on, tOpen] ++ (x.words.drop 0 ++ R) = T) := ⟨HTT.out⟩
            have HKK2 : Sd (((b5 && nmB on) && ((x.words.drop 0).all nmB && KR)) = KK) := ⟨by rw [← HK5.out]; simp [Bool.and_assoc]⟩
            clear HTT HK5
            go_wp2
            clear k1
            obtain ⟨wo, hwo⟩ : ∃ wo : World, wo = wr := ⟨_, rfl⟩
            clear hwo
            go_loopw [4, 121] (fun v4 t121 wr => ∃ (j : Nat) (acc : List ByteArray) (b : Bool), t121 = .int .i64 j ∧ j ≤ N3 ∧ Sd (TI w B (B + 1) bx acc b v4 wr) ∧ Sd (acc ++ (x.words.drop j ++ R) = T) ∧ Sd ((b && ((x.words.drop j).all nmB && KR)) = KK)) (fun _ t121 _ => N3 - (intOf t121).toNat)
            case atStart => exact ⟨0, _, _, rfl, Nat.zero_le _, HT7, HTT2, HKK2⟩
            case round =>
              obtain ⟨j, acc, b, rfl, hj, HT2, HTR, HKR⟩ := hrel
              by_cases hjlt : j < N3
              · have hjl : j < x.words.length := by rw [HN3.out]; exact hjlt
                obtain ⟨f, hf⟩ : ∃ f, x.words[j] = f := ⟨_, rfl⟩
                have hf' : x.words[j]? = some f := by rw [List.getElem?_eq_getElem hjl, hf]
                have hfz := (HOZ.out).2 f (hf ▸ List.getElem_mem hjl)
                have HTT : Sd (acc ++ [f] ++ (x.words.drop (j + 1) ++ R) = T) := ⟨by rw [← HTR.out, List.drop_eq_getElem_cons hjl, hf]; simp⟩
                have HKQ : Sd (((b && nmB f) && ((x.words.drop (j + 1)).all nmB && KR)) = KK) := ⟨by rw [← HKR.out, List.drop_eq_getElem_cons hjl, hf, List.all_cons]; simp [Bool.and_assoc]⟩
                obtain ⟨b3, off3, rfl, g0⟩ := row_at1 HFC.out hf'
                have hacc : acc.length ≤ 1000000000 := by have := congrArg List.length HTT.out; simp only [List.length_append] at this; omega
                have x0 := HT2.out.cell g0
                have p1 : (0 ≤ (j : Int)) = True := eq_true (by omega)
                have p2 : (j < N3) = True := eq_true hjlt
                have p3 : ((j : Int) < (N3 : Int)) = True := eq_true (by omega)
                have hjb : (j : Int) ≤ 1000000000 := by omega
                clear hjl hf hf' HTR HKR g0
                go_wp2_with (first | (go_at_call 39; refine (nameC_c _ (B + 1) _ f (by omega) (HT2.out.env E) HT2.out.ok).mono ?_; rintro e w3 ⟨rfl, hk3, hf3⟩; have HT3 := Sd.mk (HT2.out.frK hf3 hk3); clear hk3 hf3) | (at_builtin; refine ti_append rfl _ _ rfl (m := 1) [f] rfl rfl HT3.out rfl rfl (by first | omega | (simp only [List.length_append, List.length_cons, List.length_nil]; omega)) ?_; intro v4 w4 h4 hat4; have HT4 := Sd.mk h4; clear h4 hat4))
                go_roundw
                case rel => exact ⟨j + 1, acc ++ [f], (b && nmB f), by go_num, by omega, HT4, HTT, HKQ⟩
                case measure => simp [intOf]; omega
              · have hjN : j = N3 := by omega
                have p2 : decide (j < N3) = false := by simp; omega
                have HTT : Sd (acc ++ [tClose] ++ (s.enums.drop (k + 1)).flatMap enP = T) := ⟨by rw [← HTR.out, hjN, ← HN3.out, List.drop_length, ← HRR.out]; simp⟩
                have HKQ : Sd ((b && (s.enums.drop (k + 1)).all enK) = KK) := ⟨by rw [← HKR.out, hjN, ← HN3.out, List.drop_length, ← HKRR.out]; rfl⟩
                have hacc : acc.length ≤ 1000000000 := by have := congrArg List.length HTT.out; simp only [List.length_append] at this; omega
                clear hjN HTR HKR hjlt
                go_wp2_with (at_builtin; refine ti_append rfl _ _ rfl (m := 1) [tClose] rfl rfl HT2.out rfl rfl (by first | omega | (simp only [List.length_append, List.length_cons, List.length_nil]; omega)) ?_; intro v20 w20 h20 hat20; have HT20 := Sd.mk h20; clear h20 hat20)
                go_roundw
                case rel => exact ⟨k + 1, acc ++ [tClose], b, by go_num, by omega, HT20, HTT, HKQ⟩
                case measure => simp [intOf]; omega
        · have hkN : k = N2 := by omega
          have p2 : decide (k < N2) = false := by simp; omega
          have HTT : Sd (acc = T) := ⟨by rw [← HTR.out, hkN, ← HN2.out, List.drop_length]; simp⟩
          have HKQ : Sd (b = KK) := ⟨by rw [← HKR.out, hkN, ← HN2.out, List.drop_length]; simp⟩
          obtain rfl := HTT.out
          obtain rfl := HKQ.out
          clear hkN HTR HKR HTT HKQ hklt
          obtain ⟨ao, co, rfl⟩ := ownsRow_slice HT1.out.row
          have q0 := HT1.out.ok.cell 0 rfl
          have q0' : wr.drew.cell? ⟨B + 1, 0, none⟩ = some (.bool b) := q0
          have HBL := Sd.mk HT1.out.below
          have hKl := HT1.out.ok.lt
          go_upto_region 35 with (fail)
          by_cases h0 : acc = []
          · subst h0
            go_region_held3 (fun w' => w'.cell? ⟨B + 1, 0, none⟩ = some (.bool b)) (first | exact q0' | go_keep | assumption) ((go_at_call 42; refine (Tryz.strings_Join_none _ _ _ _).mono ?_; rintro e w2 ⟨rfl, rfl⟩))
            all_goals
              go_wp2
              go_ret2
              exact ⟨rfl, by rw [HB.out]; exact HBL.out.drew⟩
          · obtain ⟨gb, cap, hv, hgb, hgl⟩ := HT1.out.row.form (by have := List.length_pos_iff.2 h0; omega)
            cases hv
            have hcap : acc.length ≤ co := by
              rcases HT1.out.row.2 with ⟨hv, _⟩ | ⟨g', cap', cur, hv, _, _, hle, _⟩
              · cases hv
              · cases hv; exact hle
            have hcl : ∀ (j : Nat) x, acc[j]? = some x → wr.drew.cell? ⟨gb, 0 + j, none⟩ = some (.string x) := fun j x hx => by
              have h2 := HT1.out.row.cellAt j (by have := (List.getElem?_eq_some_iff.1 hx).1; omega)
              rw [Nat.zero_add]
              exact h2.trans (by simp [hx])
            have cJ := Tryz.strings_Join gb 0 co acc ⟨#[32]⟩ wr.drew hcl hgl (by omega) hcap HJ.out
            have HCL := Sd.mk hcl
            clear hcl h0
            go_region_held3 (fun w' => w'.cell? ⟨B + 1, 0, none⟩ = some (.bool b)) (first | exact q2 | go_keep | assumption) ((go_at_call 42; refine cJ.mono ?_; rintro e w2 ⟨rfl, hb⟩; have q2 : w2.cell? ⟨B + 1, 0, none⟩ = some (.bool b) := below_cell (w := wr.drew) hb hKl q0'; have HB2 := Sd.mk hb; clear hb))
            all_goals
              go_wp2
              go_ret2
              exact ⟨rfl, by rw [HB.out]; exact HBL.out.drew.trans ⟨HB2.out.os, HB2.out.tape, HB2.out.output, HB2.out.size, fun k hk => HB2.out.block k (by show k < wr.heap.size; omega)⟩⟩
end Go.Proofs.YtibgigffedejpaaGreatDoor
namespace Go.Proofs.YtibgigffedejpaaGreatDoor
set_option linter.unusedVariables false
set_option linter.unusedSimpArgs false
open Go.RowKit
set_option linter.unusedVariables false
set_option linter.unusedSimpArgs false

def okE {α β : Type} (r : Except α β) : Bool := match r with | .ok _ => true | .error _ => false
/-- What sdl.Print answers. -/
def printT (s : Sc) : ByteArray × Int := if schK s && okE (parseT (schTxt s)) then (schTxt s, 0) else (⟨#[]⟩, 81)
theorem parseT_err_ne {s : ByteArray} {p : Nat} {e : Int} (h : parseT s = .error (p, e)) : e ≠ 0 := by
  unfold parseT at h
  split at h
  · rename_i ks q ht
    cases h
    exact toks_err_ne (s := s) (p := p) (by rw [ht])
  · split at h
    · cases h; decide
    · cases h
/-- What is asked of a schema that is written: no more pieces, no longer text than any machine bears. -/
structure FitsSc (s : Sc) : Prop where
  small : SmallSc s
  count : (schP s).length ≤ 1000000000
  join : (Lib.join ((schP s).map (·.data.toList)) [32]).length ≤ 140737488355328

set_option maxRecDepth 100000 in
set_option maxHeartbeats 4000000 in
theorem sprint_c (w : World) (s : Sc) (v : Value) (hv : SchR w v s) (E : Env w) (hf : FitsSc s) (r : ByteArray × Int) (hr : printT s = r) :
    Calls Tryz.prog 12 #[v] w fun e w' => e = .returned (.tuple #[.string r.1, .int .i64 r.2]) ∧ Below w.heap.size w w' := by
  obtain ⟨vo, ve, rfl, ho, he⟩ := hv
  have ho' := ho
  have he' := he
  obtain ⟨vs, _, ⟨a1, c1, rfl, _, _⟩, _⟩ := ho'
  obtain ⟨us, _, ⟨a2, c2, rfl, _, _⟩, _⟩ := he'
  have hb1 : Below w.heap.size w (w.alloc (.cells #[.slice a1 s.objs.length c1, .slice a2 s.enums.length c2] 25)) := (Below.refl _ w).alloc (Nat.le_refl _) _
  have E1 : Env (w.alloc (.cells #[.slice a1 s.objs.length c1, .slice a2 s.enums.length c2] 25)) := (Fr.of_below (g := 3) hb1).env (by decide) E
  have cT := stext_c _ s _ _ (ho.keep (keepCells hb1)) (he.keep (keepCells hb1)) E1 hf.small hf.count hf.join
  have HB1 := Sd.mk hb1
  have hts : (schTxt s).size ≤ 140737488355328 := by
    have := hf.join
    unfold schTxt
    simpa [ByteArray.size] using this
  have HR := Sd.mk hr
  have HE1 := Sd.mk E1
  obtain ⟨t, ht⟩ : ∃ t, schTxt s = t := ⟨_, rfl⟩
  obtain ⟨k, hk⟩ : ∃ k, schK s = k := ⟨_, rfl⟩
  rw [ht, hk] at cT
  rw [ht] at hts
  obtain ⟨q, hq⟩ : ∃ q, parseT t = q := ⟨_, rfl⟩
  have HP : Sd ((if k && okE q then (t, 0) else (⟨#[]⟩, 81)) = r) := ⟨by rw [← HR.out]; unfold printT; rw [ht, hk, hq]⟩
  have cP := fun W (E : Env W) => parse_c W t (by omega) E q hq
  unfold ParsePost at cP
  clear ho he hr ht hk hb1 E1 E hf HR
  generalize s.objs.length = n1 at *
  generalize s.enums.length = n2 at *
  cases q with
  | error pe =>
    obtain ⟨p, er⟩ := pe
    have hne := parseT_err_ne hq
    have e1 : (er != 0) = true := by simpa using hne
    have HQ : Sd (r = (⟨#[]⟩, 81)) := ⟨by rw [← HP.out]; simp [okE]⟩
    simp only at cP
    clear HP hq hne
    cases k <;>
    · go_enter Tryz.func12, Tryz.ntmps12
      go_wp2_with (first | (go_at_call 23; refine cT.mono ?_; rintro e w2 ⟨rfl, h1⟩; have HB2 := Sd.mk (HB1.out.trans ⟨h1.os, h1.tape, h1.output, h1.size, fun k hk => h1.block k (by simp; omega)⟩); have HE2 := Sd.mk ((Fr.of_below (g := 3) h1).env (by decide) HE1.out); clear h1) | (go_at_call 8; refine (cP _ HE2.out).mono ?_; rintro e w3 ⟨rfl, h1⟩; have HB3 := Sd.mk (HB2.out.trans ⟨h1.os, h1.tape, h1.output, h1.size, fun k hk => h1.block k (Nat.lt_of_lt_of_le hk HB2.out.size)⟩); clear h1))
      go_ret2
      rw [HQ.out]
      exact ⟨rfl, HB3.out.alloc HB3.out.size _⟩
  | ok sc =>
    simp only at cP
    cases k with
    | false =>
      have HQ : Sd (r = (⟨#[]⟩, 81)) := ⟨by rw [← HP.out]; simp⟩
      clear HP hq
      go_enter Tryz.func12, Tryz.ntmps12
      go_wp2_with (first | (go_at_call 23; refine cT.mono ?_; rintro e w2 ⟨rfl, h1⟩; have HB2 := Sd.mk (HB1.out.trans ⟨h1.os, h1.tape, h1.output, h1.size, fun k hk => h1.block k (by simp; omega)⟩); have HE2 := Sd.mk ((Fr.of_below (g := 3) h1).env (by decide) HE1.out); clear h1) | (go_at_call 8; refine (cP _ HE2.out).mono ?_; rintro e w3 ⟨v3, rfl, ⟨vo, ve, rfl, hob, hen⟩, h1⟩; obtain ⟨ao1, cc1, rfl⟩ := hob.slice; obtain ⟨ao2, cc2, rfl⟩ := hen.slice; have HB3 := Sd.mk (HB2.out.trans ⟨h1.os, h1.tape, h1.output, h1.size, fun k hk => h1.block k (Nat.lt_of_lt_of_le hk HB2.out.size)⟩); clear h1 hob hen))
      go_ret2
      rw [HQ.out]
      exact ⟨rfl, HB3.out.alloc HB3.out.size _⟩
    | true =>
      have HQ : Sd (r = (t, 0)) := ⟨by rw [← HP.out]; simp [okE]⟩
      clear HP hq
      go_enter Tryz.func12, Tryz.ntmps12
      go_wp2_with (first | (go_at_call 23; refine cT.mono ?_; rintro e w2 ⟨rfl, h1⟩; have HB2 := Sd.mk (HB1.out.trans ⟨h1.os, h1.tape, h1.output, h1.size, fun k hk => h1.block k (by simp; omega)⟩); have HE2 := Sd.mk ((Fr.of_below (g := 3) h1).env (by decide) HE1.out); clear h1) | (go_at_call 8; refine (cP _ HE2.out).mono ?_; rintro e w3 ⟨v3, rfl, ⟨vo, ve, rfl, hob, hen⟩, h1⟩; obtain ⟨ao1, cc1, rfl⟩ := hob.slice; obtain ⟨ao2, cc2, rfl⟩ := hen.slice; have HB3 := Sd.mk (HB2.out.trans ⟨h1.os, h1.tape, h1.output, h1.size, fun k hk => h1.block k (Nat.lt_of_lt_of_le hk HB2.out.size)⟩); clear h1 hob hen))
      go_ret2
      rw [HQ.out]
      exact ⟨rfl, HB3.out.alloc HB3.out.size _⟩
end Go.Proofs.YtibgigffedejpaaGreatDoor
namespace Go.Proofs.YtibgigffedejpaaGreatDoor
set_option linter.unusedVariables false
set_option linter.unusedSimpArgs false
open Go.RowKit
set_option linter.unusedVariables false
set_option linter.unusedSimpArgs false

/-! ### Same, at equal schemas -/
set_option maxRecDepth 100000 in
set_option maxHeartbeats 4000000 in
theorem sameTexts_c (w : World) (va vb : Value) (l : List ByteArray) (hl : l.length ≤ 1000000000) (ha : WordsR w va l) (hb : WordsR w vb l) :
    Calls Tryz.prog 22 #[va, vb] w fun e w' => e = .returned (.bool true) ∧ ∃ n, w' = w.drewN n := by
  obtain ⟨a1, c1, rfl, hl1, hc1⟩ := ha
  obtain ⟨a2, c2, rfl, hl2, hc2⟩ := hb
  obtain ⟨N, hN⟩ : ∃ N, l.length = N := ⟨_, rfl⟩
  have HA := Sd.mk hc1
  have HB := Sd.mk hc2
  have HN := Sd.mk hN
  rw [hN] at hl ⊢
  clear hl1 hl2 hc1 hc2 hN
  go_enter Tryz.func22, Tryz.ntmps22
  go_wp2
  go_loopw [5] (fun t5 wr => ∃ k : Nat, t5 = .int .i64 k ∧ k ≤ N ∧ Sd (Dr w wr)) (fun t5 _ => N - (intOf t5).toNat)
  case atStart => exact ⟨0, rfl, Nat.zero_le _, ⟨Dr.refl w⟩⟩
  case round =>
    obtain ⟨k, rfl, hk, HD⟩ := hrel
    by_cases hlt : k < N
    · have hkl : k < l.length := by rw [HN.out]; exact hlt
      obtain ⟨x, hx⟩ : ∃ x, l[k] = x := ⟨_, rfl⟩
      have hx' : l[k]? = some x := by rw [List.getElem?_eq_getElem hkl, hx]
      obtain ⟨b1, o1, rfl, g1⟩ := row_at1 HA.out hx'
      obtain ⟨b2, o2, rfl, g2⟩ := row_at1 HB.out hx'
      obtain ⟨m, rfl⟩ := HD.out.out
      have x1 : (w.drewN m).cell? ⟨b1, o1 + k, none⟩ = some (.string x) := g1
      have x2 : (w.drewN m).cell? ⟨b2, o2 + k, none⟩ = some (.string x) := g2
      have p1 : (0 ≤ (k : Int)) = True := eq_true (by omega)
      have p2 : (k < N) = True := eq_true hlt
      have p3 : ((k : Int) < (N : Int)) = True := eq_true (by omega)
      have hkb : (k : Int) ≤ 1000000000 := by omega
      clear hkl hx hx' HD
      go_wp2_with fail
      go_quiet (fail)
      go_wp2
      go_roundw
      case rel => exact ⟨k + 1, by go_num, by omega, ⟨⟨⟨_, rfl⟩⟩⟩⟩
      case measure => simp [intOf]; omega
    · have p2 : decide (k < N) = false := by simp; omega
      go_wp2
      go_ret
      exact ⟨rfl, HD.out.out⟩
end Go.Proofs.YtibgigffedejpaaGreatDoor
namespace Go.Proofs.YtibgigffedejpaaGreatDoor
set_option linter.unusedVariables false
set_option linter.unusedSimpArgs false
open Go.RowKit
set_option linter.unusedVariables false
set_option linter.unusedSimpArgs false

/-- No row of it is longer than any machine bears. -/
structure CntSc (s : Sc) : Prop where
  objs : s.objs.length ≤ 1000000000
  enums : s.enums.length ≤ 1000000000
  fields : ∀ o ∈ s.objs, o.fields.length ≤ 1000000000
  words : ∀ x ∈ s.enums, x.words.length ≤ 1000000000

theorem at_two1 (w : World) (t t' : Nat) (cs cs' : Array Value) : At ((w.alloc (.cells cs t)).alloc (.cells cs' t')) w.heap.size t cs := (At.fresh w t cs).alloc _
theorem at_two2 (w : World) (t t' : Nat) (cs cs' : Array Value) : At ((w.alloc (.cells cs t)).alloc (.cells cs' t')) (w.heap.size + 1) t' cs' := by
  simpa using At.fresh (w.alloc (.cells cs t)) t' cs'
theorem below_two (w : World) (B : Nat) (o o' : Obj) (h : B ≤ w.heap.size) : Below B w ((w.alloc o).alloc o').drew := (((Below.refl B w).alloc h o).alloc (by simp; omega) o').drew
set_option maxRecDepth 100000 in
set_option maxHeartbeats 16000000 in
theorem same_c (w : World) (va vb : Value) (s : Sc) (hcnt : CntSc s) (ha : SchR w va s) (hb : SchR w vb s) :
    Calls Tryz.prog 11 #[va, vb] w fun e w' => e = .returned (.bool true) ∧ Below w.heap.size w w' := by
  obtain ⟨_, _, rfl, ⟨vs, hvl, ⟨a1, c1, rfl, _, hoc⟩, hof⟩, ⟨us, hul, ⟨a2, c2, rfl, _, hec⟩, hef⟩⟩ := ha
  obtain ⟨_, _, rfl, ⟨vs', hvl', ⟨a3, c3, rfl, _, hoc'⟩, hof'⟩, ⟨us', hul', ⟨a4, c4, rfl, _, hec'⟩, hef'⟩⟩ := hb
  obtain ⟨N1, hN1⟩ : ∃ N, s.objs.length = N := ⟨_, rfl⟩
  obtain ⟨N2, hN2⟩ : ∃ N, s.enums.length = N := ⟨_, rfl⟩
  have hn1 := hcnt.objs
  have hn2 := hcnt.enums
  rw [hN1] at hn1
  rw [hN2] at hn2
  have HC := Sd.mk hcnt
  have HOC := Sd.mk hoc
  have HEC := Sd.mk hec
  have HOF := Sd.mk hof
  have HEF := Sd.mk hef
  have HVL := Sd.mk hvl
  have HUL := Sd.mk hul
  have HOC' := Sd.mk hoc'
  have HEC' := Sd.mk hec'
  have HOF' := Sd.mk hof'
  have HEF' := Sd.mk hef'
  have HVL' := Sd.mk hvl'
  have HUL' := Sd.mk hul'
  have HN1 := Sd.mk hN1
  have HN2 := Sd.mk hN2
  obtain ⟨B, hB⟩ : ∃ B, w.heap.size = B := ⟨_, rfl⟩
  have HB := Sd.mk hB
  rw [hN1, hN2, hB]
  have HX : Sd (At ((w.alloc (.cells #[.slice a1 N1 c1, .slice a2 N2 c2] 25)).alloc (.cells #[.slice a3 N1 c3, .slice a4 N2 c4] 25)) B 25 #[.slice a1 N1 c1, .slice a2 N2 c2]) := ⟨by rw [← hB]; exact (At.fresh w _ _).alloc _⟩
  have HY : Sd (At ((w.alloc (.cells #[.slice a1 N1 c1, .slice a2 N2 c2] 25)).alloc (.cells #[.slice a3 N1 c3, .slice a4 N2 c4] 25)) (B + 1) 25 #[.slice a3 N1 c3, .slice a4 N2 c4]) := ⟨by
    rw [← hB]; simpa using At.fresh (w.alloc (.cells #[.slice a1 N1 c1, .slice a2 N2 c2] 25)) 25 #[.slice a3 N1 c3, .slice a4 N2 c4]⟩
  have HBel : Sd (Below B w ((w.alloc (.cells #[.slice a1 N1 c1, .slice a2 N2 c2] 25)).alloc (.cells #[.slice a3 N1 c3, .slice a4 N2 c4] 25))) := ⟨by rw [← hB]; exact ((Below.refl _ w).alloc (Nat.le_refl _) _).alloc (by simp) _⟩
  clear hcnt hoc hec hof hef hvl hul hoc' hec' hof' hef' hvl' hul' hN1 hN2 hB
  go_enter Tryz.func11, Tryz.ntmps11
  go_upto_region 1 with (fail)
  rw [HB.out]
  generalize (w.alloc (.cells #[.slice a1 N1 c1, .slice a2 N2 c2] 25)).alloc (.cells #[.slice a3 N1 c3, .slice a4 N2 c4] 25) = w1 at HX HY HBel ⊢
  have y0 := HX.out.cell 0 rfl
  have y1 := HX.out.cell 1 rfl
  have y2 := HY.out.cell 0 rfl
  have y3 := HY.out.cell 1 rfl
  go_wp2
  clear y0 y1 y2 y3
  obtain ⟨bx, hbx⟩ : ∃ bx : Array Value, #[.slice a1 N1 c1, .slice a2 N2 c2] = bx := ⟨_, rfl⟩
  obtain ⟨bz, hbz⟩ : ∃ bz : Array Value, #[.slice a3 N1 c3, .slice a4 N2 c4] = bz := ⟨_, rfl⟩
  have HBX := Sd.mk hbx
  have HBY := Sd.mk hbz
  rw [hbx] at HX
  rw [hbz] at HY
  clear hbx hbz
  go_loopw [5] (fun t5 wr => ∃ k : Nat, t5 = .int .i64 k ∧ k ≤ N1 ∧ Sd (At wr B 25 bx) ∧ Sd (At wr (B + 1) 25 bz) ∧ Sd (Below B w wr)) (fun t5 _ => N1 - (intOf t5).toNat)
  case atStart => exact ⟨0, rfl, Nat.zero_le _, HX, HY, HBel⟩
  case round =>
    obtain ⟨k, rfl, hk, HX1, HY1, HBel1⟩ := hrel
    by_cases hklt : k < N1
    · have hkl : k < s.objs.length := by rw [HN1.out]; exact hklt
      obtain ⟨o, ho⟩ : ∃ o, s.objs[k] = o := ⟨_, rfl⟩
      have hkv : k < vs.length := by rw [HVL.out, HN1.out]; exact hklt
      have hkv' : k < vs'.length := by rw [HVL'.out, HN1.out]; exact hklt
      obtain ⟨vk, hvk⟩ : ∃ v, vs[k] = v := ⟨_, rfl⟩
      obtain ⟨vk', hvk'⟩ : ∃ v, vs'[k] = v := ⟨_, rfl⟩
      have hz : (s.objs.zip vs)[k]? = some (o, vk) := by rw [List.getElem?_zip_eq_some]; exact ⟨by rw [List.getElem?_eq_getElem hkl, ho], by rw [List.getElem?_eq_getElem hkv, hvk]⟩
      have hz' : (s.objs.zip vs')[k]? = some (o, vk') := by rw [List.getElem?_zip_eq_some]; exact ⟨by rw [List.getElem?_eq_getElem hkl, ho], by rw [List.getElem?_eq_getElem hkv', hvk']⟩
      have hff : FieldsR w vk o.fields := HOF.out (o, vk) (List.mem_of_getElem? hz)
      have hff' : FieldsR w vk' o.fields := HOF'.out (o, vk') (List.mem_of_getElem? hz')
      have hfl3 := HC.out.fields o (ho ▸ List.getElem_mem hkl)
      obtain ⟨a5, c5, rfl, _, hfc⟩ := hff
      obtain ⟨a6, c6, rfl, _, hfc'⟩ := hff'
      obtain ⟨b1, o1, rfl, g0, g1⟩ := row_at2 HOC.out hz
      obtain ⟨b3, o3, rfl, g2, g3⟩ := row_at2 HOC'.out hz'
      have HFC := Sd.mk hfc
      have HFC' := Sd.mk hfc'
      obtain ⟨N3, hN3⟩ : ∃ N, o.fields.length = N := ⟨_, rfl⟩
      have HN3 := Sd.mk hN3
      rw [hN3] at g1 g3 hfl3
      obtain ⟨on, hon⟩ : ∃ on, o.name = on := ⟨_, rfl⟩
      simp only [hon] at g0 g2
      have kc : ∀ {p : Addr} {u : Value}, w.cell? p = some u → wr.cell? p = some u := fun h => keepCells (HB.out ▸ HBel1.out) _ _ h
      have y0 : wr.cell? ⟨B, 0, none⟩ = some (.slice (some ⟨b1, o1, none⟩) N1 c1) := (show At wr B 25 #[.slice (some ⟨b1, o1, none⟩) N1 c1, .slice a2 N2 c2] from HBX.out ▸ HX1.out).cell 0 rfl
      have y2 : wr.cell? ⟨B + 1, 0, none⟩ = some (.slice (some ⟨b3, o3, none⟩) N1 c3) := (show At wr (B + 1) 25 #[.slice (some ⟨b3, o3, none⟩) N1 c3, .slice a4 N2 c4] from HBY.out ▸ HY1.out).cell 0 rfl
      have x0 := kc g0
      have x1 := kc g1
      have x2 := kc g2
      have x3 := kc g3
      have p1 : (0 ≤ (k : Int)) = True := eq_true (by omega)
      have p2 : (k < N1) = True := eq_true hklt
      have p3 : ((k : Int) < (N1 : Int)) = True := eq_true (by omega)
      have hkb : (k : Int) ≤ 1000000000 := by omega
      have hS : wr.drew.cell? ⟨B, 0, none⟩ = some (.slice (some ⟨b1, o1, none⟩) N1 c1) ∧ wr.drew.cell? ⟨B + 1, 0, none⟩ = some (.slice (some ⟨b3, o3, none⟩) N1 c3) ∧ wr.drew.cell? ⟨b1, o1 + k * 2, none⟩ = some (.string on) ∧ wr.drew.cell? ⟨b1, o1 + k * 2 + 1, none⟩ = some (.slice a5 N3 c5) ∧ wr.drew.cell? ⟨b3, o3 + k * 2, none⟩ = some (.string on) ∧ wr.drew.cell? ⟨b3, o3 + k * 2 + 1, none⟩ = some (.slice a6 N3 c6) := ⟨y0, y2, x0, x1, x2, x3⟩
      have n0 := World.new_ne wr _ y0
      have n1 := World.new_ne wr _ y2
      have n2 := World.new_ne wr _ x0
      have n3 := World.new_ne wr _ x1
      have n4 := World.new_ne wr _ x2
      have n5 := World.new_ne wr _ x3
      clear hkl ho hkv hkv' hvk hvk' hz hz' hfc hfc' hN3 hon g0 g1 g2 g3
      go_upto_region 6 with (fail)
      go_cut [6, 7] (fun v6 v7 wc => ∃ C6 C7 : Nat, v6 = .pointer (some ⟨C6, 0, none⟩) ∧ v7 = .pointer (some ⟨C7, 0, none⟩) ∧ Sd (At wc C6 53 #[.string on, .slice a5 N3 c5]) ∧ Sd (At wc C7 53 #[.string on, .slice a6 N3 c6]) ∧ Sd (At wc B 25 bx) ∧ Sd (At wc (B + 1) 25 bz) ∧ Sd (Below B w wc))
      case first =>
        go_region_held3 (fun w' => w'.cell? ⟨B, 0, none⟩ = some (.slice (some ⟨b1, o1, none⟩) N1 c1) ∧ w'.cell? ⟨B + 1, 0, none⟩ = some (.slice (some ⟨b3, o3, none⟩) N1 c3) ∧ w'.cell? ⟨b1, o1 + k * 2, none⟩ = some (.string on) ∧ w'.cell? ⟨b1, o1 + k * 2 + 1, none⟩ = some (.slice a5 N3 c5) ∧ w'.cell? ⟨b3, o3 + k * 2, none⟩ = some (.string on) ∧ w'.cell? ⟨b3, o3 + k * 2 + 1, none⟩ = some (.slice a6 N3 c6)) (first | exact hS | go_keep) (fail)
        · go_wp2
          go_meet
          case rel => exact ⟨_, _, rfl, rfl, ⟨(at_two1 wr _ _ _ _).drew⟩, ⟨(at_two2 wr _ _ _ _).drew⟩, ⟨((HX1.out.alloc _).alloc _).drew⟩, ⟨((HY1.out.alloc _).alloc _).drew⟩, ⟨HBel1.out.trans (below_two wr B _ _ (by have := HX1.out.lt; omega))⟩⟩
        · go_wp2
          go_meet
          case rel => exact ⟨_, _, rfl, rfl, ⟨(at_two2 wr _ _ _ _).drew⟩, ⟨(at_two1 wr _ _ _ _).drew⟩, ⟨((HX1.out.alloc _).alloc _).drew⟩, ⟨((HY1.out.alloc _).alloc _).drew⟩, ⟨HBel1.out.trans (below_two wr B _ _ (by have := HX1.out.lt; omega))⟩⟩
      case rest =>
        obtain ⟨C6, C7, rfl, rfl, HA6, HA7, HX2, HY2, HBel2⟩ := hcut
        have i6a := HA6.out.cell 0 rfl
        have i6b := HA6.out.cell 1 rfl
        have i7a := HA7.out.cell 0 rfl
        have i7b := HA7.out.cell 1 rfl
        clear n0 n1 n2 n3 n4 n5 hS y0 y2 x0 x1 x2 x3
        go_wp2
        clear i6a i6b i7a i7b
        go_loopw [8] (fun t8 w2 => ∃ j : Nat, t8 = .int .i64 j ∧ j ≤ N3 ∧ Sd (Dr wc w2)) (fun t8 _ => N3 - (intOf t8).toNat)
        case atStart => exact ⟨0, rfl, Nat.zero_le _, ⟨Dr.refl wc⟩⟩
        case round =>
          obtain ⟨j, rfl, hj, HD⟩ := hrel
          by_cases hjlt : j < N3
          · have hjl : j < o.fields.length := by rw [HN3.out]; exact hjlt
            obtain ⟨f, hf⟩ : ∃ f, o.fields[j] = f := ⟨_, rfl⟩
            have hf' : o.fields[j]? = some f := by rw [List.getElem?_eq_getElem hjl, hf]
            obtain ⟨m, rfl⟩ := HD.out.out
            obtain ⟨b5, o5, rfl, f0, f1, f2, f3, f4⟩ := row_at5 HFC.out hf'
            obtain ⟨b6, o6, rfl, e0, e1, e2, e3, e4⟩ := row_at5 HFC'.out hf'
            obtain ⟨fn, ⟨rn, rw⟩, se, iv⟩ := f
            have kc : ∀ {p : Addr} {u : Value}, w.cell? p = some u → wc.cell? p = some u := fun h => keepCells (HB.out ▸ HBel2.out) _ _ h
            have x0 := kc f0
            have x1 := kc f1
            have x2 := kc f2
            have x3 := kc f3
            have x4 := kc f4
            have z0 := kc e0
            have z1 := kc e1
            have z2 := kc e2
            have z3 := kc e3
            have z4 := kc e4
            simp only at x0 x1 x2 x3 x4 z0 z1 z2 z3 z4
            have p1 : (0 ≤ (j : Int)) = True := eq_true (by omega)
            have p2 : (j < N3) = True := eq_true hjlt
            have p3 : ((j : Int) < (N3 : Int)) = True := eq_true (by omega)
            have hjb : (j : Int) ≤ 1000000000 := by omega
            clear hjl hf hf' f0 f1 f2 f3 f4 e0 e1 e2 e3 e4 HD
            have i6w : wc.cell? ⟨C6, 1, none⟩ = some (.slice (some ⟨b5, o5, none⟩) N3 c5) := HA6.out.cell 1 rfl
            have i7w : wc.cell? ⟨C7, 1, none⟩ = some (.slice (some ⟨b6, o6, none⟩) N3 c6) := HA7.out.cell 1 rfl
            go_wp2_with fail
            go_quiet (fail)
            go_wp2
            go_roundw
            case rel => exact ⟨j + 1, by go_num, by omega, ⟨⟨⟨_, rfl⟩⟩⟩⟩
            case measure => simp [intOf]; omega
          · obtain ⟨m, rfl⟩ := HD.out.out
            have i6 : wc.cell? ⟨C6, 1, none⟩ = some (.slice a5 N3 c5) := HA6.out.cell 1 rfl
            have p2 : decide (j < N3) = false := by simp; omega
            have HX9 := Sd.mk (HX2.out.drewN m)
            have HY9 := Sd.mk (HY2.out.drewN m)
            have HB9 : Sd (Below B w (wc.drewN m)) := ⟨(⟨HBel2.out.os, HBel2.out.tape, HBel2.out.output, HBel2.out.size, HBel2.out.block⟩ : Below B w (wc.drewN m))⟩
            go_wp2
            go_roundw
            case rel => exact ⟨k + 1, by go_num, by omega, HX9, HY9, HB9⟩
            case measure => simp [intOf]; omega
    · have hkN : k = N1 := by omega
      have p2 : decide (k < N1) = false := by simp; omega
      have y0 : wr.cell? ⟨B, 0, none⟩ = some (.slice a1 N1 c1) := (show At wr B 25 #[.slice a1 N1 c1, .slice a2 N2 c2] from HBX.out ▸ HX1.out).cell 0 rfl
      clear hkN hklt
      go_wp2
      clear y0
      obtain ⟨wo, hwo⟩ : ∃ wo : World, wo = wr := ⟨_, rfl⟩
      clear hwo
      go_loopw [9] (fun t9 wr => ∃ k : Nat, t9 = .int .i64 k ∧ k ≤ N2 ∧ Sd (At wr B 25 bx) ∧ Sd (At wr (B + 1) 25 bz) ∧ Sd (Below B w wr)) (fun t9 _ => N2 - (intOf t9).toNat)
      case atStart => exact ⟨0, rfl, Nat.zero_le _, HX1, HY1, HBel1⟩
      case round =>
        obtain ⟨k, rfl, hk, HX1, HY1, HBel1⟩ := hrel
        by_cases hklt : k < N2
        · have hkl : k < s.enums.length := by rw [HN2.out]; exact hklt
          obtain ⟨x, ho⟩ : ∃ o, s.enums[k] = o := ⟨_, rfl⟩
          have hkv : k < us.length := by rw [HUL.out, HN2.out]; exact hklt
          have hkv' : k < us'.length := by rw [HUL'.out, HN2.out]; exact hklt
          obtain ⟨vk, hvk⟩ : ∃ v, us[k] = v := ⟨_, rfl⟩
          obtain ⟨vk', hvk'⟩ : ∃ v, us'[k] = v := ⟨_, rfl⟩
          have hz : (s.enums.zip us)[k]? = some (x, vk) := by rw [List.getElem?_zip_eq_some]; exact ⟨by rw [List.getElem?_eq_getElem hkl, ho], by rw [List.getElem?_eq_getElem hkv, hvk]⟩
          have hz' : (s.enums.zip us')[k]? = some (x, vk') := by rw [List.getElem?_zip_eq_some]; exact ⟨by rw [List.getElem?_eq_getElem hkl, ho], by rw [List.getElem?_eq_getElem hkv', hvk']⟩
          have hff : WordsR w vk x.words := HEF.out (x, vk) (List.mem_of_getElem? hz)
          have hff' : WordsR w vk' x.words := HEF'.out (x, vk') (List.mem_of_getElem? hz')
          have hfl3 := HC.out.words x (ho ▸ List.getElem_mem hkl)
          have kc : ∀ (p : Addr) (u : Value), w.cell? p = some u → wr.cell? p = some u := fun p u h => keepCells (HB.out ▸ HBel1.out) _ _ h
          have cS := fun n => sameTexts_c (wr.drewN n) vk vk' x.words hfl3 (RowR.keep hff kc) (RowR.keep hff' kc)
          obtain ⟨b1, o1, rfl, g0, g1⟩ := row_at2 HEC.out hz
          obtain ⟨b3, o3, rfl, g2, g3⟩ := row_at2 HEC'.out hz'
          obtain ⟨on, hon⟩ : ∃ on, x.name = on := ⟨_, rfl⟩
          simp only [hon] at g0 g1 g2 g3
          have y0 : wr.cell? ⟨B, 1, none⟩ = some (.slice (some ⟨b1, o1, none⟩) N2 c2) := (show At wr B 25 #[.slice a1 N1 c1, .slice (some ⟨b1, o1, none⟩) N2 c2] from HBX.out ▸ HX1.out).cell 1 rfl
          have y2 : wr.cell? ⟨B + 1, 1, none⟩ = some (.slice (some ⟨b3, o3, none⟩) N2 c4) := (show At wr (B + 1) 25 #[.slice a3 N1 c3, .slice (some ⟨b3, o3, none⟩) N2 c4] from HBY.out ▸ HY1.out).cell 1 rfl
          have x0 := kc _ _ g0
          have x1 := kc _ _ g1
          have x2 := kc _ _ g2
          have x3 := kc _ _ g3
          have p1 : (0 ≤ (k : Int)) = True := eq_true (by omega)
          have p2 : (k < N2) = True := eq_true hklt
          have p3 : ((k : Int) < (N2 : Int)) = True := eq_true (by omega)
          have hkb : (k : Int) ≤ 1000000000 := by omega
          clear hkl ho hkv hkv' hvk hvk' hz hz' hff hff' hfl3 hon g0 g1 g2 g3 kc
          go_wp2_with fail
          go_quiet ((go_at_call 22; exact Calls.quiet_of (cS _)))
          go_wp2
          go_roundw
          case rel => exact ⟨k + 1, by go_num, by omega, ⟨HX1.out.drewN _⟩, ⟨HY1.out.drewN _⟩, ⟨(⟨HBel1.out.os, HBel1.out.tape, HBel1.out.output, HBel1.out.size, HBel1.out.block⟩ : Below B w (wr.drewN _))⟩⟩
          case measure => simp [intOf]; omega
        · have p2 : decide (k < N2) = false := by simp; omega
          have y0 : wr.cell? ⟨B, 1, none⟩ = some (.slice a2 N2 c2) := (show At wr B 25 #[.slice a1 N1 c1, .slice a2 N2 c2] from HBX.out ▸ HX1.out).cell 1 rfl
          go_wp2
          go_ret
          exact ⟨rfl, HBel1.out⟩
end Go.Proofs.YtibgigffedejpaaGreatDoor
namespace Go.Proofs.YtibgigffedejpaaGreatDoor
set_option linter.unusedVariables false
set_option linter.unusedSimpArgs false
open Go.RowKit
set_option linter.unusedVariables false
set_option linter.unusedSimpArgs false

/-! ### What the document fixes -/
def fx1 : ByteArray := ⟨#[101, 110, 117, 109, 32, 69, 123, 65, 32, 66, 125, 32, 116, 121, 112, 101, 32, 84, 123, 97, 58, 73, 110, 116, 33, 64, 115, 101, 97, 114, 99, 104, 32, 98, 58, 91, 84, 33, 93, 33, 64, 104, 97, 115, 73, 110, 118, 101, 114, 115, 101, 40, 102, 105, 101, 108, 100, 58, 98, 41, 125]⟩
def fx2 : ByteArray := ⟨#[116, 121, 112, 101, 32, 84, 123, 97, 58, 73, 110, 116, 64, 115, 101, 97, 114, 99, 104, 64, 115, 101, 97, 114, 99, 104, 125]⟩
def fx3 : ByteArray := ⟨#[116, 121, 112, 101, 32, 84, 32, 123, 32, 97, 32, 58, 32, 73, 110, 116, 32, 33, 32, 64, 32, 115, 101, 97, 114, 99, 104, 32, 98, 32, 58, 32, 91, 32, 84, 32, 33, 32, 93, 32, 33, 32, 64, 32, 104, 97, 115, 73, 110, 118, 101, 114, 115, 101, 32, 40, 32, 102, 105, 101, 108, 100, 32, 58, 32, 98, 32, 41, 32, 125, 32, 101, 110, 117, 109, 32, 69, 32, 123, 32, 65, 32, 66, 32, 125]⟩
def fxS : Sc := ⟨[⟨⟨#[84]⟩, [⟨⟨#[97]⟩, ⟨⟨#[73, 110, 116]⟩, ⟨#[33]⟩⟩, true, ⟨#[]⟩⟩, ⟨⟨#[98]⟩, ⟨⟨#[84]⟩, ⟨#[33, 91, 33]⟩⟩, false, ⟨#[98]⟩⟩]⟩], [⟨⟨#[69]⟩, [⟨#[65]⟩, ⟨#[66]⟩]⟩]⟩
theorem fx_1 : parseT fx1 = .ok fxS := by kernel_rfl
theorem fx_2 : parseT fx2 = .error (20, 80) := by kernel_rfl
theorem fx_3 : printT fxS = (fx3, 0) := by kernel_rfl
theorem fx_4 : printT ⟨[], []⟩ = (⟨#[]⟩, 81) := by kernel_rfl
theorem fx_5 : schTxt fxS = fx3 := by kernel_rfl
theorem fx_fits : FitsSc fxS := ⟨⟨by decide +kernel, by decide +kernel⟩, by decide +kernel, by decide +kernel⟩
theorem fx_fits0 : FitsSc ⟨[], []⟩ := ⟨⟨by decide +kernel, by decide +kernel⟩, by decide +kernel, by decide +kernel⟩
theorem SchR.nil (w : World) : SchR w (.agg #[.slice none 0 0, .slice none 0 0]) ⟨[], []⟩ := SchAt.read (lo := 0) ⟨_, _, rfl, ObjsAt.nil w 0, EnsAt.nil w 0⟩
set_option maxRecDepth 100000 in
set_option maxHeartbeats 4000000 in
theorem fixed_c (w : World) (E : Env w) : Calls Tryz.prog 10 #[] w fun e w' => e = .returned (.bool true) ∧ Below w.heap.size w w' := by
  have c1 := parse_c w fx1 (by decide +kernel) E _ fx_1
  have c2 := fun W E => parse_c W fx2 (by decide +kernel) E _ fx_2
  have c3 := fun W v h E => sprint_c W fxS v h E fx_fits _ fx_3
  have c4 := fun W E => sprint_c W ⟨[], []⟩ _ (SchR.nil W) E fx_fits0 _ fx_4
  unfold ParsePost at c1 c2
  unfold fx1 at c1
  unfold fx2 at c2
  obtain ⟨t3, ht3⟩ : ∃ t, fx3 = t := ⟨_, rfl⟩
  rw [ht3] at c3
  have HT3' := Sd.mk ht3
  clear ht3
  simp only at c1 c2 c3 c4
  have HE := Sd.mk E
  go_enter Tryz.func10, Tryz.ntmps10
  go_upto_region 2 with (go_at_call 8; refine c1.mono ?_; rintro e w1 ⟨v, rfl, ⟨vo, ve, rfl, hob, hen⟩, h1⟩; have HS1 := Sd.mk (SchAt.read ⟨vo, ve, rfl, hob, hen⟩); obtain ⟨ao1, cc1, rfl⟩ := hob.slice; obtain ⟨ao2, cc2, rfl⟩ := hen.slice; have HB1 := Sd.mk h1; have HE1 := Sd.mk ((Fr.of_below (g := 3) h1).env (by decide) HE.out); clear h1 hob hen)
  have HT1 := Sd.mk (At.fresh w1 25 #[.slice ao1 fxS.objs.length cc1, .slice ao2 fxS.enums.length cc2])
  have HS2 := Sd.mk (HS1.out.keep (keepCells ((Below.refl _ w1).alloc (Nat.le_refl _) (.cells #[.slice ao1 fxS.objs.length cc1, .slice ao2 fxS.enums.length cc2] 25))))
  have HB2 := Sd.mk (HB1.out.alloc HB1.out.size (.cells #[.slice ao1 fxS.objs.length cc1, .slice ao2 fxS.enums.length cc2] 25))
  generalize fxS.objs.length = n1 at *
  generalize fxS.enums.length = n2 at *
  have HE2 : Sd (Env (w1.alloc (.cells #[.slice ao1 n1 cc1, .slice ao2 n2 cc2] 25))) := ⟨((Fr.refl 3 w1).alloc _).env (by decide) HE1.out⟩
  have hC : w.heap.size ≤ w1.heap.size := HB1.out.size
  generalize w1.alloc (.cells #[.slice ao1 n1 cc1, .slice ao2 n2 cc2] 25) = w2 at HT1 HS2 HB2 HE2 ⊢
  generalize w1.heap.size = C1 at HT1 hC ⊢
  clear c1 HS1 HB1 HE1
  go_upto_region 3 with (go_at_call 8; refine (c2 _ HE2.out).mono ?_; rintro e w3 ⟨rfl, h1⟩; have HT3 := Sd.mk (HT1.out.below h1); have HS3 := Sd.mk (HS2.out.keep (keepCells h1)); have HB3 := Sd.mk (HB2.out.trans ⟨h1.os, h1.tape, h1.output, h1.size, fun k hk => h1.block k (Nat.lt_of_lt_of_le hk HB2.out.size)⟩); have HE3 := Sd.mk ((Fr.of_below (g := 3) h1).env (by decide) HE2.out); clear h1)
  have HT4 := Sd.mk (HT3.out.alloc (.cells #[.slice none 0 0, .slice none 0 0] 25))
  have HS4 := Sd.mk (HS3.out.keep (keepCells ((Below.refl _ w3).alloc (Nat.le_refl _) (.cells #[.slice none 0 0, .slice none 0 0] 25))))
  have HB4 := Sd.mk (HB3.out.alloc HB3.out.size (.cells #[.slice none 0 0, .slice none 0 0] 25))
  have HE4 : Sd (Env (w3.alloc (.cells #[.slice none 0 0, .slice none 0 0] 25))) := ⟨((Fr.refl 3 w3).alloc _).env (by decide) HE3.out⟩
  generalize w3.alloc (.cells #[.slice none 0 0, .slice none 0 0] 25) = w4 at HT4 HS4 HB4 HE4 ⊢
  clear c2 HT1 HS2 HB2 HE2 HT3 HS3 HB3 HE3
  have x0 := HT4.out.cell 0 rfl
  have x1 := HT4.out.cell 1 rfl
  go_upto_region 4 with (go_at_call 12; refine (c3 _ _ HS4.out HE4.out).mono ?_; rintro e w5 ⟨rfl, h1⟩; have HB5 := Sd.mk (HB4.out.trans ⟨h1.os, h1.tape, h1.output, h1.size, fun k hk => h1.block k (Nat.lt_of_lt_of_le hk HB4.out.size)⟩); have HE5 := Sd.mk ((Fr.of_below (g := 3) h1).env (by decide) HE4.out); clear h1)
  clear c3 x0 x1
  go_upto_region 5 with (go_at_call 12; refine (c4 _ HE5.out).mono ?_; rintro e w6 ⟨rfl, h1⟩; have HB6 := Sd.mk (HB5.out.trans ⟨h1.os, h1.tape, h1.output, h1.size, fun k hk => h1.block k (Nat.lt_of_lt_of_le hk HB5.out.size)⟩); clear h1)
  clear c4
  go_wp2_with (fail)
  · go_ret
    exact ⟨rfl, HB6.out⟩
  · exfalso
    refine absurd ?_ (show ¬ t3.toList = [116, 121, 112, 101, 32, 84, 32, 123, 32, 97, 32, 58, 32, 73, 110, 116, 32, 33, 32, 64, 32, 115, 101, 97, 114, 99, 104, 32, 98, 32, 58, 32, 91, 32, 84, 32, 33, 32, 93, 32, 33, 32, 64, 32, 104, 97, 115, 73, 110, 118, 101, 114, 115, 101, 32, 40, 32, 102, 105, 101, 108, 100, 32, 58, 32, 98, 32, 41, 32, 125, 32, 101, 110, 117, 109, 32, 69, 32, 123, 32, 65, 32, 66, 32, 125] by assumption)
    rw [← HT3'.out, ByteArray.toList_eq]
    rfl
end Go.Proofs.YtibgigffedejpaaGreatDoor
