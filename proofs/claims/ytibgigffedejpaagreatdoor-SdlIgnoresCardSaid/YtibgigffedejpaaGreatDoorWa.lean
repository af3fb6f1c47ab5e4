import Derived.Lib.DecodeN
import Derived.Lib.Bytealg
import Derived.Lib.Strings
import Derived.Test.YtibgigffedejpaaGreatDoorProg
import Derived.WalkKit
import Derived.KernelRfl
import Derived.RowKit3
import Derived.Deep.LoopGhost
import Derived.Deep.QuietTactic
import Derived.BigQuiet
import Derived.Deep.Draws
import Derived.WalkSpells
import Derived.WalkLawsBesides
/- What the lexer of layer 5 says, in plain words: no program in sight. -/
namespace Go.Proofs.YtibgigffedejpaaGreatDoor
set_option linter.unusedVariables false
set_option linter.unusedSimpArgs false
set_option linter.unusedVariables false

/-- A byte, as a number. -/
def bt (s : ByteArray) (i : Nat) : Nat := if h : i < s.size then (s[i]'h).toNat else 0
theorem bt_at (s : ByteArray) (i : Nat) (h : i < s.size) : (s[i]'h).toNat = bt s i := by simp [bt, h]
theorem bt_lt (s : ByteArray) (i : Nat) : bt s i < 256 := by
  unfold bt
  split
  · exact UInt8.toNat_lt _
  · omega
theorem bt_out (s : ByteArray) (i : Nat) (h : s.size ≤ i) : bt s i = 0 := by
  unfold bt; rw [dif_neg (by omega)]

/-- The bytes from a place to another. -/
def sub (s : ByteArray) (i j : Nat) : List UInt8 := (s.data.toList.drop i).take (j - i)
/-- Does a text begin so at a place? -/
def pre (s : ByteArray) (i : Nat) (p : List UInt8) : Bool := Lib.hasPrefix (s.data.toList.drop i) p

/-! ### Characters -/
def dec (s : ByteArray) (i : Nat) : Nat × Nat := Lib.decodeN (s.size - i) (bt s i) (bt s (i + 1)) (bt s (i + 2)) (bt s (i + 3))
def rune (s : ByteArray) (i : Nat) : Nat × Nat := if i < s.size then (if (dec s i).1 = 65533 ∧ (dec s i).2 < 2 then (0, 0) else dec s i) else (0, 0)
/-- The source character at a place: its number, its bytes. -/
def src (s : ByteArray) (i : Nat) : Option (Nat × Nat) :=
  if (rune s i).2 = 0 ∨ 3 < (rune s i).2 ∨ ((rune s i).1 < 32 ∧ (rune s i).1 ≠ 9 ∧ (rune s i).1 ≠ 10 ∧ (rune s i).1 ≠ 13) then none else some (rune s i)

/-! ### What is ignored -/
def com (s : ByteArray) (i : Nat) : Except Nat Nat :=
  if h : i < s.size ∧ bt s i ≠ 10 ∧ bt s i ≠ 13 then
    match src s i with
    | none => .error i
    | some (_, n) => if n = 0 then .error i else com s (i + n)
  else .ok i
termination_by s.size - i

def isIgn (c : Nat) : Bool := c == 32 || c == 9 || c == 10 || c == 13 || c == 44
def ign (s : ByteArray) (i : Nat) : Except Nat Nat :=
  if h : i < s.size then
    if isIgn (bt s i) then ign s (i + 1)
    else if pre s i [239, 187, 191] then ign s (i + 3)
    else if bt s i = 35 then
      match com s i with
      | .error p => .error p
      | .ok j => if i < j then ign s j else .ok j
    else .ok i
  else .ok i
termination_by s.size - i

/-! ### Tokens -/
def runN (p : Nat → Bool) (s : ByteArray) (i : Nat) : Nat :=
  if h : i < s.size then (if p (bt s i) then runN p s (i + 1) + 1 else 0) else 0
termination_by s.size - i

def isDigit (c : Nat) : Bool := 48 ≤ c && c ≤ 57
def isLetter (c : Nat) : Bool := c == 95 || (97 ≤ c && c ≤ 122) || (65 ≤ c && c ≤ 90)
def isName (c : Nat) : Bool := isLetter c || isDigit c
def isHex (c : Nat) : Bool := isDigit c || (97 ≤ c && c ≤ 102) || (65 ≤ c && c ≤ 70)
def isPunct (c : Nat) : Bool := c == 33 || c == 36 || c == 38 || c == 40 || c == 41 || c == 58 || c == 61 || c == 64 || c == 91 || c == 93 || c == 123 || c == 124 || c == 125
def isMore (c : Nat) : Bool := isName c || c == 46

/-- Does byte c come? -/
def skipB (s : ByteArray) (i c : Nat) : Bool := decide (i < s.size) && (bt s i == c)
def skipN (s : ByteArray) (i c : Nat) : Nat := if skipB s i c then i + 1 else i

/-- digits that must come: where they end -/
def digs (s : ByteArray) (i : Nat) : Option Nat := if 0 < runN isDigit s i then some (i + runN isDigit s i) else none
def num1 (s : ByteArray) (i : Nat) : Option Nat := if bt s i = 48 then some (i + 1) else digs s i
def num2 (s : ByteArray) (i : Nat) : Option (Nat × Nat) := if skipB s i 46 then (digs s (i + 1)).map (·, 3) else some (i, 2)
def num3 (s : ByteArray) (i k : Nat) : Option (Nat × Nat) :=
  if skipB s i 101 || skipB s i 69 then (digs s (if skipB s (i + 1) 43 then i + 2 else skipN s (i + 1) 45)).map (·, 3) else some (i, k)
def num4 (s : ByteArray) (i k : Nat) : Option (Nat × Nat) := if i < s.size ∧ isMore (bt s i) = true then none else some (i, k)
/-- A number: where it ends, its kind. -/
def num (s : ByteArray) (i : Nat) : Option (Nat × Nat) :=
  (num1 s (skipN s i 45)).bind fun a => (num2 s a).bind fun b => (num3 s b.1 b.2).bind fun c => num4 s c.1 c.2

/-! ### Texts -/
def hexV (c : Nat) : Nat := if isDigit c then c - 48 else if 97 ≤ c then c - 87 else c - 55
def hex4 (s : ByteArray) (i : Nat) : Nat := hexV (bt s i) * 4096 + hexV (bt s (i + 1)) * 256 + hexV (bt s (i + 2)) * 16 + hexV (bt s (i + 3))
/-- What a number says: a character, or three bytes. -/
def unit (n : Nat) : List UInt8 :=
  if n < 128 then [n.toUInt8] else if n < 2048 then [(192 + n / 64).toUInt8, (128 + n % 64).toUInt8]
  else [(224 + n / 4096).toUInt8, (128 + n / 64 % 64).toUInt8, (128 + n % 64).toUInt8]
def sign (c : Nat) : Option UInt8 :=
  if c = 34 then some 34 else if c = 92 then some 92 else if c = 47 then some 47 else if c = 98 then some 8 else if c = 102 then some 12
  else if c = 110 then some 10 else if c = 114 then some 13 else if c = 116 then some 9 else none
/-- What stands behind a backslash: what it says, where it ends. -/
def esc (s : ByteArray) (i : Nat) : Option (List UInt8 × Nat) :=
  if i < s.size then
    match sign (bt s i) with
    | some b => some ([b], i + 1)
    | none => if bt s i = 117 ∧ i + 5 ≤ s.size ∧ isHex (bt s (i + 1)) = true ∧ isHex (bt s (i + 2)) = true ∧ isHex (bt s (i + 3)) = true ∧ isHex (bt s (i + 4)) = true
        then some (unit (hex4 s (i + 1)), i + 5) else none
  else none
def txt (s : ByteArray) (i : Nat) (acc : List UInt8) : Option (List UInt8 × Nat) :=
  match src s i with
  | none => none
  | some (c, n) =>
    if c = 10 ∨ c = 13 then none
    else if c = 34 then some (acc, i + n)
    else if c = 92 then
      match esc s (i + n) with
      | none => none
      | some (t, j) => if i < j ∧ i < s.size then txt s j (acc ++ t) else none
    else if 0 < n ∧ i < s.size then txt s (i + n) (acc ++ sub s i (i + n)) else none
termination_by s.size - i
def blk (s : ByteArray) (i : Nat) (acc : List UInt8) : Option (List UInt8 × Nat) :=
  if h : i < s.size then
    if pre s i [92, 34, 34, 34] then blk s (i + 4) (acc ++ [34, 34, 34])
    else if pre s i [34, 34, 34] then some (acc, i + 3)
    else match src s i with
      | none => none
      | some (_, n) => if 0 < n then blk s (i + n) (acc ++ sub s i (i + n)) else none
  else none
termination_by s.size - i
end Go.Proofs.YtibgigffedejpaaGreatDoor
namespace Go.Proofs.YtibgigffedejpaaGreatDoor
set_option linter.unusedVariables false
set_option linter.unusedSimpArgs false
open Go.RowKit

/-- What is kept: all but block g, and what is new. -/
structure Fr (g : Nat) (w w' : World) : Prop where
  os : w'.os = w.os
  tape : w'.tape = w.tape
  output : w'.output = w.output
  size : w.heap.size ≤ w'.heap.size
  block : ∀ k, k < w.heap.size → k ≠ g → w'.heap[k]? = w.heap[k]?
theorem Fr.refl (g : Nat) (w : World) : Fr g w w := ⟨rfl, rfl, rfl, Nat.le_refl _, fun _ _ _ => rfl⟩
theorem Fr.trans {g : Nat} {a b c : World} (h : Fr g a b) (k : Fr g b c) : Fr g a c :=
  ⟨k.os.trans h.os, k.tape.trans h.tape, k.output.trans h.output, Nat.le_trans h.size k.size, fun i hi hg => (k.block i (Nat.lt_of_lt_of_le hi h.size) hg).trans (h.block i hi hg)⟩
theorem Fr.of_below {g : Nat} {w w' : World} (h : Below w.heap.size w w') : Fr g w w' := ⟨h.os, h.tape, h.output, h.size, fun k hk _ => h.block k hk⟩
theorem Fr.drewN {g : Nat} {a w : World} (h : Fr g a w) (n : Nat) : Fr g a (w.drewN n) := ⟨h.os, h.tape, h.output, h.size, h.block⟩
theorem Fr.drew {g : Nat} {a w : World} (h : Fr g a w) : Fr g a w.drew := ⟨h.os, h.tape, h.output, h.size, h.block⟩
theorem Fr.alloc {g : Nat} {a w : World} (h : Fr g a w) (o : Obj) : Fr g a (w.alloc o) := h.trans (Fr.of_below ((Below.refl _ w).alloc (Nat.le_refl _) o))
theorem Fr.setCell {g : Nat} {a w : World} (h : Fr g a w) {p : Addr} (hp : p.block = g ∨ a.heap.size ≤ p.block) (u : Value) : Fr g a (w.setCell p u) :=
  ⟨h.os, h.tape, h.output, by simpa [World.setCell] using h.size, fun k hk hg => (Below.heap_setCell w p u k (by rcases hp with rfl | hp <;> omega)).trans (h.block k hk hg)⟩
theorem Fr.below {g : Nat} {w0 w w' : World} (h : Fr g w w') (hb : Below w0.heap.size w0 w) (hg : w0.heap.size ≤ g) : Below w0.heap.size w0 w' :=
  ⟨h.os.trans hb.os, h.tape.trans hb.tape, h.output.trans hb.output, Nat.le_trans hb.size h.size, fun k hk => (h.block k (Nat.lt_of_lt_of_le hk hb.size) (by omega)).trans (hb.block k hk)⟩

/-- A fact that the walk's simp doesn't look into. -/
structure Sd (p : Prop) : Prop where mk :: (out : p)

/-- Some orders have been drawn, no more. -/
structure Dr (w w' : World) : Prop where mk :: (out : ∃ n, w' = w.drewN n)
theorem Dr.refl (w : World) : Dr w w := ⟨⟨0, rfl⟩⟩
theorem Dr.step {w w' : World} (h : Dr w w') (n : Nat) : Dr w (w'.drewN n) := by
  obtain ⟨m, rfl⟩ := h
  exact ⟨⟨m + n, World.drewN_drewN ..⟩⟩
theorem Dr.drew {w w' : World} (h : Dr w w') : Dr w w'.drew := h.step 1

/-- A reader of the lexer lies at block g. -/
def RD (w : World) (g : Nat) (s : ByteArray) (i f n : Nat) : Prop := w.heap[g]? = some (.cells #[.string s, .int .i64 i, .int .i64 f, .int .i64 n] 88 (0, 0))
section
variable {w : World} {g : Nat} {s : ByteArray} {i f n : Nat}
theorem RD.c0 (h : RD w g s i f n) : w.cell? ⟨g, 0, none⟩ = some (.string s) := by unfold RD at h; simp [World.cell?, h]
theorem RD.c1 (h : RD w g s i f n) : w.cell? ⟨g, 1, none⟩ = some (.int .i64 i) := by unfold RD at h; simp [World.cell?, h]
theorem RD.c2 (h : RD w g s i f n) : w.cell? ⟨g, 2, none⟩ = some (.int .i64 f) := by unfold RD at h; simp [World.cell?, h]
theorem RD.c3 (h : RD w g s i f n) : w.cell? ⟨g, 3, none⟩ = some (.int .i64 n) := by unfold RD at h; simp [World.cell?, h]
theorem RD.fz (h : RD w g s i f n) (k : Nat) : w.frozen? ⟨g, k, none⟩ = false := by unfold RD at h; simp [World.frozen?, h]
theorem RD.lt (h : RD w g s i f n) : g < w.heap.size := (Array.getElem?_eq_some_iff.1 h).1
theorem RD.drewN (h : RD w g s i f n) (m : Nat) : RD (w.drewN m) g s i f n := h
theorem RD.drew (h : RD w g s i f n) : RD w.drew g s i f n := h
theorem RD.alloc (h : RD w g s i f n) (o : Obj) : RD (w.alloc o) g s i f n := (Below.heap_alloc w o g h.lt).trans h
theorem RD.below {w' : World} (h : RD w g s i f n) (hb : Below w.heap.size w w') : RD w' g s i f n := (hb.block g h.lt).trans h
theorem RD.set1 (h : RD w g s i f n) (j : Nat) : RD (w.setCell ⟨g, 1, none⟩ (.int .i64 j)) g s j f n := by
  unfold RD at *; simp [World.setCell, Array.getElem?_modify, h]
theorem RD.set2 (h : RD w g s i f n) (j : Nat) : RD (w.setCell ⟨g, 2, none⟩ (.int .i64 j)) g s i j n := by
  unfold RD at *; simp [World.setCell, Array.getElem?_modify, h]
theorem RD.set3 (h : RD w g s i f n) (j : Nat) : RD (w.setCell ⟨g, 3, none⟩ (.int .i64 j)) g s i f j := by
  unfold RD at *; simp [World.setCell, Array.getElem?_modify, h]
theorem RD.far (h : RD w g s i f n) {p : Addr} (hp : p.block ≠ g) (u : Value) : RD (w.setCell p u) g s i f n :=
  (Below.heap_setCell w p u g (Ne.symm hp)).trans h
end
end Go.Proofs.YtibgigffedejpaaGreatDoor
