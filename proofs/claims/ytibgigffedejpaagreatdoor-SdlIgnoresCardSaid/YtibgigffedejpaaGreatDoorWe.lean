import Derived.Test.YtibgigffedejpaaGreatDoorWd
import Derived.RangeFuncLeaves
import Derived.RangeFuncRecord
import Derived.RangeFuncOwn
import Derived.OwnWalkIn
import Derived.TacticsInMore
namespace Go.Proofs.YtibgigffedejpaaGreatDoor
set_option linter.unusedVariables false
set_option linter.unusedSimpArgs false
open Go.RowKit
set_option linter.unusedVariables false
set_option linter.unusedSimpArgs false

def Tk.cells (x : Tk) : List Value := [.int .i64 x.k, .string x.t, .int .i64 x.i, .int .i64 x.j]
def rdAssign : Code := (Code.region 4
        #[{ dst := some 6, op := Op.alloc 43, type := 0, pos := "lex.go:271", after := #[], guard := none },
          { dst := none, op := Op.store 43 (Operand.tmp 6) (Operand.tmp 13), type := 0, pos := "lex.go:271",
            after := #[{ on := 0, ground := Ground.data }, { on := 0, ground := Ground.phase }], guard := none }]
        false)
def rdBody : Code := (Code.block 1
        (Code.region 5
          #[{ dst := some 14, op := Op.load 37 (Operand.tmp 2), type := 37, pos := "lex.go:272", after := #[],
              guard := none },
            { dst := some 15, op := Op.load 43 (Operand.tmp 6), type := 43, pos := "lex.go:272", after := #[],
              guard := none },
            { dst := some 16, op := Op.buildSlice 37 1 #[(0, Operand.tmp 15)], type := 37, pos := "lex.go:272",
              after := #[{ on := 1, ground := Ground.data }], guard := none },
            { dst := some 17,
              op :=
                Op.call
                  { callee := Callee.builtin Builtin.append, args := #[Operand.tmp 14, Operand.tmp 16],
                    argTypes := #[37, 37] },
              type := 37, pos := "lex.go:272",
              after := #[{ on := 0, ground := Ground.data }, { on := 2, ground := Ground.data }], guard := none },
            { dst := none, op := Op.store 37 (Operand.tmp 2) (Operand.tmp 17), type := 0, pos := "lex.go:272",
              after :=
                #[{ on := 3, ground := Ground.data }, { on := 3, ground := Ground.chain },
                  { on := 0, ground := Ground.phase }, { on := 1, ground := Ground.phase },
                  { on := 2, ground := Ground.phase }, { on := 3, ground := Ground.phase }],
              guard := none }]
          false))
def rdTmps (s : ByteArray) (B : Nat) (x : Value) : Array Value :=
  #[.string s, undef, .pointer (some ⟨B, 0, none⟩), .pointer (some ⟨B + 1, 0, none⟩), .pointer (some ⟨B + 1 + 1, 0, none⟩), .pointer (some ⟨B + 1 + 1 + 1, 0, none⟩), undef,
    .func (.func 45) #[] #[.pointer (some ⟨B, 0, none⟩), .pointer (some ⟨B + 1, 0, none⟩), .pointer (some ⟨B + 1 + 1, 0, none⟩)],
    .string s, .agg #[.string s, .int .i64 0, .int .i64 0, .int .i64 0], .pointer (some ⟨B + 1 + 1 + 1, 0, none⟩), .pointer (some ⟨B + 1 + 1 + 1, 0, none⟩),
    .func (.func 66) #[] #[.pointer (some ⟨B + 1 + 1 + 1 + 1, 0, none⟩)], x, undef, undef, undef, undef, undef]
def rdRec (fn : FuncId) (s : ByteArray) (B : Nat) (st : LoopState) (pend : Option Code) : Loop :=
  { state := st, pending := pend, fn, tmps := rdTmps s B undef, params := #[13], assign := rdAssign, body := rdBody, defers := B + 5 }

/-- Between two rounds. -/
structure RdAt (w0 : World) (B : Nat) (fn : FuncId) (s : ByteArray) (pre : List Tk) (W : World) : Prop where
  box : ∃ v, W.heap[B]? = some (.cells #[v] 37 (0, 0)) ∧ W.ownsRow (B + 7) 43 4 v pre.length (pre.flatMap Tk.cells)
  c3 : W.heap[B + 1]? = some (.cells #[.int .i64 0] 3 (0, 0))
  c4 : W.heap[B + 2]? = some (.cells #[.int .i64 0] 26 (0, 0))
  L : W.heap[B + 6]? = some (.loop (rdRec fn s B .ready none))
  K : W.heap[B + 5]? = some (.deferred (some []))
  below : Below B w0 W

theorem RdAt.fr {w0 : World} {B : Nat} {fn : FuncId} {s : ByteArray} {pre : List Tk} {W W' : World} (h : RdAt w0 B fn s pre W) (hf : Fr (B + 3) W W') : RdAt w0 B fn s pre W' := by
  have keep : ∀ {k : Nat} {o : Obj}, W.heap[k]? = some o → k ≠ B + 3 → W'.heap[k]? = some o := fun hk hne => (hf.block _ (Array.getElem?_eq_some_iff.1 hk).1 hne).trans hk
  obtain ⟨v, hv, hrow⟩ := h.box
  refine ⟨⟨v, keep hv (by omega), hrow.kept (row := some (B + 3)) ⟨hf.os, hf.tape, hf.output, hf.size, fun k hk hkg => hf.block k hk (fun e => hkg (by rw [e]))⟩ ?_⟩, keep h.c3 (by omega), keep h.c4 (by omega), keep h.L (by omega), keep h.K (by omega), ?_⟩
  · rcases hrow.2 with ⟨rfl, _⟩ | ⟨g', cap, cur, rfl, hg', _⟩
    · exact .inl rfl
    · refine .inr ?_
      simp [Value.ownBlock]; omega
  · exact ⟨hf.os.trans h.below.os, hf.tape.trans h.below.tape, hf.output.trans h.below.output, Nat.le_trans h.below.size hf.size, fun k hk => (hf.block k (by have := (Array.getElem?_eq_some_iff.1 hv).1; omega) (by omega)).trans (h.below.block k hk)⟩

theorem info43 : (Tryz.prog.info? 43).map (fun i => (i.zero, i.size, i.bytes)) = some (some (.agg #[.int .i64 0, .string ⟨#[]⟩, .int .i64 0, .int .i64 0]), 4, 40) := by kernel_rfl

theorem all_c (w : World) (p : Option Addr) :
    Calls Tryz.prog 46 #[.pointer p] w fun e w' => e = .returned (.func (.func 66) #[] #[.pointer (some ⟨w.heap.size, 0, none⟩)]) ∧ w' = w.alloc (.cells #[.pointer p] 86) := by
  have hmf : ∀ (fn : Fn) (first cap : Array Value) (w : World), (Instr.makeFunc fn first cap).run Tryz.prog w = .ok (.func fn first cap) w := fun _ _ _ _ => rfl
  go_enter Tryz.func46, Tryz.ntmps46
  go_wp2
  go_ret
  exact ⟨rfl, rfl⟩

theorem ownsRow_ne {W : World} {base : Nat} {e : TypeId} {size : Nat} {v : Value} {k : Nat} {xs : List Value} (h : W.ownsRow base e size v k xs) {j : Nat} (hj : j < base) : v.ownBlock = none ∨ v.ownBlock ≠ some j := by
  rcases h.2 with ⟨rfl, _⟩ | ⟨g, cap, cur, rfl, hg, hgb, _⟩
  · exact .inl rfl
  · refine .inr fun e' => ?_
    have : g = j := by simpa [Value.ownBlock] using e'
    omega
theorem ownsRow_ne' {W : World} {base : Nat} {e : TypeId} {size : Nat} {v : Value} {k : Nat} {xs : List Value} (h : W.ownsRow base e size v k xs) {j : Nat} (hj : j < base) : some j ≠ v.ownBlock := by
  rcases ownsRow_ne h hj with e | e
  · rw [e]; simp
  · exact fun e' => e e'.symm

set_option maxRecDepth 100000 in
set_option maxHeartbeats 2000000 in
theorem rdYield (w0 : World) (B : Nat) (fn : FuncId) (s : ByteArray) (pre : List Tk) (x : Tk) (W : World) (h : RdAt w0 B fn s pre W) (hlen : pre.length < 2048) :
    YieldAt Fence.wide 0 Tryz.prog (B + 6) #[x.val] W fun e W' => e = .returned (.bool true) ∧ RdAt w0 B fn s (pre ++ [x]) W' ∧ W.heap.size ≤ W'.heap.size ∧ ∀ k, k < B + 5 → k ≠ B → W'.heap[k]? = W.heap[k]? := by
  obtain ⟨i0, hi, hz0, hz1, hz2⟩ := info_parts info43
  obtain ⟨v, hv, hrow⟩ := h.box
  refine ⟨fn, rdTmps s B x.val, rdAssign, rdBody, by simpa [rdRec, rdTmps] using run_yield (P := Tryz.prog) (args := #[x.val]) h.L rfl, roundIn_of_wpIn trivial ?_⟩
  have hl : B + 6 < W.heap.size := (Array.getElem?_eq_some_iff.1 h.L).1
  unfold rdAssign rdTmps Tk.val
  gi_wp2_with (rw [Oper.semAt_eq _ _ _ (fun c h => by cases h)]; go_simp; try go_bits)
  have hold : ∀ {k : Nat}, k < W.heap.size → (W.alloc (.cells #[.int .i64 x.k, .string x.t, .int .i64 x.i, .int .i64 x.j] 43)).heap[k]? = W.heap[k]? := fun hk => Below.heap_alloc _ _ _ hk
  have hNew := World.alloc_heap_new W (.cells #[.int .i64 x.k, .string x.t, .int .i64 x.i, .int .i64 x.j] 43)
  have hrow1 : (W.alloc (.cells #[.int .i64 x.k, .string x.t, .int .i64 x.i, .int .i64 x.j] 43)).ownsRow (B + 7) 43 4 v pre.length (pre.flatMap Tk.cells) := hrow.alloc _
  have hL1 := (hold hl).trans h.L
  have hs1 : (W.alloc (.cells #[.int .i64 x.k, .string x.t, .int .i64 x.i, .int .i64 x.j] 43)).heap.size = W.heap.size + 1 := by simp
  have ho1 : (W.alloc (.cells #[.int .i64 x.k, .string x.t, .int .i64 x.i, .int .i64 x.j] 43)).os = W.os ∧ (W.alloc (.cells #[.int .i64 x.k, .string x.t, .int .i64 x.i, .int .i64 x.j] 43)).tape = W.tape ∧ (W.alloc (.cells #[.int .i64 x.k, .string x.t, .int .i64 x.i, .int .i64 x.j] 43)).output = W.output := ⟨rfl, rfl, rfl⟩
  obtain ⟨N, hN⟩ : ∃ N, W.heap.size = N := ⟨_, rfl⟩
  rw [hN] at hold hNew hs1 hl
  rw [hN]
  generalize (W.alloc (.cells #[.int .i64 x.k, .string x.t, .int .i64 x.i, .int .i64 x.j] 43)) = W1 at hold hNew hrow1 hL1 hs1 ho1 ⊢
  refine ⟨_, run_beginRound hL1 rfl, ?_⟩
  obtain ⟨W2, hW2⟩ : ∃ W2, W1.putObj (B + 6) (.loop { rdRec fn s B .ready none with state := .busy }) = W2 := ⟨_, rfl⟩
  have hl1 : B + 6 < W1.heap.size := by omega
  have hL2 : W2.heap[B + 6]? = some (.loop { rdRec fn s B .ready none with state := .busy }) := by rw [← hW2]; exact World.putObj_heap_same hl1
  have hold2 : ∀ {k : Nat}, k < N → k ≠ B + 6 → W2.heap[k]? = W.heap[k]? := fun hk hne => by rw [← hW2]; exact (World.putObj_heap_other hne).trans (hold hk)
  have hNew2 : W2.heap[N]? = some (.cells #[.int .i64 x.k, .string x.t, .int .i64 x.i, .int .i64 x.j] 43 (0, 0)) := by rw [← hW2]; exact (World.putObj_heap_other (by omega)).trans hNew
  have hrow2 : W2.ownsRow (B + 7) 43 4 v pre.length (pre.flatMap Tk.cells) := by rw [← hW2]; exact hrow1.kept (grownBy_putObj' _ _ _) (ownsRow_ne hrow1 (by omega))
  have hs2 : W2.heap.size = N + 1 := by rw [← hW2]; simpa using hs1
  have ho2 : W2.os = W.os ∧ W2.tape = W.tape ∧ W2.output = W.output := by rw [← hW2]; exact ho1
  have HO := Sd.mk ho2
  have HH := Sd.mk h
  rw [hW2]
  clear hW2 ho1 ho2 hold hNew hrow1 hL1 hs1 hl1
  have hv2 := (hold2 (k := B) (by omega) (by omega)).trans hv
  have hb : W2.cell? ⟨B, 0, none⟩ = some v := by rw [Lib.cell_of_heap hv2]; rfl
  have n0 : W2.cell? ⟨N, 0, none⟩ = some (.int .i64 x.k) := by rw [Lib.cell_of_heap hNew2]; rfl
  have n1 : W2.cell? ⟨N, 1, none⟩ = some (.string x.t) := by rw [Lib.cell_of_heap hNew2]; rfl
  have n2 : W2.cell? ⟨N, 2, none⟩ = some (.int .i64 x.i) := by rw [Lib.cell_of_heap hNew2]; rfl
  have n3 : W2.cell? ⟨N, 3, none⟩ = some (.int .i64 x.j) := by rw [Lib.cell_of_heap hNew2]; rfl
  have HO2 := Sd.mk @hold2
  have HL2 := Sd.mk hL2
  have HR2 := Sd.mk hrow2
  have HV2 := Sd.mk hv2
  clear hL2 hNew2 hrow2 hv2
  have hone : ∀ u ∈ x.cells, u.oneCell' = true := by simp [Tk.cells, Value.oneCell']
  have hcel : ∀ (j : Nat) u, x.cells[j]? = some u → (W2.alloc (.cells #[.int .i64 x.k, .string x.t, .int .i64 x.i, .int .i64 x.j] 43)).cell? (Addr.add ⟨N + 1, 0, none⟩ j) = some u := fun j u hj => by
    have hj4 : j < 4 := by have := (List.getElem?_eq_some_iff.1 hj).1; simpa [Tk.cells] using this
    have hnew := World.alloc_heap_new W2 (.cells #[.int .i64 x.k, .string x.t, .int .i64 x.i, .int .i64 x.j] 43)
    rw [hs2] at hnew
    match j, hj4 with
    | 0, _ => simp [Tk.cells] at hj; subst hj; show World.cell? _ ⟨N + 1, 0, none⟩ = _; rw [Lib.cell_of_heap hnew]; rfl
    | 1, _ => simp [Tk.cells] at hj; subst hj; show World.cell? _ ⟨N + 1, 1, none⟩ = _; rw [Lib.cell_of_heap hnew]; rfl
    | 2, _ => simp [Tk.cells] at hj; subst hj; show World.cell? _ ⟨N + 1, 2, none⟩ = _; rw [Lib.cell_of_heap hnew]; rfl
    | 3, _ => simp [Tk.cells] at hj; subst hj; show World.cell? _ ⟨N + 1, 3, none⟩ = _; rw [Lib.cell_of_heap hnew]; rfl
  have HONE := Sd.mk hone
  have HCEL := Sd.mk hcel
  clear hone hcel hold2 h hv hrow
  unfold rdBody
  gi_wp2_with (first
    | (gi_at_builtin; refine wpListIn_append_own _ rfl _ _ 37 rfl (B + 7) 43 i0 (.agg #[.int .i64 0, .string ⟨#[]⟩, .int .i64 0, .int .i64 0]) 4 40 Tryz.underlying37 hi hz0 hz1 hz2 rfl (by decide) _ _ _ rfl (HR2.out.alloc _) ⟨N + 1, 0, none⟩ 1 1 x.cells rfl rfl HCEL.out HONE.out (by unfold maxLen; omega) (by omega) (by simp; omega) ?_; intro v' w3 hown' hg3 hnil3; have HW3 := Sd.mk hown'; have HG3 := Sd.mk hg3; clear hown' hg3 hnil3
       obtain ⟨g', cap', hg', rfl⟩ : ∃ g' cap', B + 7 ≤ g' ∧ v' = .slice (some ⟨g', 0, none⟩) (pre.length + 1) cap' := by
         rcases HW3.out.2 with ⟨_, h0⟩ | ⟨g', cap', cur', h1, h2, _⟩
         · exact absurd h0 (by omega)
         · exact ⟨g', cap', h2, h1⟩
       have HV3 : Sd (w3.heap[B]? = some (.cells #[v] 37 (0, 0))) := ⟨(HG3.out.block B (by simp; omega) (ownsRow_ne' HR2.out (by omega))).trans ((Below.heap_alloc _ _ B (by omega)).trans HV2.out)⟩
       have hc3 : w3.cell? ⟨B, 0, none⟩ = some v := by rw [Lib.cell_of_heap HV3.out]; rfl
       have hf3 := Lib.frozen_of_heap HV3.out 0
       go_frame)
    | (rw [Oper.semAt_eq _ _ _ (fun c h => by cases h)]; go_simp; try go_bits))
  have hkeep3 : ∀ k, k < B + 7 → w3.heap[k]? = W2.heap[k]? := fun k hk => (HG3.out.block k (by simp; omega) (ownsRow_ne' HR2.out (by omega))).trans (Below.heap_alloc _ _ k (by omega))
  obtain ⟨w4, hw4⟩ : ∃ w4, w3.setCell ⟨B, 0, none⟩ (.slice (some ⟨g', 0, none⟩) (pre.length + 1) cap') = w4 := ⟨_, rfl⟩
  rw [hw4]
  have hkeep4 : ∀ k, k < B + 7 → k ≠ B → w4.heap[k]? = W2.heap[k]? := fun k hk hne => by rw [← hw4]; exact (Below.heap_setCell _ _ _ k hne).trans (hkeep3 k hk)
  have hB4 : w4.heap[B]? = some (.cells #[.slice (some ⟨g', 0, none⟩) (pre.length + 1) cap'] 37 (0, 0)) := by rw [← hw4]; exact set_one HV3.out _
  have hL4 := (hkeep4 (B + 6) (by omega) (by omega)).trans HL2.out
  have hg4 : w3.grownBy w4 (some B) := by rw [← hw4]; exact ⟨rfl, rfl, rfl, by simp [World.setCell], fun k _ hk => Below.heap_setCell _ _ _ k (fun e => hk (by rw [e]))⟩
  have hrow4 := HW3.out.kept hg4 (ownsRow_ne HW3.out (by omega))
  have hs3 : N ≤ w3.heap.size := by have := HG3.out.size; simp at this; omega
  have hs4 : N ≤ w4.heap.size := Nat.le_trans hs3 hg4.size
  have ho4 : w4.os = W.os ∧ w4.tape = W.tape ∧ w4.output = W.output := ⟨hg4.os.trans (HG3.out.os.trans HO.out.1), hg4.tape.trans (HG3.out.tape.trans HO.out.2.1), hg4.output.trans (HG3.out.output.trans HO.out.2.2)⟩
  have h := HH.out
  have hkeepW : ∀ k, k < B + 6 → k ≠ B → w4.heap[k]? = W.heap[k]? := fun k hk hne => (hkeep4 k (by omega) hne).trans (HO2.out (by omega) (by omega))
  clear hw4
  refine ⟨_, _, run_endRound none hL4, rfl, ⟨⟨_, (World.putObj_heap_other (by omega)).trans hB4, ?_⟩, (World.putObj_heap_other (by omega)).trans ((hkeepW (B + 1) (by omega) (by omega)).trans h.c3), (World.putObj_heap_other (by omega)).trans ((hkeepW (B + 2) (by omega) (by omega)).trans h.c4), World.putObj_heap_same (by omega), (World.putObj_heap_other (by omega)).trans ((hkeepW (B + 5) (by omega) (by omega)).trans h.K), ?_⟩, by simpa using hs4, fun k hk hne => (World.putObj_heap_other (by omega)).trans (hkeepW k (by omega) hne)⟩
  · have := hrow4.kept (grownBy_putObj' w4 (B + 6) (.loop { { rdRec fn s B .ready none with state := .busy } with state := if (none : Option Code).isNone then .ready else .done, pending := none })) (ownsRow_ne hrow4 (by omega))
    simpa using this
  · exact ⟨ho4.1.trans h.below.os, ho4.2.1.trans h.below.tape, ho4.2.2.trans h.below.output, by have := h.below.size; simp; omega, fun k hk => (World.putObj_heap_other (by omega)).trans ((hkeepW k (by omega) (by omega)).trans (h.below.block k hk))⟩
end Go.Proofs.YtibgigffedejpaaGreatDoor
namespace Go.Proofs.YtibgigffedejpaaGreatDoor
set_option linter.unusedVariables false
set_option linter.unusedSimpArgs false
open Go.RowKit
set_option linter.unusedVariables false
set_option linter.unusedSimpArgs false

def ReadPost (s : ByteArray) (r : List (Nat × Nat × Nat) × Option (Nat × Int)) (w : World) (e : Ending) (w' : World) : Prop :=
  match r.2 with
  | none => ∃ (v : Value) (pre : List Tk), e = .returned (.tuple #[v, .int .i64 0, .int .i64 0]) ∧ pre.map Tk.key = r.1 ∧ (∀ x ∈ pre, x.ok s) ∧ pre.length ≤ 2048 ∧ w'.ownsRow w.heap.size 43 4 v pre.length (pre.flatMap Tk.cells) ∧ Below w.heap.size w w'
  | some (p, er) => e = .returned (.tuple #[.slice none 0 0, .int .i64 p, .int .i64 er]) ∧ Below w.heap.size w w'

theorem five (w : World) (o1 o2 o3 o4 o5 : Obj) (n : Nat) (hn : w.heap.size = n) : (((((w.alloc o1).alloc o2).alloc o3).alloc o4).alloc o5).heap[n]? = some o1 ∧ (((((w.alloc o1).alloc o2).alloc o3).alloc o4).alloc o5).heap[n + 1]? = some o2 ∧ (((((w.alloc o1).alloc o2).alloc o3).alloc o4).alloc o5).heap[n + 2]? = some o3 ∧ (((((w.alloc o1).alloc o2).alloc o3).alloc o4).alloc o5).heap[n + 3]? = some o4 ∧ (((((w.alloc o1).alloc o2).alloc o3).alloc o4).alloc o5).heap[n + 4]? = some o5 := by
  subst hn
  have a1 := heap_alloc_new w o1
  have a2 := heap_alloc_new (w.alloc o1) o2
  have a3 := heap_alloc_new ((w.alloc o1).alloc o2) o3
  have a4 := heap_alloc_new (((w.alloc o1).alloc o2).alloc o3) o4
  have a5 := heap_alloc_new ((((w.alloc o1).alloc o2).alloc o3).alloc o4) o5
  simp only [World.size_alloc] at a2 a3 a4 a5
  refine ⟨?_, ?_, ?_, ?_, a5⟩
  · exact (Below.heap_alloc _ _ _ (by simp <;> omega)).trans ((Below.heap_alloc _ _ _ (by simp <;> omega)).trans ((Below.heap_alloc _ _ _ (by simp <;> omega)).trans ((Below.heap_alloc _ _ _ (by simp)).trans a1)))
  · exact (Below.heap_alloc _ _ _ (by simp <;> omega)).trans ((Below.heap_alloc _ _ _ (by simp <;> omega)).trans ((Below.heap_alloc _ _ _ (by simp)).trans a2))
  · exact (Below.heap_alloc _ _ _ (by simp <;> omega)).trans ((Below.heap_alloc _ _ _ (by simp)).trans a3)
  · exact (Below.heap_alloc _ _ _ (by simp)).trans a4

set_option maxRecDepth 100000 in
set_option maxHeartbeats 4000000 in
theorem read_c (w : World) (s : ByteArray) (hs : s.size ≤ 16384) (E : Env w) (r : List (Nat × Nat × Nat) × Option (Nat × Int)) (hr : lx s 0 0 = r) :
    Calls Tryz.prog 25 #[.string s] w (ReadPost s r w) := by
  have hmf : ∀ (fn : Fn) (first cap : Array Value) (w : World), (Instr.makeFunc fn first cap).run Tryz.prog w = .ok (.func fn first cap) w := fun _ _ _ _ => rfl
  have HR := Sd.mk hr
  clear hr
  refine (callsIn_wide (n := 3)).1 ?_
  refine callsIn_of_wp_marks Tryz.func25 rfl trivial ?_ rfl
  simp only [Tryz.ntmps25, List.size_toArray, List.length_cons, List.length_nil, Nat.reduceAdd, Nat.reduceSub, Array.replicate_succ, Array.replicate_zero, List.push_toArray, List.append_toArray, List.nil_append, List.cons_append]
  refine wpIn_wide.2 ?_
  go_wp2_with (go_at_call 46; refine (all_c _ _).mono ?_; rintro e w1 ⟨rfl, rfl⟩)
  refine (wpIn_wide (n := 3)).1 (wpIn_rangeFunc ?_)
  intro fn hfn
  obtain ⟨B, hB⟩ : ∃ B, w.heap.size = B := ⟨_, rfl⟩
  obtain ⟨W0, hW0⟩ : ∃ W0, (((((w.alloc (.cells #[.slice none 0 0] 37)).alloc (.cells #[.int .i64 0] 3)).alloc (.cells #[.int .i64 0] 26)).alloc (.cells #[.string s, .int .i64 0, .int .i64 0, .int .i64 0] 88)).alloc (.cells #[.pointer (some ⟨w.heap.size + 1 + 1 + 1, 0, none⟩)] 86)) = W0 := ⟨_, rfl⟩
  have hs0 : W0.heap.size = B + 5 := by rw [← hW0, ← hB]; simp
  have hb0 : Below B w W0 := by
    rw [← hW0, ← hB]
    exact (((((Below.refl _ w).alloc (Nat.le_refl _) _).alloc (by simp) _).alloc (by simp; omega) _).alloc (by simp; omega) _).alloc (by simp; omega) _
  obtain ⟨k0, k1, k2, k3, k4⟩ := five w (.cells #[.slice none 0 0] 37) (.cells #[.int .i64 0] 3) (.cells #[.int .i64 0] 26) (.cells #[.string s, .int .i64 0, .int .i64 0, .int .i64 0] 88) (.cells #[.pointer (some ⟨w.heap.size + 1 + 1 + 1, 0, none⟩)] 86) B hB
  rw [hW0] at k0 k1 k2 k3 k4 ⊢
  rw [hB] at k4 ⊢
  clear hW0
  obtain ⟨W1, hW1⟩ : ∃ W1, (W0.alloc (.deferred (some []))).alloc (.loop (rdRec fn s B .ready none)) = W1 := ⟨_, rfl⟩
  have hold : ∀ {k : Nat} {o : Obj}, W0.heap[k]? = some o → W1.heap[k]? = some o := fun hk => by
    have := (Array.getElem?_eq_some_iff.1 hk).1
    rw [← hW1]; exact (Below.heap_alloc _ _ _ (by simp; omega)).trans ((Below.heap_alloc _ _ _ this).trans hk)
  have hK1 : W1.heap[B + 5]? = some (.deferred (some [])) := by
    have := World.alloc_heap_new W0 (.deferred (some []))
    rw [hs0] at this
    rw [← hW1]; exact (Below.heap_alloc _ _ _ (by simp; omega)).trans this
  have hL1 : W1.heap[B + 6]? = some (.loop (rdRec fn s B .ready none)) := by
    have := World.alloc_heap_new (W0.alloc (.deferred (some []))) (.loop (rdRec fn s B .ready none))
    rw [World.size_alloc, hs0] at this
    rw [← hW1]; exact this
  have hb1 : Below B w W1 := by rw [← hW1]; exact (hb0.alloc (by omega) _).alloc (by simp; omega) _
  have hJ : RdAt w B fn s [] W1 := ⟨⟨_, hold k0, ⟨rfl, .inl ⟨rfl, rfl⟩⟩⟩, hold k1, hold k2, hL1, hK1, hb1⟩
  have hE1 : Env W1 := (Fr.of_below (g := B) (hB ▸ hb1)).env (by rw [← hB]; have := E.glob; omega) E
  have hg8 := E.glob
  rw [hB] at hg8
  have hRD : RD W1 (B + 3) s 0 0 0 := hold k3
  have hbx : W1.cell? ⟨B + 4, 0, none⟩ = some (.pointer (some ⟨B + 3, 0, none⟩)) := by rw [Lib.cell_of_heap (hold k4)]; rfl
  have hRo : Rounds (B + 6) (B + 3) (B + 4) s (RdAt w B fn s) := ⟨fun pre W W' h hf => h.fr hf, fun pre x W q f n h hlen hrd hbx hE => by
    obtain ⟨fn', tmps, assign, body, hy, hro⟩ := rdYield w B fn s pre x W h hlen
    refine ⟨fn', tmps, assign, body, hy, hro.mono ?_⟩
    rintro e W' ⟨rfl, h', hsz, hk⟩
    have hlt := (Array.getElem?_eq_some_iff.1 h.L).1
    refine ⟨rfl, h', (hk (B + 3) (by omega) (by omega)).trans hrd, ?_, ?_⟩
    · unfold World.cell? at hbx ⊢
      rw [hk (B + 4) (by omega) (by omega)]; exact hbx
    · have kc : ∀ {p : Addr} {v : Value}, p.block < B → W.cell? p = some v → W'.cell? p = some v := fun hp hc => by
        unfold World.cell? at *
        rw [hk _ (by omega) (by omega)]; exact hc
      exact ⟨⟨fun c hc => kc (by simp; omega) (hE.tabs.1 c hc), fun i hi => ⟨kc (by simp; omega) (hE.tabs.2 i hi).1, kc (by simp; omega) (hE.tabs.2 i hi).2⟩⟩, let ⟨m, hm⟩ := hE.maxl; ⟨m, kc (by simp; omega) hm⟩, Nat.le_trans hE.glob hsz⟩⟩
  refine ⟨B + 6, [{ target := .collected (B + 5), args := #[] }], W1, { target := .fn (.func 66) #[.pointer (some ⟨B + 4, 0, none⟩)], args := #[.func (.yield (B + 6)) #[] #[]] }, W1, 66, #[.func (.yield (B + 6)) #[] #[], .pointer (some ⟨B + 4, 0, none⟩)], W1, ?_, ?_, fun _ _ => trivial, ?_, (fun h => (by cases h)), ?_⟩
  · have := run_enterLoop_outer (P := Tryz.prog) (w := W0) fn (rdTmps s B undef) #[13] rdAssign rdBody
    rw [hs0] at this
    rw [← hW1]; exact this
  · simp [resolve, go_sem]
  · simp [invoke, go_sem, enters_of Tryz.func66 (by kernel_rfl) rfl]
  · refine callsIn_wide.2 ((all1_c W1 (B + 6) (B + 3) (B + 4) s 0 (RdAt w B fn s) hRD hs (by omega) (by omega) hE1 hbx hJ hRo r HR.out).mono ?_)
    rintro e W2 ⟨pre, hp1, hp2, hp3, h2, hend⟩
    cases hr2 : r.2 with
    | none =>
      rw [hr2] at hend
      simp only at hend
      subst hend
      obtain ⟨v, hv, hrow⟩ := h2.box
      have hE := run_endLoop (P := Tryz.prog) h2.L (by simp [rdRec])
      refine ⟨none, _, hE, ?_⟩
      have e3 : ∀ k, k ≠ B + 6 → (W2.putObj (B + 6) (.loop { rdRec fn s B .ready none with state := .exhausted })).heap[k]? = W2.heap[k]? := fun k hk => World.putObj_heap_other hk
      have hrow3 : (W2.putObj (B + 6) (.loop { rdRec fn s B .ready none with state := .exhausted })).ownsRow (B + 7) 43 4 v pre.length (pre.flatMap Tk.cells) := hrow.kept (grownBy_putObj' _ _ _) (ownsRow_ne hrow (by omega))
      have hb3 : Below B w (W2.putObj (B + 6) (.loop { rdRec fn s B .ready none with state := .exhausted })) := ⟨h2.below.os, h2.below.tape, h2.below.output, by simpa using h2.below.size, fun k hk => (e3 k (by omega)).trans (h2.below.block k hk)⟩
      have hv3 := (e3 B (by omega)).trans hv
      have hc3 := (e3 (B + 1) (by omega)).trans h2.c3
      have hd3 := (e3 (B + 2) (by omega)).trans h2.c4
      have hK3 := (e3 (B + 5) (by omega)).trans h2.K
      generalize W2.putObj (B + 6) (.loop { rdRec fn s B .ready none with state := .exhausted }) = W3 at hrow3 hb3 hv3 hc3 hd3 hK3 ⊢
      have x0 : W3.cell? ⟨B, 0, none⟩ = some v := by rw [Lib.cell_of_heap hv3]; rfl
      have x1 : W3.cell? ⟨B + 1, 0, none⟩ = some (.int .i64 0) := by rw [Lib.cell_of_heap hc3]; rfl
      have x2 : W3.cell? ⟨B + 1 + 1, 0, none⟩ = some (.int .i64 0) := by rw [Lib.cell_of_heap hd3]; rfl
      have z0 := Lib.frozen_of_heap hv3 0
      have z1 := Lib.frozen_of_heap hc3 0
      have z2 : W3.frozen? ⟨B + 1 + 1, 0, none⟩ = false := Lib.frozen_of_heap hd3 0
      obtain ⟨ao, nn, cc, rfl⟩ : ∃ ao nn cc, v = .slice ao nn cc := by
        rcases hrow3.2 with ⟨hv, _⟩ | ⟨g, cap, cur, hv, _⟩
        · exact ⟨_, _, _, hv⟩
        · exact ⟨_, _, _, hv⟩
      have HRow := Sd.mk hrow3
      have HB3 := Sd.mk hb3
      have HV3 := Sd.mk hv3
      have HC3 := Sd.mk hc3
      have HD3 := Sd.mk hd3
      have HK3 := Sd.mk hK3
      clear hrow3 hb3 hv3 hc3 hd3 hK3 e3 hE h2 hRo hbx hRD hE1 hJ hL1 hK1 hold hW1 k0 k1 k2 k3 k4 hv hrow
      dsimp only
      go_wp2
      have g0 : ((((W3.setCell ⟨B, 0, none⟩ (.slice ao nn cc)).setCell ⟨B + 1, 0, none⟩ (.int .i64 0)).setCell ⟨B + 1 + 1, 0, none⟩ (.int .i64 0))).heap[B]? = some (.cells #[.slice ao nn cc] 37 (0, 0)) := (Below.heap_setCell _ _ _ _ (by simp <;> omega)).trans ((Below.heap_setCell _ _ _ _ (by simp)).trans (set_one HV3.out _))
      have g1 : ((((W3.setCell ⟨B, 0, none⟩ (.slice ao nn cc)).setCell ⟨B + 1, 0, none⟩ (.int .i64 0)).setCell ⟨B + 1 + 1, 0, none⟩ (.int .i64 0))).heap[B + 1]? = some (.cells #[.int .i64 0] 3 (0, 0)) := (Below.heap_setCell _ _ _ _ (by simp)).trans (set_one ((Below.heap_setCell _ _ _ _ (by simp)).trans HC3.out) _)
      have g2 : ((((W3.setCell ⟨B, 0, none⟩ (.slice ao nn cc)).setCell ⟨B + 1, 0, none⟩ (.int .i64 0)).setCell ⟨B + 1 + 1, 0, none⟩ (.int .i64 0))).heap[B + 1 + 1]? = some (.cells #[.int .i64 0] 26 (0, 0)) := set_one ((Below.heap_setCell _ _ _ _ (by simp)).trans ((Below.heap_setCell _ _ _ _ (by simp <;> omega)).trans HD3.out)) _
      have g5 : ((((W3.setCell ⟨B, 0, none⟩ (.slice ao nn cc)).setCell ⟨B + 1, 0, none⟩ (.int .i64 0)).setCell ⟨B + 1 + 1, 0, none⟩ (.int .i64 0))).heap[B + 5]? = some (.deferred (some [])) := (Below.heap_setCell _ _ _ _ (by simp <;> omega)).trans ((Below.heap_setCell _ _ _ _ (by simp <;> omega)).trans ((Below.heap_setCell _ _ _ _ (by simp <;> omega)).trans HK3.out))
      have gb : Below B w (((W3.setCell ⟨B, 0, none⟩ (.slice ao nn cc)).setCell ⟨B + 1, 0, none⟩ (.int .i64 0)).setCell ⟨B + 1 + 1, 0, none⟩ (.int .i64 0)) := ((HB3.out.setCell (p := ⟨B, 0, none⟩) (Nat.le_refl _) _).setCell (p := ⟨B + 1, 0, none⟩) (by simp) _).setCell (p := ⟨B + 1 + 1, 0, none⟩) (by simp <;> omega) _
      have gw : ∀ (W : World) (b : Nat) (u : Value), W.grownBy (W.setCell ⟨b, 0, none⟩ u) (some b) := fun W b u => ⟨rfl, rfl, rfl, by simp [World.setCell], fun k _ hk => Below.heap_setCell _ _ _ k (fun e => hk (by rw [e]))⟩
      have gr1 := HRow.out.kept (gw W3 B (.slice ao nn cc)) (ownsRow_ne HRow.out (by omega))
      have gr2 := gr1.kept (gw _ (B + 1) (.int .i64 0)) (ownsRow_ne gr1 (by omega))
      have gr3 := gr2.kept (gw _ (B + 1 + 1) (.int .i64 0)) (ownsRow_ne gr2 (by omega))
      clear gr1 gr2 x0 x1 x2 z0 z1 z2
      generalize (((W3.setCell ⟨B, 0, none⟩ (.slice ao nn cc)).setCell ⟨B + 1, 0, none⟩ (.int .i64 0)).setCell ⟨B + 1 + 1, 0, none⟩ (.int .i64 0)) = W4 at g0 g1 g2 g5 gb gr3 ⊢
      refine ⟨by simp, .inl ⟨_, _, rfl, run_takeDeferred g5, ?_⟩⟩
      have e5 : ∀ k, k ≠ B + 5 → (W4.putObj (B + 5) (.deferred none)).heap[k]? = W4.heap[k]? := fun k hk => World.putObj_heap_other hk
      have gr5 := gr3.kept (grownBy_putObj' W4 (B + 5) (.deferred none)) (ownsRow_ne gr3 (by omega))
      have gb5 : Below B w (W4.putObj (B + 5) (.deferred none)) := ⟨gb.os, gb.tape, gb.output, by simpa using gb.size, fun k hk => (e5 k (by omega)).trans (gb.block k hk)⟩
      have g05 := (e5 B (by omega)).trans g0
      have g15 := (e5 (B + 1) (by omega)).trans g1
      have g25 := (e5 (B + 1 + 1) (by omega)).trans g2
      generalize W4.putObj (B + 5) (.deferred none) = W5 at gr5 gb5 g05 g15 g25 ⊢
      refine ⟨by simp, .inr ⟨fun h => (by cases h), _, _, 45, #[.pointer (some ⟨B, 0, none⟩), .pointer (some ⟨B + 1, 0, none⟩), .pointer (some ⟨B + 1 + 1, 0, none⟩)], rfl, by simp [invoke, go_sem, enters_of Tryz.func45 (by kernel_rfl) rfl], fun _ _ => trivial, ?_⟩⟩
      refine (catch_idle 2 B (B + 1) (B + 1 + 1) W5).mono ?_
      rintro e u' w' ⟨rfl, rfl, hb⟩
      have l0 := (hb.block B (Array.getElem?_eq_some_iff.1 g05).1).trans g05
      have l1 := (hb.block (B + 1) (Array.getElem?_eq_some_iff.1 g15).1).trans g15
      have l2 := (hb.block (B + 1 + 1) (Array.getElem?_eq_some_iff.1 g25).1).trans g25
      have y0 : w'.cell? ⟨B, 0, none⟩ = some (.slice ao nn cc) := by rw [Lib.cell_of_heap l0]; rfl
      have y1 : w'.cell? ⟨B + 1, 0, none⟩ = some (.int .i64 0) := by rw [Lib.cell_of_heap l1]; rfl
      have y2 : w'.cell? ⟨B + 1 + 1, 0, none⟩ = some (.int .i64 0) := by rw [Lib.cell_of_heap l2]; rfl
      have hfin : w'.ownsRow (B + 7) 43 4 (.slice ao nn cc) pre.length (pre.flatMap Tk.cells) := gr5.kept (row := none) ⟨hb.os, hb.tape, hb.output, hb.size, fun k hk _ => hb.block k hk⟩ (by
        rcases gr5.2 with ⟨h, _⟩ | ⟨g, cap, cur, h, _⟩ <;> rw [h] <;> simp [Value.ownBlock])
      have hfin2 : w'.ownsRow B 43 4 (.slice ao nn cc) pre.length (pre.flatMap Tk.cells) := ⟨hfin.1, hfin.2.imp id (fun ⟨g, cap, cur, h1, h2, h3⟩ => ⟨g, cap, cur, h1, by omega, h3⟩)⟩
      refine ⟨.tuple #[.slice ao nn cc, .int .i64 0, .int .i64 0], by simp [results, Tryz.results25, go_sem, y0, y1, y2], ?_⟩
      unfold ReadPost
      rw [hr2]
      exact ⟨_, pre, rfl, hp1, hp2, hp3, by rw [hB]; exact hfin2, by rw [hB]; exact gb5.trans (hb.mono (hB ▸ gb5.size))⟩
    | some q =>
      obtain ⟨p, er⟩ := q
      rw [hr2] at hend
      simp only at hend
      subst hend
      obtain ⟨v, hv, hrow⟩ := h2.box
      obtain ⟨ao, nn, cc, rfl⟩ : ∃ ao nn cc, v = .slice ao nn cc := by
        rcases hrow.2 with ⟨hv, _⟩ | ⟨g, cap, cur, hv, _⟩
        · exact ⟨_, _, _, hv⟩
        · exact ⟨_, _, _, hv⟩
      refine ⟨by simp, .inl ⟨_, _, rfl, run_takeDeferred h2.K, ?_⟩⟩
      have e5 : ∀ k, k ≠ B + 5 → (W2.putObj (B + 5) (.deferred none)).heap[k]? = W2.heap[k]? := fun k hk => World.putObj_heap_other hk
      have gb5 : Below B w (W2.putObj (B + 5) (.deferred none)) := ⟨h2.below.os, h2.below.tape, h2.below.output, by simpa using h2.below.size, fun k hk => (e5 k (by omega)).trans (h2.below.block k hk)⟩
      have g05 := (e5 B (by omega)).trans hv
      have g15 := (e5 (B + 1) (by omega)).trans h2.c3
      have g25 := (e5 (B + 1 + 1) (by omega)).trans h2.c4
      generalize W2.putObj (B + 5) (.deferred none) = W5 at gb5 g05 g15 g25 ⊢
      refine ⟨by simp, .inr ⟨fun h => (by cases h), _, _, 45, #[.pointer (some ⟨B, 0, none⟩), .pointer (some ⟨B + 1, 0, none⟩), .pointer (some ⟨B + 1 + 1, 0, none⟩)], rfl, by simp [invoke, go_sem, enters_of Tryz.func45 (by kernel_rfl) rfl], fun _ _ => trivial, ?_⟩⟩
      refine (catch_wrong 2 B B (B + 1) (B + 1 + 1) p nn cc ao 0 0 er W5 (hB ▸ gb5.size) (Nat.le_refl _) (by omega) (by omega) (by omega) (by omega) (by omega) g05 g15 g25).mono ?_
      rintro e u' w' ⟨rfl, ⟨pv, rfl⟩, hb, l0, l1, l2⟩
      have y0 : w'.cell? ⟨B, 0, none⟩ = some (.slice none 0 0) := by rw [Lib.cell_of_heap l0]; rfl
      have y1 : w'.cell? ⟨B + 1, 0, none⟩ = some (.int .i64 p) := by rw [Lib.cell_of_heap l1]; rfl
      have y2 : w'.cell? ⟨B + 1 + 1, 0, none⟩ = some (.int .i64 er) := by rw [Lib.cell_of_heap l2]; rfl
      refine ⟨.tuple #[.slice none 0 0, .int .i64 p, .int .i64 er], by simp [results, Tryz.results25, go_sem, y0, y1, y2], ?_⟩
      unfold ReadPost
      rw [hr2]
      exact ⟨rfl, by rw [hB]; exact gb5.trans hb⟩
end Go.Proofs.YtibgigffedejpaaGreatDoor
namespace Go.Proofs.YtibgigffedejpaaGreatDoor
set_option linter.unusedVariables false
set_option linter.unusedSimpArgs false
open Go.RowKit
set_option linter.unusedVariables false
set_option linter.unusedSimpArgs false

/-- What Tokens answers. -/
def toks (s : ByteArray) : List (Nat × Nat × Nat) × Option (Nat × Int) := if 16384 < s.size then ([], some (0, 54)) else lx s 0 0
theorem tokens_c (w : World) (s : ByteArray) (hs : s.size ≤ 9223372036854775807) (E : Env w) (r : List (Nat × Nat × Nat) × Option (Nat × Int)) (hr : toks s = r) :
    Calls Tryz.prog 14 #[.string s] w (ReadPost s r w) := by
  by_cases h : 16384 < s.size
  · have e1 : ((16384 : Int) < (s.size : Int)) = True := eq_true (by omega)
    unfold toks at hr
    rw [if_pos h] at hr
    subst hr
    clear h
    go_enter Tryz.func14, Tryz.ntmps14
    go_wp2
    go_ret3
    exact ⟨rfl, Below.refl _ _⟩
  · have e1 : decide ((16384 : Int) < (s.size : Int)) = false := by simp; omega
    unfold toks at hr
    rw [if_neg h] at hr
    have c1 := read_c w s (by omega) E r hr
    clear hr
    cases hr2 : r.2 with
    | none =>
      unfold ReadPost at c1 ⊢
      rw [hr2] at c1 ⊢
      simp only at c1 ⊢
      go_enter Tryz.func14, Tryz.ntmps14
      go_wp2_with (go_at_call 25; refine c1.mono ?_; rintro e w1 ⟨v, pre, rfl, h1, h2, h3, h4, h5⟩; have H1 := Sd.mk h1; have H2 := Sd.mk h2; have H4 := Sd.mk h4; have H5 := Sd.mk h5; clear h1 h2 h4 h5)
      go_ret3
      exact ⟨v, pre, rfl, H1.out, H2.out, h3, H4.out, H5.out⟩
    | some q =>
      obtain ⟨p, er⟩ := q
      unfold ReadPost at c1 ⊢
      rw [hr2] at c1 ⊢
      simp only at c1 ⊢
      go_enter Tryz.func14, Tryz.ntmps14
      go_wp2_with (go_at_call 25; refine c1.mono ?_; rintro e w1 ⟨rfl, h1⟩; have H1 := Sd.mk h1; clear h1)
      go_ret3
      exact ⟨rfl, H1.out⟩
end Go.Proofs.YtibgigffedejpaaGreatDoor
namespace Go.Proofs.YtibgigffedejpaaGreatDoor
set_option linter.unusedVariables false
set_option linter.unusedSimpArgs false
open Go.RowKit
set_option linter.unusedVariables false
set_option linter.unusedSimpArgs false

/-- A row of tokens lies at block b: the cells of ts, then what else it has room for. -/
def TL (w : World) (b : Nat) (ts : List Tk) : Prop := ∃ cur : Array Value, w.heap[b]? = some (.cells cur 43 (0, 0)) ∧ cur.toList.take (ts.length * 4) = ts.flatMap Tk.cells
/-- The parser of sdl lies at block g, over the tokens ts at block b, before token number i. -/
def PR (w : World) (g b : Nat) (n c : Nat) (i : Nat) : Prop := w.heap[g]? = some (.cells #[.slice (some ⟨b, 0, none⟩) n c, .int .i64 i] 70 (0, 0))
section
variable {w : World} {g b n c i : Nat}
theorem PR.c0 (h : PR w g b n c i) : w.cell? ⟨g, 0, none⟩ = some (.slice (some ⟨b, 0, none⟩) n c) := by rw [Lib.cell_of_heap h]; rfl
theorem PR.c1 (h : PR w g b n c i) : w.cell? ⟨g, 1, none⟩ = some (.int .i64 i) := by rw [Lib.cell_of_heap h]; rfl
theorem PR.fz (h : PR w g b n c i) (k : Nat) : w.frozen? ⟨g, k, none⟩ = false := Lib.frozen_of_heap h k
theorem PR.lt (h : PR w g b n c i) : g < w.heap.size := (Array.getElem?_eq_some_iff.1 h).1
theorem PR.drewN (h : PR w g b n c i) (m : Nat) : PR (w.drewN m) g b n c i := h
theorem PR.drew (h : PR w g b n c i) : PR w.drew g b n c i := h
theorem PR.below {w' : World} (h : PR w g b n c i) (hb : Below w.heap.size w w') : PR w' g b n c i := (hb.block g h.lt).trans h
theorem PR.set1 (h : PR w g b n c i) (j : Nat) : PR (w.setCell ⟨g, 1, none⟩ (.int .i64 j)) g b n c j := by
  unfold PR at *; simp [World.setCell, Array.getElem?_modify, h]
end
theorem flat_len : ∀ ts : List Tk, (ts.flatMap Tk.cells).length = 4 * ts.length
  | [] => rfl
  | x :: ts => by
    have := flat_len ts
    simp only [List.flatMap_cons, List.length_append, List.length_cons, this]
    simp [Tk.cells]; omega
theorem flat_get : ∀ (ts : List Tk) (j : Nat) (x : Tk) (o : Nat), ts[j]? = some x → o < 4 → (ts.flatMap Tk.cells)[4 * j + o]? = x.cells[o]?
  | [], j, x, o, h, _ => by simp at h
  | y :: ts, 0, x, o, h, ho => by
    simp at h; subst h
    have e : y.cells.length = 4 := rfl
    rw [List.flatMap_cons, List.getElem?_append_left (by simp [e]; omega)]
    simp
  | y :: ts, j + 1, x, o, h, ho => by
    have e : y.cells.length = 4 := rfl
    rw [List.flatMap_cons, List.getElem?_append_right (by rw [e]; omega), e]
    rw [show 4 * (j + 1) + o - 4 = 4 * j + o by omega]
    exact flat_get ts j x o (by simpa using h) ho
theorem TL.cell {w : World} {b : Nat} {ts : List Tk} (h : TL w b ts) {j : Nat} {x : Tk} (hx : ts[j]? = some x) {o : Nat} (ho : o < 4) {v : Value} (hv : x.cells[o]? = some v) : w.cell? ⟨b, 4 * j + o, none⟩ = some v := by
  obtain ⟨cur, hb, ht⟩ := h
  have hj := (List.getElem?_eq_some_iff.1 hx).1
  rw [Lib.cell_of_heap hb]
  have h1 : (cur.toList.take (ts.length * 4))[4 * j + o]? = some v := by rw [ht, flat_get ts j x o hx ho, hv]
  rw [List.getElem?_take, if_pos (by omega)] at h1
  simpa using h1
end Go.Proofs.YtibgigffedejpaaGreatDoor
namespace Go.Proofs.YtibgigffedejpaaGreatDoor
set_option linter.unusedVariables false
set_option linter.unusedSimpArgs false
open Go.RowKit
set_option linter.unusedVariables false
set_option linter.unusedSimpArgs false

/-- The panic of sdl's parser. -/
def wrS (a : Nat) : List PanicEntry := [{ v := .iface 66 (.agg #[.int .i64 a]), recovered := false }]
theorem must47_t (w : World) (g : Nat) :
    Calls Tryz.prog 47 #[.pointer (some ⟨g, 0, none⟩), .bool true] w fun e w' => e = .returned (.tuple #[]) ∧ w' = w := by
  go_enter Tryz.func47, Tryz.ntmps47
  go_wp2
  go_end0
  exact ⟨rfl, rfl⟩
set_option maxRecDepth 100000 in
set_option maxHeartbeats 1000000 in
theorem must47_f (w : World) (g b n c i : Nat) (ts : List Tk) (x : Tk) (h : PR w g b n c i) (ht : TL w b ts) (hi : ts[i]? = some x) (hn : ts.length = n) :
    Calls Tryz.prog 47 #[.pointer (some ⟨g, 0, none⟩), .bool false] w fun e w' => e = .panicked (wrS x.i) ∧ Dr w w' := by
  have h0 := h.c0
  have h1 := h.c1
  have hx := ht.cell hi (o := 2) (by decide) rfl
  have hlt := (List.getElem?_eq_some_iff.1 hi).1
  have p1 : (0 ≤ (i : Int)) = True := eq_true (by omega)
  have p2 : ((i : Int) < (n : Int)) = True := eq_true (by omega)
  have hm : i * 4 = 4 * i := Nat.mul_comm _ _
  clear h ht hi
  go_enter Tryz.func47, Tryz.ntmps47
  go_wp2
  refine region_loud_lit (by kernel_rfl) (by kernel_rfl) (fun _ _ d _ _ h => by cases d <;> exact h) ?_
  dsimp only [dropZ, lastZ]
  repeat (go_big_quiet_step (fail))
  refine wpQuiet_nil ?_
  refine loud_end (by rfl) (fun n' => ?_)
  go_simp
  exact ⟨rfl, rfl, ⟨⟨n', rfl⟩⟩⟩
end Go.Proofs.YtibgigffedejpaaGreatDoor
namespace Go.Proofs.YtibgigffedejpaaGreatDoor
set_option linter.unusedVariables false
set_option linter.unusedSimpArgs false
open Go.RowKit
set_option linter.unusedVariables false
set_option linter.unusedSimpArgs false

theorem text_ne {a b : ByteArray} (h : ¬ a = b) : (a.toList == b.toList) = false := by
  rw [beq_eq_false_iff_ne, ByteArray.toList_eq, ByteArray.toList_eq]
  intro e
  refine h ?_
  cases a; cases b
  congr 1
  exact Array.toList_inj.1 e

set_option maxRecDepth 100000 in
set_option maxHeartbeats 1000000 in
theorem skip27_c (w : World) (g b n c i : Nat) (ts : List Tk) (x : Tk) (kind : Int) (s : ByteArray) (h : PR w g b n c i) (ht : TL w b ts) (hi : ts[i]? = some x) (hn : ts.length = n) (hnb : n ≤ 100000) (hbg : b ≠ g) (hk : ((x.k : Int) == kind) = true) (hs : x.t = s) :
    Calls Tryz.prog 27 #[.pointer (some ⟨g, 0, none⟩), .int .i64 kind, .string s] w fun e w' => e = .returned (.bool true) ∧ PR w' g b n c (i + 1) ∧ Fr g w w' := by
  have h0 := h.c0
  have h1 := h.c1
  have f1 := h.fz 1
  have c0 := ht.cell hi (o := 0) (by decide) rfl
  have c1 := ht.cell hi (o := 1) (by decide) rfl
  have c2 := ht.cell hi (o := 2) (by decide) rfl
  have c3 := ht.cell hi (o := 3) (by decide) rfl
  simp only [Nat.add_zero] at c0
  have hlt := (List.getElem?_eq_some_iff.1 hi).1
  have p1 : (0 ≤ (i : Int)) = True := eq_true (by omega)
  have p2 : ((i : Int) < (n : Int)) = True := eq_true (by omega)
  have hm : i * 4 = 4 * i := Nat.mul_comm _ _
  have hib : (i : Int) ≤ 100000 := by omega
  have hgl := h.lt
  have ka : ∀ {p : Addr} {v : Value}, w.cell? p = some v → (w.alloc (.cells #[.int .i64 0, .string ⟨#[]⟩, .int .i64 0, .int .i64 0] 43)).cell? p = some v := fun hc => below_cell ((Below.refl _ w).alloc (Nat.le_refl _) _) (by
      refine Nat.lt_of_not_le fun hl => ?_
      unfold World.cell? at hc
      rw [Array.getElem?_eq_none hl] at hc; cases hc) hc
  have a0 := ka h0
  have a1 := ka h1
  have d0 := ka c0
  have d1 := ka c1
  have d2 := ka c2
  have d3 := ka c3
  have H := Sd.mk h
  clear h ht hi ka
  go_enter Tryz.func27, Tryz.ntmps27
  go_upto_region 1 with (fail)
  go_region
  clear h0 h1 f1 c0 c1 c2 c3 a0 a1 d0 d1 d2 d3
  have H1 : Sd (PR (w.alloc (.cells #[.int .i64 x.k, .string s, .int .i64 x.i, .int .i64 x.j] 43)).drew g b n c i) := ⟨(H.out.below ((Below.refl _ w).alloc (Nat.le_refl _) _)).drew⟩
  have HF1 : Sd (Fr g w (w.alloc (.cells #[.int .i64 x.k, .string s, .int .i64 x.i, .int .i64 x.j] 43)).drew) := ⟨((Fr.refl g w).alloc _).drew⟩
  have HT1 : Sd (TC (w.alloc (.cells #[.int .i64 x.k, .string s, .int .i64 x.i, .int .i64 x.j] 43)).drew w.heap.size x.k s x.i x.j) := ⟨heap_alloc_new w _⟩
  generalize (w.alloc (.cells #[.int .i64 x.k, .string s, .int .i64 x.i, .int .i64 x.j] 43)).drew = w1 at H1 HF1 HT1 ⊢
  have h1 := H1.out.c1
  have f1 := H1.out.fz 1
  have t0 := HT1.out.c0
  have t1 := HT1.out.c1
  go_wp2
  go_ret
  exact ⟨rfl, H1.out.set1 (i + 1), HF1.out.setCell (.inl rfl) _⟩
set_option maxRecDepth 100000 in
set_option maxHeartbeats 1000000 in
theorem skip27_k (w : World) (g b n c i : Nat) (ts : List Tk) (x : Tk) (kind : Int) (s : ByteArray) (h : PR w g b n c i) (ht : TL w b ts) (hi : ts[i]? = some x) (hn : ts.length = n) (hnb : n ≤ 100000) (hbg : b ≠ g) (hk : ((x.k : Int) == kind) = false) :
    Calls Tryz.prog 27 #[.pointer (some ⟨g, 0, none⟩), .int .i64 kind, .string s] w fun e w' => e = .returned (.bool false) ∧ PR w' g b n c i ∧ Fr g w w' := by
  have h0 := h.c0
  have h1 := h.c1
  have f1 := h.fz 1
  have c0 := ht.cell hi (o := 0) (by decide) rfl
  have c1 := ht.cell hi (o := 1) (by decide) rfl
  have c2 := ht.cell hi (o := 2) (by decide) rfl
  have c3 := ht.cell hi (o := 3) (by decide) rfl
  simp only [Nat.add_zero] at c0
  have hlt := (List.getElem?_eq_some_iff.1 hi).1
  have p1 : (0 ≤ (i : Int)) = True := eq_true (by omega)
  have p2 : ((i : Int) < (n : Int)) = True := eq_true (by omega)
  have hm : i * 4 = 4 * i := Nat.mul_comm _ _
  have hib : (i : Int) ≤ 100000 := by omega
  have hgl := h.lt
  have ka : ∀ {p : Addr} {v : Value}, w.cell? p = some v → (w.alloc (.cells #[.int .i64 0, .string ⟨#[]⟩, .int .i64 0, .int .i64 0] 43)).cell? p = some v := fun hc => below_cell ((Below.refl _ w).alloc (Nat.le_refl _) _) (by
      refine Nat.lt_of_not_le fun hl => ?_
      unfold World.cell? at hc
      rw [Array.getElem?_eq_none hl] at hc; cases hc) hc
  have a0 := ka h0
  have a1 := ka h1
  have d0 := ka c0
  have d1 := ka c1
  have d2 := ka c2
  have d3 := ka c3
  have H := Sd.mk h
  clear h ht hi ka
  go_enter Tryz.func27, Tryz.ntmps27
  go_upto_region 1 with (fail)
  go_region
  clear h0 h1 f1 c0 c1 c2 c3 a0 a1 d0 d1 d2 d3
  have H1 : Sd (PR (w.alloc (.cells #[.int .i64 x.k, .string x.t, .int .i64 x.i, .int .i64 x.j] 43)).drew g b n c i) := ⟨(H.out.below ((Below.refl _ w).alloc (Nat.le_refl _) _)).drew⟩
  have HF1 : Sd (Fr g w (w.alloc (.cells #[.int .i64 x.k, .string x.t, .int .i64 x.i, .int .i64 x.j] 43)).drew) := ⟨((Fr.refl g w).alloc _).drew⟩
  have HT1 : Sd (TC (w.alloc (.cells #[.int .i64 x.k, .string x.t, .int .i64 x.i, .int .i64 x.j] 43)).drew w.heap.size x.k x.t x.i x.j) := ⟨heap_alloc_new w _⟩
  generalize (w.alloc (.cells #[.int .i64 x.k, .string x.t, .int .i64 x.i, .int .i64 x.j] 43)).drew = w1 at H1 HF1 HT1 ⊢
  have h1 := H1.out.c1
  have f1 := H1.out.fz 1
  have t0 := HT1.out.c0
  have t1 := HT1.out.c1
  go_wp2
  go_ret
  exact ⟨rfl, H1.out, HF1.out⟩
set_option maxRecDepth 100000 in
set_option maxHeartbeats 1000000 in
theorem skip27_s (w : World) (g b n c i : Nat) (ts : List Tk) (x : Tk) (kind : Int) (s : ByteArray) (h : PR w g b n c i) (ht : TL w b ts) (hi : ts[i]? = some x) (hn : ts.length = n) (hnb : n ≤ 100000) (hbg : b ≠ g) (hk : ((x.k : Int) == kind) = true) (hs : ¬ x.t = s) :
    Calls Tryz.prog 27 #[.pointer (some ⟨g, 0, none⟩), .int .i64 kind, .string s] w fun e w' => e = .returned (.bool false) ∧ PR w' g b n c i ∧ Fr g w w' := by
  have hq := text_ne hs
  clear hs
  have h0 := h.c0
  have h1 := h.c1
  have f1 := h.fz 1
  have c0 := ht.cell hi (o := 0) (by decide) rfl
  have c1 := ht.cell hi (o := 1) (by decide) rfl
  have c2 := ht.cell hi (o := 2) (by decide) rfl
  have c3 := ht.cell hi (o := 3) (by decide) rfl
  simp only [Nat.add_zero] at c0
  have hlt := (List.getElem?_eq_some_iff.1 hi).1
  have p1 : (0 ≤ (i : Int)) = True := eq_true (by omega)
  have p2 : ((i : Int) < (n : Int)) = True := eq_true (by omega)
  have hm : i * 4 = 4 * i := Nat.mul_comm _ _
  have hib : (i : Int) ≤ 100000 := by omega
  have hgl := h.lt
  have ka : ∀ {p : Addr} {v : Value}, w.cell? p = some v → (w.alloc (.cells #[.int .i64 0, .string ⟨#[]⟩, .int .i64 0, .int .i64 0] 43)).cell? p = some v := fun hc => below_cell ((Below.refl _ w).alloc (Nat.le_refl _) _) (by
      refine Nat.lt_of_not_le fun hl => ?_
      unfold World.cell? at hc
      rw [Array.getElem?_eq_none hl] at hc; cases hc) hc
  have a0 := ka h0
  have a1 := ka h1
  have d0 := ka c0
  have d1 := ka c1
  have d2 := ka c2
  have d3 := ka c3
  have H := Sd.mk h
  clear h ht hi ka
  go_enter Tryz.func27, Tryz.ntmps27
  go_upto_region 1 with (fail)
  go_region
  clear h0 h1 f1 c0 c1 c2 c3 a0 a1 d0 d1 d2 d3
  have H1 : Sd (PR (w.alloc (.cells #[.int .i64 x.k, .string x.t, .int .i64 x.i, .int .i64 x.j] 43)).drew g b n c i) := ⟨(H.out.below ((Below.refl _ w).alloc (Nat.le_refl _) _)).drew⟩
  have HF1 : Sd (Fr g w (w.alloc (.cells #[.int .i64 x.k, .string x.t, .int .i64 x.i, .int .i64 x.j] 43)).drew) := ⟨((Fr.refl g w).alloc _).drew⟩
  have HT1 : Sd (TC (w.alloc (.cells #[.int .i64 x.k, .string x.t, .int .i64 x.i, .int .i64 x.j] 43)).drew w.heap.size x.k x.t x.i x.j) := ⟨heap_alloc_new w _⟩
  generalize (w.alloc (.cells #[.int .i64 x.k, .string x.t, .int .i64 x.i, .int .i64 x.j] 43)).drew = w1 at H1 HF1 HT1 ⊢
  have h1 := H1.out.c1
  have f1 := H1.out.fz 1
  have t0 := HT1.out.c0
  have t1 := HT1.out.c1
  go_wp2
  go_ret
  exact ⟨rfl, H1.out, HF1.out⟩
end Go.Proofs.YtibgigffedejpaaGreatDoor
