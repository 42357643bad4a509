/- The machine's own functions math/bits.Add64 and Sub64, which have no text: what they tell, and how a walk meets them. -/
import Derived.Test.YthkjmhngmpdngaaGreatProg
import Derived.Laws.Externs
import Derived.Sort.EveryDepth
import Derived.Shelf.SortM.So_math_bits_Len64In
import Derived.Ground.SlgmProg
import Derived.Shelf.LaySoft
import Derived.KernelRfl
import Derived.Below
import Derived.Test.YthkjmhngmpdngaaGreatSLast
import Derived.Test.YthkjmhngmpdngaaGreatSMore
import Derived.Test.YthkjmhngmpdngaaGreatSRepsOne
import Derived.Test.YthkjmhngmpdngaaGreatSTab
import Derived.Test.YthkjmhngmpdngaaGreatSWords
namespace Go.Proofs.YthkjmhngmpdngaaGreat
open Go.Shelf Go.RowKit Go.Proofs.YthkjmhngmpdngaaGreatW.PrintWords Go.Proofs.YthkjmhngmpdngaaGreatW.PrintLast Go.Proofs.YthkjmhngmpdngaaGreatW.PrintMore
set_option linter.unusedVariables false
def lenA_ren : Go.Shelf.Ren := ⟨fun | 20 => 84 | n => n, fun | 46 => 128 | 3 => 3 | 4 => 4 | 32 => 109 | 5 => 5 | 9 => 9 | n => n, fun | n => n⟩
theorem lenA : Go.Proofs.SlLaysM.n20 Tryz.prog lenA_ren := {
  mixed := by kernel_rfl
  f20 := Tryz.func84.trans (congrArg some (by kernel_rfl))
  t3 := Tryz.underlying3
  a3 := Tryz.isAgg3
  z3 := Tryz.sizeOf3
  v3 := Tryz.zeroValue3
  t4 := Tryz.underlying4
  a4 := Tryz.isAgg4
  z4 := Tryz.sizeOf4
  v4 := Tryz.zeroValue4
  t5 := Tryz.underlying5
  a5 := Tryz.isAgg5
  z5 := Tryz.sizeOf5
  v5 := Tryz.zeroValue5
  t9 := Tryz.underlying9
  a9 := Tryz.isAgg9
  z9 := Tryz.sizeOf9
  v9 := Tryz.zeroValue9
  t32 := Tryz.underlying109
  a32 := Tryz.isAgg109
  z32 := Tryz.sizeOf109
  v32 := Tryz.zeroValue109
  t46 := Tryz.underlying128
  a46 := Tryz.isAgg128
  z46 := Tryz.sizeOf128
  v46 := Tryz.zeroValue128 }

/-- A function without a text tells a value, and the world is as it was. -/
def ExtCalls (P : Program) (f : FuncId) (args : Array Value) (w : World) (Q : Ending → World → Prop) : Prop :=
  ∃ v, (callFunc f args).run P w = .ok (.value v) w ∧ Q (.returned v) w
theorem ExtCalls.mono {P : Program} {f : FuncId} {args : Array Value} {w : World} {Q Q' : Ending → World → Prop} (h : ExtCalls P f args w Q) (k : ∀ e w', Q e w' → Q' e w') : ExtCalls P f args w Q' := by
  obtain ⟨v, h1, h2⟩ := h
  exact ⟨v, h1, k _ _ h2⟩
section
variable {P : Program} {ops : Array Oper} {Q : Exit → Act → World → Prop}
theorem goesX_ {rest : List Oper} {oi : Oper} {a : Act} {w : World} (N : Option Tmp) (hd : oi.dst = N) (hg : oi.guard = none) {f : FuncId} {qs : Array Operand} {ts : Array TypeId} (args : Array Value)
    (hop : oi.op = .call { callee := .value (.func f), args := qs, argTypes := ts }) (hargs : qs.map a.eval = args)
    (h : ExtCalls P f args w fun e w' => ∃ v, e = .returned v ∧ wpList P ops Q rest (a.put N v) w') : wpList P ops Q (oi :: rest) a w := by
  refine wpList_plain hg fun K hK => ?_
  obtain ⟨v, he, v', hv, hk⟩ := h
  cases hv
  have hrun : (execOp a.eval oi).run P w = .ok (.value v) w := by
    unfold execOp
    simp [hop, resolve, Deferred.ofValue, invoke, Act.eval, hargs, he]
  subst hd
  unfold Oper.wp
  rw [hrun]
  exact hK _ _ hk
end
theorem no_next : Extern.allNextRows.lookup "" = none := by kernel_rfl
theorem no_next_add : Extern.allNextRows.lookup "math/bits.Add64" = none := by kernel_rfl
theorem no_next_sub : Extern.allNextRows.lookup "math/bits.Sub64" = none := by kernel_rfl
theorem no_gen_add : Extern.allGenericRows.lookup "math/bits.Add64" = none := by kernel_rfl
theorem no_gen_sub : Extern.allGenericRows.lookup "math/bits.Sub64" = none := by kernel_rfl
theorem no_typ_add : Extern.allTypedRows.lookup "math/bits.Add64" = none := by kernel_rfl
theorem no_typ_sub : Extern.allTypedRows.lookup "math/bits.Sub64" = none := by kernel_rfl
/-- what stands in for math/bits.Sub64 -/
def subEntry : Array Value → Sem Value := fun args => do
  let (x, y, b) ← Extern.MathBitsCarry.three "Sub64" args
  pure (Extern.MathBitsCarry.pair ((x + Extern.MathBitsCarry.m64 - y - b) % Extern.MathBitsCarry.m64) (if x < y + b then 1 else 0))
theorem row_add : Extern.allRows.lookup "math/bits.Add64" = some add64Entry := by kernel_rfl
theorem row_sub : Extern.allRows.lookup "math/bits.Sub64" = some subEntry := by kernel_rfl
theorem run_subEntry {P : Program} (x y b : Nat) (hb : b ≤ 1) (w : World) :
    (subEntry #[.int .u64 x, .int .u64 y, .int .u64 b]).run P w =
      .ok (.tuple #[.int .u64 (((x + 18446744073709551616 - y - b) % 18446744073709551616 : Nat) : Int), .int .u64 ((if x < y + b then 1 else 0 : Nat) : Int)]) w := by
  have : b = 0 ∨ b = 1 := by omega
  rcases this with rfl | rfl <;> rfl
def U64 (x : Int) : Prop := 0 ≤ x ∧ x < 18446744073709551616
instance (x : Int) : Decidable (U64 x) := inferInstanceAs (Decidable (_ ∧ _))
/-- A sum with a carry; a difference with a borrow. -/
def add64 (a0 a1 a2 : Int) : Option (Int × Int) := if 0 ≤ a0 ∧ 0 ≤ a1 ∧ 0 ≤ a2 ∧ a2 ≤ 1 then some ((a0 + a1 + a2) % 18446744073709551616, (a0 + a1 + a2) / 18446744073709551616) else none
def sub64 (a0 a1 a2 : Int) : Option (Int × Int) := if U64 a0 ∧ U64 a1 ∧ 0 ≤ a2 ∧ a2 ≤ 1 then some ((a0 - a1 - a2) % 18446744073709551616, if a0 < a1 + a2 then 1 else 0) else none
theorem add64_ext {P : Program} {f : FuncId} {fn : Func} (hf : P.funcs[f]? = some fn) (hn : fn.name = "math/bits.Add64") (ho : fn.origin = "") (hb : fn.body.isNone = true) {a0 a1 a2 r1 r2 : Int} (w : World) (h : add64 a0 a1 a2 = some (r1, r2)) :
    ExtCalls P f #[.int .u64 a0, .int .u64 a1, .int .u64 a2] w fun e w' => e = .returned (.tuple #[.int .u64 r1, .int .u64 r2]) ∧ Drawn0 w w' := by
  unfold add64 at h
  split at h
  · rename_i hc
    cases h
    refine ⟨_, ?_, rfl, Drawn0.refl _⟩
    rw [run_callFunc_extern hf (by rw [hn]; rfl) hb (by simp [Extern.findNext, hn, ho, no_next, no_next_add]) (e := add64Entry) (by simp [Extern.find, hn, row_add, no_gen_add, no_typ_add])]
    rw [run_add64 a0 a1 a2 hc.1 hc.2.1 hc.2.2.1 hc.2.2.2 w]
    rfl
  · cases h
theorem sub64_ext {P : Program} {f : FuncId} {fn : Func} (hf : P.funcs[f]? = some fn) (hn : fn.name = "math/bits.Sub64") (ho : fn.origin = "") (hb : fn.body.isNone = true) {a0 a1 a2 r1 r2 : Int} (w : World) (h : sub64 a0 a1 a2 = some (r1, r2)) :
    ExtCalls P f #[.int .u64 a0, .int .u64 a1, .int .u64 a2] w fun e w' => e = .returned (.tuple #[.int .u64 r1, .int .u64 r2]) ∧ Drawn0 w w' := by
  unfold sub64 at h
  split at h
  · rename_i hc
    cases h
    obtain ⟨⟨h1, h2⟩, ⟨h3, h4⟩, h5, h6⟩ := hc
    obtain ⟨x, rfl⟩ := Int.eq_ofNat_of_zero_le h1
    obtain ⟨y, rfl⟩ := Int.eq_ofNat_of_zero_le h3
    obtain ⟨b, rfl⟩ := Int.eq_ofNat_of_zero_le h5
    refine ⟨_, ?_, rfl, Drawn0.refl _⟩
    rw [run_callFunc_extern hf (by rw [hn]; rfl) hb (by simp [Extern.findNext, hn, ho, no_next, no_next_sub]) (e := subEntry) (by simp [Extern.find, hn, row_sub, no_gen_sub, no_typ_sub])]
    have e1 : (((x + 18446744073709551616 - y - b) % 18446744073709551616 : Nat) : Int) = ((x : Int) - y - b) % 18446744073709551616 := by omega
    have e2 : ((if x < y + b then 1 else 0 : Nat) : Int) = if (x : Int) < y + b then 1 else 0 := by split <;> split <;> omega
    have hr := run_subEntry (P := P) x y b (by omega) w
    rw [e1, e2] at hr
    rw [hr]
    rfl
  · cases h
/-- bits.Len64, by the shelf's contract. -/
def len64 (a0 : Int) : Option Int := if 0 ≤ a0 ∧ a0 ≤ 18446744073709551615 then some (Go.Lib.bitLen a0.toNat : Nat) else none
theorem len64_calls {a0 r : Int} (w : World) (h : len64 a0 = some r) : Calls Tryz.prog 84 #[.int .u64 a0] w fun e w' => e = .returned (.int .i64 r) ∧ Drawn0 w w' := by
  unfold len64 at h
  split at h
  · rename_i hc
    cases h
    refine Calls.mono (Go.calls_of_every_depth fun D => AnySM.bits_Len64In lenA D a0 w hc.1 hc.2) ?_
    rintro e w' ⟨rfl, rfl⟩
    exact ⟨rfl, Drawn0.refl _⟩
  · cases h
end Go.Proofs.YthkjmhngmpdngaaGreat
