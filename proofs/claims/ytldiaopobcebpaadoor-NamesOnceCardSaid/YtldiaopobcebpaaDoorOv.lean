/- what the two listed variables hold, as the walks want it; a start in which they hold it (own work, after the guide's worked rows). -/
import Derived.Test.YtldiaopobcebpaaDoorRows
import Derived.Test.YtldiaopobcebpaaDoorM5
import Derived.Test.YtldiaopobcebpaaDoorM10
import Derived.Lib.LaidTab
import Derived.ProofKit
import Derived.LaidLaws
import Derived.Handed
import Derived.KernelRfl
namespace Go.Proofs.YtldiaopobcebpaaDoor.door
open Go.ChangeShapes Go.WideShapes Go.ChangeAt Go.RowKit
set_option linter.unusedVariables false
set_option linter.unusedSimpArgs false
theorem own : ownKnob Tryd.prog.godebug = none := by kernel_rfl
abbrev laidL : List (String × DataW Unit) := [("unicode.White_Space", Rows.laid_unicode_White_Space), ("strings.asciiSpace", Rows.laid_strings_asciiSpace)]
def tabI : List Int := List.replicate 9 0 ++ (List.replicate 5 1 ++ (List.replicate 18 0 ++ (1 :: List.replicate 223 0)))
theorem tab_eq : (Rows.laid_strings_asciiSpace : DataW Unit) = Lib.tabData .u8 tabI := by kernel_rfl
theorem tbl_eq : sy.tbl = tabI.map fun z => Go.AM.AV.int .u8 z := by kernel_rfl
noncomputable def laidWorld (os : Os) : World :=
  let N := (World.settled Tryd.prog os).heap.size
  let w0 := World.holding Tryd.prog os ⟨#[.cells #[.int .u16 9, .int .u16 13, .int .u16 1, .int .u16 32, .int .u16 133, .int .u16 101, .int .u16 160, .int .u16 5760, .int .u16 5600, .int .u16 8192, .int .u16 8202, .int .u16 1, .int .u16 8232, .int .u16 8233, .int .u16 1, .int .u16 8239, .int .u16 8287, .int .u16 48, .int .u16 12288, .int .u16 12288, .int .u16 1] 86, .cells #[.slice (some ⟨N, 0, none⟩) 7 7, .slice none 0 0, .int .i64 2] 83], #[], []⟩
  let put (h : Array Obj) (g : Nat) (cs : Array Value) : Array Obj := h.modify g fun
    | .cells _ t frozen => .cells cs t frozen
    | o => o
  let h1 := put w0.heap 0 (tabI.map fun z => Value.int .u8 z).toArray
  let h2 := put h1 1 #[.pointer (some ⟨N + 1, 0, none⟩)]
  { w0 with heap := h2 }
set_option maxRecDepth 100000 in
theorem laid_met (os : Os) (args : Array Value) : laidMet Tryd.prog laidL ((laidWorld os).forCall (fun _ _ => 0) ⟨#[], args, []⟩).memory :=
  laidMet_of_run' 10 (by kernel_rfl) (by kernel_rfl)
theorem gN : Tryd.prog.globalNamed "strings.asciiSpace" = some 0 := by kernel_rfl
theorem gType : (Tryd.prog.globals[0]?).map (·.type) = some 64 := by kernel_rfl
theorem tab_cells {W : World} (h : laidMet Tryd.prog laidL W) : ∀ j, W.cell? ⟨0, j, none⟩ = (tabI.map fun z => Value.int .u8 z)[j]? := by
  obtain ⟨ps, ⟨g1, t1, cs1, fuel1, p1, q1, _, _, _, _, hrest, _⟩, _⟩ := h
  obtain ⟨g, t, cs, fuel, p, q, hg, ht, hvar, hd, _, _⟩ := hrest
  obtain rfl := Option.some.inj (gN.symm.trans hg)
  obtain rfl := Option.some.inj (gType.symm.trans ht)
  rw [tab_eq] at hd
  have hc := Lib.cells_of_tab Tryd.underlying64 Tryd.underlying5 (by kernel_rfl) (by kernel_rfl) hd
  intro j
  rw [World.var?_cell hg hvar j, ← hc]
  simp
theorem relT {W : World} (h : laidMet Tryd.prog laidL W) : Go.AM.Rel (sy.kn sy.gT W.heap.size W).c W.heap.size W Go.AM.pl0 [] W where
  below := Below.refl _ _
  size := Nat.le_refl _
  own := fun i o h => by simp [Go.AM.hat] at h
  inj := fun i j o o' p q h => by simp [Go.AM.hat] at h
  ext := fun path cells hp => by
    have hp : sy.gT path = some cells := hp
    unfold sy.gT at hp
    split at hp
    · cases hp
      refine ⟨⟨0, 0, 0⟩, rfl, ?_, fun j v hj => ?_⟩
      · have h0 := tab_cells h 0
        have : W.cell? ⟨0, 0, none⟩ = some (.int .u8 0) := h0
        exact World.block_lt_of_cell? W _ this
      · rw [tbl_eq, List.getElem?_map, Option.map_eq_some_iff] at hj
        obtain ⟨z, hz, rfl⟩ := hj
        have h1 := tab_cells h j
        rw [List.getElem?_map, hz] at h1
        refine ⟨.int .u8 z, ?_, rfl, rfl⟩
        rw [show 0 + j = j by omega]
        exact h1
    · cases hp
  glob := fun g => ⟨0, rfl⟩
theorem witRef {H : Type} {enc : TypeId × Value → H} {C : Checked} {os : Os} {f : FuncId} {fn : Func} {s : ChangeSpec} {conds : List PathCond} {apart : Bool} {X : World → Array Value → Prop} (modest : Bool) (w0 : World) (args : Array Value) (fuel : Nat) (hos : w0.os = os)
    (hv : (w0.forCall (fun _ _ => 0) ⟨#[], args, []⟩).variablesRefB C.prog = true)
    (hr : ((w0.forCall (fun _ _ => 0) ⟨#[], args, []⟩).heap.toList.drop C.prog.globals.size).take ((begin C.prog (fun _ _ => 0) default).world.heap.size - C.prog.globals.size) =
      (begin C.prog (fun _ _ => 0) default).world.heap.toList.drop C.prog.globals.size)
    (hok : Input.okWideB C.prog (w0.forCall (fun _ _ => 0) ⟨#[], args, []⟩) f ⟨#[], args, []⟩ = true)
    (hpre : s.preB enc C.prog fn conds apart (w0.forCall (fun _ _ => 0) ⟨#[], args, []⟩).memory args fuel = true)
    (hsz : s.sizedB enc C.prog fn apart (w0.forCall (fun _ _ => 0) ⟨#[], args, []⟩).memory args fuel = true)
    (hx : X (w0.forCall (fun _ _ => 0) ⟨#[], args, []⟩).memory args) :
    ∃ (w : World) (tape : Tape) (i : Input), w.os = os ∧ (w.forCall tape i).Shaped C.prog ∧ i.vars = [] ∧ Input.okWide C.prog (w.forCall tape i) .any w.heap.size f i ∧
      ((s.pre enc C.prog fn conds apart (w.forCall tape i).memory i.args ∧ X (w.forCall tape i).memory i.args) ∧ sizedMet enc C.prog fn (OpenSpec.ofChange s) apart (w.forCall tape i).memory i.args) ∧ ({ modest := modest } : Assume).holds C.prog (lone (Frame.enter C.prog f i.args .normal) [] (w.forCall tape i)) :=
  ⟨w0, fun _ _ => 0, ⟨#[], args, []⟩, hos, World.shaped_of_RefB hv hr, (Input.okWide_of_okWideB (base := 0) hok).1, (Input.okWide_of_okWideB hok).2, ⟨⟨ChangeSpec.pre_of_preB hpre, hx⟩, sizedMet_of_sizedB hsz⟩, by
    simp only [Assume.holds]
    exact ⟨by simp, by simp, fun _ => Modest.zero, by simp, by simp⟩⟩
end Go.Proofs.YtldiaopobcebpaaDoor.door
