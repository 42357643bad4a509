/- sync.Once, its lock and its mark, in the model's own words (own work, after the guide's worked texts on a lazily made value). -/
import Derived.Test.YtldiaopobcebpaaDoorM4
import Derived.Test.YtldiaopobcebpaaDoorM5
import Derived.Test.YtldiaopobcebpaaDoorM5
import Derived.Tactics
import Derived.Tactics2
import Derived.Defers
import Derived.Laws.Pointers
import Derived.Laws.LoneSync
import Derived.RegionTactic
import Derived.RegionCalls
import Derived.ChangeAlike
import Derived.WalkKit
namespace Go.Proofs.YtldiaopobcebpaaDoor.sy
open Go.AM Go.RowKit
set_option linter.unusedSimpArgs false
set_option linter.unusedVariables false
theorem on_disable (w : World) : (callFunc 40 #[]).run Tryd.prog w = .ok (.value (.tuple #[])) w := run_call_mark0 Tryd.func40 (by kernel_rfl) (by kernel_rfl) (by kernel_rfl) .disable (by kernel_rfl) w
theorem on_enable (w : World) : (callFunc 42 #[]).run Tryd.prog w = .ok (.value (.tuple #[])) w := run_call_mark0 Tryd.func42 (by kernel_rfl) (by kernel_rfl) (by kernel_rfl) .enable (by kernel_rfl) w
theorem on_acquire (a : Addr) (w : World) : (callFunc 43 #[.pointer (some a)]).run Tryd.prog w = .ok (.value (.tuple #[])) w := run_call_marked Tryd.func43 (by kernel_rfl) (by kernel_rfl) (by kernel_rfl) .acquire (by kernel_rfl) a w
theorem on_releaseMerge (a : Addr) (w : World) : (callFunc 45 #[.pointer (some a)]).run Tryd.prog w = .ok (.value (.tuple #[])) w := run_call_marked Tryd.func45 (by kernel_rfl) (by kernel_rfl) (by kernel_rfl) .releaseMerge (by kernel_rfl) a w
set_option maxRecDepth 100000 in
set_option maxHeartbeats 1600000 in
theorem on_store (a : Addr) (x : Value) (u : FrameMode) (w : World) (hc : w.cell? a = some x) (hz : w.frozen? a = false) :
    CallsD Tryd.prog 32 #[.pointer (some a), .bool true] u w fun e u' w' => u' = u ∧ (e = .returned (.tuple #[]) ∧ w' = w.drew.setCell a (.int .u32 1)) := by
  have hc' : w.drew.cell? a = some x := by go_simp
  have hz' : w.drew.frozen? a = false := by go_simp
  have hst := run_call_store (P := Tryd.prog) Tryd.func36 (by kernel_rfl) (by kernel_rfl) (by kernel_rfl) (by kernel_rfl) (k := .u32) (y := 1) hc' hz'
  go_enter_d Tryd.func32, Tryd.ntmps32
  go_wp2
  go_region_calls
  all_goals (go_end0; exact ⟨rfl, rfl⟩)
set_option maxRecDepth 100000 in
set_option maxHeartbeats 1600000 in
theorem on_unlock (a : Addr) (u : FrameMode) (w : World) (hc : w.cell? a = some (.int .i32 1)) (hz : w.frozen? a = false) :
    CallsD Tryd.prog 31 #[.pointer (some a)] u w fun e u' w' => u' = u ∧ (e = .returned (.tuple #[]) ∧ w' = w.setCell a (.int .i32 0)) := by
  have hd := on_disable
  have he := on_enable
  have hr := on_releaseMerge
  have hadd := run_call_add (P := Tryd.prog) Tryd.func46 (by kernel_rfl) (by kernel_rfl) (by kernel_rfl) .i32 (by kernel_rfl) (y := -1) (s := 0) hc hz (by simp [go_sem]; rfl)
  have hcv := run_convert_to_unsafe (P := Tryd.prog) (src := 91) (dst := 95) Tryd.underlying91 Tryd.underlying95 (by kernel_rfl) hc
  go_enter_d Tryd.func31, Tryd.ntmps31
  go_wp2
  go_end0
  go_wp2
  go_end0
  exact ⟨rfl, rfl⟩
set_option maxRecDepth 100000 in
set_option maxHeartbeats 1600000 in
theorem on_lock (a : Addr) (w : World) (hc : w.cell? a = some (.int .i32 0)) (hz : w.frozen? a = false) :
    Calls Tryd.prog 30 #[.pointer (some a)] w fun e w' => e = .returned (.tuple #[]) ∧ w' = w.setCell a (.int .i32 1) := by
  have hd := on_disable
  have he := on_enable
  have ha := on_acquire
  have hcas := run_call_cas_hit (P := Tryd.prog) Tryd.func41 (by kernel_rfl) (by kernel_rfl) (by kernel_rfl) .i32 (by kernel_rfl) (y := 1) hc hz
  have hc' : (w.setCell a (.int .i32 1)).cell? a = some (.int .i32 1) := World.cell?_setCell_same w a _ hc
  have hcv := run_convert_to_unsafe (P := Tryd.prog) (src := 91) (dst := 95) Tryd.underlying91 Tryd.underlying95 (by kernel_rfl) hc'
  go_enter Tryd.func30, Tryd.ntmps30
  go_wp2
  first | go_end0 | (simp only [Exit.inBlock, Exit.then]; refine bodyPost_ret (results_none rfl _ _ _) rfl ?_) | refine bodyPost_ret (results_none rfl _ _ _) rfl ?_
  go_wp2
  go_end0
  exact ⟨rfl, rfl⟩
set_option maxRecDepth 100000 in
set_option maxHeartbeats 1600000 in
theorem on_load (a : Addr) (x : Int) (w : World) (h0 : w.cell? a = some (.int .u32 x)) :
    Calls Tryd.prog 24 #[.pointer (some a)] w fun e w' => e = .returned (.bool (x != 0)) ∧ w' = w := by
  have hl := run_call_load (P := Tryd.prog) Tryd.func29 (by kernel_rfl) (by kernel_rfl) (by kernel_rfl) .u32 (by kernel_rfl) h0
  go_enter Tryd.func24, Tryd.ntmps24
  go_wp2
  go_ret
  exact ⟨rfl, rfl⟩
set_option maxRecDepth 100000 in
set_option maxHeartbeats 1600000 in
theorem on_slow (b off : Nat) (pl : Addr) (w : World) (R : World → Prop)
    (h0 : w.cell? ⟨b, off, none⟩ = some (.int .u32 0)) (h1 : w.cell? ⟨b, off + 1, none⟩ = some (.int .i32 0))
    (f0 : w.frozen? ⟨b, off, none⟩ = false) (f1 : w.frozen? ⟨b, off + 1, none⟩ = false)
    (hclo : Calls Tryd.prog 21 #[.pointer (some pl)] (w.setCell ⟨b, off + 1, none⟩ (.int .i32 1)) fun e w' => e = .returned (.tuple #[]) ∧ R w')
    (hR : ∀ w', R w' → w'.cell? ⟨b, off, none⟩ = some (.int .u32 0) ∧ w'.frozen? ⟨b, off, none⟩ = false ∧ w'.cell? ⟨b, off + 1, none⟩ = some (.int .i32 1) ∧ w'.frozen? ⟨b, off + 1, none⟩ = false) :
    Calls Tryd.prog 25 #[.pointer (some ⟨b, off, none⟩), .func (.func 21) #[] #[.pointer (some pl)]] w fun e w' => e = .returned (.tuple #[]) ∧
      ∃ w2, R w2 ∧ w' = (w2.drew.setCell ⟨b, off, none⟩ (.int .u32 1)).setCell ⟨b, off + 1, none⟩ (.int .i32 0) := by
  have hl := on_load ⟨b, off, none⟩ 0 (w.setCell ⟨b, off + 1, none⟩ (.int .i32 1)) ((World.cell?_setCell_other _ ⟨b, off + 1, none⟩ ⟨b, off, none⟩ _ (by simp)).trans h0)
  have hnot : ∀ (x : Bool) (w : World), (Op.unary .not (.bool x)).run Tryd.prog w = .ok (.bool (!x)) w := fun _ _ => rfl
  go_enter_defers Tryd.func25, Tryd.ntmps25
  go_wp2_with (first | (go_at_call 30; refine (on_lock ⟨b, off + 1, none⟩ _ (by go_simp) (by go_simp)).mono ?_; rintro e w' ⟨rfl, rfl⟩) | (go_at_call 21; refine hclo.mono ?_; rintro e w2 ⟨rfl, hw2⟩) | (go_at_call 24; refine hl.mono ?_; rintro e w' ⟨rfl, rfl⟩))
  obtain ⟨r0, rf0, r1, rf1⟩ := hR w2 hw2
  refine leaves_cons (f := 32) (args := #[.pointer (some ⟨b, off, none⟩), .bool true]) (by simp) (by simp [go_sem]) ?_
  refine (on_store ⟨b, off, none⟩ (.int .u32 0) .returning _ r0 rf0).mono ?_
  rintro e u' w'' ⟨rfl, rfl, rfl⟩
  refine leaves_cons (f := 31) (args := #[.pointer (some ⟨b, off + 1, none⟩)]) (by simp [settle]) (by simp [go_sem]) ?_
  refine (on_unlock ⟨b, off + 1, none⟩ _ _ ?_ (by simp [rf1])).mono ?_
  · refine (World.cell?_setCell_other _ ⟨b, off, none⟩ ⟨b, off + 1, none⟩ _ (by simp)).trans ?_
    rw [World.cell?_drew]
    exact r1
  rintro e u' w'' ⟨rfl, rfl, rfl⟩
  simp [Leaves, settle, results, Tryd.results25]
  exact ⟨w2, hw2, rfl⟩
set_option maxRecDepth 100000 in
set_option maxHeartbeats 1600000 in
/-- Do, the first time -/
theorem on_first (b off : Nat) (pl : Addr) (w : World) (R : World → Prop)
    (h0 : w.cell? ⟨b, off, none⟩ = some (.int .u32 0)) (h1 : w.cell? ⟨b, off + 1, none⟩ = some (.int .i32 0))
    (f0 : w.frozen? ⟨b, off, none⟩ = false) (f1 : w.frozen? ⟨b, off + 1, none⟩ = false)
    (hclo : Calls Tryd.prog 21 #[.pointer (some pl)] (w.setCell ⟨b, off + 1, none⟩ (.int .i32 1)) fun e w' => e = .returned (.tuple #[]) ∧ R w')
    (hR : ∀ w', R w' → w'.cell? ⟨b, off, none⟩ = some (.int .u32 0) ∧ w'.frozen? ⟨b, off, none⟩ = false ∧ w'.cell? ⟨b, off + 1, none⟩ = some (.int .i32 1) ∧ w'.frozen? ⟨b, off + 1, none⟩ = false) :
    Calls Tryd.prog 20 #[.pointer (some ⟨b, off, none⟩), .func (.func 21) #[] #[.pointer (some pl)]] w fun e w' => e = .returned (.tuple #[]) ∧
      ∃ w2, R w2 ∧ w' = (w2.drew.setCell ⟨b, off, none⟩ (.int .u32 1)).setCell ⟨b, off + 1, none⟩ (.int .i32 0) := by
  have hl := on_load ⟨b, off, none⟩ 0 w h0
  have hs := on_slow b off pl w R h0 h1 f0 f1 hclo hR
  have hnot : ∀ (x : Bool) (w : World), (Op.unary .not (.bool x)).run Tryd.prog w = .ok (.bool (!x)) w := fun _ _ => rfl
  go_enter Tryd.func20, Tryd.ntmps20
  go_wp2_with (first | (go_at_call 25; refine hs.mono ?_; rintro e w' ⟨rfl, w2, hw2, rfl⟩) | (go_at_call 24; refine hl.mono ?_; rintro e w' ⟨rfl, rfl⟩))
  go_end0
  exact ⟨rfl, w2, hw2, rfl⟩
set_option maxRecDepth 100000 in
set_option maxHeartbeats 1600000 in
/-- Do, done already -/
theorem on_done (a : Addr) (d : Int) (hd : ¬ d = 0) (fv : Value) (w : World) (h0 : w.cell? a = some (.int .u32 d)) :
    Calls Tryd.prog 20 #[.pointer (some a), fv] w fun e w' => e = .returned (.tuple #[]) ∧ w' = w := by
  have hl := on_load a d w h0
  have hnot : ∀ (x : Bool) (w : World), (Op.unary .not (.bool x)).run Tryd.prog w = .ok (.bool (!x)) w := fun _ _ => rfl
  have hd' : (d != 0) = true := by simp [hd]
  go_enter Tryd.func20, Tryd.ntmps20
  go_wp2_with (go_at_call 24; refine hl.mono ?_; rintro e w' ⟨rfl, rfl⟩)
  go_end0
  exact ⟨rfl, rfl⟩
set_option maxRecDepth 100000 in
set_option maxHeartbeats 1600000 in
theorem on_made (b off : Nat) (x : Int) (w : World) (h0 : w.cell? ⟨b, off, none⟩ = some (.int .i64 x)) :
    Calls Tryd.prog 16 #[.pointer (some ⟨b, off, none⟩)] w fun e w' => e = .returned (.int .i64 x) ∧ w' = w := by
  have hl := run_call_load (P := Tryd.prog) Tryd.func19 (by kernel_rfl) (by kernel_rfl) (by kernel_rfl) .i64 (by kernel_rfl) h0
  go_enter Tryd.func16, Tryd.ntmps16
  go_wp2
  go_ret
  exact ⟨rfl, rfl⟩
set_option maxRecDepth 100000 in
set_option maxHeartbeats 1600000 in
theorem on_add (b off : Nat) (w : World) (h0 : w.cell? ⟨b, off, none⟩ = some (.int .i64 0)) (f0 : w.frozen? ⟨b, off, none⟩ = false) :
    Calls Tryd.prog 23 #[.pointer (some ⟨b, off, none⟩), .int .i64 1] w fun e w' => e = .returned (.int .i64 1) ∧ w' = w.setCell ⟨b, off, none⟩ (.int .i64 1) := by
  have hadd := run_call_add (P := Tryd.prog) Tryd.func28 (by kernel_rfl) (by kernel_rfl) (by kernel_rfl) .i64 (by kernel_rfl) (y := 1) (s := 1) h0 f0 (by simp [go_sem]; rfl)
  go_enter Tryd.func23, Tryd.ntmps23
  go_wp2
  go_ret
  exact ⟨rfl, rfl⟩
end Go.Proofs.YtldiaopobcebpaaDoor.sy
