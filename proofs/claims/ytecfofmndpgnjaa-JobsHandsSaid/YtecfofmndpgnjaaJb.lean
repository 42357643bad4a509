/- jobs.Jobs (own work): deeds over a table that lies above a mark. -/
import Derived.Test.YtecfofmndpgnjaaJn
namespace Go.Proofs.Ytecfofmndpgnjaa.sy
open Go.AM Go.AM.Hp Go.AM.Jb
set_option linter.unusedSimpArgs false
set_option linter.unusedVariables false
variable {G : List Nat → Option (List AV)} {base : Nat} {w0 : World}
set_option maxRecDepth 100000
theorem hJ9 : hasBody Try.prog 9 = true := by kernel_rfl
theorem hJ10 : hasBody Try.prog 10 = true := by kernel_rfl
theorem hJ11 : hasBody Try.prog 11 = true := by kernel_rfl
theorem hJ12 : hasBody Try.prog 12 = true := by kernel_rfl
theorem hJ13 : hasBody Try.prog 13 = true := by kernel_rfl
theorem hJ15 : hasBody Try.prog 15 = true := by kernel_rfl
theorem hJ16 : hasBody Try.prog 16 = true := by kernel_rfl
theorem hJ20 : hasBody Try.prog 20 = true := by kernel_rfl
theorem hJ25 : hasBody Try.prog 25 = true := by kernel_rfl
theorem hJ8 : hasBody Try.prog 8 = true := by kernel_rfl
variable {H : AHeap} {pj s bl k lo : Nat} {o : Tb} {ts : List Tk}
def JB (H : AHeap) (pj s bl k lo : Nat) (ts : List Tk) : Prop := lo ≤ H.length ∧ ∃ o, JS H pj s bl k o ts ∧ ∀ j, (j = pj ∨ j = s ∨ j = bl ∨ Own o j) → lo ≤ j
def Low (lo : Nat) (H H' : AHeap) : Prop := ∀ j, j < lo → hat H' j = hat H j
theorem JB.step {H' : AHeap} {ts' : List Tk} {o o' : Tb} (hl : lo ≤ H.length) (hlo : ∀ j, (j = pj ∨ j = s ∨ j = bl ∨ Own o j) → lo ≤ j) (hs : JS H' pj s bl k o' ts') (hk : Kp H H' bl o o') : JB H' pj s bl k lo ts' ∧ Low lo H H' := by
  refine ⟨⟨Nat.le_trans hl hk.keep.1, o', hs, fun j hj => ?_⟩, fun j hj => hk.keep.2 j (by omega) fun e => ?_⟩
  · rcases hj with e | e | e | e
    · exact hlo j (.inl e)
    · exact hlo j (.inr (.inl e))
    · exact hlo j (.inr (.inr (.inl e)))
    · rcases hk.own j e with e | e
      · exact hlo j (.inr (.inr (.inr e)))
      · omega
  · rcases e with e | e
    · have := hlo j (.inr (.inr (.inl e))); omega
    · have := hlo j (.inr (.inr (.inr e))); omega
theorem JB.keepF (h : JB H pj s bl k lo ts) {H' : AHeap} (hk : Keep H H' (fun _ => False)) : JB H' pj s bl k lo ts := by
  obtain ⟨hl, o, hs, hlo⟩ := h
  exact ⟨Nat.le_trans hl hk.1, o, hs.keepF hk, hlo⟩
theorem JB.srt (h : JB H pj s bl k lo ts) : Srt ts := by obtain ⟨_, o, ⟨f, gs, hx⟩, _⟩ := h; exact hx.srt
theorem newB (n : Nat) (hn : n ≤ 4096) (H : AHeap) : ∃ r H', Pt (kn G base w0) 9 [.int .i64 n] H r H' ∧ (∃ pj s bl, r = .ptr (.own pj) 0 ∧ JB H' pj s bl n H.length [] ∧ Low H.length H H') := by
  obtain ⟨r, H', hp, pj, s, bl, o, rfl, hs, hk, hlo⟩ := newJ_ok (G := G) (base := base) (w0 := w0) (H := H) n hn
  exact ⟨_, H', hp, pj, s, bl, rfl, ⟨hk.1, o, hs, hlo⟩, fun j hj => hk.2 j hj fun e => e⟩
theorem joinB (h : JB H pj s bl k lo ts) {id e p : Int} (sp : Bool) (hid : -9223372036854775808 ≤ id ∧ id ≤ 9223372036854775807) : ∃ r H', Pt (kn G base w0) 10 [.ptr (.own pj) 0, .int .i64 id, .int .i64 e, .int .i64 p, .bool sp] H r H' ∧ (r = .int .i64 (tjoin k ts id e p sp).2 ∧ JB H' pj s bl k lo (tjoin k ts id e p sp).1 ∧ Low lo H H') := by
  obtain ⟨hl, o, ⟨f, gs, hx⟩, hlo⟩ := h
  obtain ⟨r, H', hp, rfl, o', hs, hk⟩ := join_ok (G := G) (base := base) (w0 := w0) hx sp hid (e := e) (p := p)
  exact ⟨_, H', hp, rfl, JB.step hl hlo hs hk⟩
theorem arriveB (h : JB H pj s bl k lo ts) (id : Int) : ∃ r H', Pt (kn G base w0) 16 [.ptr (.own pj) 0, .int .i64 id] H r H' ∧ (r = .int .i64 (tarrive ts id).2 ∧ JB H' pj s bl k lo (tarrive ts id).1 ∧ Low lo H H') := by
  obtain ⟨hl, o, ⟨f, gs, hx⟩, hlo⟩ := h
  obtain ⟨r, H', hp, rfl, o', hs, hk⟩ := arrive_ok (G := G) (base := base) (w0 := w0) hx id
  exact ⟨_, H', hp, rfl, JB.step hl hlo hs hk⟩
theorem leaveB (h : JB H pj s bl k lo ts) (id : Int) : ∃ r H', Pt (kn G base w0) 13 [.ptr (.own pj) 0, .int .i64 id] H r H' ∧ (r = .tuple [.bool (tleave ts id).2.1, .int .i64 (tleave ts id).2.2] ∧ JB H' pj s bl k lo (tleave ts id).1 ∧ Low lo H H') := by
  obtain ⟨hl, o, ⟨f, gs, hx⟩, hlo⟩ := h
  obtain ⟨r, H', hp, rfl, o', hs, hk⟩ := leave_ok (G := G) (base := base) (w0 := w0) hx id
  exact ⟨_, H', hp, rfl, JB.step hl hlo hs hk⟩
theorem releaseB (h : JB H pj s bl k lo ts) {m clock : Int} (hok : Ok m ts) (hm : 0 ≤ m ∧ m ≤ 1000000) : ∃ r H', Pt (kn G base w0) 11 [.ptr (.own pj) 0, .int .i64 clock] H r H' ∧ (Sl (kn G base w0).c H' r (ints (relIds ts)) ∧ (∀ b, r.at? = some b → H.length ≤ b) ∧ JB H' pj s bl k lo (trel clock ts) ∧ Low lo H H') := by
  obtain ⟨hl, o, ⟨f, gs, hx⟩, hlo⟩ := h
  obtain ⟨r, H', hp, hO, hb, hs, hk⟩ := release_ok (G := G) (base := base) (w0 := w0) hx (clock := clock) hok hm
  exact ⟨r, H', hp, hO.sl, fun b h => (hb b h).1, JB.step hl hlo hs ⟨hk, fun _ => .inl⟩⟩
theorem settleB (h : JB H pj s bl k lo ts) {m clock : Int} (hok : Ok m ts) : ∃ r H', Pt (kn G base w0) 12 [.ptr (.own pj) 0, .int .i64 clock] H r H' ∧ (∃ v, r = .tuple [v, .int .i64 (missN clock ts : Nat)] ∧ Sl (kn G base w0).c H' v (ints (goneIds clock ts)) ∧ JB H' pj s bl k lo (tsettle clock ts) ∧ Low lo H H') := by
  obtain ⟨hl, o, ⟨f, gs, hx⟩, hlo⟩ := h
  obtain ⟨r, H', hp, v, o', rfl, hO, hb, hs, hk⟩ := settle_ok (G := G) (base := base) (w0 := w0) hx (clock := clock) hok
  exact ⟨_, H', hp, v, rfl, hO.sl, JB.step hl hlo hs hk⟩
theorem taskB (h : JB H pj s bl k lo ts) (id : Int) : ∃ r H', Pt (kn G base w0) 14 [.ptr (.own pj) 0, .int .i64 id] H r H' ∧ (((tf ts id = none ∧ r = .tuple [.agg (encT tk0), .bool false]) ∨ ∃ t, tf ts id = some t ∧ r = .tuple [.agg (encT t), .bool true]) ∧ Keep H H' (fun _ => False)) := by
  obtain ⟨hl, o, ⟨f, gs, hx⟩, hlo⟩ := h
  obtain ⟨r, H', hp, ⟨u, rfl⟩, hr⟩ := task_ok (G := G) (base := base) (w0 := w0) hx id
  exact ⟨r, _, hp, hr, Keep.new _ _⟩
end Go.Proofs.Ytecfofmndpgnjaa.sy
