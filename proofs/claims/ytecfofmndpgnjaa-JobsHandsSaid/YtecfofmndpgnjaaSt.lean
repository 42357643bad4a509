/- slots.Slots as a map that is asked (own work). -/
import Derived.Test.YtecfofmndpgnjaaSd
import Derived.Test.YtecfofmndpgnjaaAmRow
namespace Go.Proofs.Ytecfofmndpgnjaa.sy
open Go.AM Go.AM.Hp
set_option linter.unusedSimpArgs false
set_option linter.unusedVariables false
variable {G : List Nat → Option (List AV)} {base : Nat} {w0 : World}
set_option maxRecDepth 100000
variable {H : AHeap} {s : Nat} {o : Tb} {k : Nat} {ids : List Int} {us : List Bool} {l : List (Int × Int × Nat)} {clk : Nat} {a : List Int} {f : Int → Option Int} {c : Nat}
/-- a table behind a pointer, as a map -/
def T (H : AHeap) (s : Nat) (o : Tb) (k : Nat) (f : Int → Option Int) (c : Nat) : Prop := ∃ ids us l clk a, Sts H s o k ids us l clk a ∧ Inv k ids us l a ∧ (∀ q, mget l q = f q) ∧ l.length = c
theorem T.rng (h : T H s o k f c) {q x : Int} (e : f q = some x) : ∃ n : Nat, x = n ∧ n < k := by
  obtain ⟨ids, us, l, clk, a, hT, hI, hf, hc⟩ := h
  rw [← hf] at e
  obtain ⟨b, hb⟩ := (mget_iff hT.ml.nodup).1 e
  obtain ⟨n, h1, h2, _⟩ := hI.fwd _ hb
  exact ⟨n, h1, h2⟩
theorem T.inj (h : T H s o k f c) {q q' x : Int} (e : f q = some x) (e' : f q' = some x) : q = q' := by
  obtain ⟨ids, us, l, clk, a, hT, hI, hf, hc⟩ := h
  rw [← hf] at e e'
  obtain ⟨b, hb⟩ := (mget_iff hT.ml.nodup).1 e
  obtain ⟨b', hb'⟩ := (mget_iff hT.ml.nodup).1 e'
  obtain ⟨n, h1, h2, h3, _⟩ := hI.fwd _ hb
  obtain ⟨n', h1', h2', h3', _⟩ := hI.fwd _ hb'
  simp only [] at h1 h1' h3 h3'
  obtain rfl : n = n' := by omega
  rw [← h3, ← h3']
theorem T.le (h : T H s o k f c) : c ≤ k ∧ k ≤ 4096 := by
  obtain ⟨ids, us, l, clk, a, hT, hI, hf, hc⟩ := h
  have := hI.cnt; exact ⟨by omega, hI.k4⟩
theorem T.lt (h : T H s o k f c) : s < H.length ∧ o.bi < H.length ∧ o.bu < H.length ∧ o.m < H.length ∧ o.pf < H.length ∧ o.bf < H.length := by
  obtain ⟨ids, us, l, clk, a, hT, _⟩ := h
  exact hT.lt
theorem T.keep {H' : AHeap} (h : T H s o k f c) (hk : ∀ j, (j = s ∨ Own o j) → hat H' j = hat H j) : T H' s o k f c := by
  obtain ⟨ids, us, l, clk, a, hT, hI, hf, hc⟩ := h
  exact ⟨ids, us, l, clk, a, hT.keep (hk _ (.inl rfl)) (hk _ (.inr (.inl rfl))) (hk _ (.inr (.inr (.inl rfl)))) (hk _ (.inr (.inr (.inr (.inl rfl))))) (hk _ (.inr (.inr (.inr (.inr (.inl rfl)))))) (hk _ (.inr (.inr (.inr (.inr (.inr rfl)))))), hI, hf, hc⟩
theorem T.own_lt (h : T H s o k f c) {j : Nat} (hj : j = s ∨ Own o j) : j < H.length := by
  obtain ⟨h1, h2, h3, h4, h5, h6⟩ := h.lt
  rcases hj with rfl | rfl | rfl | rfl | rfl | rfl <;> assumption
theorem T.keepF {H' : AHeap} (h : T H s o k f c) (hk : Keep H H' (fun _ => False)) : T H' s o k f c := h.keep fun j hj => hk.2 j (h.own_lt hj) id
theorem Inv.used (hI : Inv k ids us l a) (hn : (l.map (·.1)).Nodup) {n : Nat} (hnk : n < k) : us.getD n false = true ↔ ∃ q, mget l q = some (n : Int) := by
  constructor
  · intro h
    obtain ⟨b, hb⟩ := hI.bwd n hnk h
    exact ⟨_, mget_mem hn hb⟩
  · rintro ⟨q, hq⟩
    obtain ⟨b, hb⟩ := (mget_iff hn).1 hq
    obtain ⟨j, h1, h2, h3, h4⟩ := hI.fwd _ hb
    simp only [] at h1
    obtain rfl : n = j := by omega
    exact h4
theorem mget_app {id v : Int} {b : Nat} (h0 : mget l id = none) (q : Int) : mget (l ++ [(id, v, b)]) q = upd1 (mget l) id (some v) q := by
  simp only [mget, List.find?_append, upd1]
  by_cases hq : q = id
  · subst hq
    have : l.find? (fun e => e.1 == q) = none := Option.map_eq_none_iff.1 h0
    simp [this]
  · rw [if_neg hq]
    have : ([(id, v, b)] : List (Int × Int × Nat)).find? (fun e => e.1 == q) = none := by simp; exact fun e => hq e.symm
    rw [this]
    simp
theorem mget_del {l' : List (Int × Int × Nat)} (hn : (l.map (·.1)).Nodup) (hn' : (l'.map (·.1)).Nodup) {id : Int} (hl' : ∀ e, e ∈ l' ↔ e ∈ l ∧ e.1 ≠ id) (q : Int) : mget l' q = upd1 (mget l) id none q := by
  unfold upd1
  split
  · rename_i h
    subst h
    exact mget_none fun e he => ((hl' e).1 he).2
  · rename_i h
    cases hm : mget l q with
    | some v =>
      obtain ⟨b, hb⟩ := (mget_iff hn).1 hm
      exact (mget_iff hn').2 ⟨b, (hl' _).2 ⟨hb, h⟩⟩
    | none =>
      cases hm' : mget l' q with
      | none => rfl
      | some v =>
        obtain ⟨b, hb⟩ := (mget_iff hn').1 hm'
        have := (mget_iff hn).2 ⟨b, ((hl' _).1 hb).1⟩
        rw [hm] at this; cases this
theorem upd1_congr {f g : Int → Option Int} (h : ∀ q, f q = g q) (id : Int) (v : Option Int) (q : Int) : upd1 f id v q = upd1 g id v q := by
  simp only [upd1, h]
def PutT (id : Int) (H : AHeap) (s : Nat) (o : Tb) (k : Nat) (f : Int → Option Int) (c : Nat) : AV → AHeap → Prop := fun r H' =>
  (∃ x, f id = some x ∧ r = .tuple [.int .i64 0, .int .i64 4] ∧ H' = H) ∨ (f id = none ∧ c = k ∧ (∀ n : Nat, n < k → ∃ q, f q = some (n : Int)) ∧ r = .tuple [.int .i64 0, .int .i64 6] ∧ H' = H) ∨
  (f id = none ∧ c < k ∧ ∃ n : Nat, n < k ∧ (∀ q, f q ≠ some (n : Int)) ∧ (∀ j : Nat, j < n → ∃ q, f q = some (j : Int)) ∧ r = .tuple [.int .i64 n, .int .i64 0] ∧ T H' s o k (upd1 f id (some (n : Int))) (c + 1) ∧ Keep H H' (Own o))
theorem putT (h : T H s o k f c) {id : Int} (hid : -9223372036854775808 ≤ id ∧ id ≤ 9223372036854775807) : ∃ r H', Pt (kn G base w0) 29 [.ptr (.own s) 0, .int .i64 id] H r H' ∧ PutT id H s o k f c r H' := by
  obtain ⟨ids, us, l, clk, a, hT, hI, hf, hc⟩ := h
  have hfr : ∀ n : Nat, n < k → ((n : Int) ∈ a ↔ us.getD n false = false) := by
    intro n hn
    rw [hI.free]
    constructor
    · rintro ⟨j, h1, h2, h3⟩; obtain rfl : n = j := by omega
      exact h3
    · intro h; exact ⟨n, rfl, hn, h⟩
  obtain ⟨r, H', hp, h⟩ := put_ok (G := G) (base := base) (w0 := w0) hT hI hid
  refine ⟨r, H', hp, ?_⟩
  rcases h with ⟨x, h1, h2, h3⟩ | ⟨h1, h2, h3, h4⟩ | ⟨h1, n, a', h2, h3, h4, h5, h6, h7, h8⟩
  · exact .inl ⟨x, by rw [← hf]; exact h1, h2, h3⟩
  · refine .inr (.inl ⟨by rw [← hf]; exact h1, by have := hI.cnt; subst h2; simp at this; omega, fun n hn => ?_, h3, h4⟩)
    have : us.getD n false = true := by
      cases hu : us.getD n false with
      | true => rfl
      | false => have := (hfr n hn).2 hu; rw [h2] at this; simp at this
    obtain ⟨q, hq⟩ := (hI.used hT.ml.nodup hn).1 this
    exact ⟨q, by rw [← hf]; exact hq⟩
  · have hna : (n : Int) ∈ a := h3.mem_iff.1 (by simp)
    have hle : c < k := by have := hI.cnt; have := List.length_pos_of_mem hna; omega
    refine .inr (.inr ⟨by rw [← hf]; exact h1, hle, n, h2, fun q hq => ?_, fun j hj => ?_, h5, ⟨_, _, _, _, _, h6, h7, fun q => ?_, by simp [hc]⟩, h8⟩)
    · rw [← hf] at hq
      have := (hI.used hT.ml.nodup h2).2 ⟨q, hq⟩
      rw [(hfr n h2).1 hna] at this; cases this
    · have : us.getD j false = true := by
        cases hu : us.getD j false with
        | true => rfl
        | false => have := h4 _ ((hfr j (by omega)).2 hu); omega
      obtain ⟨q, hq⟩ := (hI.used hT.ml.nodup (by omega)).1 this
      exact ⟨q, by rw [← hf]; exact hq⟩
    · rw [mget_app h1, upd1_congr hf]
def DropT (id : Int) (H : AHeap) (s : Nat) (o : Tb) (k : Nat) (f : Int → Option Int) (c : Nat) : AV → AHeap → Prop := fun r H' =>
  (f id = none ∧ r = .bool false ∧ H' = H) ∨
  (∃ (n b' c' : Nat), f id = some (n : Int) ∧ n < k ∧ r = .bool true ∧ c = c' + 1 ∧ T H' s ⟨o.bi, o.bu, o.m, o.pf, b'⟩ k (upd1 f id none) c' ∧ (b' = o.bf ∨ H.length ≤ b') ∧ Keep H H' (Own o))
theorem dropT (h : T H s o k f c) (id : Int) : ∃ r H', Pt (kn G base w0) 40 [.ptr (.own s) 0, .int .i64 id] H r H' ∧ DropT id H s o k f c r H' := by
  obtain ⟨ids, us, l, clk, a, hT, hI, hf, hc⟩ := h
  obtain ⟨r, H', hp, h⟩ := drop_ok (G := G) (base := base) (w0 := w0) hT hI id
  refine ⟨r, H', hp, ?_⟩
  rcases h with ⟨h1, h2, h3⟩ | ⟨n, b', l', a', h1, h2, h3, h4, h5, h6, h7, h8, h9⟩
  · exact .inl ⟨by rw [← hf]; exact h1, h2, h3⟩
  · refine .inr ⟨n, b', l'.length, by rw [← hf]; exact h1, h2, h3, by omega, ⟨_, _, _, _, _, h4, h5, fun q => ?_, rfl⟩, h8, h9⟩
    rw [mget_del hT.ml.nodup h4.ml.nodup h6, upd1_congr hf]
theorem getT (h : T H s o k f c) (id : Int) : ∃ r H', Pt (kn G base w0) 39 [.ptr (.own s) 0, .int .i64 id] H r H' ∧ (r = .tuple [.int .i64 ((f id).getD 0), .bool (f id).isSome] ∧ H' = H) := by
  obtain ⟨ids, us, l, clk, a, hT, hI, hf, hc⟩ := h
  rw [← hf]
  exact get_ok hT id
theorem lenT (h : T H s o k f c) : ∃ r H', Pt (kn G base w0) 86 [.ptr (.own s) 0] H r H' ∧ (r = .int .i64 c ∧ H' = H) := by
  obtain ⟨ids, us, l, clk, a, hT, hI, hf, rfl⟩ := h
  exact len_ok hT
def IdsT (H : AHeap) (f : Int → Option Int) (c : Nat) : AV → AHeap → Prop := fun r H' => ∃ zs : List Int, zs.Pairwise (· < ·) ∧ (∀ q, q ∈ zs ↔ ∃ x, f q = some x) ∧ zs.length = c ∧ Go.AM.Own H' r 3 (ints zs) ∧ Keep H H' (fun _ => False) ∧ ∀ b, r.at? = some b → H.length ≤ b
theorem idsT (h : T H s o k f c) : ∃ r H', Pt (kn G base w0) 35 [.ptr (.own s) 0] H r H' ∧ IdsT H f c r H' := by
  obtain ⟨ids, us, l, clk, a, hT, hI, hf, hc⟩ := h
  obtain ⟨r, H', hp, h1, h2, h3⟩ := ids_ok (G := G) (base := base) (w0 := w0) hT hI
  have hperm := isortI_perm (l.map (·.1))
  refine ⟨r, H', hp, isortI (l.map (·.1)), ?_, fun q => ?_, by rw [hperm.length_eq, List.length_map, hc], h1, h2, h3⟩
  · have h4 := isortI_sorted (l.map (·.1))
    have h5 := hperm.nodup_iff.2 hT.ml.nodup
    exact (List.Pairwise.and h4 h5).imp fun ⟨h, h'⟩ => by omega
  · rw [hperm.mem_iff, List.mem_map]
    constructor
    · rintro ⟨e, he, rfl⟩
      exact ⟨e.2.1, by rw [← hf]; exact mget_mem hT.ml.nodup he⟩
    · rintro ⟨x, hx⟩
      rw [← hf] at hx
      obtain ⟨b, hb⟩ := (mget_iff hT.ml.nodup).1 hx
      exact ⟨_, hb, rfl⟩
def NewT (x : Int) (H : AHeap) : AV → AHeap → Prop := fun r H' => ∃ (n s : Nat) (o : Tb), (n : Int) = min (max x 0) 4096 ∧ r = .ptr (.own s) 0 ∧ T H' s o n (fun _ => none) 0 ∧ Keep H H' (fun _ => False) ∧ ∀ j, (j = s ∨ Own o j) → H.length ≤ j
theorem newT (x : Int) : ∃ r H', Pt (kn G base w0) 28 [.int .i64 x] H r H' ∧ NewT x H r H' := by
  obtain ⟨r, H', hp, n, s, o, a, h1, h2, h3, h4, h5, h6, h7, h8, h9, h10, h11⟩ := new_ok (G := G) (base := base) (w0 := w0) (H := H) x
  refine ⟨r, H', hp, n, s, o, h1, h2, ⟨_, _, _, _, _, h3, h4, fun q => rfl, rfl⟩, h5, ?_⟩
  rintro j (rfl | rfl | rfl | rfl | rfl | rfl) <;> assumption
theorem awake_run : isTrue (acall (kn G base w0).c drawRunB gcCall (skeys.prims (kn G base w0).c) 60 8 [] []) = true := by kernel_rfl
theorem awake_ok : ∃ r H', Pt (kn G base w0) 8 [] [] r H' ∧ r = .bool true := by
  obtain ⟨H', h⟩ := isTrue_some awake_run
  exact ⟨_, H', Pt.run (κ := kn G base w0) (skeys.prims_ok (c := (kn G base w0).c) rfl base w0) h, rfl⟩
end Go.Proofs.Ytecfofmndpgnjaa.sy
