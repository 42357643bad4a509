/-
  THE OPERATIONS, fifth part (own work): append, copy, clear, slicing, maps written.
-/
import Derived.Test.YtecfofmndpgnjaaAmOps4
import Derived.Laws.Append
namespace Go.AM
open Go.RowKit
set_option linter.unusedSimpArgs false

variable {c : Ctx} {base : Nat} {w0 w : World} {ρ : Pl} {H : AHeap}

theorem bytes_one (s : List UInt8) : (bytesAV s).all AV.one = true := by
  simp [bytesAV, AV.one]

theorem VRs_bytes (s : List UInt8) : VRs ρ (bytesAV s) (s.map fun b => .int .u8 b.toNat) := by
  induction s with
  | nil => rfl
  | cons b r ih => exact ⟨_, _, rfl, rfl, ih⟩

/-- what is appended or copied, read -/
theorem source_sound (h : Rel c base w0 ρ H w) {esz n : Nat} {x : AV} {cs : List AV} (e : source c H esz x = some (n, cs)) {y : Value} (hy : VR ρ x y) :
    (Builtin.lenOf y).run c.P w = .ok n w ∧ cs.length = n * esz ∧ cs.all AV.one = true ∧ ∃ xs, VRs ρ cs xs ∧ ∀ w', (∀ a, w'.cell? a = w.cell? a) → ∀ m, m ≤ n → (Builtin.firstCells esz m y).run c.P w' = .ok (xs.take (m * esz)).toArray w' := by
  unfold source at e
  split at e
  · cases e; simp only [VR] at hy; subst hy
    exact ⟨by simp [Builtin.lenOf], by simp, rfl, [], rfl, fun w' _ m hm => by simp [Builtin.firstCells]⟩
  · rename_i s
    split at e
    · rename_i h1
      cases e; simp only [VR] at hy; subst hy
      refine ⟨by simp [Builtin.lenOf, ByteArray.size], by simp [bytesAV, h1], bytes_one s, _, VRs_bytes s, fun w' _ m hm => ?_⟩
      have hd : ((⟨s.toArray⟩ : ByteArray).extract 0 m).data = (s.take m).toArray := by
        apply Array.ext'
        simp [ByteArray.data_extract, List.extract_eq_take_drop]
      simp only [Builtin.firstCells, hd]
      rw [h1, Nat.mul_one]
      simp
    · cases e
  · cases e; simp only [VR] at hy; subst hy
    exact ⟨by simp [Builtin.lenOf], by simp, rfl, [], rfl, fun w' _ m hm => by
      obtain rfl : m = 0 := by omega
      simp [Builtin.firstCells, loadCells, loadCellsFrom]⟩
  · rename_i l e' start k
    obtain ⟨p, hp, hcap, rfl⟩ := hy
    split at e
    · rename_i he
      subst he
      split at e
      · rename_i hk
        cases e
        exact ⟨by simp [Builtin.lenOf, hk], by simp, rfl, [], rfl, fun w' _ m hm => by
          obtain rfl : m = 0 := by omega
          simp [Builtin.firstCells, loadCells, loadCellsFrom]⟩
      · rename_i hk
        simp only [Option.map_eq_some_iff, Prod.mk.injEq] at e
        obtain ⟨vs, hvs, rfl, rfl⟩ := e
        obtain ⟨xs, hl, hr, hc, h1⟩ := rd_sound h hvs hp
        refine ⟨by simp [Builtin.lenOf], by rw [← hr.length, hl], h1, xs, hr, fun w' hw' m hm => ?_⟩
        have hlen : (xs.take (m * e')).length = m * e' := by
          rw [List.length_take, hl]; exact Nat.min_eq_left (Nat.mul_le_mul_right _ hm)
        have := run_loadCells_list (P := c.P) w' ⟨p.b, p.off + start * e', none⟩ (xs.take (m * e')) (fun j v hj => (hw' _).trans (hc j v (by
          rw [List.getElem?_take] at hj
          split at hj
          · exact hj
          · cases hj)))
        rw [hlen] at this
        simpa [Builtin.firstCells] using this
    · cases e
  · cases e

theorem zeroCells_size {z : List AV} {zz : Array Value} (hv : VRs ρ z zz.toList) : zz.size = z.length := by simpa using hv.length

theorem zeroCells_count (zz : Array Value) (n : Nat) : (Builtin.zeroCells zz n).size = n * zz.size := by simp [Builtin.zeroCells]

/-- the element type of what is appended to is no whole number -/
theorem append_new (h : Rel c base w0 ρ H w) (hf : ρ (.own H.length) = none) {st e : TypeId} {i : TypeInfo} (hd : c.P.underlying st = some (.slice e)) (hi : c.P.info? e = some i) {z : List AV} (hz : zeroCells c.P e = some z) (hzl : z.length = i.size) (hb : 0 < i.bytes)
    {s x : Value} {bs : Option Addr} {sLen sCap n : Nat} (hs : s = .slice bs sLen sCap) {old new : List AV} {xo xn : List Value} (ho : VRs ρ old xo) (hn : VRs ρ new xn) (ho1 : old.all AV.one = true) (hn1 : new.all AV.one = true)
    (hol : old.length = sLen * i.size) (hnl : new.length = n * i.size) (hlen : (Builtin.lenOf x).run c.P w = .ok n w) (hfo : ∀ w', (∀ a, w'.cell? a = w.cell? a) → (Builtin.firstCells i.size sLen s).run c.P w' = .ok xo.toArray w')
    (hfn : ∀ w', (∀ a, w'.cell? a = w.cell? a) → (Builtin.firstCells i.size n x).run c.P w' = .ok xn.toArray w') (hgt : sCap < sLen + n) (hroom : (sLen + n) * i.bytes ≤ 2 ^ 47) (ts : Array TypeId) (t2 : TypeId) (ty : TypeId) (hts0 : ts[0]? = some st) (hts1 : ts[1]? = some t2) {d2 : TypeDesc} (hd2 : c.P.underlying t2 = some d2) (hnint : ∀ k, d2 ≠ .int k) :
    ∃ ρ' y w', (Builtin.append_ ts ty #[s, x]).run c.P w = .ok y w' ∧ VR ρ' (.slice (fresh H) i.size 0 (sLen + n)) y ∧ Post c base w0 ρ H w ρ' (hnew H (.row e i.size (old ++ new))) w' := by
  subst hs
  obtain ⟨zz, hzz, hv⟩ := zeroCells_run (c := c) (ρ := ρ) hz (w := w)
  have hzs := zeroCells_size hv
  have hneed : ¬ sLen + n ≤ sCap := by omega
  have hsmall : sLen + n ≤ 2 ^ 47 := Nat.le_trans (Nat.le_mul_of_pos_right _ hb) hroom
  have hmax : ¬ (((sLen + n : Nat) : Int) > IntKind.i64.max) := by
    rw [show IntKind.i64.max = 9223372036854775807 from by decide]; omega
  have hcapb : ¬ Builtin.nextslicecap (sLen + n) sCap * i.bytes > 2 ^ 48 := by
    have := nextslicecap_le hgt
    have h2 : Builtin.nextslicecap (sLen + n) sCap * i.bytes ≤ 2 * (sLen + n) * i.bytes := Nat.mul_le_mul_right _ this
    have h3 : 2 * (sLen + n) * i.bytes = 2 * ((sLen + n) * i.bytes) := by rw [Nat.mul_assoc]
    omega
  generalize hq : (Question.appendCap (sLen + n) sCap e).cut (w.tape w.drawn (.appendCap (sLen + n) sCap e)) = newCap
  have hcap : sLen + n ≤ newCap := by rw [← hq]; simp only [Question.cut]; omega
  have hzz' : (zeroValue e).run c.P w.drew = .ok zz w.drew := by
    have := hzz
    simp only [zeroValue, Sem.run_bind, typeInfo, run_program, Result.andThen_ok, hi, Sem.run_pure] at this ⊢
    split at this <;> simp_all
  have hrun : (Builtin.append_ ts ty #[.slice bs sLen sCap, x]).run c.P w = .ok (.slice (some ⟨w.heap.size, 0, none⟩) (sLen + n) newCap) (w.drew.alloc (.cells (xo.toArray ++ xn.toArray ++ Builtin.zeroCells zz.cells (newCap - (sLen + n))) e)) := by
    have hnz : (match d2 with | .int _ => true | _ => false) = false := by cases d2 <;> first | rfl | exact absurd rfl (hnint _)
    have hf1 := hfo w.drew (fun a => rfl)
    have hf2 := hfn w.drew (fun a => rfl)
    simp only [Builtin.append_, hts0, hts1, List.getElem?_toArray, List.getElem?_cons_zero, List.getElem?_cons_succ, Sem.run_bind, run_underlying hd, run_underlying hd2, Result.andThen_ok, sizeOf, info_run hi, Sem.run_pure, hnz, Bool.false_eq_true, if_false, hlen, if_neg hneed, false_or, if_neg (not_and.2 fun h => absurd h hmax), if_neg hcapb, run_choose, Question.forced, hq, World.drew_eq, run_askRoom, hf1, Bool.not_false, if_true, hf2, hzz', newRow, run_newObj, World.alloc_eq, World.size_drew]
  have hp := post_drew h
  have hpost := new_row (ty := e) (esz := i.size) (cap := newCap) hp.rel hf (ho.append hn) (by rw [List.all_append, ho1, hn1]; rfl) (ds := xo.toArray ++ xn.toArray ++ Builtin.zeroCells zz.cells (newCap - (sLen + n))) (fun j y hj => by
      rw [Array.getElem?_append_left (by have := (List.getElem?_eq_some_iff.1 hj).1; simpa using this)]
      simpa using hj) (by
      have h1 := ho.length
      have h2 := hn.length
      simp only [Array.size_append, List.size_toArray, zeroCells_count, hzs]
      rw [h1, h2, hol, hnl, hzl, ← Nat.add_mul, ← Nat.add_mul]
      exact Nat.mul_le_mul_right _ (by omega)) (by
      rw [List.length_append, hol, hnl, ← Nat.add_mul]; exact Nat.mul_le_mul_right _ hcap)
  exact ⟨_, _, _, hrun, ⟨⟨w.drew.heap.size, 0, newCap⟩, upd_same _ _ _, by simpa using hcap, by simp⟩, hp.trans hpost⟩

theorem append_keep {st e t2 ty : TypeId} {i : TypeInfo} (hd : c.P.underlying st = some (.slice e)) (hi : c.P.info? e = some i) {bs : Option Addr} {sLen sCap n : Nat} {x : Value} {w : World} {xs : Array Value} (hlen : (Builtin.lenOf x).run c.P w = .ok n w)
    (hfx : (Builtin.firstCells i.size n x).run c.P w = .ok xs w) (hle : sLen + n ≤ sCap) (ts : Array TypeId) (hts0 : ts[0]? = some st) (hts1 : ts[1]? = some t2) {d2 : TypeDesc} (hd2 : c.P.underlying t2 = some d2) (hnint : ∀ k, d2 ≠ .int k) {w' : World}
    (hst : ∀ a, bs = some a → (storeCells (a.add (sLen * i.size)) xs.toList).run c.P w = .ok () w') (hno : bs = none → w' = w) :
    (Builtin.append_ ts ty #[.slice bs sLen sCap, x]).run c.P w = .ok (.slice bs (sLen + n) sCap) w' := by
  have hnz : (match d2 with | .int _ => true | _ => false) = false := by cases d2 <;> first | rfl | exact absurd rfl (hnint _)
  simp only [Builtin.append_, hts0, hts1, List.getElem?_toArray, List.getElem?_cons_zero, List.getElem?_cons_succ, Sem.run_bind, run_underlying hd, run_underlying hd2, Result.andThen_ok, sizeOf, info_run hi, Sem.run_pure, hnz, Bool.false_eq_true, if_false, hlen, if_pos hle, Bool.not_false, if_true, hfx]
  cases bs with
  | none => rw [hno rfl]; rfl
  | some a => simp only [Sem.run_bind, hst a rfl, Result.andThen_ok, Sem.run_pure]

theorem append_sound (h : Rel c base w0 ρ H w) {H' : AHeap} (hff : H.length < H'.length → ρ (.own H.length) = none) {st t2 ty : TypeId} {s x v : AV} (e : aappend c H st s x = some (v, H')) {y z : Value} (hy : VR ρ s y) (hz : VR ρ x z)
    (ts : Array TypeId) (hts0 : ts[0]? = some st) (hts1 : ts[1]? = some t2) {d2 : TypeDesc} (hd2 : c.P.underlying t2 = some d2) (hnint : ∀ k, d2 ≠ .int k) :
    ∃ ρ' u w', (Builtin.append_ ts ty #[y, z]).run c.P w = .ok u w' ∧ VR ρ' v u ∧ Post c base w0 ρ H w ρ' H' w' := by
  simp only [aappend, Option.bind_eq_some_iff] at e
  obtain ⟨d, hd, e⟩ := e
  split at e
  · rename_i el
    simp only [Option.bind_eq_some_iff] at e
    obtain ⟨i, hi, zc, hzc, e⟩ := e
    split at e
    · rename_i hpos
      obtain ⟨hsz, hby, hzl⟩ := hpos
      simp only [Option.bind_eq_some_iff] at e
      obtain ⟨⟨n, cs⟩, hsrc, e⟩ := e
      obtain ⟨hlen, hcl, hc1, xs, hr, hfc⟩ := source_sound h hsrc hz
      have hxl : xs.length = n * i.size := by rw [hr.length, hcl]
      have hfull : ∀ w', (∀ a, w'.cell? a = w.cell? a) → (Builtin.firstCells i.size n z).run c.P w' = .ok xs.toArray w' := fun w' hw' => by
        have := hfc w' hw' n (Nat.le_refl _)
        rwa [← hxl, List.take_length] at this
      split at e
      · rename_i hn0
        subst hn0
        obtain rfl : xs = [] := List.eq_nil_of_length_eq_zero (by simpa using hxl)
        split at e
        · cases e; simp only [VR] at hy; subst hy
          exact ⟨ρ, _, w, append_keep hd hi hlen (hfull w fun _ => rfl) (Nat.le_refl _) ts hts0 hts1 hd2 hnint (fun a ha => by cases ha) (fun _ => rfl), rfl, Post.refl h⟩
        · rename_i l esz start len
          cases e
          obtain ⟨p, hp, hcap, rfl⟩ := hy
          exact ⟨ρ, _, w, append_keep hd hi hlen (hfull w fun _ => rfl) (by omega) ts hts0 hts1 hd2 hnint (fun a ha => rfl) (fun ha => by cases ha), ⟨p, hp, hcap, rfl⟩, Post.refl h⟩
        · cases e
      · rename_i hn0
        split at e
        · split at e
          · rename_i hb
            cases e; simp only [VR] at hy; subst hy
            have hf := hff (by simp [hnew])
            obtain ⟨ρ', u, w', h1, h2, h3⟩ := append_new h hf hd hi hzc hzl hby (s := .slice none 0 0) (sLen := 0) (sCap := 0) (old := []) (new := cs) (xo := []) (xn := xs) rfl rfl hr rfl hc1 (by simp) hcl hlen
              (fun w' _ => by simp [Builtin.firstCells]) hfull (by omega) (by rw [Nat.zero_add]; exact hb.1) ts t2 ty hts0 hts1 hd2 hnint
            rw [Nat.zero_add] at h2
            exact ⟨ρ', u, w', h1, h2, by simpa using h3⟩
          · cases e
        · rename_i b esz start len
          split at e
          · rename_i hee
            obtain ⟨rfl, _⟩ := hee
            obtain ⟨p, hp, hcap, rfl⟩ := hy
            split at e
            · rename_i ty' esz' old ho
              obtain ⟨q, hq, hobj, hbb⟩ := h.own b _ ho
              obtain rfl : p = q := by rw [hp] at hq; exact Option.some.inj hq
              obtain ⟨ds, g1, g2, g3, g4⟩ := hobj
              split at e
              · rename_i hcond
                obtain ⟨rfl, rfl, hseg⟩ := hcond
                have hadd : ∀ k, (⟨p.b, p.off + start * i.size, none⟩ : Addr).add k = ⟨p.b, p.off + (start * i.size + k), none⟩ := fun k => by rw [addr_add, Nat.add_assoc]
                split at e
                · rename_i hfit
                  cases e
                  have hcapn : start + len + n ≤ p.cap := by
                    have : (start + len + n) * i.size ≤ p.cap * i.size := Nat.le_trans hfit g3
                    exact Nat.le_of_mul_le_mul_right this hsz
                  have hwr : wr H (.own b) ((start + len) * i.size) cs = some (H.set b (some (.row ty' i.size (setSeg old ((start + len) * i.size) cs)))) := by
                    simp only [wr, ho]
                    rw [if_pos ⟨by rw [hcl, ← Nat.add_mul]; exact hfit, hc1⟩]
                  obtain ⟨w', hw', hpost⟩ := wr_sound h hwr hp hr
                  refine ⟨ρ, _, w', append_keep hd hi hlen (hfull w fun _ => rfl) (by omega) ts hts0 hts1 hd2 hnint (fun a ha => ?_) (fun ha => by cases ha), ⟨p, hp, by omega, rfl⟩, hpost⟩
                  cases ha
                  rw [hadd, ← Nat.add_mul]
                  exact hw'
                · rename_i hfit
                  split at e
                  · rename_i hroom
                    cases e
                    have hf := hff (by simp [hnew])
                    have hseg' : start * i.size + len * i.size ≤ old.length := by rw [← Nat.add_mul]; exact hseg
                    have hol : ((old.drop (start * i.size)).take (len * i.size)).length = len * i.size := by
                      rw [List.length_take, List.length_drop]; omega
                    have hrd : rd c H (.own b) (start * i.size) (len * i.size) = some ((old.drop (start * i.size)).take (len * i.size)) := by
                      simp only [rd, rowOf, ho, Option.bind_some]
                      rw [if_pos hseg']
                    obtain ⟨xo, hxol, hxor, hxoc, hxo1⟩ := rd_sound h hrd hp
                    by_cases hin : len + n ≤ p.cap - start
                    · -- it stays where it is
                      have hfitw : p.off + (start + len) * i.size + xs.length ≤ ds.size := by
                        have h1 : (start + len + n) * i.size ≤ p.cap * i.size := Nat.mul_le_mul_right _ (by omega)
                        rw [Nat.add_mul] at h1
                        omega
                      have hrun := run_storeCells_at (P := c.P) p.b (p.off + (start + len) * i.size) ty' xs 0 ds w g1 (by omega) (all_one_sound hr hc1)
                      generalize hw' : w.setRow p.b (ds.toList.take (p.off + (start + len) * i.size + 0) ++ xs ++ ds.toList.drop (p.off + (start + len) * i.size + 0 + xs.length)).toArray = w' at hrun
                      refine ⟨upd ρ (.own H.length) ⟨p.b, p.off + start * i.size, p.cap - start⟩, _, w', append_keep hd hi hlen (hfull w fun _ => rfl) hin ts hts0 hts1 hd2 hnint (fun a ha => ?_) (fun ha => by cases ha), ⟨⟨p.b, p.off + start * i.size, p.cap - start⟩, upd_same _ _ _, by simpa using hin, by simp⟩, ?_⟩
                      · cases ha
                        rw [hadd, ← Nat.add_mul]
                        exact hrun
                      · subst hw'
                        refine post_move h hf ho rfl hp rfl rfl rfl rfl (by simp) (fun k hk => setRow_other w p.b k _ hk) ?_
                        have hpc : (p.cap - start) * i.size + start * i.size = p.cap * i.size := by
                          rw [← Nat.add_mul]; congr 1; omega
                        refine ⟨_, setRow_heap w p.b ds _ ty' (0, 0) g1, ?_, ?_, fun j u hj => ?_⟩
                        · simp; omega
                        · rw [List.length_append, hol, hcl, ← Nat.add_mul]; exact Nat.mul_le_mul_right _ hin
                        · dsimp only at hj ⊢
                          rw [List.getElem?_toArray, List.append_assoc, Nat.add_zero, seg_get ds.toList xs (p.off + (start + len) * i.size) _ (by simpa using hfitw)]
                          have hsl : (start + len) * i.size = start * i.size + len * i.size := Nat.add_mul _ _ _
                          by_cases hjl : j < len * i.size
                          · rw [List.getElem?_append_left (by omega), List.getElem?_take, if_pos hjl, List.getElem?_drop] at hj
                            rw [if_pos (by omega)]
                            obtain ⟨x', hx', hv', h1'⟩ := g4 _ u hj
                            exact ⟨x', by simpa [Nat.add_assoc] using hx', hv'.mono (upd_ext hf), h1'⟩
                          · rw [List.getElem?_append_right (by omega), hol] at hj
                            have hjn : j - len * i.size < n * i.size := by
                              have := (List.getElem?_eq_some_iff.1 hj).1; omega
                            rw [if_neg (by omega), if_pos (by omega)]
                            obtain ⟨x', hx', hv'⟩ := hr.get hj
                            refine ⟨x', by rw [show p.off + start * i.size + j - (p.off + (start + len) * i.size) = j - len * i.size by omega]; exact hx', hv'.mono (upd_ext hf), ?_⟩
                            exact List.all_eq_true.1 hc1 u (List.mem_of_getElem? hj)
                    · -- it moves into a new block
                      have hk := post_kill h b (hat_lt ho)
                      have hkl : (H.set b none).length = H.length := by simp
                      obtain ⟨ρ', u, w', h1, h2, h3⟩ := append_new hk.rel (by rw [hkl]; exact hf) hd hi hzc hzl hby (s := .slice (some ⟨p.b, p.off + start * i.size, none⟩) len (p.cap - start)) (sLen := len) (sCap := p.cap - start) (n := n) rfl hxor hr hxo1 hc1 hol hcl hlen
                        (fun w' hw' => by
                          have := run_loadCells_list (P := c.P) w' ⟨p.b, p.off + start * i.size, none⟩ xo (fun j v hj => (hw' _).trans (hxoc j v hj))
                          rw [hxol] at this
                          simpa [Builtin.firstCells] using this) hfull (by omega) hroom ts t2 ty hts0 hts1 hd2 hnint
                      exact ⟨ρ', u, w', h1, by simpa [fresh] using h2, hk.trans h3⟩
                  · cases e
              · cases e
            · rename_i ho
              split at e
              · rename_i hcond
                obtain ⟨rfl, rfl, hroom⟩ := hcond
                cases e
                have hf := hff (by simp [hnew])
                obtain ⟨q, hq, hobj, _⟩ := h.own b _ ho
                obtain rfl : p = q := by rw [hp] at hq; exact Option.some.inj hq
                have hc0 : p.cap = 0 := hobj rfl
                obtain ⟨ρ', u, w', h1, h2, h3⟩ := append_new h hf hd hi hzc hzl hby (s := .slice (some ⟨p.b, p.off + 0 * i.size, none⟩) 0 (p.cap - 0)) (sLen := 0) (sCap := p.cap - 0) (old := []) (new := cs) (xo := []) (xn := xs) rfl rfl hr rfl hc1 (by simp) hcl hlen
                  (fun w' _ => by simp [Builtin.firstCells, loadCells, loadCellsFrom]) hfull (by omega) (by rw [Nat.zero_add]; exact hroom) ts t2 ty hts0 hts1 hd2 hnint
                rw [Nat.zero_add] at h2
                exact ⟨ρ', u, w', h1, h2, by simpa using h3⟩
              · cases e
            · cases e
          · cases e
        · cases e
    · cases e
  · cases e

end Go.AM
