/-
  WALKS THAT GO BY THEMSELVES (own work): one rule for regions of each plain kind, conditions that are settled, arithmetic that omega settles.
-/
import Derived.Test.YtecfofmndpgnjaaAmPlain
import Derived.Test.YtecfofmndpgnjaaAmStill
namespace Go.AM
open Go.RowKit
set_option linter.unusedSimpArgs false
set_option linter.unusedVariables false
variable {κ : Kn} {T : FuncId → Spec} {env : AEnv} {H : AHeap} {K : AExit → AEnv → AHeap → Prop} {c : Ctx}

/-- may a region be run in the text's order? -/
def easy (ops : List Oper) (dr : Bool) : Bool := !dr || (staticOk ops || plainOk ops)
theorem D.rg {id : Nat} {ops : Array Oper} {dr : Bool} {env' : AEnv} {H' : AHeap} (hs : easy ops.toList dr = true) (h : asteps κ.c (callT κ T) ops.toList ops.toList env H = some (env', H')) (k : K .normal env' H') : D κ (.region id ops dr) env H K := by
  cases dr with
  | false => exact D.region h k
  | true =>
    simp only [easy, Bool.not_true, Bool.false_or, Bool.or_eq_true] at hs
    rcases hs with hs | hs
    · exact D.draw hs h k
    · exact D.plain hs h k
theorem D.rgC {id : Nat} {ops : Array Oper} {dr : Bool} {env' : AEnv} {H' : AHeap} {f : FuncId} {as : List AV} {H0 : AHeap} {r : AV × AHeap} (_ : callT κ T f as H0 = some r) (hs : easy ops.toList dr = true) (h : asteps κ.c (callT κ T) ops.toList ops.toList env H = some (env', H')) (k : K .normal env' H') : D κ (.region id ops dr) env H K := D.rg hs h k
theorem D.ct {q : Operand} {a b : Code} (hq : aval env q = some (.bool true)) (h : D κ a env H K) : D κ (.cond q a b) env H K := D.cond hq (fun _ => h) (fun e => by cases e)
theorem D.cf {q : Operand} {a b : Code} (hq : aval env q = some (.bool false)) (h : D κ b env H K) : D κ (.cond q a b) env H K := D.cond hq (fun e => by cases e) (fun _ => h)
theorem D.ct2 {q : Operand} {a b : Code} {t : Bool} (hq : aval env q = some (.bool t)) (ht : t = true) (h : D κ a env H K) : D κ (.cond q a b) env H K := D.ct (ht ▸ hq) h
theorem D.cf2 {q : Operand} {a b : Code} {t : Bool} (hq : aval env q = some (.bool t)) (ht : t = false) (h : D κ b env H K) : D κ (.cond q a b) env H K := D.cf (ht ▸ hq) h
/-- the same as 'cut', where the code has been opened already -/
theorem D.cut2 {a b : Code} (P : AEnv → AHeap → Prop) (h : D κ a env H (Ks κ b (Kc P))) (k : ∀ env' H', P env' H' → K .normal env' H') : D κ a env H (Ks κ b K) :=
  h.mono fun e env' H' hp => by
    cases e with
    | normal => exact D.cut P hp k
    | _ => exact hp.elim
theorem Kf_ret {rs : List ResultVar} {Q : AV → AHeap → Prop} {v : AV} (h : resOf c rs env H = some v) (hq : Q v H) : Kf c rs Q .ret env H := ⟨v, h, hq⟩
theorem Kf_nrm {rs : List ResultVar} {Q : AV → AHeap → Prop} {v : AV} (h : resOf c rs env H = some v) (hq : Q v H) : Kf c rs Q .normal env H := ⟨v, h, hq⟩
/-- arithmetic, by its bounds -/
theorem wrap_in {x : Int} (h1 : -9223372036854775808 ≤ x) (h2 : x < 9223372036854775808) : IntKind.i64.wrap x = x := by
  unfold IntKind.wrap
  simp only [IntKind.bits, IntKind.signed, Bool.true_and]
  split <;> rename_i h <;> simp at h <;> omega
theorem beq_yes {a b : Int} (h : a = b) : (a == b) = true := by simpa using h
theorem beq_no {a b : Int} (h : ¬ a = b) : (a == b) = false := by simpa using h
theorem bne_yes {a b : Int} (h : ¬ a = b) : (a != b) = true := by simpa using h
theorem bne_no {a b : Int} (h : a = b) : (a != b) = false := by simpa using h
theorem lt_yes {a b : Int} (h : a < b) : decide (a < b) = true := decide_eq_true h
theorem lt_no {a b : Int} (h : ¬ a < b) : decide (a < b) = false := decide_eq_false h
theorem le_yes {a b : Int} (h : a ≤ b) : decide (a ≤ b) = true := decide_eq_true h
theorem le_no {a b : Int} (h : ¬ a ≤ b) : decide (a ≤ b) = false := decide_eq_false h
theorem ld_own {i off : Nat} {t t' e : Nat} {cs : List AV} {v : AV} (h : hat H i = some (.row t' e cs)) (hv : cs[off]? = some v) (ha : isAggT c.P t = some false) : aload c H t (.ptr (.own i) off) = some v := by
  simp only [aload, ha, Option.bind_some, rd_own h, hv, Option.map_some]
  rfl
theorem ix_own {c : Ctx} {t e : TypeId} {b n i z : Nat} {k : IntKind} (ht : c.P.underlying t = some (.slice e)) (hs : szOf c.P e = some z) (hz : 0 < z) (hi : i < n) : aindexAddr c t (.slice (.own b) z 0 n) (.int k (i : Int)) = some (.ptr (.own b) (i * z)) := by
  simp only [aindexAddr, ht, Option.bind_some, hs]
  rw [if_pos ⟨by simp, by omega, by omega⟩]
  simp
/-- all rules for operations in one -/
theorem rulesA : type_of% (And.intro @s_nil <| And.intro @s_go <| And.intro @s_if <| And.intro @n_val <| And.intro @n_skip <| And.intro @n_call <| And.intro @n_back <| And.intro @i_tt <| And.intro @i_ff <| And.intro @i_tf <| And.intro @i_ft <| And.intro @i_n <| And.intro @p_some <| And.intro @b_some <| And.intro @d_some <| And.intro @v_tmp <| And.intro @v_const <| And.intro @v_func <| And.intro @v_glob <| And.intro @vs_nil <| And.intro @vs_cons <| And.intro @o_move <| And.intro @o_assign <| And.intro @o_pick <| And.intro @o_alloc <| And.intro @o_box <| And.intro @o_build <| And.intro @o_bslice <| And.intro @o_load <| And.intro @o_store <| And.intro @o_nil <| And.intro @o_bin <| And.intro @o_un <| And.intro @o_conv <| And.intro @o_mkfn <| And.intro @o_mkmap <| And.intro @o_mksl <| And.intro @o_slice <| And.intro @o_fa <| And.intro @o_field <| And.intro @o_ia <| And.intro @o_idx <| And.intro @o_look <| And.intro @o_mapup <| And.intro @o_ext <| And.intro @o_call <| And.intro @o_built <| And.intro @o_inv <| And.intro @o_mkif <| And.intro @o_ta <| And.intro @o_ment <| And.intro @o_est <| And.intro @bu_len <| And.intro @bu_app <| And.intro @app_sl <| And.intro @bu_copy <| And.intro @bu_del <| And.intro @bu_max <| And.intro @bu_min <| And.intro @E_put <| And.intro @E_put0 <| And.intro @E_get <| And.intro @hat_nn <| And.intro @cells_bool <| And.intro @one_bool <| And.intro @cells_int <| And.intro @one_int <| And.intro @cells_str <| And.intro @one_str <| And.intro @cells_nilptr <| And.intro @one_nilptr <| And.intro @cells_ptr <| And.intro @one_ptr <| And.intro @cells_nilslice <| And.intro @one_nilslice <| And.intro @cells_slice <| And.intro @one_slice <| And.intro @cells_nilmap <| And.intro @one_nilmap <| And.intro @cells_map <| And.intro @one_map <| And.intro @cells_nilfunc <| And.intro @one_nilfunc <| And.intro @cells_func <| And.intro @one_func <| And.intro @cells_niliface <| And.intro @one_niliface <| And.intro @cells_iface <| And.intro @one_iface <| And.intro @cells_agg <| And.intro @ob_ft <| And.intro @ob_tf @ob_n) := And.intro @s_nil <| And.intro @s_go <| And.intro @s_if <| And.intro @n_val <| And.intro @n_skip <| And.intro @n_call <| And.intro @n_back <| And.intro @i_tt <| And.intro @i_ff <| And.intro @i_tf <| And.intro @i_ft <| And.intro @i_n <| And.intro @p_some <| And.intro @b_some <| And.intro @d_some <| And.intro @v_tmp <| And.intro @v_const <| And.intro @v_func <| And.intro @v_glob <| And.intro @vs_nil <| And.intro @vs_cons <| And.intro @o_move <| And.intro @o_assign <| And.intro @o_pick <| And.intro @o_alloc <| And.intro @o_box <| And.intro @o_build <| And.intro @o_bslice <| And.intro @o_load <| And.intro @o_store <| And.intro @o_nil <| And.intro @o_bin <| And.intro @o_un <| And.intro @o_conv <| And.intro @o_mkfn <| And.intro @o_mkmap <| And.intro @o_mksl <| And.intro @o_slice <| And.intro @o_fa <| And.intro @o_field <| And.intro @o_ia <| And.intro @o_idx <| And.intro @o_look <| And.intro @o_mapup <| And.intro @o_ext <| And.intro @o_call <| And.intro @o_built <| And.intro @o_inv <| And.intro @o_mkif <| And.intro @o_ta <| And.intro @o_ment <| And.intro @o_est <| And.intro @bu_len <| And.intro @bu_app <| And.intro @app_sl <| And.intro @bu_copy <| And.intro @bu_del <| And.intro @bu_max <| And.intro @bu_min <| And.intro @E_put <| And.intro @E_put0 <| And.intro @E_get <| And.intro @hat_nn <| And.intro @cells_bool <| And.intro @one_bool <| And.intro @cells_int <| And.intro @one_int <| And.intro @cells_str <| And.intro @one_str <| And.intro @cells_nilptr <| And.intro @one_nilptr <| And.intro @cells_ptr <| And.intro @one_ptr <| And.intro @cells_nilslice <| And.intro @one_nilslice <| And.intro @cells_slice <| And.intro @one_slice <| And.intro @cells_nilmap <| And.intro @one_nilmap <| And.intro @cells_map <| And.intro @one_map <| And.intro @cells_nilfunc <| And.intro @one_nilfunc <| And.intro @cells_func <| And.intro @one_func <| And.intro @cells_niliface <| And.intro @one_niliface <| And.intro @cells_iface <| And.intro @one_iface <| And.intro @cells_agg <| And.intro @ob_ft <| And.intro @ob_tf @ob_n
end Go.AM
