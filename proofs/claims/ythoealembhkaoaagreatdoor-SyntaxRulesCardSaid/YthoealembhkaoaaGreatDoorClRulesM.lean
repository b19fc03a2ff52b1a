/-
  For all texts a, b and other the law SyntaxRules returns true: by every rule, and by any other name, the program gives the same normal form of a, tells the same of a and b, and puts them in the same order as the document does
  CONDITIONS: the two tables of unicode/utf8 hold, when the call begins, what the library's text lays (the row's cell 'laid'; the card ties it); nothing else is asked of the input.
-/
import Derived.Test.YthoealembhkaoaaGreatDoorFm02
import Derived.Test.YthoealembhkaoaaGreatDoorRu07
namespace Go.Proofs.YthoealembhkaoaaGreatDoor
open Go.ChangeShapes Go.WideShapes Go.ChangeAt Go.RowKit
namespace SyntaxRules
set_option linter.unusedVariables false
set_option maxRecDepth 100000

theorem contract (H : Type) (enc : TypeId × Value → H) (W : World) (base : Nat) (args : Array Value) (ds gs : List (DataW H)) (before : List MemPlace)
    (hval : ∀ (j : Nat) t v, Tryz.f4.params[j]? = some t → args[j]? = some v → Value.okWide Tryz.prog W .any base t v)
    (hW : DataW.Whole enc Tryz.prog Tryz.f4.params.toList Rows.syntaxRulesSpec.vars false W args.toList ds gs before) (hL : laidMetH Tryz.prog Rows.syntaxRulesRow.laid W) (hsh : W.ShapedOpen Tryz.prog)
    (hsz : (DataW.weightsEach Tryz.prog (Tryz.f4.params.toList ++ (OpenSpec.ofChange Rows.syntaxRulesSpec).bare.plain.varTypes Tryz.prog) (ds ++ gs)).all (· ≤ reachBytes) = true) :
    Calls Tryz.prog 4 args W fun e W' => ∃ v, e = .returned v ∧ Rows.syntaxRulesSpec.post enc Tryz.prog Tryz.f4 false true false false W args v W' := by
  have hW' := hW
  obtain ⟨p, q, hA0, hV, rfl, hfz, hnd⟩ := hW
  have hA : DataW.TrodAll enc Tryz.prog W 0 (fun _ => true) true Tryz.f4.params.toList args.toList ds p := hA0
  rw [Tryz.params4] at hA hval
  obtain ⟨v0, vs0, d0, ds0, p0, q0, hargs, rfl, rfl, h0, r0⟩ := trodAll_cons hA
  obtain ⟨v1, vs1, d1, ds1, p1, q1, rfl, rfl, rfl, h1, r1⟩ := trodAll_cons r0
  obtain ⟨v2, vs2, d2, ds2, p2, q2, rfl, rfl, rfl, h2, r2⟩ := trodAll_cons r1
  obtain ⟨rfl, rfl, rfl⟩ := trodAll_nil r2
  obtain rfl : args = #[v0, v1, v2] := by cases args; simp_all
  obtain ⟨rfl, rfl⟩ := trodVars_none hV
  obtain ⟨x0, rfl, rfl, rfl, hw0⟩ := Go.ChangeMaps.open_string Tryz.underlying9 (hval 0 9 v0 rfl rfl) h0
  obtain ⟨x1, rfl, rfl, rfl, hw1⟩ := Go.ChangeMaps.open_string Tryz.underlying9 (hval 1 9 v1 rfl rfl) h1
  obtain ⟨x2, rfl, rfl, rfl, hw2⟩ := Go.ChangeMaps.open_string Tryz.underlying9 (hval 2 9 v2 rfl rfl) h2
  have hsz2 := hsz
  rw [Tryz.params4] at hsz2
  simp [DataW.weightsEach, DataW.weights, reachBytes] at hsz2
  try simp only [Bool.and_eq_true] at hsz2
  have hr0 : x0.size ≤ 140737488351232 := by first | exact hsz2.1 | exact of_decide_eq_true hsz2.1
  have hr1 : x1.size ≤ 140737488351232 := by first | exact hsz2.2.1 | exact of_decide_eq_true hsz2.2.1
  have hr2 : x2.size ≤ 140737488351232 := by first | exact hsz2.2.2 | exact of_decide_eq_true hsz2.2.2
  clear hA0
  simp only [List.append_nil] at hW'
  have he : Sy.Env W := Sy.env_of_laid hL hsh
  refine (Sy.rules_go x0 x1 x2 W he (by have := hr0; omega) (by have := hr1; omega) (by have := hr2; omega)).mono fun e W' ⟨he, hb⟩ => ?_
  subst he
  exact ⟨_, rfl, _, _, _, [], _, [], hW', trodAll_cons_mk (shut_bool Tryz.underlying4 true) trodAll_mk0, trodAll_cons_mk (Go.ChangeMaps.shut_string Tryz.underlying9 hw0) (trodAll_cons_mk (Go.ChangeMaps.shut_string Tryz.underlying9 hw1) (trodAll_cons_mk (Go.ChangeMaps.shut_string Tryz.underlying9 hw2) trodAll_mk0)), rfl, hb.frame _, fun h => by cases h⟩
theorem reads (os : Os) {H : Type} (enc : TypeId × Value → H) : ∃ places, DataW.whole enc Tryz.prog ((Sy.laidWorld os).forCall (fun _ _ => 0) ⟨#[], #[.string ⟨#[]⟩, .string ⟨#[]⟩, .string ⟨#[]⟩], []⟩).memory Tryz.f4.params.toList Rows.syntaxRulesSpec.vars false (#[.string ⟨#[]⟩, .string ⟨#[]⟩, .string ⟨#[]⟩] : Array Value).toList 8 = some ([.lit (.string []), .lit (.string []), .lit (.string [])], [], places) :=
  ⟨[], by kernel_rfl⟩
theorem lifted (os : Os) (started : os.Started) (H : Type) (enc : TypeId × Value → H) (F : Stop.Interp) :
    ReturnsInHanded {} Tryz.checked os 4 .any ((OpenSpec.ofChange Rows.syntaxRulesSpec).preRow enc Tryz.prog Tryz.f4 Rows.syntaxRulesRow.domain false Rows.syntaxRulesRow.laid) (((OpenSpec.ofChange Rows.syntaxRulesSpec).at F).post enc Tryz.prog Tryz.f4 false true false false) := by
  obtain ⟨places, hx⟩ := reads os enc
  refine returnsInHanded_of_row (C := Tryz.checked) (s := OpenSpec.ofChange Rows.syntaxRulesSpec) Sy.own started (by kernel_rfl) Tryz.func4
    (witness_row_at (enc := enc) (C := Tryz.checked) false (Sy.laidWorld os) #[.string ⟨#[]⟩, .string ⟨#[]⟩, .string ⟨#[]⟩] rfl (by kernel_rfl) (by kernel_rfl) (by kernel_rfl)
      (OpenSpec.preRow_of_cond 8 hx (by kernel_rfl) (fun k hk => by cases hk) (by kernel_rfl) (Sy.laid_met os _))) ?_
  intro W base args ds gs before hval hW _ _ hsz hL hsh _
  exact contract H enc W base args ds gs before hval hW hL hsh hsz
theorem said : Rows.SyntaxRulesSaid :=
  OpenClaim.holds_of_cond 4 Tryz.f4 rfl rfl rfl rfl rfl rfl rfl ⟨rfl, rfl, rfl, rfl, rfl⟩ rfl rfl rfl rfl rfl (by kernel_rfl) Tryz.func4 (by kernel_rfl)
    (of_decide_eq_true (by kernel_rfl)) (by unfold Func.isWrapper; first | (rw [if_pos (by decide +kernel)]; kernel_rfl) | (rw [if_neg (by decide +kernel)]; exact ⟨rfl, rfl⟩))
    (fun os started H enc _ F => by rw [OpenClaim.pre_eq_preRow]; exact lifted os started H enc F)
theorem plain (f : FuncId) (fn : Func) (hf : Tryz.pinned.checked.prog.funcNamed "chancery/chancerylaw5.SyntaxRules" = some f) (hfn : Tryz.pinned.checked.prog.funcs[f]? = some fn) :
    true = Tryz.pinned.checked.prog.looks [] ∧ ∀ (j : Nat) t, fn.params[j]? = some t → Tryz.pinned.checked.prog.wantsStandIn t = false := by
  obtain rfl : f = 4 := Option.some.inj ((show Tryz.prog.funcNamed "chancery/chancerylaw5.SyntaxRules" = some 4 by kernel_rfl).symm.trans hf) |>.symm
  obtain rfl : fn = Tryz.f4 := (Option.some.inj (Tryz.func4.symm.trans hfn)).symm
  refine ⟨by kernel_rfl, fun j t ht => ?_⟩
  rw [Tryz.params4] at ht
  have h3 : Tryz.prog.wantsStandIn 3 = false := by kernel_rfl
  have h9 : Tryz.prog.wantsStandIn 9 = false := by kernel_rfl
  have hm := Array.mem_of_getElem? ht
  simp only [List.mem_toArray, List.mem_cons, List.mem_nil_iff, or_false, or_self] at hm
  show Tryz.prog.wantsStandIn t = false
  first | (rw [hm]; first | exact h3 | exact h9) | (rcases hm with rfl | rfl <;> first | exact h3 | exact h9)
/-- THE CARD. -/
theorem card : Rows.SyntaxRulesCardSaid :=
  Claim7.holds_tied_plain_at .later [] _ _ _ _ said (fun _ h => by cases h) (by kernel_rfl) (fun _ h => by cases h) syntaxRules_row_tie rfl ⟨rfl, rfl⟩ (by kernel_rfl) rfl plain (by kernel_rfl)
#print axioms card
end SyntaxRules
end Go.Proofs.YthoealembhkaoaaGreatDoor
