/- The law BitsLaws: it returns true and leaves its arguments as they were; its condition: the listed package variables hold what the program's text lays. -/
import Derived.Test.YtjlabjncojhjkaaDoorDx
import Derived.Test.YtjlabjncojhjkaaDoorM4
namespace Go.Proofs.YtjlabjncojhjkaaDoor.BitsLaws
open Go Go.Cv Go.Proofs.YtjlabjncojhjkaaDoor Go.ChangeShapes Go.WideShapes Go.ChangeAt Go.RowKit
theorem contract (H : Type) (enc : TypeId × Value → H) (W : World) (base : Nat) (args : Array Value) (ds gs : List (DataW H)) (before : List MemPlace)
    (hval : ∀ (j : Nat) t v, Tryd.f10.params[j]? = some t → args[j]? = some v → Value.okWide Tryd.prog W .any base t v)
    (hW : DataW.Whole enc Tryd.prog Tryd.f10.params.toList Rows.bitsLawsSpec.vars false W args.toList ds gs before) (hL : laidMetH Tryd.prog Rows.bitsLawsRow.laid W) :
    Calls Tryd.prog 10 args W fun e W' => ∃ v, e = .returned v ∧ Rows.bitsLawsSpec.post enc Tryd.prog Tryd.f10 false true false false W args v W' :=
  law_calls (E := E) (fn := Tryd.f10) (m := 10) (tb := 4) E_ok E_mix kids full (by kernel_rfl) rfl Tryd.underlying4 rfl (fun ds h => by
    match ds, h with
    | [x0, x1, x2], _ => rfl) hval hW (glob hL) fun cvs h => by
    obtain ⟨c, d, e, rfl, h1, h2, h3⟩ := fitAll_three h
    obtain ⟨a, rfl, _⟩ := intV h1
    obtain ⟨b, rfl, _⟩ := intV h2
    obtain ⟨w, rfl, hw⟩ := u8V h3
    exact bitsLaws_run a b w hw
theorem laid_met (os : Os) : laidMet Tryd.prog Rows.bitsLawsRow.laid ((laidWorld os).forCall (fun _ _ => 0) ⟨#[], #[.int .i64 0, .int .i64 0, .int .u8 0], []⟩).memory :=
  laidMet_of_run' 8 (by kernel_rfl) (by kernel_rfl)
theorem reads (os : Os) {H : Type} (enc : TypeId × Value → H) : ∃ places, DataW.whole enc Tryd.prog ((laidWorld os).forCall (fun _ _ => 0) ⟨#[], #[.int .i64 0, .int .i64 0, .int .u8 0], []⟩).memory Tryd.f10.params.toList Rows.bitsLawsSpec.vars false (#[.int .i64 0, .int .i64 0, .int .u8 0] : Array Value).toList 8 = some ([.lit (.int .i64 0), .lit (.int .i64 0), .lit (.int .u8 0)], [], places) :=
  ⟨[], by kernel_rfl⟩
set_option maxRecDepth 100000 in
theorem lifted (os : Os) (started : os.Started) (H : Type) (enc : TypeId × Value → H) (F : Stop.Interp) :
    ReturnsInHanded {} Tryd.checked os 10 .any ((OpenSpec.ofChange Rows.bitsLawsSpec).preRow enc Tryd.prog Tryd.f10 Rows.bitsLawsRow.domain false Rows.bitsLawsRow.laid) (((OpenSpec.ofChange Rows.bitsLawsSpec).at F).post enc Tryd.prog Tryd.f10 false true false false) := by
  obtain ⟨places, hx⟩ := reads os enc
  refine returnsInHanded_of_row (C := Tryd.checked) (s := OpenSpec.ofChange Rows.bitsLawsSpec) own started (by kernel_rfl) Tryd.func10
    (witness_row_at (enc := enc) (C := Tryd.checked) false (laidWorld os) #[.int .i64 0, .int .i64 0, .int .u8 0] rfl (by kernel_rfl) (by kernel_rfl) (by kernel_rfl)
      (OpenSpec.preRow_of_cond 8 hx (by kernel_rfl) (fun k hk => by cases hk) (by kernel_rfl) (laid_met os))) ?_
  intro W base args ds gs before hval hW _ _ _ hL _ _
  exact contract H enc W base args ds gs before hval hW hL
theorem said : Rows.BitsLawsSaid :=
  OpenClaim.holds_of_cond 10 Tryd.f10 rfl rfl rfl rfl rfl rfl rfl ⟨rfl, rfl, rfl, rfl, rfl⟩ rfl rfl rfl rfl rfl (by kernel_rfl) Tryd.func10 (by kernel_rfl)
    (of_decide_eq_true (by kernel_rfl)) (by unfold Func.isWrapper; first | (rw [if_pos (by decide +kernel)]; kernel_rfl) | (rw [if_neg (by decide +kernel)]; exact ⟨rfl, rfl⟩))
    (fun os started H enc _ F => by rw [OpenClaim.pre_eq_preRow]; exact lifted os started H enc F)
theorem plain (f : FuncId) (fn : Func) (hf : Tryd.pinned.checked.prog.funcNamed "weirgate/weirgatelaw06.BitsLaws" = some f) (hfn : Tryd.pinned.checked.prog.funcs[f]? = some fn) :
    false = Tryd.pinned.checked.prog.looks [] ∧ ∀ (j : Nat) t, fn.params[j]? = some t → Tryd.pinned.checked.prog.wantsStandIn t = false := by
  obtain rfl : f = 10 := Option.some.inj ((show Tryd.prog.funcNamed "weirgate/weirgatelaw06.BitsLaws" = some 10 by kernel_rfl).symm.trans hf) |>.symm
  obtain rfl : fn = Tryd.f10 := (Option.some.inj (Tryd.func10.symm.trans hfn)).symm
  refine ⟨by kernel_rfl, fun j t ht => ?_⟩
  have hall : ∀ t ∈ Tryd.f10.params.toList, Tryd.prog.wantsStandIn t = false := by
    have : Tryd.f10.params.toList.all (fun t => !Tryd.prog.wantsStandIn t) = true := by kernel_rfl
    intro t ht
    simpa using List.all_eq_true.1 this t ht
  exact hall t (by simpa using Array.mem_of_getElem? ht)
theorem card : Rows.BitsLawsCardSaid :=
  Claim7.holds_tied_plain_at .later [] _ _ _ _ said (fun _ h => by cases h) (by kernel_rfl) (fun _ h => by cases h) bitsLaws_row_tie rfl ⟨rfl, rfl⟩ (by kernel_rfl) rfl plain (by kernel_rfl)
end Go.Proofs.YtjlabjncojhjkaaDoor.BitsLaws
