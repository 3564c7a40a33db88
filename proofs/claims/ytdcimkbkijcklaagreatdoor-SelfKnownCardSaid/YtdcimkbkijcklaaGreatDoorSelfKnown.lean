/-
  PROVED: the law 'cartouchelaw12.SelfKnown' answers true (it takes no argument), in every world where the two package-level tables that its row lists hold what the row lists; the card ties those to the program's text.
  Conditions: the row's own (its listed variables; recursion unbounded; calls in the row's list 'inPlace' are what the row says they are). The walk is one closed evaluation by the kernel of the abstract machine 'machK' (text EvK), whose soundness for the model's 'Calls' is proved in the texts EvA .. EvZ, in every world, for every order in which the model may take an unordered group of operations and for every choice of an append's new capacity.
-/
import Derived.Test.YtdcimkbkijcklaaGreatDoorCards
import Derived.Test.YtdcimkbkijcklaaGreatDoorTie
import Derived.Test.YtdcimkbkijcklaaGreatDoorFvG
import Derived.Test.YtdcimkbkijcklaaGreatDoorSelfKnownRun
import Derived.ProofKit
import Derived.OpenShut
import Derived.Deep.DeepHandedRow
import Derived.Lib.LaidTab
namespace Go.Proofs.YtdcimkbkijcklaaGreatDoor.selfKnown
open Go.ChangeShapes Go.WideShapes Go.ChangeAt Go.RowKit

theorem own : ownKnob Tryz.prog.godebug = none := by kernel_rfl

theorem noNum : Go.Fv.NoNum Tryz.prog := Go.Fv.noNum_of (by kernel_rfl)
theorem mix : Tryz.prog.follows .mixedOrders = true := by kernel_rfl

theorem walk (w : World) : Calls Tryz.prog 4 #[] w fun e w' => e = .returned (.bool true) ∧ Below w.heap.size w w' :=
  Go.Fv.calls_trueK noNum mix 3000 12 run w

theorem contract (H : Type) (enc : TypeId × Value → H) (W : World) (args : Array Value) (ds gs : List (DataW H)) (before : List MemPlace)
    (hW : DataW.Whole enc Tryz.prog Tryz.f4.params.toList Rows.selfKnownSpec.vars false W args.toList ds gs before) :
    Calls Tryz.prog 4 args W fun e W' => ∃ v, e = .returned v ∧ Rows.selfKnownSpec.post enc Tryz.prog Tryz.f4 false true false false W args v W' := by
  have hW' := hW
  obtain ⟨p, q, hA0, hV, rfl, hfz, hnd⟩ := hW
  have hA : DataW.TrodAll enc Tryz.prog W 0 (fun _ => true) true Tryz.f4.params.toList args.toList ds p := hA0
  rw [Tryz.params4] at hA
  obtain ⟨hargs, rfl, rfl⟩ := trodAll_none hA
  obtain rfl : args = #[] := by cases args; simp_all
  obtain ⟨rfl, rfl⟩ := trodVars_none hV
  refine (walk W).mono fun e W' ⟨he, bel⟩ => ?_
  subst he
  exact ⟨_, rfl, _, _, _, [], _, [], hW', trodAll_mk1 (shut_bool Tryz.underlying4 _), trodAll_mk0, rfl, bel.frame _, fun h => by cases h⟩

/-- A WORLD FOR THE WITNESS: the settled one, the two tables holding what the row lists. -/
noncomputable def lays (W : World) : World :=
  { W with heap := (W.heap.modify 2 fun
      | .cells _ t frozen => .cells ([128, 191, 160, 191, 128, 159, 144, 191, 128, 143, 0, 0, 0, 0, 0, 0, 0, 0, 0, 0, 0, 0, 0, 0, 0, 0, 0, 0, 0, 0, 0, 0].map fun z => Value.int .u8 z).toArray t frozen
      | o => o).modify 1 fun
      | .cells _ t frozen => .cells (Go.Pinned.utf8FirstZ.map fun z => Value.int .u8 (Int.ofNat z)).toArray t frozen
      | o => o }
noncomputable def laidWorld (os : Os) : World := lays (World.holding Tryz.prog os ⟨#[], #[], []⟩)
set_option maxRecDepth 100000 in
theorem laid_met (os : Os) : laidMet Tryz.prog Rows.selfKnownRow.laid ((laidWorld os).forCall (fun _ _ => 0) ⟨#[], #[], []⟩).memory :=
  laidMet_of_run' 8 (by kernel_rfl) (by kernel_rfl)
theorem reads (os : Os) {H : Type} (enc : TypeId × Value → H) : ∃ places, DataW.whole enc Tryz.prog ((laidWorld os).forCall (fun _ _ => 0) ⟨#[], #[], []⟩).memory Tryz.f4.params.toList Rows.selfKnownSpec.vars false (#[] : Array Value).toList 8 = some ([], [], places) :=
  ⟨[], by kernel_rfl⟩

set_option maxRecDepth 100000 in
theorem lifted (os : Os) (started : os.Started) (H : Type) (enc : TypeId × Value → H) (F : Stop.Interp) :
    ReturnsInHanded {} Tryz.checked os 4 .any ((OpenSpec.ofChange Rows.selfKnownSpec).preRow enc Tryz.prog Tryz.f4 Rows.selfKnownRow.domain false Rows.selfKnownRow.laid) (((OpenSpec.ofChange Rows.selfKnownSpec).at F).post enc Tryz.prog Tryz.f4 false true false false) := by
  obtain ⟨places, hx⟩ := reads os enc
  refine returnsInHanded_of_row (C := Tryz.checked) (s := OpenSpec.ofChange Rows.selfKnownSpec) own started (by kernel_rfl) Tryz.func4
    (witness_row_at (enc := enc) (C := Tryz.checked) false (laidWorld os) #[] rfl (by kernel_rfl) (by kernel_rfl) (by kernel_rfl)
      (OpenSpec.preRow_of_cond 8 hx (by kernel_rfl) (fun k hk => by cases hk) (by kernel_rfl) (laid_met os))) ?_
  intro W base args ds gs before hval hW _ _ _ hL _ _
  exact contract H enc W args ds gs before hW

theorem said : Rows.SelfKnownSaid :=
  OpenClaim.holds_of_cond 4 Tryz.f4 rfl rfl rfl rfl rfl rfl rfl ⟨rfl, rfl, rfl, rfl, rfl⟩ rfl rfl rfl rfl rfl (by kernel_rfl) Tryz.func4 (by kernel_rfl)
    (of_decide_eq_true (by kernel_rfl)) (by unfold Func.isWrapper; first | (rw [if_pos (by decide +kernel)]; kernel_rfl) | (rw [if_neg (by decide +kernel)]; exact ⟨rfl, rfl⟩))
    (fun os started H enc _ F => by rw [OpenClaim.pre_eq_preRow]; exact lifted os started H enc F)

theorem plain (f : FuncId) (fn : Func) (hf : Tryz.pinned.checked.prog.funcNamed "cartouche/cartouchelaw12.SelfKnown" = some f) (hfn : Tryz.pinned.checked.prog.funcs[f]? = some fn) :
    true = Tryz.pinned.checked.prog.looks [] ∧ ∀ (j : Nat) t, fn.params[j]? = some t → Tryz.pinned.checked.prog.wantsStandIn t = false := by
  obtain rfl : f = 4 := Option.some.inj ((show Tryz.prog.funcNamed "cartouche/cartouchelaw12.SelfKnown" = some 4 by kernel_rfl).symm.trans hf) |>.symm
  obtain rfl : fn = Tryz.f4 := (Option.some.inj (Tryz.func4.symm.trans hfn)).symm
  refine ⟨by kernel_rfl, fun j t ht => ?_⟩
  rw [Tryz.params4] at ht
  simp at ht

end Go.Proofs.YtdcimkbkijcklaaGreatDoor.selfKnown
namespace Go.Proofs.YtdcimkbkijcklaaGreatDoor
/-- THE CARD. -/
theorem selfKnown_card : Rows.SelfKnownCardSaid :=
  Claim7.holds_tied_plain_at .later [] _ _ _ _ selfKnown.said (fun _ h => by cases h) (by kernel_rfl) (fun _ h => by cases h) selfKnown_row_tie rfl ⟨rfl, rfl⟩ (by kernel_rfl) rfl selfKnown.plain (by kernel_rfl)
end Go.Proofs.YtdcimkbkijcklaaGreatDoor
