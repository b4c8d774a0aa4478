/- BridgeNil returns true for every event and probe and leaves them as they were: no condition. -/
import Derived.Test.YthcdppppppgckaaGreatDoorRows
import Derived.Test.YthcdppppppgckaaGreatDoorCards
import Derived.Test.YthcdppppppgckaaGreatDoorTie
import Derived.Test.YthcdppppppgckaaGreatDoorA50
import Derived.Test.YthcdppppppgckaaGreatDoorA51
import Derived.ProofKit
import Derived.OpenShut
import Derived.LaidMore
import Derived.Lay
import Derived.SevenTiedAt
import Derived.Stop.Joined
namespace Go.Proofs.YthcdppppppgckaaGreatDoor.bridgeNil
open Go.ChangeShapes Go.WideShapes Go.ChangeAt Go.RowKit
open Go.ChangeMaps (open_string shut_string)

theorem own : ownKnob Tryz.prog.godebug = none := by kernel_rfl
theorem laidOut : laidOutB Tryz.prog = true := by kernel_rfl

set_option maxRecDepth 100000 in
theorem contract (H : Type) (enc : TypeId × Value → H) (W : World) (base : Nat) (args : Array Value) (ds gs : List (DataW H)) (before : List MemPlace)
    (hval : ∀ (j : Nat) t v, Tryz.f7.params[j]? = some t → args[j]? = some v → Value.okWide Tryz.prog W .any base t v)
    (hW : DataW.Whole enc Tryz.prog Tryz.f7.params.toList Rows.bridgeNilSpec.vars false W args.toList ds gs before)
    (hsz0 : (DataW.weightsEach Tryz.prog (Tryz.f7.params.toList ++ Rows.bridgeNilSpec.plain.varTypes Tryz.prog) (ds ++ gs)).all (· ≤ reachBytes) = true) :
    Calls Tryz.prog 7 args W fun e W' => ∃ v, e = .returned v ∧ Rows.bridgeNilSpec.post enc Tryz.prog Tryz.f7 false true false false W args v W' := by
  have hW' := hW
  obtain ⟨p, q, hA0, hV, rfl, hfz, hnd⟩ := hW
  have hA : DataW.TrodAll enc Tryz.prog W 0 (fun _ => true) true Tryz.f7.params.toList args.toList ds p := hA0
  rw [Tryz.params7] at hA hval
  rw [Tryz.params7] at hsz0
  obtain ⟨v0, vs0, d0, ds0, p0, q0, hargs, rfl, rfl, h0, r0⟩ := trodAll_cons hA
  obtain ⟨v1, vs1, d1, ds1, p1, q1, rfl, rfl, rfl, h1, r1⟩ := trodAll_cons r0
  obtain ⟨rfl, rfl, rfl⟩ := trodAll_nil r1
  obtain rfl : args = #[v0, v1] := by cases args; simp_all
  obtain ⟨rfl, rfl⟩ := trodVars_none hV
  have h0k := h0
  have h1k := h1
  obtain ⟨d0, po0, up0, s0, nw0, rfl, hs0, wd0, wp0, wn0⟩ := open_Ev (hval 0 42 v0 rfl rfl) h0
  obtain ⟨x1, g1, r1, rfl, hg1, hr1, wx1⟩ := open_Pr (hval 1 58 v1 rfl rfl) h1
  clear hA0
  simp only [List.append_nil] at hW'
  have hlt0 : ∀ x ∈ p0, x.block < W.heap.size := fun x hx => hW'.lt x (by simp [hx])
  have hlt1 : ∀ x ∈ p1, x.block < W.heap.size := fun x hx => hW'.lt x (by simp [hx])
  refine (law_bnil d0 po0 nw0 x1 up0 s0 g1 r1 W).mono fun e W' ⟨he, hb⟩ => ?_
  subst he
  exact ⟨_, rfl, _, _, _, [], _, [], hW', trodAll_cons_mk (shut_bool Tryz.underlying4 _) trodAll_mk0, trodAll_cons_mk (Below.trod laidOut (by kernel_rfl) (of_decide_eq_true (by kernel_rfl)) h0k hb hlt0) (trodAll_cons_mk (Below.trod laidOut (by kernel_rfl) (of_decide_eq_true (by kernel_rfl)) h1k hb hlt1) (trodAll_mk0)), rfl, hb.frame _, fun h => by cases h⟩

set_option maxRecDepth 100000 in
theorem lifted (os : Os) (started : os.Started) (H : Type) (enc : TypeId × Value → H) :
    ReturnsInHanded {} Tryz.checked os 7 .any (fun w args => (Rows.bridgeNilSpec.pre enc Tryz.prog Tryz.f7 Rows.bridgeNilRow.domain false w args ∧ laidMetH Tryz.prog Rows.bridgeNilRow.laid w) ∧ sizedMet enc Tryz.prog Tryz.f7 (OpenSpec.ofChange Rows.bridgeNilSpec) false w args)
      (Rows.bridgeNilSpec.post enc Tryz.prog Tryz.f7 false true false false) := by
  refine returnsInHanded_of_change_and (C := Tryz.checked) (X := fun w _ => laidMetH Tryz.prog Rows.bridgeNilRow.laid w) (fun _ _ _ hh h => h.of_heap hh) own started (by kernel_rfl) Tryz.func7
    (ChangeSpec.witness_shaped (enc := enc) (C := Tryz.checked) (os := os) (X := fun w _ => laidMetH Tryz.prog Rows.bridgeNilRow.laid w) false (World.laidAll Tryz.prog os Rows.bridgeNilRow.laid) #[.agg #[.int .i64 0, .int .i64 0, .bool false, .string .empty, .int .i64 0], .agg #[.int .i64 0, .string .empty, .string .empty]] 8 (World.laidAll_os _ _ _)
      (World.shaped_of_ZipB (by kernel_rfl) (by kernel_rfl)) (by kernel_rfl) (by kernel_rfl) (by kernel_rfl)
      (by rw [MakeChecks.laidMetH_plain _ _ _ (by kernel_rfl)]; exact laidMet_laidAll _ (by kernel_rfl) (by kernel_rfl))) ?_
  intro W base args ds gs before hval hW _ hsz _ _
  exact contract H enc W base args ds gs before hval hW hsz

theorem c_named : Tryz.prog.funcNamed "siphon/siphonlaw23.BridgeNil" = some 7 := by kernel_rfl
theorem c_laid : laidOutB Tryz.prog = true := laidOut
theorem c_rowed : mapsRowed Tryz.prog = true := by kernel_rfl
theorem c_place : (Rows.bridgeNilRow.inPlace == Tryz.prog.inPlace 7) = true := by kernel_rfl
theorem c_unf : (Rows.bridgeNilRow.unfollowed == Tryz.prog.unfollowed 7) = true := by kernel_rfl
theorem c_rec : (Rows.bridgeNilRow.recurses == Tryz.prog.recurses 7) = true := by kernel_rfl
theorem c_vars : (Rows.bridgeNilRow.named == Tryz.prog.varsNamed 7) = true := by kernel_rfl
theorem c_all : joinedFacts Tryz.prog 7 Tryz.f7 Rows.bridgeNilSpec Rows.bridgeNilRow = true := by
  unfold joinedFacts
  rw [c_laid, c_rowed, c_place, c_unf, c_rec, c_vars]
  kernel_rfl
theorem c_inst : (Tryz.f7).isInstance Tryz.prog Rows.bridgeNilRow.origin Rows.bridgeNilRow.targs := of_decide_eq_true (by kernel_rfl)
theorem c_wrap : (Tryz.f7).isWrapper Tryz.prog Rows.bridgeNilRow.wrapper Rows.bridgeNilRow.mainSum := by unfold Func.isWrapper; first | (rw [if_pos (by decide +kernel)]; kernel_rfl) | (rw [if_neg (by decide +kernel)]; exact ⟨rfl, rfl⟩)
theorem row_holds : Rows.BridgeNilSaid :=
  OpenClaim.holds_of_wide 7 Tryz.f7 rfl rfl rfl rfl rfl rfl rfl ⟨rfl, rfl, rfl, rfl, rfl⟩ rfl rfl rfl rfl rfl c_named Tryz.func7 c_all c_inst c_wrap
    (fun os started H enc _ => lifted os started H enc)
theorem c_main : Tryz.prog.mainIs = some (true, "3bde649d46f2bd328a55afcdfbebec262ecc2d54029a1feb6539b1ebbaff4034".toList) := by kernel_rfl
theorem c_looks : true = Tryz.prog.looks [] := by kernel_rfl
theorem c_wants : ([42, 58].all fun u => !Tryz.prog.wantsStandIn u) = true := by kernel_rfl
theorem c_goes : false = Rows.bridgeNilRow.goesBy Tryz.prog := by kernel_rfl
theorem c_wf : Rows.bridgeNilRow.wfByText (OpenSpec.ofChange Rows.bridgeNilSpec) = true := by kernel_rfl
theorem proved : Rows.BridgeNilCardSaid :=
  Claim7.holds_tied_plain_at .later [] [.data, .pinned] true (true, "3bde649d46f2bd328a55afcdfbebec262ecc2d54029a1feb6539b1ebbaff4034") true row_holds (fun _ h => by cases h) c_wf (fun _ h => by cases h) bridgeNil_row_tie rfl ⟨rfl, rfl⟩ c_main rfl
    (fun f fn hf hfn => by
      obtain rfl : f = 7 := Option.some.inj (c_named.symm.trans hf) |>.symm
      obtain rfl : fn = Tryz.f7 := (Option.some.inj (Tryz.func7.symm.trans hfn)).symm
      exact ⟨c_looks, fun j t ht => by
        rw [Tryz.params7] at ht
        have hm : t ∈ [42, 58] := by simpa using Array.mem_of_getElem? ht
        exact (show Tryz.prog.wantsStandIn t = false by simpa using List.all_eq_true.1 c_wants t hm)⟩)
    c_goes
end Go.Proofs.YthcdppppppgckaaGreatDoor.bridgeNil
