/- BridgeChecks returns true for every config and time and leaves them as they were: no condition. -/
import Derived.Test.YthcdppppppgckaaGreatDoorRows
import Derived.Test.YthcdppppppgckaaGreatDoorCards
import Derived.Test.YthcdppppppgckaaGreatDoorTie
import Derived.Test.YthcdppppppgckaaGreatDoorC43
import Derived.Test.YthcdppppppgckaaGreatDoorC42
import Derived.ProofKit
import Derived.OpenShut
import Derived.LaidMore
import Derived.Lay
import Derived.SevenTiedAt
import Derived.Stop.Joined
namespace Go.Proofs.YthcdppppppgckaaGreatDoor.bridgeChecks
open Go.ChangeShapes Go.WideShapes Go.ChangeAt Go.RowKit
open Go.ChangeMaps (open_string shut_string)

theorem own : ownKnob Tryz.prog.godebug = none := by kernel_rfl
theorem laidOut : laidOutB Tryz.prog = true := by kernel_rfl

set_option maxRecDepth 100000 in
theorem contract (H : Type) (enc : TypeId × Value → H) (W : World) (base : Nat) (args : Array Value) (ds gs : List (DataW H)) (before : List MemPlace)
    (hval : ∀ (j : Nat) t v, Tryz.f3.params[j]? = some t → args[j]? = some v → Value.okWide Tryz.prog W .any base t v)
    (hW : DataW.Whole enc Tryz.prog Tryz.f3.params.toList Rows.bridgeChecksSpec.vars false W args.toList ds gs before)
    (hsz0 : (DataW.weightsEach Tryz.prog (Tryz.f3.params.toList ++ Rows.bridgeChecksSpec.plain.varTypes Tryz.prog) (ds ++ gs)).all (· ≤ reachBytes) = true) :
    Calls Tryz.prog 3 args W fun e W' => ∃ v, e = .returned v ∧ Rows.bridgeChecksSpec.post enc Tryz.prog Tryz.f3 false true false false W args v W' := by
  have hW' := hW
  obtain ⟨p, q, hA0, hV, rfl, hfz, hnd⟩ := hW
  have hA : DataW.TrodAll enc Tryz.prog W 0 (fun _ => true) true Tryz.f3.params.toList args.toList ds p := hA0
  rw [Tryz.params3] at hA hval
  rw [Tryz.params3] at hsz0
  obtain ⟨v0, vs0, d0, ds0, p0, q0, hargs, rfl, rfl, h0, r0⟩ := trodAll_cons hA
  obtain ⟨v1, vs1, d1, ds1, p1, q1, rfl, rfl, rfl, h1, r1⟩ := trodAll_cons r0
  obtain ⟨rfl, rfl, rfl⟩ := trodAll_nil r1
  obtain rfl : args = #[v0, v1] := by cases args; simp_all
  obtain ⟨rfl, rfl⟩ := trodVars_none hV
  have h0k := h0
  have h1k := h1
  obtain ⟨c0, vc0, ao0, n0, cap0, rfl, hi0, ic0, hp0⟩ := open_Cf (hval 0 27 v0 rfl rfl) h0 (weights_arg hsz0 0 27 d0 rfl rfl)
  obtain ⟨z1, rfl, _, _, wz1⟩ := open_int Tryz.underlying3 (hval 1 3 v1 rfl rfl) h1
  clear hA0
  simp only [List.append_nil] at hW'
  have hlt0 : ∀ x ∈ p0, x.block < W.heap.size := fun x hx => hW'.lt x (by simp [hx])
  have hlt1 : ∀ x ∈ p1, x.block < W.heap.size := fun x hx => hW'.lt x (by simp [hx])
  refine (law_bchecks2 c0 vc0 ao0 n0 cap0 z1 W hi0 ic0 hp0).mono fun e W' ⟨he, hb⟩ => ?_
  subst he
  exact ⟨_, rfl, _, _, _, [], _, [], hW', trodAll_cons_mk (shut_bool Tryz.underlying4 _) trodAll_mk0, trodAll_cons_mk (Below.trod laidOut (by kernel_rfl) (of_decide_eq_true (by kernel_rfl)) h0k hb hlt0) (trodAll_cons_mk (Below.trod laidOut (by kernel_rfl) (of_decide_eq_true (by kernel_rfl)) h1k hb hlt1) (trodAll_mk0)), rfl, hb.frame _, fun h => by cases h⟩

set_option maxRecDepth 100000 in
theorem lifted (os : Os) (started : os.Started) (H : Type) (enc : TypeId × Value → H) :
    ReturnsInHanded {} Tryz.checked os 3 .any (fun w args => (Rows.bridgeChecksSpec.pre enc Tryz.prog Tryz.f3 Rows.bridgeChecksRow.domain false w args ∧ laidMetH Tryz.prog Rows.bridgeChecksRow.laid w) ∧ sizedMet enc Tryz.prog Tryz.f3 (OpenSpec.ofChange Rows.bridgeChecksSpec) false w args)
      (Rows.bridgeChecksSpec.post enc Tryz.prog Tryz.f3 false true false false) := by
  refine returnsInHanded_of_change_and (C := Tryz.checked) (X := fun w _ => laidMetH Tryz.prog Rows.bridgeChecksRow.laid w) (fun _ _ _ hh h => h.of_heap hh) own started (by kernel_rfl) Tryz.func3
    (ChangeSpec.witness_shaped (enc := enc) (C := Tryz.checked) (os := os) (X := fun w _ => laidMetH Tryz.prog Rows.bridgeChecksRow.laid w) false (World.laidAll Tryz.prog os Rows.bridgeChecksRow.laid) #[.agg #[.int .u64 0, .slice none 0 0, .slice none 0 0, .string .empty, .string .empty, .int .i64 0, .int .i64 0, .int .i64 0, .int .i64 0, .int .i64 0, .int .i64 0, .bool false, .bool false], .int .i64 0] 8 (World.laidAll_os _ _ _)
      (World.shaped_of_ZipB (by kernel_rfl) (by kernel_rfl)) (by kernel_rfl) (by kernel_rfl) (by kernel_rfl)
      (by rw [MakeChecks.laidMetH_plain _ _ _ (by kernel_rfl)]; exact laidMet_laidAll _ (by kernel_rfl) (by kernel_rfl))) ?_
  intro W base args ds gs before hval hW _ hsz _ _
  exact contract H enc W base args ds gs before hval hW hsz

theorem c_named : Tryz.prog.funcNamed "siphon/siphonlaw23.BridgeChecks" = some 3 := by kernel_rfl
theorem c_laid : laidOutB Tryz.prog = true := laidOut
theorem c_rowed : mapsRowed Tryz.prog = true := by kernel_rfl
theorem c_place : (Rows.bridgeChecksRow.inPlace == Tryz.prog.inPlace 3) = true := by kernel_rfl
theorem c_unf : (Rows.bridgeChecksRow.unfollowed == Tryz.prog.unfollowed 3) = true := by kernel_rfl
theorem c_rec : (Rows.bridgeChecksRow.recurses == Tryz.prog.recurses 3) = true := by kernel_rfl
theorem c_vars : (Rows.bridgeChecksRow.named == Tryz.prog.varsNamed 3) = true := by kernel_rfl
theorem c_all : joinedFacts Tryz.prog 3 Tryz.f3 Rows.bridgeChecksSpec Rows.bridgeChecksRow = true := by
  unfold joinedFacts
  rw [c_laid, c_rowed, c_place, c_unf, c_rec, c_vars]
  kernel_rfl
theorem c_inst : (Tryz.f3).isInstance Tryz.prog Rows.bridgeChecksRow.origin Rows.bridgeChecksRow.targs := of_decide_eq_true (by kernel_rfl)
theorem c_wrap : (Tryz.f3).isWrapper Tryz.prog Rows.bridgeChecksRow.wrapper Rows.bridgeChecksRow.mainSum := by unfold Func.isWrapper; first | (rw [if_pos (by decide +kernel)]; kernel_rfl) | (rw [if_neg (by decide +kernel)]; exact ⟨rfl, rfl⟩)
theorem row_holds : Rows.BridgeChecksSaid :=
  OpenClaim.holds_of_wide 3 Tryz.f3 rfl rfl rfl rfl rfl rfl rfl ⟨rfl, rfl, rfl, rfl, rfl⟩ rfl rfl rfl rfl rfl c_named Tryz.func3 c_all c_inst c_wrap
    (fun os started H enc _ => lifted os started H enc)
theorem c_main : Tryz.prog.mainIs = some (true, "3bde649d46f2bd328a55afcdfbebec262ecc2d54029a1feb6539b1ebbaff4034".toList) := by kernel_rfl
theorem c_looks : true = Tryz.prog.looks [] := by kernel_rfl
theorem c_wants : ([27, 3].all fun u => !Tryz.prog.wantsStandIn u) = true := by kernel_rfl
theorem c_goes : false = Rows.bridgeChecksRow.goesBy Tryz.prog := by kernel_rfl
theorem c_wf : Rows.bridgeChecksRow.wfByText (OpenSpec.ofChange Rows.bridgeChecksSpec) = true := by kernel_rfl
theorem proved : Rows.BridgeChecksCardSaid :=
  Claim7.holds_tied_plain_at .later [] [.data, .pinned] true (true, "3bde649d46f2bd328a55afcdfbebec262ecc2d54029a1feb6539b1ebbaff4034") true row_holds (fun _ h => by cases h) c_wf (fun _ h => by cases h) bridgeChecks_row_tie rfl ⟨rfl, rfl⟩ c_main rfl
    (fun f fn hf hfn => by
      obtain rfl : f = 3 := Option.some.inj (c_named.symm.trans hf) |>.symm
      obtain rfl : fn = Tryz.f3 := (Option.some.inj (Tryz.func3.symm.trans hfn)).symm
      exact ⟨c_looks, fun j t ht => by
        rw [Tryz.params3] at ht
        have hm : t ∈ [27, 3] := by simpa using Array.mem_of_getElem? ht
        exact (show Tryz.prog.wantsStandIn t = false by simpa using List.all_eq_true.1 c_wants t hm)⟩)
    c_goes
end Go.Proofs.YthcdppppppgckaaGreatDoor.bridgeChecks
