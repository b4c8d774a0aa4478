/- siphonlaw17.copied: a state of its own. -/
import Derived.Test.YtkphgonbbhlnfaaTms
namespace Go.Proofs.Ytkphgonbbhlnfaa
open Go.RowKit Go.Lib Go.Sort

theorem infoTmd : (Try.prog.info? 56).map (fun i => (i.zero, i.size, i.bytes)) = some (some (.agg #[.string ⟨#[]⟩, .int .i64 0]), 2, 24) := by kernel_rfl

/-- a call that hands back a state, and writes nothing that was there -/
def RetSt (w : World) (ex : Bool) (at' : Int) (L : List Tmd) (e : Ending) (w' : World) : Prop :=
  ∃ v, e = .returned (.agg #[.bool ex, .int .i64 at', v]) ∧ Tms w' v L ∧ Below w.heap.size w w' ∧ Lies w.heap.size v

set_option maxHeartbeats 4000000 in
set_option maxRecDepth 20000 in
theorem copied_any (ex : Bool) (at' : Int) (v : Value) (L : List Tmd) (w : World) (h : Tms w v L) :
    Calls Try.prog 11 #[.agg #[.bool ex, .int .i64 at', v]] w (RetSt w ex at' L) := by
  obtain ⟨ao, cap, rfl⟩ := h.shape
  obtain ⟨i0, hi, hz0, hz1, hz2⟩ := info_parts infoTmd
  have hm := h.few
  have HWF := Lib.hid h.wfs
  obtain ⟨W0, hW0⟩ : ∃ W0, W0 = ((w.alloc (.cells #[.bool ex, .int .i64 at', .slice ao L.length cap] 24)).alloc (.cells #[.bool false, .int .i64 0, .slice none 0 0] 24)).alloc (.cells #[.bool ex, .int .i64 at', .slice none 0 0] 24) := ⟨_, rfl⟩
  have hb0 : Below w.heap.size w W0 := by rw [hW0]; exact (((Below.refl _ _).alloc (Nat.le_refl _) _).alloc (by simp) _).alloc (by simp <;> omega) _
  have hs0 : W0.heap.size = w.heap.size + 3 := by rw [hW0]; simp
  have b1 : CBox W0 w.heap.size 24 #[.bool ex, .int .i64 at', .slice ao L.length cap] := by rw [hW0]; exact ((CBox.new _ rfl).old _).old _
  have b2 : CBox W0 (w.heap.size + 1) 24 #[.bool false, .int .i64 0, .slice none 0 0] := by rw [hW0]; exact (CBox.new _ (by simp)).old _
  have b3 : CBox W0 (w.heap.size + 1 + 1) 24 #[.bool ex, .int .i64 at', .slice none 0 0] := by rw [hW0]; exact CBox.new _ (by simp)
  have HS := Lib.hid (h.mono hb0).sliceOf
  have HN := Lib.hid (World.ownsRow_nil W0 (w.heap.size + 3) 56 2)
  have HB := Lib.hid hb0
  have HZ := Lib.hid hs0
  have B2 := Lib.hid b2; have B3 := Lib.hid b3
  rw [hW0] at HS HN
  clear h hb0 b1 b2 b3 hs0
  go_enter Try.func11, Try.ntmps11
  go_wp2_with (at_builtin; refine wpList_append_vals _ rfl _ _ 22 rfl (w.heap.size + 3) 56 i0 (.agg #[.string ⟨#[]⟩, .int .i64 0]) 2 24 Try.underlying22 hi hz0 hz1 hz2 rfl (by decide) (.slice none 0 0) 0 [] rfl HN.out (.slice ao L.length cap) L.length _ rfl HS.out (by unfold maxLen; omega) (by omega) (by simp) ?_; intro v' w1 hown hg _; obtain ⟨ao', c', rfl⟩ := own_form hown; rw [← hW0] at hg; have C3 := Lib.hid (B3.out.grown hg (by simp [Value.ownBlock])); have C2 := Lib.hid (B2.out.grown hg (by simp [Value.ownBlock])); obtain ⟨x2, _⟩ := C3.out.at_ 2 _ rfl; obtain ⟨y0, _⟩ := C2.out.at_ 0 _ rfl; obtain ⟨y1, _⟩ := C2.out.at_ 1 _ rfl; obtain ⟨y2, _⟩ := C2.out.at_ 2 _ rfl; obtain ⟨x0, _⟩ := C3.out.at_ 0 _ rfl; obtain ⟨x1, _⟩ := C3.out.at_ 1 _ rfl; have HG := Lib.hid hg; have HO := Lib.hid hown; clear hg hown)
  have R := fun u0 u1 u2 u3 => (((C2.out.far (p := ⟨w.heap.size + 1 + 1, 2, none⟩) (by simp) u0).set 0 u1).set 1 u2).set 2 u3
  have r0 := fun u0 u1 u2 u3 => ((R u0 u1 u2 u3).at_ 0 _ rfl).1
  have r1 := fun u0 u1 u2 u3 => ((R u0 u1 u2 u3).at_ 1 _ rfl).1
  have r2 := fun u0 u1 u2 u3 => ((R u0 u1 u2 u3).at_ 2 _ rfl).1
  have HT : Tms w1 (.slice ao' L.length c') L := Tms.own (by simpa using HO.out) hm HWF.out
  have HL : Lies (w.heap.size + 3) (.slice ao' L.length c') := by have := Lies.own HO.out; simpa using this
  refine bodyPost_ret (v := .agg #[.bool ex, .int .i64 at', .slice ao' L.length c']) (by simp [results, Try.results11, go_sem, r0, r1, r2]) rfl ⟨_, rfl, ?_, ?_, ?_⟩
  · exact (((HT.far HL (by simp <;> omega) _).far HL (by simp <;> omega) _).far HL (by simp <;> omega) _).far HL (by simp <;> omega) _
  · exact ((((HB.out.grown HG.out (by have := HZ.out; omega) (fun k e => by simp [Value.ownBlock] at e)).setCell (by simp <;> omega) _).setCell (by simp) _).setCell (by simp) _).setCell (by simp) _
  · exact HL.mono (by omega)
end Go.Proofs.Ytkphgonbbhlnfaa
