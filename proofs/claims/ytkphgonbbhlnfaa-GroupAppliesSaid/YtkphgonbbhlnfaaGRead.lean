/- group.read: a state as a map by addresses. -/
import Derived.Test.YtkphgonbbhlnfaaGKeys
import Derived.Test.YtkphgonbbhlnfaaGChk
namespace Go.Proofs.Ytkphgonbbhlnfaa
open Go.RowKit Go.Lib Go.Maps Go.Sort

def rd (L : List Tmd) : Str → Option Int := L.foldl (fun F t => upd F t.1 t.2) (fun _ => none)
theorem rd_nil : rd [] = fun _ => none := rfl
theorem rd_snoc (L : List Tmd) (t : Tmd) : rd (L ++ [t]) = upd (rd L) t.1 t.2 := by simp [rd]

/-- a call that hands back a map of its own -/
def RetKn (w : World) (ex : Bool) (at' : Int) (n : Nat) (F : Str → Option Int) (e : Ending) (w' : World) : Prop :=
  ∃ b, e = .returned (.agg #[.bool ex, .int .i64 at', .map (some b)]) ∧ Mp w' b n F ∧ w.heap.size ≤ b ∧ Below w.heap.size w w'

set_option maxRecDepth 20000 in
set_option maxHeartbeats 1000000 in
theorem read_any (ex : Bool) (at' : Int) (v : Value) (L : List Tmd) (w : World) (h : Tms w v L) :
    Calls Try.prog 24 #[.agg #[.bool ex, .int .i64 at', v]] w (RetKn w ex at' L.length (rd L)) := by
  obtain ⟨ao, cap, rfl⟩ := h.shape
  obtain ⟨b, off, hm, hlen, hidx, hc⟩ := h.facts
  have HWF := Lib.hid h.wfs
  obtain ⟨W0, hW0⟩ : ∃ W0, W0 = (((w.alloc (.cells #[.bool ex, .int .i64 at', .slice ao L.length cap] 24)).alloc (.cells #[.bool false, .int .i64 0, .map none] 60)).alloc (.map #[] 0)).alloc (.cells #[.bool ex, .int .i64 at', .map (some (w.heap.size + 1 + 1))] 60) := ⟨_, rfl⟩
  have hba : Below w.heap.size w W0 := by rw [hW0]; exact ((((Below.refl _ _).alloc (Nat.le_refl _) _).alloc (by simp) _).alloc (by simp <;> omega) _).alloc (by simp <;> omega) _
  have hs0 : W0.heap.size = w.heap.size + 4 := by rw [hW0]; simp
  have s2 : CBox W0 (w.heap.size + 1) 60 #[.bool false, .int .i64 0, .map none] := by rw [hW0]; exact ((CBox.new _ (by simp)).old _).old _
  have s3 : CBox W0 (w.heap.size + 1 + 1 + 1) 60 #[.bool ex, .int .i64 at', .map (some (w.heap.size + 1 + 1))] := by rw [hW0]; exact CBox.new _ (by simp)
  have hmp : Mp W0 (w.heap.size + 1 + 1) 0 (fun _ => none) := by
    rw [hW0]
    have := Mp.made ((w.alloc (.cells #[.bool ex, .int .i64 at', .slice ao L.length cap] 24)).alloc (.cells #[.bool false, .int .i64 0, .map none] 60))
    rw [World.size_alloc, World.size_alloc] at this
    exact this.below ((Below.refl _ _).alloc (Nat.le_refl _) _) (by simp)
  clear h
  have hmm := @run_makeMap Try.prog
  go_enter Try.func24, Try.ntmps24
  go_wp2_with fail
  rw [← hW0]
  clear hW0
  go_loopw [15] (fun i wr => ∃ k : Nat, k ≤ L.length ∧ i = .int .i64 k ∧ Mp wr (w.heap.size + 1 + 1) k (rd (L.take k)) ∧ CBox wr (w.heap.size + 1) 60 #[.bool false, .int .i64 0, .map none] ∧ CBox wr (w.heap.size + 1 + 1 + 1) 60 #[.bool ex, .int .i64 at', .map (some (w.heap.size + 1 + 1))] ∧ Below w.heap.size w wr ∧ W0.heap.size ≤ wr.heap.size) (fun i _ => L.length - (intOf i).toNat)
  case atStart => exact ⟨0, Nat.zero_le _, rfl, hmp, s2, s3, hba, Nat.le_refl _⟩
  case round =>
    clear hmp s2 s3 hba
    obtain ⟨k, hk, rfl, hmp, s2, s3, hbel, hsz⟩ := hrel
    have HM := Lib.hid hmp; have S2 := Lib.hid s2; have S3 := Lib.hid s3; have HB := Lib.hid hbel
    obtain ⟨z0, _⟩ := s3.at_ 0 _ rfl
    obtain ⟨z1, _⟩ := s3.at_ 1 _ rfl
    obtain ⟨z2, _⟩ := s3.at_ 2 _ rfl
    have hlt3 := s3.lt
    by_cases hlt : k < L.length
    · obtain ⟨⟨s, n⟩, hs⟩ : ∃ s, L.getD k default = s := ⟨_, rfl⟩
      obtain ⟨hlb, c0, c1⟩ := hc k hlt
      rw [hs] at c0 c1
      have d0 := (hbel.cell (p := ⟨b, off + k * 2, none⟩) hlb).trans c0
      have d1 := (hbel.cell (p := ⟨b, off + k * 2 + 1, none⟩) hlb).trans c1
      have hp := hidx k hlt
      have hL : L[k] = (s, n) := by rw [← hs]; simp [List.getD_eq_getElem?_getD, hlt]
      have hw := HWF.out (s, n) (hL ▸ List.getElem_mem hlt)
      have HT := Lib.hid (show rd (L.take (k + 1)) = upd (rd (L.take k)) s n from by rw [take_snoc L k hlt, rd_snoc, hL])
      obtain ⟨w2, hr, hm2, hg2⟩ := (hmp.below ((Below.refl _ wr).alloc (Nat.le_refl _) (.cells #[.string (bstr s), .int .i64 n] 56)) hmp.lt).put s hw.1 n hw.2 (by unfold maxLen; omega)
      have HM2 := Lib.hid hm2; have HG2 := Lib.hid hg2
      clear hidx hc c0 c1 hs hL hw hmp s2 s3 hbel hm2 hg2
      have HH := Lib.hid (And.intro hlt3 hsz)
      go_wp2
      go_roundw
      case rel =>
        have h1 := HG2.out.size
        have h2 : Below w.heap.size w (wr.alloc (.cells #[.string (bstr s), .int .i64 n] 56)) := HB.out.alloc HB.out.size _
        refine ⟨k + 1, by omega, by go_num, by rw [HT.out]; exact HM2.out, (S2.out.old _).grown HG2.out (by simp), (S3.out.old _).grown HG2.out (by simp), h2.grown HG2.out h2.size (fun j e => by cases e; omega), ?_⟩
        simp at h1
        have := HH.out.2
        omega
      case measure => simp [intOf]; omega
    · have HT := Lib.hid (show L.take k = L from List.take_of_length_le (by omega))
      have hk' : k = L.length := by omega
      obtain ⟨y0, _⟩ := s2.at_ 0 _ rfl
      obtain ⟨y1, _⟩ := s2.at_ 1 _ rfl
      obtain ⟨y2, _⟩ := s2.at_ 2 _ rfl
      clear hidx hc hmp s2 s3 hbel
      go_wp2
      have R := fun u1 u2 u3 => ((S2.out.set 0 u1).set 1 u2).set 2 u3
      have r0 := fun u1 u2 u3 => ((R u1 u2 u3).at_ 0 _ rfl).1
      have r1 := fun u1 u2 u3 => ((R u1 u2 u3).at_ 1 _ rfl).1
      have r2 := fun u1 u2 u3 => ((R u1 u2 u3).at_ 2 _ rfl).1
      refine bodyPost_ret (v := .agg #[.bool ex, .int .i64 at', .map (some (w.heap.size + 1 + 1))]) (by simp [results, Try.results24, go_sem, r0, r1, r2]) rfl ⟨_, rfl, ?_, by omega, ((HB.out.setCell (by simp) _).setCell (by simp) _).setCell (by simp) _⟩
      have := HM.out
      rw [HT.out, hk'] at this
      exact ((this.set (by simp) _).set (by simp) _).set (by simp) _

/-- runs, blocks: what is known of an address -/
theorem runs_any (ex : Bool) (at' : Int) (b n : Nat) (F : Str → Option Int) (a : Str) (ha : a.length ≤ maxLen) (w : World) (h : Mp w b n F) :
    Calls Try.prog 27 #[.agg #[.bool ex, .int .i64 at', .map (some b)], .string (bstr a)] w fun e w' => e = .returned (.bool ((F a).getD 0 != 0)) ∧ Below w.heap.size w w' := by
  have hb : Below w.heap.size w (w.alloc (.cells #[.bool ex, .int .i64 at', .map (some b)] 60)) := (Below.refl _ _).alloc (Nat.le_refl _) _
  have hg := (h.below hb h.lt).get a ha
  have HB := Lib.hid hb
  clear h hb
  go_enter Try.func27, Try.ntmps27
  go_wp2
  go_ret
  exact ⟨rfl, HB.out⟩

theorem blocks_any (ex : Bool) (at' : Int) (b n : Nat) (F : Str → Option Int) (a : Str) (ha : a.length ≤ maxLen) (w : World) (h : Mp w b n F) :
    Calls Try.prog 26 #[.agg #[.bool ex, .int .i64 at', .map (some b)], .string (bstr a)] w fun e w' => e = .returned (.bool (F a == some 0)) ∧ Below w.heap.size w w' := by
  have hb : Below w.heap.size w (w.alloc (.cells #[.bool ex, .int .i64 at', .map (some b)] 60)) := (Below.refl _ _).alloc (Nat.le_refl _) _
  have hg := (h.below hb h.lt).getOk a ha
  have HB := Lib.hid hb
  clear h hb
  obtain ⟨o, ho⟩ : ∃ o, F a = o := ⟨_, rfl⟩
  rw [ho] at hg ⊢
  clear ho
  cases o
  · simp at hg
    go_enter Try.func26, Try.ntmps26
    go_wp2
    go_ret
    exact ⟨rfl, HB.out⟩
  · rename_i z
    simp at hg
    go_enter Try.func26, Try.ntmps26
    go_wp2
    go_ret
    exact ⟨ret_bool (by simp), HB.out⟩
end Go.Proofs.Ytkphgonbbhlnfaa
