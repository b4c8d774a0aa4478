/- Texts joined into one file: GRexp, GOpen, VMap. -/
import Derived.Test.YtfloipdkhmgibaaS13
import Derived.Test.YtfloipdkhmgibaaS16
import Derived.Test.YtfloipdkhmgibaaS09
import Derived.ProofKit
import Derived.OpenShut
import Derived.SizedLaws
import Derived.Lib.SmallJoins
import Derived.Deep.SlicePairs
import Derived.Test.YtfloipdkhmgibaaS01
import Derived.Maps.OwnSet
import Derived.Maps.OwnOps
import Derived.Maps.RangeWalk
import Derived.Sort.KeysCollected

/- siphonref17.Expire: what becomes of a state by time. -/
namespace Go.Proofs.Ytfloipdkhmgibaa
open Go.RowKit Go.Lib Go.Maps Go.Sort
set_option maxRecDepth 20000

def exTail (e2 : Bool) (now : Int) (t : Tmd) : List Tmd := if now < t.2 then [t] else if e2 then [(t.1, 0)] else []
def exL (e2 : Bool) (now : Int) (L : List Tmd) : List Tmd := L.flatMap (exTail e2 now)
theorem exL_snoc (e2 : Bool) (now : Int) (L : List Tmd) (k : Nat) (h : k < L.length) : exL e2 now (L.take (k + 1)) = exL e2 now (L.take k) ++ exTail e2 now L[k] := by
  unfold exL
  rw [take_snoc L k h, List.flatMap_append]
  simp
theorem exTail_sub (e2 : Bool) (now : Int) (t : Tmd) : ((exTail e2 now t).map Prod.fst).Sublist [t.1] := by
  unfold exTail
  split
  · exact List.Sublist.refl _
  · split
    · exact List.Sublist.refl _
    · exact List.nil_sublist _
theorem exL_sub (e2 : Bool) (now : Int) : ∀ L : List Tmd, ((exL e2 now L).map Prod.fst).Sublist (L.map Prod.fst)
  | [] => List.Sublist.refl _
  | t :: L => by
    unfold exL
    rw [List.flatMap_cons, List.map_append, List.map_cons]
    exact List.Sublist.append (exTail_sub e2 now t) (exL_sub e2 now L)
theorem exL_len (e2 : Bool) (now : Int) (L : List Tmd) : (exL e2 now L).length ≤ L.length := by
  have := (exL_sub e2 now L).length_le
  rwa [List.length_map, List.length_map] at this
theorem exL_mem {e2 : Bool} {now : Int} {L : List Tmd} {u : Tmd} (h : u ∈ exL e2 now L) : ∃ t ∈ L, u.1 = t.1 ∧ ((now < t.2 ∧ u.2 = t.2) ∨ (¬ now < t.2 ∧ e2 = true ∧ u.2 = 0)) := by
  obtain ⟨t, ht, hu⟩ := List.mem_flatMap.1 h
  refine ⟨t, ht, ?_⟩
  unfold exTail at hu
  split at hu
  · rename_i hn
    rw [List.mem_singleton] at hu
    subst hu
    exact ⟨rfl, .inl ⟨hn, rfl⟩⟩
  · rename_i hn
    split at hu
    · rename_i he
      rw [List.mem_singleton] at hu
      subst hu
      exact ⟨rfl, .inr ⟨hn, he, rfl⟩⟩
    · cases hu
theorem exL_wfs (e2 : Bool) (now : Int) {L : List Tmd} (h : ∀ t ∈ L, t.1.length ≤ maxLen ∧ (Lit.int .i64 t.2).wf = true) : ∀ t ∈ exL e2 now L, t.1.length ≤ maxLen ∧ (Lit.int .i64 t.2).wf = true := by
  intro u hu
  obtain ⟨t, ht, h1, h2 | h2⟩ := exL_mem hu
  · rw [h1, h2.2]; exact h t ht
  · rw [h1, h2.2.2]; exact ⟨(h t ht).1, rfl⟩
theorem asc_ex (e2 : Bool) (now : Int) {F : Str → Option Int} {L : List Tmd} (h : Asc F L) : Asc (exF e2 now F) (exL e2 now L) := by
  have hv : ∀ u ∈ exL e2 now L, exF e2 now F u.1 = some u.2 := by
    intro u hu
    obtain ⟨t, ht, h1, h2⟩ := exL_mem hu
    have hF := h.2 t ht
    unfold exF
    rw [h1, hF]
    rcases h2 with ⟨h2, h3⟩ | ⟨h2, h3, h4⟩
    · simp [h2, h3]
    · simp [h2, h3, h4]
  refine ⟨⟨h.1.1.sublist (exL_sub e2 now L), fun a => ?_⟩, hv⟩
  constructor
  · intro ha
    obtain ⟨u, hu, rfl⟩ := List.mem_map.1 ha
    rw [hv u hu]; simp
  · intro ha
    have hF : F a ≠ none := by intro e; apply ha; unfold exF; rw [e]
    obtain ⟨t, ht, rfl⟩ := List.mem_map.1 ((h.1.2 a).2 hF)
    have hF' := h.2 t ht
    unfold exF at ha
    rw [hF'] at ha
    by_cases hn : now < t.2
    · exact List.mem_map.2 ⟨t, List.mem_flatMap.2 ⟨t, ht, by simp [exTail, hn]⟩, rfl⟩
    · cases e2
      · simp [hn] at ha
      · exact List.mem_map.2 ⟨(t.1, 0), List.mem_flatMap.2 ⟨t, ht, by simp [exTail, hn]⟩, rfl⟩

set_option maxRecDepth 20000 in
set_option maxHeartbeats 2000000 in
theorem rexpire_any (ex : Bool) (at' : Int) (v : Value) (L : List Tmd) (now : Int) (w : World) (h : Tms w v L) :
    Calls Try.prog 30 #[.agg #[.bool ex, .int .i64 at', v], .int .i64 now] w (RetExp w ex at' L now (ex && decide (now < at'))) := by
  obtain ⟨ao, cap, rfl⟩ := h.shape
  obtain ⟨i0, hi, hz0, hz1, hz2⟩ := info_parts infoTmd
  obtain ⟨W0, hW0⟩ : ∃ W0, W0 = (w.alloc (.cells #[.bool ex, .int .i64 at', .slice ao L.length cap] 32)).alloc (.cells #[.bool false, .int .i64 0, .slice none 0 0] 32) := ⟨_, rfl⟩
  have hb0 : Below w.heap.size w W0 := by rw [hW0]; exact ((Below.refl _ _).alloc (Nat.le_refl _) _).alloc (by simp) _
  have hs0 : W0.heap.size = w.heap.size + 2 := by rw [hW0]; simp
  have s1 : CBox W0 w.heap.size 32 #[.bool ex, .int .i64 at', .slice ao L.length cap] := by rw [hW0]; exact (CBox.new _ rfl).old _
  have s2 : CBox W0 (w.heap.size + 1) 32 #[.bool false, .int .i64 0, .slice none 0 0] := by rw [hW0]; exact CBox.new _ (by simp)
  have HC := Lib.hid (rcheck_any ex at' _ L W0 (h.mono hb0))
  have HT := Lib.hid h
  have HWF := Lib.hid h.wfs
  rw [hW0] at HC
  have HB1 := Lib.hid (fun (w1 : World) (h1 : Below W0.heap.size W0 w1) => show CBox w1 w.heap.size 32 #[.bool ex, .int .i64 at', .slice ao L.length cap] ∧ CBox w1 (w.heap.size + 1) 32 #[.bool false, .int .i64 0, .slice none 0 0] ∧ Below w.heap.size w w1 from ⟨s1.below h1 (by omega), s2.below h1 (by omega), hb0.trans (h1.mono (by omega))⟩)
  rw [hW0] at HB1
  clear h hb0 hs0 s1 s2
  go_enter Try.func30, Try.ntmps30
  go_wp2_with fail
  refine HC.out.mono ?_
  rintro e w1 ⟨rfl, hb1⟩
  obtain ⟨t1, t2, hbw⟩ := HB1.out w1 hb1
  have T1 := Lib.hid t1; have T2 := Lib.hid t2; have HBW := Lib.hid hbw
  have HW1 := Lib.hid (show w.heap.size + 1 < w1.heap.size from t2.lt)
  obtain ⟨x0, _⟩ := t1.at_ 0 _ rfl
  obtain ⟨x1, _⟩ := t1.at_ 1 _ rfl
  obtain ⟨x2, _⟩ := t1.at_ 2 _ rfl
  obtain ⟨y0, _⟩ := t2.at_ 0 _ rfl
  obtain ⟨y1, _⟩ := t2.at_ 1 _ rfl
  obtain ⟨y2, _⟩ := t2.at_ 2 _ rfl
  clear HC HB1 hb1 hbw t1 t2 hW0 W0
  cases hp : pcheck ex at' L
  · have HP := Lib.hid hp
    go_wp2
    have R := fun u1 u2 u3 => ((T2.out.set 0 u1).set 1 u2).set 2 u3
    have r0 := fun u1 u2 u3 => ((R u1 u2 u3).at_ 0 _ rfl).1
    have r1 := fun u1 u2 u3 => ((R u1 u2 u3).at_ 1 _ rfl).1
    have r2 := fun u1 u2 u3 => ((R u1 u2 u3).at_ 2 _ rfl).1
    refine bodyPost_ret (v := .tuple #[.agg #[.bool false, .int .i64 0, .slice none 0 0], .bool false]) (by simp [results, Try.results30, go_sem, r0, r1, r2]) rfl (.inl ⟨HP.out, rfl, ((HBW.out.setCell (by simp) _).setCell (by simp) _).setCell (by simp) _⟩)
  · have HP := Lib.hid hp
    have HLL := Lib.hid (pcheck_iff.1 hp).1
    clear hp
    cases ex
    · obtain ⟨W2, hW2⟩ : ∃ W2, W2 = w1.alloc (.cells #[.bool false, .int .i64 0, .slice none 0 0] 32) := ⟨_, rfl⟩
      have hbw : Below w1.heap.size w1 W2 := by rw [hW2]; exact (Below.refl _ _).alloc (Nat.le_refl _) _
      have s3 : CBox W2 w1.heap.size 32 #[.bool false, .int .i64 0, .slice none 0 0] := by rw [hW2]; exact CBox.new _ rfl
      have HX := Lib.hid (show (false && decide (now < at')) = false from rfl)
      have HLT := Lib.hid s3.lt
      have S3 := Lib.hid s3
      have S1 := Lib.hid (T1.out.below hbw T1.out.lt); have S2 := Lib.hid (T2.out.below hbw T2.out.lt); have B2 := Lib.hid (HBW.out.trans (hbw.mono HBW.out.size))
      clear s3 hbw T1 T2 HBW
      go_wp2_with fail
      rw [← hW2]
      clear hW2 x0 x1 x2 y0 y1 y2
      go_loopw [7] (fun i wr => ∃ (k : Nat) (v' : Value) (o : List Tmd), k ≤ L.length ∧ i = .int .i64 k ∧ exL false now (L.take k) = o ∧ CBox wr w.heap.size 32 #[.bool false, .int .i64 at', .slice ao L.length cap] ∧ CBox wr (w.heap.size + 1) 32 #[.bool false, .int .i64 0, .slice none 0 0] ∧ CBox wr w1.heap.size 32 #[.bool false, .int .i64 0, v'] ∧ wr.ownsRow W2.heap.size 65 2 v' o.length (o.flatMap tcells) ∧ Below w.heap.size w wr ∧ W2.heap.size ≤ wr.heap.size) (fun i _ => L.length - (intOf i).toNat)
      case atStart => exact ⟨0, _, [], Nat.zero_le _, rfl, rfl, S1.out, S2.out, S3.out, World.ownsRow_nil _ _ _ _, B2.out, Nat.le_refl _⟩
      case round =>
        obtain ⟨k, v', o, hk, rfl, hst, t1, t2, t3, hown, hbel, hsz⟩ := hrel
        obtain ⟨vo, vc, rfl⟩ := own_form hown
        have hol : o.length ≤ k := by rw [← hst]; exact Nat.le_trans (exL_len _ _ _) (by simp; omega)
        have T1 := Lib.hid t1; have T2 := Lib.hid t2; have T3 := Lib.hid t3; have HO := Lib.hid hown; have HB := Lib.hid hbel; have HSZ := Lib.hid hsz
        obtain ⟨x2, _⟩ := t1.at_ 2 _ rfl
        obtain ⟨u0, _⟩ := t3.at_ 0 _ rfl
        obtain ⟨u2, _⟩ := t3.at_ 2 _ rfl
        have hl3 := t3.lt
        obtain ⟨b, off, hm, hlen, hidx, hc⟩ := (HT.out.mono hbel).facts
        by_cases hlt : k < L.length
        · obtain ⟨⟨s, n⟩, hs⟩ : ∃ s, L.getD k default = s := ⟨_, rfl⟩
          obtain ⟨hlb, q0, q1⟩ := hc k hlt
          rw [hs] at q0 q1
          have hp := hidx k hlt
          have hL : L[k] = (s, n) := by rw [← hs]; simp [List.getD_eq_getElem?_getD, hlt]
          have HN := Lib.hid (show exL false now (L.take (k + 1)) = o ++ exTail false now (s, n) from by rw [exL_snoc _ _ L k hlt, hst, hL])
          have h1 : o.length + 1 ≤ maxLen := by have := HLL.out; unfold maxLen; omega
          have h2 : (o.length + 1) * 24 ≤ 140737488355328 := by have := HLL.out; omega
          clear hidx hc hs hL hst hown hbel t1 t2 t3 hsz
          cases hnc : decide (now < n)
          · have NC := Lib.hid (show ¬ now < n by simpa using hnc)
            have HE := Lib.hid (show exL false now (L.take (k + 1)) = o from by rw [HN.out]; simp [exTail, NC.out])
            go_wp2_with fail
            go_roundw
            case rel => exact ⟨k + 1, _, o, by omega, by go_num, HE.out, T1.out.old _, T2.out.old _, T3.out.old _, HO.out.alloc _, HB.out.alloc HB.out.size _, by have := HSZ.out; simp; omega⟩
            case measure => simp [intOf]; omega
          · have NC := Lib.hid (show now < n by simpa using hnc)
            have HE := Lib.hid (show exL false now (L.take (k + 1)) = o ++ [(s, n)] from by rw [HN.out]; simp [exTail, NC.out])
            go_wp2_with (at_builtin; refine wpList_append_vals _ rfl _ _ 30 rfl W2.heap.size 65 i0 (.agg #[.string ⟨#[]⟩, .int .i64 0]) 2 24 Try.underlying30 hi hz0 hz1 hz2 rfl (by decide) (.slice vo o.length vc) _ _ rfl ((HO.out.alloc _).alloc _) _ 1 [.string (bstr s), .int .i64 n] rfl (sliceOf_block (heap_new _ _ _ (by simp)) rfl (by simp [Value.oneCell'])) h1 h2 (by have := HSZ.out; simp; omega) ?_; intro v2 w3 hown3 hg3 _; obtain ⟨o2, c2, rfl⟩ := own_form hown3; have NE := (show ∀ b, b < W2.heap.size → some b ≠ Value.ownBlock (.slice vo o.length vc) from fun b hb e => by have := (HO.out.lt _ e.symm).1; omega); have U3 := Lib.hid (((T3.out.old _).old _).grown hg3 (NE _ HLT.out)); obtain ⟨y2, _⟩ := U3.out.at_ 2 _ rfl; have V1 := Lib.hid (((T1.out.old _).old _).grown hg3 (NE _ (by have := HLT.out; have := HW1.out; omega))); have V2 := Lib.hid (((T2.out.old _).old _).grown hg3 (NE _ (by have := HLT.out; have := HW1.out; omega))); have HO3 := Lib.hid hown3; have HG3 := Lib.hid hg3; clear hown3 hg3 NE)
            go_roundw
            case rel =>
              have g1 := HG3.out.size
              have q1 := HSZ.out
              have q2 := HW1.out
              have q3 := HLT.out
              have g2 := (HB.out.alloc HB.out.size (.cells #[.string (bstr s), .int .i64 n] 65)).alloc (by have := HB.out.size; simp; omega) (.cells ([.string (bstr s), .int .i64 n]).toArray 65)
              have g3 := g2.grown HG3.out g2.size (fun j e => Nat.le_trans (by omega) (HO.out.lt j e).1)
              refine ⟨k + 1, _, _, by omega, by go_num, HE.out, V1.out.far (by simp; omega) _, V2.out.far (by simp; omega) _, U3.out.set 2 _, ?_, g3.setCell (by simp; omega) _, by simp; simp at g1; omega⟩
              refine ownsRow_setCell_below ?_ (by simp; omega) _
              simpa [tcells] using HO3.out
            case measure => simp [intOf]; omega
        · have hL : L.take k = L := List.take_of_length_le (by omega)
          rw [hL] at hst
          have HK := Lib.hid hst
          have HA := Lib.hid (asc_ex false now (pcheck_asc HP.out))
          have HTM := Lib.hid (show Tms wr (.slice vo o.length vc) o from Tms.own HO.out (by have := HLL.out; omega) (by rw [← HK.out]; exact exL_wfs _ _ HWF.out))
          have HL := Lib.hid (Lies.own HO.out)
          clear hidx hc hL t1
          by_cases ho : o = []
          · subst ho
            have HK0 := Lib.hid (show exL false now L = [] from HK.out)
            obtain ⟨y0, _⟩ := t2.at_ 0 _ rfl
            obtain ⟨y1, _⟩ := t2.at_ 1 _ rfl
            obtain ⟨y2, _⟩ := t2.at_ 2 _ rfl
            obtain ⟨z0, _⟩ := t3.at_ 0 _ rfl
            obtain ⟨z2, _⟩ := t3.at_ 2 _ rfl
            clear t2 t3 hown hbel hsz hst
            simp only [List.length_nil] at z2
            go_wp2
            have R := fun u1 u2 u3 => ((T2.out.set 0 u1).set 1 u2).set 2 u3
            have r0 := fun u1 u2 u3 => ((R u1 u2 u3).at_ 0 _ rfl).1
            have r1 := fun u1 u2 u3 => ((R u1 u2 u3).at_ 1 _ rfl).1
            have r2 := fun u1 u2 u3 => ((R u1 u2 u3).at_ 2 _ rfl).1
            refine bodyPost_ret (v := .tuple #[.agg #[.bool false, .int .i64 0, .slice none 0 0], .bool false]) (by simp [results, Try.results30, go_sem, r0, r1, r2]) rfl (.inr ⟨HP.out, _, [], by rw [HX.out]; rfl, Tms.nil _, by rw [HX.out, ← HK0.out]; exact HA.out, Nat.zero_le _, fun j hj => by simp [Value.ownBlock] at hj, ((HB.out.setCell (by simp) _).setCell (by simp) _).setCell (by simp) _⟩)
          · have hob : ((o.length : Int) == 0) = false := by simp; exact ho
            have HQ := Lib.hid (show o.isEmpty = false by simpa using ho)
            obtain ⟨y0, _⟩ := t2.at_ 0 _ rfl
            obtain ⟨y1, _⟩ := t2.at_ 1 _ rfl
            obtain ⟨y2, _⟩ := t2.at_ 2 _ rfl
            obtain ⟨z0, _⟩ := t3.at_ 0 _ rfl
            obtain ⟨z1, _⟩ := t3.at_ 1 _ rfl
            obtain ⟨z2, _⟩ := t3.at_ 2 _ rfl
            clear t2 t3 hown hbel hsz hst
            go_wp2
            have R := fun u1 u2 u3 => ((T2.out.set 0 u1).set 1 u2).set 2 u3
            have r0 := fun u1 u2 u3 => ((R u1 u2 u3).at_ 0 _ rfl).1
            have r1 := fun u1 u2 u3 => ((R u1 u2 u3).at_ 1 _ rfl).1
            have r2 := fun u1 u2 u3 => ((R u1 u2 u3).at_ 2 _ rfl).1
            have q1 := HW1.out
            have q2 := HLT.out
            refine bodyPost_ret (v := .tuple #[.agg #[.bool false, .int .i64 0, .slice vo o.length vc], .bool true]) (by simp [results, Try.results30, go_sem, r0, r1, r2]) rfl (.inr ⟨HP.out, _, o, ?_, ?_, by rw [HX.out, ← HK.out]; exact HA.out, by rw [← HK.out]; exact exL_len _ _ _, HL.out.mono (by omega), ((HB.out.setCell (by simp) _).setCell (by simp) _).setCell (by simp) _⟩)
            · rw [HX.out]; simp [HQ.out]
            · exact ((HTM.out.far HL.out (by simp; omega) _).far HL.out (by simp; omega) _).far HL.out (by simp; omega) _
    · cases hq : decide (now < at')
      · obtain ⟨W2, hW2⟩ : ∃ W2, W2 = w1.alloc (.cells #[.bool false, .int .i64 0, .slice none 0 0] 32) := ⟨_, rfl⟩
        have hbw : Below w1.heap.size w1 W2 := by rw [hW2]; exact (Below.refl _ _).alloc (Nat.le_refl _) _
        have s3 : CBox W2 w1.heap.size 32 #[.bool false, .int .i64 0, .slice none 0 0] := by rw [hW2]; exact CBox.new _ rfl
        have HX := Lib.hid (show (true && decide (now < at')) = false from by rw [hq]; rfl)
        have HLT := Lib.hid s3.lt
        have S3 := Lib.hid s3
        have S1 := Lib.hid (T1.out.below hbw T1.out.lt); have S2 := Lib.hid (T2.out.below hbw T2.out.lt); have B2 := Lib.hid (HBW.out.trans (hbw.mono HBW.out.size))
        clear s3 hbw T1 T2 HBW
        go_wp2_with fail
        rw [← hW2]
        clear hW2 x0 x1 x2 y0 y1 y2
        go_loopw [7] (fun i wr => ∃ (k : Nat) (v' : Value) (o : List Tmd), k ≤ L.length ∧ i = .int .i64 k ∧ exL false now (L.take k) = o ∧ CBox wr w.heap.size 32 #[.bool true, .int .i64 at', .slice ao L.length cap] ∧ CBox wr (w.heap.size + 1) 32 #[.bool false, .int .i64 0, .slice none 0 0] ∧ CBox wr w1.heap.size 32 #[.bool false, .int .i64 0, v'] ∧ wr.ownsRow W2.heap.size 65 2 v' o.length (o.flatMap tcells) ∧ Below w.heap.size w wr ∧ W2.heap.size ≤ wr.heap.size) (fun i _ => L.length - (intOf i).toNat)
        case atStart => exact ⟨0, _, [], Nat.zero_le _, rfl, rfl, S1.out, S2.out, S3.out, World.ownsRow_nil _ _ _ _, B2.out, Nat.le_refl _⟩
        case round =>
          obtain ⟨k, v', o, hk, rfl, hst, t1, t2, t3, hown, hbel, hsz⟩ := hrel
          obtain ⟨vo, vc, rfl⟩ := own_form hown
          have hol : o.length ≤ k := by rw [← hst]; exact Nat.le_trans (exL_len _ _ _) (by simp; omega)
          have T1 := Lib.hid t1; have T2 := Lib.hid t2; have T3 := Lib.hid t3; have HO := Lib.hid hown; have HB := Lib.hid hbel; have HSZ := Lib.hid hsz
          obtain ⟨x2, _⟩ := t1.at_ 2 _ rfl
          obtain ⟨u0, _⟩ := t3.at_ 0 _ rfl
          obtain ⟨u2, _⟩ := t3.at_ 2 _ rfl
          have hl3 := t3.lt
          obtain ⟨b, off, hm, hlen, hidx, hc⟩ := (HT.out.mono hbel).facts
          by_cases hlt : k < L.length
          · obtain ⟨⟨s, n⟩, hs⟩ : ∃ s, L.getD k default = s := ⟨_, rfl⟩
            obtain ⟨hlb, q0, q1⟩ := hc k hlt
            rw [hs] at q0 q1
            have hp := hidx k hlt
            have hL : L[k] = (s, n) := by rw [← hs]; simp [List.getD_eq_getElem?_getD, hlt]
            have HN := Lib.hid (show exL false now (L.take (k + 1)) = o ++ exTail false now (s, n) from by rw [exL_snoc _ _ L k hlt, hst, hL])
            have h1 : o.length + 1 ≤ maxLen := by have := HLL.out; unfold maxLen; omega
            have h2 : (o.length + 1) * 24 ≤ 140737488355328 := by have := HLL.out; omega
            clear hidx hc hs hL hst hown hbel t1 t2 t3 hsz
            cases hnc : decide (now < n)
            · have NC := Lib.hid (show ¬ now < n by simpa using hnc)
              have HE := Lib.hid (show exL false now (L.take (k + 1)) = o from by rw [HN.out]; simp [exTail, NC.out])
              go_wp2_with fail
              go_roundw
              case rel => exact ⟨k + 1, _, o, by omega, by go_num, HE.out, T1.out.old _, T2.out.old _, T3.out.old _, HO.out.alloc _, HB.out.alloc HB.out.size _, by have := HSZ.out; simp; omega⟩
              case measure => simp [intOf]; omega
            · have NC := Lib.hid (show now < n by simpa using hnc)
              have HE := Lib.hid (show exL false now (L.take (k + 1)) = o ++ [(s, n)] from by rw [HN.out]; simp [exTail, NC.out])
              go_wp2_with (at_builtin; refine wpList_append_vals _ rfl _ _ 30 rfl W2.heap.size 65 i0 (.agg #[.string ⟨#[]⟩, .int .i64 0]) 2 24 Try.underlying30 hi hz0 hz1 hz2 rfl (by decide) (.slice vo o.length vc) _ _ rfl ((HO.out.alloc _).alloc _) _ 1 [.string (bstr s), .int .i64 n] rfl (sliceOf_block (heap_new _ _ _ (by simp)) rfl (by simp [Value.oneCell'])) h1 h2 (by have := HSZ.out; simp; omega) ?_; intro v2 w3 hown3 hg3 _; obtain ⟨o2, c2, rfl⟩ := own_form hown3; have NE := (show ∀ b, b < W2.heap.size → some b ≠ Value.ownBlock (.slice vo o.length vc) from fun b hb e => by have := (HO.out.lt _ e.symm).1; omega); have U3 := Lib.hid (((T3.out.old _).old _).grown hg3 (NE _ HLT.out)); obtain ⟨y2, _⟩ := U3.out.at_ 2 _ rfl; have V1 := Lib.hid (((T1.out.old _).old _).grown hg3 (NE _ (by have := HLT.out; have := HW1.out; omega))); have V2 := Lib.hid (((T2.out.old _).old _).grown hg3 (NE _ (by have := HLT.out; have := HW1.out; omega))); have HO3 := Lib.hid hown3; have HG3 := Lib.hid hg3; clear hown3 hg3 NE)
              go_roundw
              case rel =>
                have g1 := HG3.out.size
                have q1 := HSZ.out
                have q2 := HW1.out
                have q3 := HLT.out
                have g2 := (HB.out.alloc HB.out.size (.cells #[.string (bstr s), .int .i64 n] 65)).alloc (by have := HB.out.size; simp; omega) (.cells ([.string (bstr s), .int .i64 n]).toArray 65)
                have g3 := g2.grown HG3.out g2.size (fun j e => Nat.le_trans (by omega) (HO.out.lt j e).1)
                refine ⟨k + 1, _, _, by omega, by go_num, HE.out, V1.out.far (by simp; omega) _, V2.out.far (by simp; omega) _, U3.out.set 2 _, ?_, g3.setCell (by simp; omega) _, by simp; simp at g1; omega⟩
                refine ownsRow_setCell_below ?_ (by simp; omega) _
                simpa [tcells] using HO3.out
              case measure => simp [intOf]; omega
          · have hL : L.take k = L := List.take_of_length_le (by omega)
            rw [hL] at hst
            have HK := Lib.hid hst
            have HA := Lib.hid (asc_ex false now (pcheck_asc HP.out))
            have HTM := Lib.hid (show Tms wr (.slice vo o.length vc) o from Tms.own HO.out (by have := HLL.out; omega) (by rw [← HK.out]; exact exL_wfs _ _ HWF.out))
            have HL := Lib.hid (Lies.own HO.out)
            clear hidx hc hL t1
            by_cases ho : o = []
            · subst ho
              have HK0 := Lib.hid (show exL false now L = [] from HK.out)
              obtain ⟨y0, _⟩ := t2.at_ 0 _ rfl
              obtain ⟨y1, _⟩ := t2.at_ 1 _ rfl
              obtain ⟨y2, _⟩ := t2.at_ 2 _ rfl
              obtain ⟨z0, _⟩ := t3.at_ 0 _ rfl
              obtain ⟨z2, _⟩ := t3.at_ 2 _ rfl
              clear t2 t3 hown hbel hsz hst
              simp only [List.length_nil] at z2
              go_wp2
              have R := fun u1 u2 u3 => ((T2.out.set 0 u1).set 1 u2).set 2 u3
              have r0 := fun u1 u2 u3 => ((R u1 u2 u3).at_ 0 _ rfl).1
              have r1 := fun u1 u2 u3 => ((R u1 u2 u3).at_ 1 _ rfl).1
              have r2 := fun u1 u2 u3 => ((R u1 u2 u3).at_ 2 _ rfl).1
              refine bodyPost_ret (v := .tuple #[.agg #[.bool false, .int .i64 0, .slice none 0 0], .bool false]) (by simp [results, Try.results30, go_sem, r0, r1, r2]) rfl (.inr ⟨HP.out, _, [], by rw [HX.out]; rfl, Tms.nil _, by rw [HX.out, ← HK0.out]; exact HA.out, Nat.zero_le _, fun j hj => by simp [Value.ownBlock] at hj, ((HB.out.setCell (by simp) _).setCell (by simp) _).setCell (by simp) _⟩)
            · have hob : ((o.length : Int) == 0) = false := by simp; exact ho
              have HQ := Lib.hid (show o.isEmpty = false by simpa using ho)
              obtain ⟨y0, _⟩ := t2.at_ 0 _ rfl
              obtain ⟨y1, _⟩ := t2.at_ 1 _ rfl
              obtain ⟨y2, _⟩ := t2.at_ 2 _ rfl
              obtain ⟨z0, _⟩ := t3.at_ 0 _ rfl
              obtain ⟨z1, _⟩ := t3.at_ 1 _ rfl
              obtain ⟨z2, _⟩ := t3.at_ 2 _ rfl
              clear t2 t3 hown hbel hsz hst
              go_wp2
              have R := fun u1 u2 u3 => ((T2.out.set 0 u1).set 1 u2).set 2 u3
              have r0 := fun u1 u2 u3 => ((R u1 u2 u3).at_ 0 _ rfl).1
              have r1 := fun u1 u2 u3 => ((R u1 u2 u3).at_ 1 _ rfl).1
              have r2 := fun u1 u2 u3 => ((R u1 u2 u3).at_ 2 _ rfl).1
              have q1 := HW1.out
              have q2 := HLT.out
              refine bodyPost_ret (v := .tuple #[.agg #[.bool false, .int .i64 0, .slice vo o.length vc], .bool true]) (by simp [results, Try.results30, go_sem, r0, r1, r2]) rfl (.inr ⟨HP.out, _, o, ?_, ?_, by rw [HX.out, ← HK.out]; exact HA.out, by rw [← HK.out]; exact exL_len _ _ _, HL.out.mono (by omega), ((HB.out.setCell (by simp) _).setCell (by simp) _).setCell (by simp) _⟩)
              · rw [HX.out]; simp [HQ.out]
              · exact ((HTM.out.far HL.out (by simp; omega) _).far HL.out (by simp; omega) _).far HL.out (by simp; omega) _
      · obtain ⟨W2, hW2⟩ : ∃ W2, W2 = w1.alloc (.cells #[.bool true, .int .i64 at', .slice none 0 0] 32) := ⟨_, rfl⟩
        have hbw : Below w1.heap.size w1 W2 := by rw [hW2]; exact (Below.refl _ _).alloc (Nat.le_refl _) _
        have s3 : CBox W2 w1.heap.size 32 #[.bool true, .int .i64 at', .slice none 0 0] := by rw [hW2]; exact CBox.new _ rfl
        have HX := Lib.hid (show (true && decide (now < at')) = true from by rw [hq]; rfl)
        have HLT := Lib.hid s3.lt
        have S3 := Lib.hid s3
        have S1 := Lib.hid (T1.out.below hbw T1.out.lt); have S2 := Lib.hid (T2.out.below hbw T2.out.lt); have B2 := Lib.hid (HBW.out.trans (hbw.mono HBW.out.size))
        have nb1 := T1.out.old (.cells #[.bool true, .int .i64 0, .slice none 0 0] 32)
        obtain ⟨n1, _⟩ := nb1.at_ 1 _ rfl
        have nb2 : CBox (w1.alloc (.cells #[.bool true, .int .i64 0, .slice none 0 0] 32)) w1.heap.size 32 #[.bool true, .int .i64 0, .slice none 0 0] := CBox.new _ rfl
        obtain ⟨m0, _⟩ := nb2.at_ 0 _ rfl
        obtain ⟨m1, m1f⟩ := nb2.at_ 1 _ rfl
        clear nb1 nb2
        clear s3 hbw T1 T2 HBW
        go_wp2_with fail
        rw [← hW2]
        clear hW2 x0 x1 x2 y0 y1 y2 n1 m0 m1 m1f
        go_loopw [7] (fun i wr => ∃ (k : Nat) (v' : Value) (o : List Tmd), k ≤ L.length ∧ i = .int .i64 k ∧ exL true now (L.take k) = o ∧ CBox wr w.heap.size 32 #[.bool true, .int .i64 at', .slice ao L.length cap] ∧ CBox wr (w.heap.size + 1) 32 #[.bool false, .int .i64 0, .slice none 0 0] ∧ CBox wr w1.heap.size 32 #[.bool true, .int .i64 at', v'] ∧ wr.ownsRow W2.heap.size 65 2 v' o.length (o.flatMap tcells) ∧ Below w.heap.size w wr ∧ W2.heap.size ≤ wr.heap.size) (fun i _ => L.length - (intOf i).toNat)
        case atStart => exact ⟨0, _, [], Nat.zero_le _, rfl, rfl, S1.out, S2.out, S3.out, World.ownsRow_nil _ _ _ _, B2.out, Nat.le_refl _⟩
        case round =>
          obtain ⟨k, v', o, hk, rfl, hst, t1, t2, t3, hown, hbel, hsz⟩ := hrel
          obtain ⟨vo, vc, rfl⟩ := own_form hown
          have hol : o.length ≤ k := by rw [← hst]; exact Nat.le_trans (exL_len _ _ _) (by simp; omega)
          have T1 := Lib.hid t1; have T2 := Lib.hid t2; have T3 := Lib.hid t3; have HO := Lib.hid hown; have HB := Lib.hid hbel; have HSZ := Lib.hid hsz
          obtain ⟨x2, _⟩ := t1.at_ 2 _ rfl
          obtain ⟨u0, _⟩ := t3.at_ 0 _ rfl
          obtain ⟨u2, _⟩ := t3.at_ 2 _ rfl
          have hl3 := t3.lt
          obtain ⟨b, off, hm, hlen, hidx, hc⟩ := (HT.out.mono hbel).facts
          by_cases hlt : k < L.length
          · obtain ⟨⟨s, n⟩, hs⟩ : ∃ s, L.getD k default = s := ⟨_, rfl⟩
            obtain ⟨hlb, q0, q1⟩ := hc k hlt
            rw [hs] at q0 q1
            have hp := hidx k hlt
            have hL : L[k] = (s, n) := by rw [← hs]; simp [List.getD_eq_getElem?_getD, hlt]
            have HN := Lib.hid (show exL true now (L.take (k + 1)) = o ++ exTail true now (s, n) from by rw [exL_snoc _ _ L k hlt, hst, hL])
            have h1 : o.length + 1 ≤ maxLen := by have := HLL.out; unfold maxLen; omega
            have h2 : (o.length + 1) * 24 ≤ 140737488355328 := by have := HLL.out; omega
            clear hidx hc hs hL hst hown hbel t1 t2 t3 hsz
            cases hnc : decide (now < n)
            · have NC := Lib.hid (show ¬ now < n by simpa using hnc)
              have HE := Lib.hid (show exL true now (L.take (k + 1)) = o ++ [(s, 0)] from by rw [HN.out]; simp [exTail, NC.out])
              go_wp2_with (at_builtin; refine wpList_append_vals _ rfl _ _ 30 rfl W2.heap.size 65 i0 (.agg #[.string ⟨#[]⟩, .int .i64 0]) 2 24 Try.underlying30 hi hz0 hz1 hz2 rfl (by decide) (.slice vo o.length vc) _ _ rfl ((HO.out.alloc _).alloc _) _ 1 [.string (bstr s), .int .i64 0] rfl (sliceOf_block (heap_new _ _ _ (by simp)) rfl (by simp [Value.oneCell'])) h1 h2 (by have := HSZ.out; simp; omega) ?_; intro v2 w3 hown3 hg3 _; obtain ⟨o2, c2, rfl⟩ := own_form hown3; have NE := (show ∀ b, b < W2.heap.size → some b ≠ Value.ownBlock (.slice vo o.length vc) from fun b hb e => by have := (HO.out.lt _ e.symm).1; omega); have U3 := Lib.hid (((T3.out.old _).old _).grown hg3 (NE _ HLT.out)); obtain ⟨y2, _⟩ := U3.out.at_ 2 _ rfl; have V1 := Lib.hid (((T1.out.old _).old _).grown hg3 (NE _ (by have := HLT.out; have := HW1.out; omega))); have V2 := Lib.hid (((T2.out.old _).old _).grown hg3 (NE _ (by have := HLT.out; have := HW1.out; omega))); have HO3 := Lib.hid hown3; have HG3 := Lib.hid hg3; clear hown3 hg3 NE)
              go_roundw
              case rel =>
                have g1 := HG3.out.size
                have q1 := HSZ.out
                have q2 := HW1.out
                have q3 := HLT.out
                have g2 := (HB.out.alloc HB.out.size (.cells #[.string (bstr s), .int .i64 n] 65)).alloc (by have := HB.out.size; simp; omega) (.cells ([.string (bstr s), .int .i64 0]).toArray 65)
                have g3 := g2.grown HG3.out g2.size (fun j e => Nat.le_trans (by omega) (HO.out.lt j e).1)
                refine ⟨k + 1, _, _, by omega, by go_num, HE.out, V1.out.far (by simp; omega) _, V2.out.far (by simp; omega) _, U3.out.set 2 _, ?_, g3.setCell (by simp; omega) _, by simp; simp at g1; omega⟩
                refine ownsRow_setCell_below ?_ (by simp; omega) _
                simpa [tcells] using HO3.out
              case measure => simp [intOf]; omega
            · have NC := Lib.hid (show now < n by simpa using hnc)
              have HE := Lib.hid (show exL true now (L.take (k + 1)) = o ++ [(s, n)] from by rw [HN.out]; simp [exTail, NC.out])
              go_wp2_with (at_builtin; refine wpList_append_vals _ rfl _ _ 30 rfl W2.heap.size 65 i0 (.agg #[.string ⟨#[]⟩, .int .i64 0]) 2 24 Try.underlying30 hi hz0 hz1 hz2 rfl (by decide) (.slice vo o.length vc) _ _ rfl ((HO.out.alloc _).alloc _) _ 1 [.string (bstr s), .int .i64 n] rfl (sliceOf_block (heap_new _ _ _ (by simp)) rfl (by simp [Value.oneCell'])) h1 h2 (by have := HSZ.out; simp; omega) ?_; intro v2 w3 hown3 hg3 _; obtain ⟨o2, c2, rfl⟩ := own_form hown3; have NE := (show ∀ b, b < W2.heap.size → some b ≠ Value.ownBlock (.slice vo o.length vc) from fun b hb e => by have := (HO.out.lt _ e.symm).1; omega); have U3 := Lib.hid (((T3.out.old _).old _).grown hg3 (NE _ HLT.out)); obtain ⟨y2, _⟩ := U3.out.at_ 2 _ rfl; have V1 := Lib.hid (((T1.out.old _).old _).grown hg3 (NE _ (by have := HLT.out; have := HW1.out; omega))); have V2 := Lib.hid (((T2.out.old _).old _).grown hg3 (NE _ (by have := HLT.out; have := HW1.out; omega))); have HO3 := Lib.hid hown3; have HG3 := Lib.hid hg3; clear hown3 hg3 NE)
              go_roundw
              case rel =>
                have g1 := HG3.out.size
                have q1 := HSZ.out
                have q2 := HW1.out
                have q3 := HLT.out
                have g2 := (HB.out.alloc HB.out.size (.cells #[.string (bstr s), .int .i64 n] 65)).alloc (by have := HB.out.size; simp; omega) (.cells ([.string (bstr s), .int .i64 n]).toArray 65)
                have g3 := g2.grown HG3.out g2.size (fun j e => Nat.le_trans (by omega) (HO.out.lt j e).1)
                refine ⟨k + 1, _, _, by omega, by go_num, HE.out, V1.out.far (by simp; omega) _, V2.out.far (by simp; omega) _, U3.out.set 2 _, ?_, g3.setCell (by simp; omega) _, by simp; simp at g1; omega⟩
                refine ownsRow_setCell_below ?_ (by simp; omega) _
                simpa [tcells] using HO3.out
              case measure => simp [intOf]; omega
          · have hL : L.take k = L := List.take_of_length_le (by omega)
            rw [hL] at hst
            have HK := Lib.hid hst
            have HA := Lib.hid (asc_ex true now (pcheck_asc HP.out))
            have HTM := Lib.hid (show Tms wr (.slice vo o.length vc) o from Tms.own HO.out (by have := HLL.out; omega) (by rw [← HK.out]; exact exL_wfs _ _ HWF.out))
            have HL := Lib.hid (Lies.own HO.out)
            clear hidx hc hL t1
            obtain ⟨y0, _⟩ := t2.at_ 0 _ rfl
            obtain ⟨y1, _⟩ := t2.at_ 1 _ rfl
            obtain ⟨y2, _⟩ := t2.at_ 2 _ rfl
            obtain ⟨z0, _⟩ := t3.at_ 0 _ rfl
            obtain ⟨z1, _⟩ := t3.at_ 1 _ rfl
            obtain ⟨z2, _⟩ := t3.at_ 2 _ rfl
            clear t2 t3 hown hbel hsz hst
            go_wp2
            have R := fun u1 u2 u3 => ((T2.out.set 0 u1).set 1 u2).set 2 u3
            have r0 := fun u1 u2 u3 => ((R u1 u2 u3).at_ 0 _ rfl).1
            have r1 := fun u1 u2 u3 => ((R u1 u2 u3).at_ 1 _ rfl).1
            have r2 := fun u1 u2 u3 => ((R u1 u2 u3).at_ 2 _ rfl).1
            have q1 := HW1.out
            have q2 := HLT.out
            refine bodyPost_ret (v := .tuple #[.agg #[.bool true, .int .i64 at', .slice vo o.length vc], .bool true]) (by simp [results, Try.results30, go_sem, r0, r1, r2]) rfl (.inr ⟨HP.out, _, o, ?_, ?_, by rw [HX.out, ← HK.out]; exact HA.out, by rw [← HK.out]; exact exL_len _ _ _, HL.out.mono (by omega), ((HB.out.setCell (by simp) _).setCell (by simp) _).setCell (by simp) _⟩)
            · rw [HX.out]; simp
            · exact ((HTM.out.far HL.out (by simp; omega) _).far HL.out (by simp; omega) _).far HL.out (by simp; omega) _
end Go.Proofs.Ytfloipdkhmgibaa

/- Opening what came in: states, records, cases. -/
namespace Go.Proofs.Ytfloipdkhmgibaa
open Go.ChangeShapes Go.WideShapes Go.ChangeAt Go.RowKit Go.Joins Go.Deep
set_option maxRecDepth 20000

set_option maxRecDepth 100000

theorem bytesAd : Try.prog.bytesOf 44 = 16 := by kernel_rfl
theorem cellsAd : Try.prog.cellsOf 44 = 1 := by kernel_rfl

/-- a slice of strings that came in -/
theorem open_Strs {H : Type} {enc : TypeId × Value → H} {w : World} {base : Nat} {spare : Nat → Bool} {held : Bool} {fuel : Nat} {cs : List Value} {x : DataW H × List MemPlace}
    (h : DataW.trod enc Try.prog w base spare held fuel 26 cs = some x) (hsz : (DataW.weights Try.prog 26 x.1).all (· ≤ reachBytes) = true) : ∃ v L, cs = [v] ∧ Strs w v L := by
  rcases open_strings Try.underlying26 Try.underlying44 cellsAd h with ⟨rfl, _⟩ | ⟨a, len, cap, ss, rfl, _, hl, hm, hz, rfl, hc, hwf⟩
  · exact ⟨_, [], rfl, Strs.nil w⟩
  · have hle : len ≤ ss.length := by rw [hz]; split <;> omega
    have hb : len ≤ 8796093022208 := by
      simp only [DataW.weights, Try.underlying26, List.all_cons, Bool.and_eq_true, bytesAd, reachBytes] at hsz
      have := hsz.1
      simp [strs] at this
      omega
    have hlen : ((ss.take len).map fun s => s.data.toList).length = len := by simp; omega
    refine ⟨_, (ss.take len).map (fun s => s.data.toList), rfl, some a, cap, a.block, a.off, by rw [hlen], ?_, by rw [hlen]; omega, ?_, fun k hk => ?_⟩
    · by_cases h0 : (ss.take len).map (fun s => s.data.toList) = []
      · exact .inl h0
      · refine .inr ?_
        have h1 : 0 < ss.length := by
          cases ss with
          | nil => simp at h0
          | cons _ _ => simp
        have := hc 0 h1
        obtain ⟨b, off, spot⟩ := a
        cases spot with
        | none => rfl
        | some s => simp [Addr.add, World.cell?] at this; split at this <;> simp at this
    · intro x hx
      obtain ⟨s, hs, rfl⟩ := List.mem_map.1 hx
      exact hwf s (List.mem_of_mem_take hs)
    · rw [hlen] at hk
      have hk' := hc k (by omega)
      have e : (a.add k) = ⟨a.block, a.off + k, none⟩ := by
        obtain ⟨b, off, spot⟩ := a
        unfold Addr.add
        split
        · subst_vars
          cases spot with
          | none => rfl
          | some s => simp [Addr.add, World.cell?] at hk'; split at hk' <;> simp at hk'
        · rfl
      rw [e] at hk'
      refine ⟨World.block_lt_of_cell? w ⟨a.block, a.off + k, none⟩ hk', ?_⟩
      rw [hk']
      have hks : k < ss.length := by omega
      simp [List.getD_eq_getElem?_getD, hks, hk, encStr]

theorem weights_part {H : Type} {P : Program} {t : TypeId} {fs : Array Field} {parts : List (DataW H)} (hs : P.underlying t = some (.struct fs)) (h : (DataW.weights P t (.agg parts)).all (· ≤ reachBytes) = true)
    (j : Nat) (f : Field) (d : DataW H) (hf : fs[j]? = some f) (hd : parts[j]? = some d) : (DataW.weights P f.type d).all (· ≤ reachBytes) = true := by
  simp only [DataW.weights, hs] at h
  exact List.all_eq_true.2 (fun n hn => List.all_eq_true.1 h n (DataW.weights_mem_each (j := j) (t := f.type) (by simp; exact ⟨f, by simpa using hf, rfl⟩) hd n hn))

theorem weights_arg {H : Type} {P : Program} {ts : List TypeId} {ds : List (DataW H)} (h : (DataW.weightsEach P ts ds).all (· ≤ reachBytes) = true) (j : Nat) (t : TypeId) (d : DataW H) (ht : ts[j]? = some t) (hd : ds[j]? = some d) :
    (DataW.weights P t d).all (· ≤ reachBytes) = true :=
  List.all_eq_true.2 (fun n hn => List.all_eq_true.1 h n (DataW.weights_mem_each ht hd n hn))

theorem bytesTm : Try.prog.bytesOf 65 = 24 := by kernel_rfl
theorem cellsTm : Try.prog.cellsOf 65 = 2 := by kernel_rfl
theorem cellsIt : Try.prog.cellsOf 3 = 1 := by kernel_rfl

section
variable {H : Type} {enc : TypeId × Value → H} {w : World} {base : Nat} {spare : Nat → Bool} {held : Bool} {fuel : Nat} {cs : List Value} {x : DataW H × List MemPlace}

/-- a slice of sources with times that came in -/
theorem open_Tms (h : DataW.trod enc Try.prog w base spare held fuel 30 cs = some x) (hsz : (DataW.weights Try.prog 30 x.1).all (· ≤ reachBytes) = true) : ∃ v L, cs = [v] ∧ Tms w v L := by
  rcases open_slice_pairs Try.underlying30 Try.underlying65 cellsTm rfl rfl cellsAd cellsIt h with ⟨rfl, _⟩ | ⟨a, len, cap, m, n, V0, V1, D0, D1, P0, P1, rfl, hb, hl, hm, hmm, rfl, hx⟩
  · exact ⟨_, [], rfl, Tms.nil w⟩
  · have hlm : len ≤ m := by rw [hmm]; split <;> omega
    have hbd : len ≤ 5864062014634 := by
      simp only [DataW.weights, Try.underlying30, List.all_cons, Bool.and_eq_true, bytesTm, reachBytes] at hsz
      have := hsz.1
      simp at this
      omega
    have each : ∀ i, i < len → ∃ q : Str × Int, w.cell? (a.add (i * 2)) = some (.string (bstr q.1)) ∧ w.cell? (a.add (i * 2 + 1)) = some (.int .i64 q.2) ∧ q.1.length ≤ maxLen ∧ (Lit.int .i64 q.2).wf = true := by
      intro i hi
      obtain ⟨c0, c1, t0, t1⟩ := hx i (by omega)
      obtain ⟨s, e0, _, hs⟩ := DataW.trod_string Try.underlying44 t0
      obtain ⟨z, e1, _, hz⟩ := DataW.trod_int Try.underlying3 t1
      simp only [List.cons.injEq, and_true] at e0 e1
      refine ⟨(s.data.toList, z), ?_, ?_, hs, hz⟩
      · rw [c0, e0, ← bstr_of]
      · rw [c1, e1]
    obtain ⟨q, hq⟩ := choose_lt each
    obtain ⟨b, off, spot⟩ := a
    have hll : ((List.range len).map q).length = len := by simp
    by_cases h0 : len = 0
    · subst h0
      exact ⟨_, [], rfl, some ⟨b, off, spot⟩, cap, b, off, rfl, .inl rfl, by simp, by simp, fun k hk => by simp at hk⟩
    · have hsp : spot = none := by
        cases spot with
        | none => rfl
        | some s =>
          exfalso
          have := (hq 0 (by omega)).1
          simp [Addr.add, World.cell?] at this
          try (split at this <;> simp at this)
          try omega
      subst hsp
      refine ⟨_, (List.range len).map q, rfl, some ⟨b, off, none⟩, cap, b, off, by rw [hll], .inr rfl, by rw [hll]; exact hbd, fun t ht => ?_, fun k hk => ?_⟩
      · obtain ⟨i, hi, rfl⟩ := List.mem_map.1 ht
        exact (hq i (List.mem_range.1 hi)).2.2
      · rw [hll] at hk
        obtain ⟨h1, h2, _⟩ := hq k hk
        rw [add_lit] at h1 h2
        have eg : ((List.range len).map q).getD k default = q k := by simp [List.getD_eq_getElem?_getD, hk]
        rw [eg]
        exact ⟨World.block_lt_of_cell? w ⟨b, off + k * 2, none⟩ h1, h1, by rw [show off + k * 2 + 1 = off + (k * 2 + 1) from by omega]; exact h2⟩

theorem open_stateC (h : DataW.trod enc Try.prog w base spare held fuel 32 cs = some x) (hsz : (DataW.weights Try.prog 32 x.1).all (· ≤ reachBytes) = true) :
    ∃ ex at' v L, cs = [.bool ex, .int .i64 at', v] ∧ Tms w v L ∧ (Lit.int .i64 at').wf = true := by
  obtain ⟨xs, n, _, rfl, hcl, hlen, hf⟩ := DataW.trod_struct Try.underlying32 h
  match xs, hlen with
  | [y0, y1, y2], _ =>
    have hc3 : cs.length = 3 := hcl.trans (by kernel_rfl)
    match cs, hc3 with
    | [c0, c1, c2], _ =>
      have g0 := hf 0 _ rfl
      have g1 := hf 1 _ rfl
      have g2 := hf 2 _ rfl
      have k0 : Try.prog.cellsOf 4 = 1 := by kernel_rfl
      have k2 : Try.prog.cellsOf 30 = 1 := by kernel_rfl
      simp [cellsIt, k0, k2] at g0 g1 g2
      obtain ⟨e, e0, _⟩ := DataW.trod_bool Try.underlying4 g0
      obtain ⟨a, e1, _, wa⟩ := DataW.trod_int Try.underlying3 g1
      obtain ⟨v, L, e2, hT⟩ := open_Tms g2 (weights_part Try.underlying32 hsz 2 _ _ rfl rfl)
      simp only [List.cons.injEq, and_true] at e0 e1 e2
      subst e0 e1 e2
      exact ⟨e, a, _, L, rfl, hT, wa⟩

theorem open_recC (h : DataW.trod enc Try.prog w base spare held fuel 54 cs = some x) (hsz : (DataW.weights Try.prog 54 x.1).all (· ≤ reachBytes) = true) :
    ∃ kind g v L, cs = [.int .i64 kind, .string g, v] ∧ Strs w v L := by
  obtain ⟨xs, n, _, rfl, hcl, hlen, hf⟩ := DataW.trod_struct Try.underlying54 h
  match xs, hlen with
  | [y0, y1, y2], _ =>
    have hc3 : cs.length = 3 := hcl.trans (by kernel_rfl)
    match cs, hc3 with
    | [c0, c1, c2], _ =>
      have g0 := hf 0 _ rfl
      have g1 := hf 1 _ rfl
      have g2 := hf 2 _ rfl
      have k2 : Try.prog.cellsOf 26 = 1 := by kernel_rfl
      simp [cellsIt, cellsAd, k2] at g0 g1 g2
      obtain ⟨k, e0, _, _⟩ := DataW.trod_int Try.underlying3 g0
      obtain ⟨s, e1, _, _⟩ := DataW.trod_string Try.underlying44 g1
      obtain ⟨v, L, e2, hT⟩ := open_Strs g2 (weights_part Try.underlying54 hsz 2 _ _ rfl rfl)
      simp only [List.cons.injEq, and_true] at e0 e1 e2
      subst e0 e1 e2
      exact ⟨k, s, _, L, rfl, hT⟩

end

theorem open_state {H : Type} {enc : TypeId × Value → H} {w : World} {base : Nat} {spare : Nat → Bool} {held : Bool} {r : Reach} {b0 : Nat} {v : Value} {d : DataW H} {p : List MemPlace}
    (hv : Value.okWide Try.prog w r b0 32 v) (h : DataW.Trod enc Try.prog w base spare held 32 v d p) (hsz : (DataW.weights Try.prog 32 d).all (· ≤ reachBytes) = true) :
    ∃ ex at' u L, v = .agg #[.bool ex, .int .i64 at', u] ∧ Tms w u L ∧ (Lit.int .i64 at').wf = true := by
  obtain ⟨cs, rfl, _⟩ := okWide_struct Try.underlying32 hv
  obtain ⟨fuel, hf⟩ := h
  obtain ⟨ex, at', u, L, e, hT, wa⟩ := open_stateC hf hsz
  refine ⟨ex, at', u, L, ?_, hT, wa⟩
  have : cs.toList = [.bool ex, .int .i64 at', u] := e
  congr 1
  exact Array.toList_inj.1 this

end Go.Proofs.Ytfloipdkhmgibaa

/- A map in memory, whatever its keys and its elements ('VMap'): what it tells is a plain function of its keys. -/
namespace Go.Proofs.Ytfloipdkhmgibaa
open Go.RowKit Go.Lib
set_option maxRecDepth 20000
open Go.Maps (Keyed has IsMap has_put_same has_put_other has_del_same has_del_other atKey_put_same atKey_put_other atKey_del_same atKey_del_other atKey_of_not_has has_true_of_atKey)

/-- how the keys of type T are spelt: κ is what they are in plain words -/
structure KeyEnc (P : Program) (T : TypeId) (κ : Type) where
  enc : κ → Value
  ok : κ → Prop
  lit : κ → Lit
  reads : ∀ x, ok x → keyOf P T (enc x) = some (lit x)
  all : ∀ v l, keyOf P T v = some l → ∃ x, ok x ∧ v = enc x
  inj : ∀ x y, enc x = enc y → x = y
  law : Keyed P T

/-- every element is held as it is -/
def heldR (v : Value) : Option (DataW Value × List MemPlace) := some (.held v, [])
def lookV (D : DataW Value) (l : Lit) : Option Value := if has D l then (match D.atKey l .nil with | .held v => some v | _ => none) else none

section
variable {P : Program} {T : TypeId} {κ : Type}

theorem KeyEnc.lit_inj (K : KeyEnc P T κ) {x y : κ} (hx : K.ok x) (hy : K.ok y) (h : K.lit x = K.lit y) : x = y :=
  K.inj x y (K.law.inj (K.reads x hx) (by rw [h]; exact K.reads y hy))
theorem KeyEnc.isKey (K : KeyEnc P T κ) {x : κ} (hx : K.ok x) : WideAt.IsKeyLit (K.lit x) := K.law.key (K.reads x hx)

/-- block b is a map of at most n entries that tells F -/
def VMap (K : KeyEnc P T κ) (w : World) (b n : Nat) (F : κ → Option Value) : Prop :=
  (∀ x, F x ≠ none → K.ok x) ∧ ∃ D : DataW Value, w.ownsMap P T heldR b n D ∧ ∀ x, K.ok x → lookV D (K.lit x) = F x

def updV [DecidableEq κ] (F : κ → Option Value) (a : κ) (z : Value) : κ → Option Value := fun x => if x = a then some z else F x
def delV [DecidableEq κ] (F : κ → Option Value) (a : κ) : κ → Option Value := fun x => if x = a then none else F x

variable {K : KeyEnc P T κ} {w : World} {b n : Nat} {F : κ → Option Value}
theorem VMap.lt (h : VMap K w b n F) : b < w.heap.size := by
  obtain ⟨_, D, h, _⟩ := h
  exact h.lt
theorem VMap.kept {w' : World} {row : Option Nat} (h : VMap K w b n F) (hg : w.grownBy w' row) (hne : some b ≠ row) : VMap K w' b n F := by
  obtain ⟨h0, D, h, e⟩ := h
  exact ⟨h0, D, h.kept hg hne, e⟩
theorem VMap.same {w' : World} (h : VMap K w b n F) (e : w'.heap[b]? = w.heap[b]?) : VMap K w' b n F := by
  obtain ⟨h0, D, ⟨es, clock, h1, h2⟩, e'⟩ := h
  exact ⟨h0, D, ⟨es, clock, e.trans h1, h2⟩, e'⟩
theorem VMap.below {w' : World} {B : Nat} (h : VMap K w b n F) (hb : Below B w w') (hlt : b < B) : VMap K w' b n F := h.same (hb.block b hlt)
theorem VMap.set (h : VMap K w b n F) {p : Addr} (hp : b ≠ p.block) (u : Value) : VMap K (w.setCell p u) b n F := by
  obtain ⟨h0, D, h, e⟩ := h
  exact ⟨h0, D, h.setCell hp u, e⟩
theorem VMap.made (K : KeyEnc P T κ) (w : World) : VMap K (w.alloc (.map #[] 0)) w.heap.size 0 (fun _ => none) :=
  ⟨fun _ h => absurd rfl h, .map [], World.ownsMap_made w _ _ _, fun a _ => by simp [lookV, has]⟩
theorem VMap.up {m : Nat} (h : VMap K w b n F) (hm : n ≤ m) : VMap K w b m F := by
  obtain ⟨h0, D, h, e⟩ := h
  exact ⟨h0, D, h.mono hm, e⟩

theorem lookV_has {D : DataW Value} (h : w.ownsMap P T heldR b n D) (K : KeyEnc P T κ) {x : κ} : has D (K.lit x) = (lookV D (K.lit x)).isSome := by
  unfold lookV
  cases hh : has D (K.lit x)
  · simp
  · obtain ⟨es, clock, hb, Ft, _, rfl⟩ := h
    rw [Maps.has_eq, List.any_eq_true] at hh
    obtain ⟨p, hp, hs⟩ := hh
    simp only [if_true]
    cases hf : (List.find? (fun p => p.1.sameKey (K.lit x)) (List.foldr DataW.insert [] (List.map (WideElems.rg P T heldR) es.toList)))
    · exact absurd hs (by have := List.find?_eq_none.1 hf p hp; simpa using this)
    · rename_i q
      have hq := List.mem_of_find?_eq_some hf
      rw [Go.mem_sorted, List.mem_map] at hq
      obtain ⟨x0, hx0, rfl⟩ := hq
      obtain ⟨y, hy⟩ := Ft.reads x0 hx0
      have e2 : (WideElems.rg P T heldR x0).2 = .held x0.val := by
        rw [WideElems.rg_of hy]
        obtain ⟨z, hz, he⟩ := WideElems.rd_val hy
        simp only [heldR, Option.some.injEq] at hz
        rw [he, ← hz]
      simp only [DataW.atKey, hf, e2]
      rfl

theorem atKey_any {D : DataW Value} (hD : IsMap D) {l : Lit} (hd : has D l = true) (z z' : DataW Value) : D.atKey l z = D.atKey l z' := by
  obtain ⟨es, rfl⟩ := hD
  simp only [DataW.atKey]
  cases hf : (es.find? fun p => p.1.sameKey l)
  · rw [Maps.has_eq, List.any_eq_true] at hd
    obtain ⟨p, hp, hs⟩ := hd
    exact absurd hs (by have := List.find?_eq_none.1 hf p hp; simpa using this)
  · rfl
theorem lookV_at {D : DataW Value} (hD : IsMap D) {l : Lit} {v : Value} {z : Value} (hv : D.atKey l (.held z) = .held v) : (lookV D l).getD z = v := by
  unfold lookV
  cases hd : has D l
  · rw [atKey_of_not_has hd] at hv
    injection hv
  · rw [atKey_any hD hd .nil (.held z), hv]; rfl

theorem VMap.get {t e : TypeId} (h : VMap K w b n F) (ht : P.underlying t = some (.map T e)) {z : Value} (hz : (zeroValue e).run P w = .ok z w) (x : κ) (hx : K.ok x) :
    (Instr.lookup t (.map (some b)) (K.enc x) false).run P w = .ok ((F x).getD z) w := by
  obtain ⟨_, D, h, e⟩ := h
  obtain ⟨v, ps, hr, hv⟩ := h.lookup K.law ht hz (zd := .held z) (zp := []) rfl (K.reads x hx)
  simp only [heldR, Option.some.injEq, Prod.mk.injEq] at hv
  rw [hr, ← e x hx, lookV_at h.isMap hv.1.symm]
theorem VMap.getOk {t e : TypeId} (h : VMap K w b n F) (ht : P.underlying t = some (.map T e)) {z : Value} (hz : (zeroValue e).run P w = .ok z w) (x : κ) (hx : K.ok x) :
    (Instr.lookup t (.map (some b)) (K.enc x) true).run P w = .ok (.tuple #[(F x).getD z, .bool (F x).isSome]) w := by
  obtain ⟨_, D, h, e⟩ := h
  obtain ⟨v, ps, hr, hv⟩ := h.look_ok K.law ht hz (zd := .held z) (zp := []) rfl (K.reads x hx)
  simp only [heldR, Option.some.injEq, Prod.mk.injEq] at hv
  rw [hr, ← e x hx, lookV_at h.isMap hv.1.symm, lookV_has h K]

theorem lookV_put [DecidableEq κ] {D : DataW Value} (hD : IsMap D) (K : KeyEnc P T κ) {a x : κ} (ha : K.ok a) (hx : K.ok x) (z : Value) : lookV (D.put (K.lit a) (.held z)) (K.lit x) = updV (fun x => lookV D (K.lit x)) a z x := by
  unfold lookV updV
  by_cases e : x = a
  · subst e
    rw [has_put_same hD (K.isKey hx), atKey_put_same hD (K.isKey hx)]
    simp
  · have hne : K.lit x ≠ K.lit a := fun h => e (K.lit_inj hx ha h)
    rw [has_put_other hne, atKey_put_other hne, if_neg e]
theorem lookV_del [DecidableEq κ] {D : DataW Value} (K : KeyEnc P T κ) {a x : κ} (ha : K.ok a) (hx : K.ok x) : lookV (D.del (K.lit a)) (K.lit x) = delV (fun x => lookV D (K.lit x)) a x := by
  unfold lookV delV
  by_cases e : x = a
  · subst e
    rw [has_del_same]
    simp
  · have hne : K.lit x ≠ K.lit a := fun h => e (K.lit_inj hx ha h)
    rw [if_neg e]
    simp only [has_del_other hne, atKey_del_other hne]

theorem VMap.put [DecidableEq κ] {t e : TypeId} (h : VMap K w b n F) (ht : P.underlying t = some (.map T e)) (x : κ) (hx : K.ok x) (z : Value) (hn : n < maxLen) :
    ∃ w', (Instr.mapUpdate t (.map (some b)) (K.enc x) z).run P w = .ok () w' ∧ VMap K w' b (n + 1) (updV F x z) ∧ w.mapTurned w' b := by
  obtain ⟨h0, D, h, e⟩ := h
  obtain ⟨w', hr, h', hg⟩ := h.store K.law ht hn (K.reads x hx) (val := z) (d := .held z) (ps := []) rfl
  refine ⟨w', hr, ⟨fun y hy => ?_, _, h', fun y hy => ?_⟩, hg⟩
  · unfold updV at hy
    split at hy
    · subst_vars; exact hx
    · exact h0 y hy
  · rw [lookV_put h.isMap K hx hy]
    unfold updV
    dsimp only
    rw [e y hy]
theorem VMap.drop [DecidableEq κ] {t e : TypeId} (h : VMap K w b n F) (ht : P.underlying t = some (.map T e)) (x : κ) (hx : K.ok x) (ty : TypeId) :
    ∃ w', (Builtin.delete_ #[t, T] ty #[.map (some b), K.enc x]).run P w = .ok (.tuple #[]) w' ∧ VMap K w' b n (delV F x) ∧ w.mapTurned w' b := by
  obtain ⟨h0, D, h, e⟩ := h
  obtain ⟨w', hr, h', hg⟩ := h.drop K.law ht (K.reads x hx) ty
  refine ⟨w', hr, ⟨fun y hy => ?_, _, h', fun y hy => ?_⟩, hg⟩
  · unfold delV at hy
    split at hy
    · exact absurd rfl hy
    · exact h0 y hy
  · rw [lookV_del K hx hy]
    unfold delV
    dsimp only
    rw [e y hy]

/-- the keys of F: each once, in some order -/
def KeysV (F : κ → Option Value) (L : List κ) : Prop := L.Nodup ∧ ∀ x, x ∈ L ↔ F x ≠ none

theorem VMap.count {t e : TypeId} (h : VMap K w b n F) (ht : P.underlying t = some (.map T e)) : ∃ L, KeysV F L ∧ L.length ≤ n ∧ ∀ ty, (Builtin.len_ #[t] ty #[.map (some b)]).run P w = .ok (.int .i64 L.length) w := by
  obtain ⟨h0, D, h, e⟩ := h
  have hsz := h.size_le
  have hlen := fun ty => h.len ht ty
  obtain ⟨es0, e0, hp⟩ := h.tidy K.law
  obtain ⟨es, he, hk⟩ := h.keysOf
  rw [he] at e0
  injection e0 with e0
  subst e0
  have hc : ∀ p ∈ es, ∃ x, K.ok x ∧ p.1 = K.lit x := fun p hp => by
    obtain ⟨v, hv⟩ := hk p hp
    obtain ⟨x, hx, rfl⟩ := K.all v _ hv
    rw [K.reads x hx] at hv
    exact ⟨x, hx, by injection hv with hv; exact hv.symm⟩
  obtain ⟨f, hf⟩ : ∃ f : Lit × DataW Value → Option κ, ∀ p ∈ es, ∃ x, f p = some x ∧ K.ok x ∧ p.1 = K.lit x := by
    classical
    refine ⟨fun p => if h : ∃ x, K.ok x ∧ p.1 = K.lit x then some h.choose else none, fun p hp => ?_⟩
    have hx := hc p hp
    exact ⟨hx.choose, by simp [hx], hx.choose_spec⟩
  have hmem : ∀ x, x ∈ es.filterMap f ↔ F x ≠ none := by
    intro x
    rw [List.mem_filterMap]
    constructor
    · rintro ⟨p, hp, hx⟩
      obtain ⟨y, hy, hok, hl⟩ := hf p hp
      rw [hx] at hy
      injection hy with hy
      subst hy
      rw [← e x hok]
      have := lookV_has (x := x) h K
      have hh : has D (K.lit x) = true := by
        rw [he, Maps.has_eq, List.any_eq_true]
        exact ⟨p, hp, by rw [hl]; exact WideAt.sameKey_self (K.isKey hok)⟩
      rw [hh] at this
      intro hn
      rw [hn] at this
      cases this
    · intro hx
      have hok := h0 x hx
      have := lookV_has (x := x) h K
      rw [e x hok] at this
      have hh : has D (K.lit x) = true := by rw [this]; cases hv : F x <;> simp_all
      rw [he, Maps.has_eq, List.any_eq_true] at hh
      obtain ⟨p, hp, hs⟩ := hh
      obtain ⟨y, hy, hoy, hl⟩ := hf p hp
      refine ⟨p, hp, ?_⟩
      rw [hy]
      by_cases ex : y = x
      · rw [ex]
      · rw [hl, Maps.sameKey_ne (fun h => ex (K.lit_inj hoy hok h))] at hs
        cases hs
  have hall : (es.filterMap f).length = es.length := by
    rw [List.length_filterMap_eq_countP, List.countP_eq_length]
    intro p hp
    obtain ⟨y, hy, _⟩ := hf p hp
    simp [hy]
  refine ⟨es.filterMap f, ⟨?_, hmem⟩, ?_, ?_⟩
  · refine List.pairwise_filterMap.2 (hp.imp_of_mem fun {p q} hp' hq' hne a ha b' hb e => hne ?_)
    subst e
    obtain ⟨x, hx, _, h1⟩ := hf p hp'
    obtain ⟨y, hy, _, h2⟩ := hf q hq'
    rw [hx] at ha
    rw [hy] at hb
    injection ha with ha
    injection hb with hb
    rw [h1, h2, ha, hb]
  · rw [hall]; rw [he] at hsz; exact hsz
  · intro ty
    rw [hall]
    have := hlen ty
    rw [he] at this
    exact this
end
end Go.Proofs.Ytfloipdkhmgibaa
