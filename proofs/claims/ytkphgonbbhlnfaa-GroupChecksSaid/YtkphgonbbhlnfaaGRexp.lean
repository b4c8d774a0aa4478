/- siphonref17.Expire: what becomes of a state by time. -/
import Derived.Test.YtkphgonbbhlnfaaGPutW
import Derived.Test.YtkphgonbbhlnfaaGPlain
namespace Go.Proofs.Ytkphgonbbhlnfaa
open Go.RowKit Go.Lib Go.Maps Go.Sort

def exTail (e2 : Bool) (now : Int) (t : Tmd) : List Tmd := if now < t.2 then [t] else if e2 then [(t.1, 0)] else []
def exL (e2 : Bool) (now : Int) (L : List Tmd) : List Tmd := L.flatMap (exTail e2 now)
theorem exL_snoc (e2 : Bool) (now : Int) (L : List Tmd) (k : Nat) (h : k < L.length) : exL e2 now (L.take (k + 1)) = exL e2 now (L.take k) ++ exTail e2 now L[k] := by
  unfold exL
  rw [take_snoc L k h, List.flatMap_append]
  simp
theorem exTail_sub (e2 : Bool) (now : Int) (t : Tmd) : ((exTail e2 now t).map Prod.fst).Sublist [t.1] := by
  unfold exTail
  split
  · exact List.Sublist.refl _
  · split
    · exact List.Sublist.refl _
    · exact List.nil_sublist _
theorem exL_sub (e2 : Bool) (now : Int) : ∀ L : List Tmd, ((exL e2 now L).map Prod.fst).Sublist (L.map Prod.fst)
  | [] => List.Sublist.refl _
  | t :: L => by
    unfold exL
    rw [List.flatMap_cons, List.map_append, List.map_cons]
    exact List.Sublist.append (exTail_sub e2 now t) (exL_sub e2 now L)
theorem exL_len (e2 : Bool) (now : Int) (L : List Tmd) : (exL e2 now L).length ≤ L.length := by
  have := (exL_sub e2 now L).length_le
  rwa [List.length_map, List.length_map] at this
theorem exL_mem {e2 : Bool} {now : Int} {L : List Tmd} {u : Tmd} (h : u ∈ exL e2 now L) : ∃ t ∈ L, u.1 = t.1 ∧ ((now < t.2 ∧ u.2 = t.2) ∨ (¬ now < t.2 ∧ e2 = true ∧ u.2 = 0)) := by
  obtain ⟨t, ht, hu⟩ := List.mem_flatMap.1 h
  refine ⟨t, ht, ?_⟩
  unfold exTail at hu
  split at hu
  · rename_i hn
    rw [List.mem_singleton] at hu
    subst hu
    exact ⟨rfl, .inl ⟨hn, rfl⟩⟩
  · rename_i hn
    split at hu
    · rename_i he
      rw [List.mem_singleton] at hu
      subst hu
      exact ⟨rfl, .inr ⟨hn, he, rfl⟩⟩
    · cases hu
theorem exL_wfs (e2 : Bool) (now : Int) {L : List Tmd} (h : ∀ t ∈ L, t.1.length ≤ maxLen ∧ (Lit.int .i64 t.2).wf = true) : ∀ t ∈ exL e2 now L, t.1.length ≤ maxLen ∧ (Lit.int .i64 t.2).wf = true := by
  intro u hu
  obtain ⟨t, ht, h1, h2 | h2⟩ := exL_mem hu
  · rw [h1, h2.2]; exact h t ht
  · rw [h1, h2.2.2]; exact ⟨(h t ht).1, rfl⟩
theorem asc_ex (e2 : Bool) (now : Int) {F : Str → Option Int} {L : List Tmd} (h : Asc F L) : Asc (exF e2 now F) (exL e2 now L) := by
  have hv : ∀ u ∈ exL e2 now L, exF e2 now F u.1 = some u.2 := by
    intro u hu
    obtain ⟨t, ht, h1, h2⟩ := exL_mem hu
    have hF := h.2 t ht
    unfold exF
    rw [h1, hF]
    rcases h2 with ⟨h2, h3⟩ | ⟨h2, h3, h4⟩
    · simp [h2, h3]
    · simp [h2, h3, h4]
  refine ⟨⟨h.1.1.sublist (exL_sub e2 now L), fun a => ?_⟩, hv⟩
  constructor
  · intro ha
    obtain ⟨u, hu, rfl⟩ := List.mem_map.1 ha
    rw [hv u hu]; simp
  · intro ha
    have hF : F a ≠ none := by intro e; apply ha; unfold exF; rw [e]
    obtain ⟨t, ht, rfl⟩ := List.mem_map.1 ((h.1.2 a).2 hF)
    have hF' := h.2 t ht
    unfold exF at ha
    rw [hF'] at ha
    by_cases hn : now < t.2
    · exact List.mem_map.2 ⟨t, List.mem_flatMap.2 ⟨t, ht, by simp [exTail, hn]⟩, rfl⟩
    · cases e2
      · simp [hn] at ha
      · exact List.mem_map.2 ⟨(t.1, 0), List.mem_flatMap.2 ⟨t, ht, by simp [exTail, hn]⟩, rfl⟩

set_option maxRecDepth 20000 in
set_option maxHeartbeats 2000000 in
theorem rexpire_any (ex : Bool) (at' : Int) (v : Value) (L : List Tmd) (now : Int) (w : World) (h : Tms w v L) :
    Calls Try.prog 15 #[.agg #[.bool ex, .int .i64 at', v], .int .i64 now] w (RetExp w ex at' L now (ex && decide (now < at'))) := by
  obtain ⟨ao, cap, rfl⟩ := h.shape
  obtain ⟨i0, hi, hz0, hz1, hz2⟩ := info_parts infoTmd
  obtain ⟨W0, hW0⟩ : ∃ W0, W0 = (w.alloc (.cells #[.bool ex, .int .i64 at', .slice ao L.length cap] 24)).alloc (.cells #[.bool false, .int .i64 0, .slice none 0 0] 24) := ⟨_, rfl⟩
  have hb0 : Below w.heap.size w W0 := by rw [hW0]; exact ((Below.refl _ _).alloc (Nat.le_refl _) _).alloc (by simp) _
  have hs0 : W0.heap.size = w.heap.size + 2 := by rw [hW0]; simp
  have s1 : CBox W0 w.heap.size 24 #[.bool ex, .int .i64 at', .slice ao L.length cap] := by rw [hW0]; exact (CBox.new _ rfl).old _
  have s2 : CBox W0 (w.heap.size + 1) 24 #[.bool false, .int .i64 0, .slice none 0 0] := by rw [hW0]; exact CBox.new _ (by simp)
  have HC := Lib.hid (rcheck_any ex at' _ L W0 (h.mono hb0))
  have HT := Lib.hid h
  have HWF := Lib.hid h.wfs
  rw [hW0] at HC
  have HB1 := Lib.hid (fun (w1 : World) (h1 : Below W0.heap.size W0 w1) => show CBox w1 w.heap.size 24 #[.bool ex, .int .i64 at', .slice ao L.length cap] ∧ CBox w1 (w.heap.size + 1) 24 #[.bool false, .int .i64 0, .slice none 0 0] ∧ Below w.heap.size w w1 from ⟨s1.below h1 (by omega), s2.below h1 (by omega), hb0.trans (h1.mono (by omega))⟩)
  rw [hW0] at HB1
  clear h hb0 hs0 s1 s2
  go_enter Try.func15, Try.ntmps15
  go_wp2_with fail
  refine HC.out.mono ?_
  rintro e w1 ⟨rfl, hb1⟩
  obtain ⟨t1, t2, hbw⟩ := HB1.out w1 hb1
  have T1 := Lib.hid t1; have T2 := Lib.hid t2; have HBW := Lib.hid hbw
  have HW1 := Lib.hid (show w.heap.size + 1 < w1.heap.size from t2.lt)
  obtain ⟨x0, _⟩ := t1.at_ 0 _ rfl
  obtain ⟨x1, _⟩ := t1.at_ 1 _ rfl
  obtain ⟨x2, _⟩ := t1.at_ 2 _ rfl
  obtain ⟨y0, _⟩ := t2.at_ 0 _ rfl
  obtain ⟨y1, _⟩ := t2.at_ 1 _ rfl
  obtain ⟨y2, _⟩ := t2.at_ 2 _ rfl
  clear HC HB1 hb1 hbw t1 t2 hW0 W0
  cases hp : pcheck ex at' L
  · have HP := Lib.hid hp
    go_wp2
    have R := fun u1 u2 u3 => ((T2.out.set 0 u1).set 1 u2).set 2 u3
    have r0 := fun u1 u2 u3 => ((R u1 u2 u3).at_ 0 _ rfl).1
    have r1 := fun u1 u2 u3 => ((R u1 u2 u3).at_ 1 _ rfl).1
    have r2 := fun u1 u2 u3 => ((R u1 u2 u3).at_ 2 _ rfl).1
    refine bodyPost_ret (v := .tuple #[.agg #[.bool false, .int .i64 0, .slice none 0 0], .bool false]) (by simp [results, Try.results15, go_sem, r0, r1, r2]) rfl (.inl ⟨HP.out, rfl, ((HBW.out.setCell (by simp) _).setCell (by simp) _).setCell (by simp) _⟩)
  · have HP := Lib.hid hp
    have HLL := Lib.hid (pcheck_iff.1 hp).1
    clear hp
    cases ex
    · obtain ⟨W2, hW2⟩ : ∃ W2, W2 = w1.alloc (.cells #[.bool false, .int .i64 0, .slice none 0 0] 24) := ⟨_, rfl⟩
      have hbw : Below w1.heap.size w1 W2 := by rw [hW2]; exact (Below.refl _ _).alloc (Nat.le_refl _) _
      have s3 : CBox W2 w1.heap.size 24 #[.bool false, .int .i64 0, .slice none 0 0] := by rw [hW2]; exact CBox.new _ rfl
      have HX := Lib.hid (show (false && decide (now < at')) = false from rfl)
      have HLT := Lib.hid s3.lt
      have S3 := Lib.hid s3
      have S1 := Lib.hid (T1.out.below hbw T1.out.lt); have S2 := Lib.hid (T2.out.below hbw T2.out.lt); have B2 := Lib.hid (HBW.out.trans (hbw.mono HBW.out.size))
      clear s3 hbw T1 T2 HBW
      go_wp2_with fail
      rw [← hW2]
      clear hW2 x0 x1 x2 y0 y1 y2
      go_loopw [7] (fun i wr => ∃ (k : Nat) (v' : Value) (o : List Tmd), k ≤ L.length ∧ i = .int .i64 k ∧ exL false now (L.take k) = o ∧ CBox wr w.heap.size 24 #[.bool false, .int .i64 at', .slice ao L.length cap] ∧ CBox wr (w.heap.size + 1) 24 #[.bool false, .int .i64 0, .slice none 0 0] ∧ CBox wr w1.heap.size 24 #[.bool false, .int .i64 0, v'] ∧ wr.ownsRow W2.heap.size 56 2 v' o.length (o.flatMap tcells) ∧ Below w.heap.size w wr ∧ W2.heap.size ≤ wr.heap.size) (fun i _ => L.length - (intOf i).toNat)
      case atStart => exact ⟨0, _, [], Nat.zero_le _, rfl, rfl, S1.out, S2.out, S3.out, World.ownsRow_nil _ _ _ _, B2.out, Nat.le_refl _⟩
      case round =>
        obtain ⟨k, v', o, hk, rfl, hst, t1, t2, t3, hown, hbel, hsz⟩ := hrel
        obtain ⟨vo, vc, rfl⟩ := own_form hown
        have hol : o.length ≤ k := by rw [← hst]; exact Nat.le_trans (exL_len _ _ _) (by simp; omega)
        have T1 := Lib.hid t1; have T2 := Lib.hid t2; have T3 := Lib.hid t3; have HO := Lib.hid hown; have HB := Lib.hid hbel; have HSZ := Lib.hid hsz
        obtain ⟨x2, _⟩ := t1.at_ 2 _ rfl
        obtain ⟨u0, _⟩ := t3.at_ 0 _ rfl
        obtain ⟨u2, _⟩ := t3.at_ 2 _ rfl
        have hl3 := t3.lt
        obtain ⟨b, off, hm, hlen, hidx, hc⟩ := (HT.out.mono hbel).facts
        by_cases hlt : k < L.length
        · obtain ⟨⟨s, n⟩, hs⟩ : ∃ s, L.getD k default = s := ⟨_, rfl⟩
          obtain ⟨hlb, q0, q1⟩ := hc k hlt
          rw [hs] at q0 q1
          have hp := hidx k hlt
          have hL : L[k] = (s, n) := by rw [← hs]; simp [List.getD_eq_getElem?_getD, hlt]
          have HN := Lib.hid (show exL false now (L.take (k + 1)) = o ++ exTail false now (s, n) from by rw [exL_snoc _ _ L k hlt, hst, hL])
          have h1 : o.length + 1 ≤ maxLen := by have := HLL.out; unfold maxLen; omega
          have h2 : (o.length + 1) * 24 ≤ 140737488355328 := by have := HLL.out; omega
          clear hidx hc hs hL hst hown hbel t1 t2 t3 hsz
          cases hnc : decide (now < n)
          · have NC := Lib.hid (show ¬ now < n by simpa using hnc)
            have HE := Lib.hid (show exL false now (L.take (k + 1)) = o from by rw [HN.out]; simp [exTail, NC.out])
            go_wp2_with fail
            go_roundw
            case rel => exact ⟨k + 1, _, o, by omega, by go_num, HE.out, T1.out.old _, T2.out.old _, T3.out.old _, HO.out.alloc _, HB.out.alloc HB.out.size _, by have := HSZ.out; simp; omega⟩
            case measure => simp [intOf]; omega
          · have NC := Lib.hid (show now < n by simpa using hnc)
            have HE := Lib.hid (show exL false now (L.take (k + 1)) = o ++ [(s, n)] from by rw [HN.out]; simp [exTail, NC.out])
            go_wp2_with (at_builtin; refine wpList_append_vals _ rfl _ _ 22 rfl W2.heap.size 56 i0 (.agg #[.string ⟨#[]⟩, .int .i64 0]) 2 24 Try.underlying22 hi hz0 hz1 hz2 rfl (by decide) (.slice vo o.length vc) _ _ rfl ((HO.out.alloc _).alloc _) _ 1 [.string (bstr s), .int .i64 n] rfl (sliceOf_block (heap_new _ _ _ (by simp)) rfl (by simp [Value.oneCell'])) h1 h2 (by have := HSZ.out; simp; omega) ?_; intro v2 w3 hown3 hg3 _; obtain ⟨o2, c2, rfl⟩ := own_form hown3; have NE := (show ∀ b, b < W2.heap.size → some b ≠ Value.ownBlock (.slice vo o.length vc) from fun b hb e => by have := (HO.out.lt _ e.symm).1; omega); have U3 := Lib.hid (((T3.out.old _).old _).grown hg3 (NE _ HLT.out)); obtain ⟨y2, _⟩ := U3.out.at_ 2 _ rfl; have V1 := Lib.hid (((T1.out.old _).old _).grown hg3 (NE _ (by have := HLT.out; have := HW1.out; omega))); have V2 := Lib.hid (((T2.out.old _).old _).grown hg3 (NE _ (by have := HLT.out; have := HW1.out; omega))); have HO3 := Lib.hid hown3; have HG3 := Lib.hid hg3; clear hown3 hg3 NE)
            go_roundw
            case rel =>
              have g1 := HG3.out.size
              have q1 := HSZ.out
              have q2 := HW1.out
              have q3 := HLT.out
              have g2 := (HB.out.alloc HB.out.size (.cells #[.string (bstr s), .int .i64 n] 56)).alloc (by have := HB.out.size; simp; omega) (.cells ([.string (bstr s), .int .i64 n]).toArray 56)
              have g3 := g2.grown HG3.out g2.size (fun j e => Nat.le_trans (by omega) (HO.out.lt j e).1)
              refine ⟨k + 1, _, _, by omega, by go_num, HE.out, V1.out.far (by simp; omega) _, V2.out.far (by simp; omega) _, U3.out.set 2 _, ?_, g3.setCell (by simp; omega) _, by simp; simp at g1; omega⟩
              refine ownsRow_setCell_below ?_ (by simp; omega) _
              simpa [tcells] using HO3.out
            case measure => simp [intOf]; omega
        · have hL : L.take k = L := List.take_of_length_le (by omega)
          rw [hL] at hst
          have HK := Lib.hid hst
          have HA := Lib.hid (asc_ex false now (pcheck_asc HP.out))
          have HTM := Lib.hid (show Tms wr (.slice vo o.length vc) o from Tms.own HO.out (by have := HLL.out; omega) (by rw [← HK.out]; exact exL_wfs _ _ HWF.out))
          have HL := Lib.hid (Lies.own HO.out)
          clear hidx hc hL t1
          by_cases ho : o = []
          · subst ho
            have HK0 := Lib.hid (show exL false now L = [] from HK.out)
            obtain ⟨y0, _⟩ := t2.at_ 0 _ rfl
            obtain ⟨y1, _⟩ := t2.at_ 1 _ rfl
            obtain ⟨y2, _⟩ := t2.at_ 2 _ rfl
            obtain ⟨z0, _⟩ := t3.at_ 0 _ rfl
            obtain ⟨z2, _⟩ := t3.at_ 2 _ rfl
            clear t2 t3 hown hbel hsz hst
            simp only [List.length_nil] at z2
            go_wp2
            have R := fun u1 u2 u3 => ((T2.out.set 0 u1).set 1 u2).set 2 u3
            have r0 := fun u1 u2 u3 => ((R u1 u2 u3).at_ 0 _ rfl).1
            have r1 := fun u1 u2 u3 => ((R u1 u2 u3).at_ 1 _ rfl).1
            have r2 := fun u1 u2 u3 => ((R u1 u2 u3).at_ 2 _ rfl).1
            refine bodyPost_ret (v := .tuple #[.agg #[.bool false, .int .i64 0, .slice none 0 0], .bool false]) (by simp [results, Try.results15, go_sem, r0, r1, r2]) rfl (.inr ⟨HP.out, _, [], by rw [HX.out]; rfl, Tms.nil _, by rw [HX.out, ← HK0.out]; exact HA.out, Nat.zero_le _, fun j hj => by simp [Value.ownBlock] at hj, ((HB.out.setCell (by simp) _).setCell (by simp) _).setCell (by simp) _⟩)
          · have hob : ((o.length : Int) == 0) = false := by simp; exact ho
            have HQ := Lib.hid (show o.isEmpty = false by simpa using ho)
            obtain ⟨y0, _⟩ := t2.at_ 0 _ rfl
            obtain ⟨y1, _⟩ := t2.at_ 1 _ rfl
            obtain ⟨y2, _⟩ := t2.at_ 2 _ rfl
            obtain ⟨z0, _⟩ := t3.at_ 0 _ rfl
            obtain ⟨z1, _⟩ := t3.at_ 1 _ rfl
            obtain ⟨z2, _⟩ := t3.at_ 2 _ rfl
            clear t2 t3 hown hbel hsz hst
            go_wp2
            have R := fun u1 u2 u3 => ((T2.out.set 0 u1).set 1 u2).set 2 u3
            have r0 := fun u1 u2 u3 => ((R u1 u2 u3).at_ 0 _ rfl).1
            have r1 := fun u1 u2 u3 => ((R u1 u2 u3).at_ 1 _ rfl).1
            have r2 := fun u1 u2 u3 => ((R u1 u2 u3).at_ 2 _ rfl).1
            have q1 := HW1.out
            have q2 := HLT.out
            refine bodyPost_ret (v := .tuple #[.agg #[.bool false, .int .i64 0, .slice vo o.length vc], .bool true]) (by simp [results, Try.results15, go_sem, r0, r1, r2]) rfl (.inr ⟨HP.out, _, o, ?_, ?_, by rw [HX.out, ← HK.out]; exact HA.out, by rw [← HK.out]; exact exL_len _ _ _, HL.out.mono (by omega), ((HB.out.setCell (by simp) _).setCell (by simp) _).setCell (by simp) _⟩)
            · rw [HX.out]; simp [HQ.out]
            · exact ((HTM.out.far HL.out (by simp; omega) _).far HL.out (by simp; omega) _).far HL.out (by simp; omega) _
    · cases hq : decide (now < at')
      · obtain ⟨W2, hW2⟩ : ∃ W2, W2 = w1.alloc (.cells #[.bool false, .int .i64 0, .slice none 0 0] 24) := ⟨_, rfl⟩
        have hbw : Below w1.heap.size w1 W2 := by rw [hW2]; exact (Below.refl _ _).alloc (Nat.le_refl _) _
        have s3 : CBox W2 w1.heap.size 24 #[.bool false, .int .i64 0, .slice none 0 0] := by rw [hW2]; exact CBox.new _ rfl
        have HX := Lib.hid (show (true && decide (now < at')) = false from by rw [hq]; rfl)
        have HLT := Lib.hid s3.lt
        have S3 := Lib.hid s3
        have S1 := Lib.hid (T1.out.below hbw T1.out.lt); have S2 := Lib.hid (T2.out.below hbw T2.out.lt); have B2 := Lib.hid (HBW.out.trans (hbw.mono HBW.out.size))
        clear s3 hbw T1 T2 HBW
        go_wp2_with fail
        rw [← hW2]
        clear hW2 x0 x1 x2 y0 y1 y2
        go_loopw [7] (fun i wr => ∃ (k : Nat) (v' : Value) (o : List Tmd), k ≤ L.length ∧ i = .int .i64 k ∧ exL false now (L.take k) = o ∧ CBox wr w.heap.size 24 #[.bool true, .int .i64 at', .slice ao L.length cap] ∧ CBox wr (w.heap.size + 1) 24 #[.bool false, .int .i64 0, .slice none 0 0] ∧ CBox wr w1.heap.size 24 #[.bool false, .int .i64 0, v'] ∧ wr.ownsRow W2.heap.size 56 2 v' o.length (o.flatMap tcells) ∧ Below w.heap.size w wr ∧ W2.heap.size ≤ wr.heap.size) (fun i _ => L.length - (intOf i).toNat)
        case atStart => exact ⟨0, _, [], Nat.zero_le _, rfl, rfl, S1.out, S2.out, S3.out, World.ownsRow_nil _ _ _ _, B2.out, Nat.le_refl _⟩
        case round =>
          obtain ⟨k, v', o, hk, rfl, hst, t1, t2, t3, hown, hbel, hsz⟩ := hrel
          obtain ⟨vo, vc, rfl⟩ := own_form hown
          have hol : o.length ≤ k := by rw [← hst]; exact Nat.le_trans (exL_len _ _ _) (by simp; omega)
          have T1 := Lib.hid t1; have T2 := Lib.hid t2; have T3 := Lib.hid t3; have HO := Lib.hid hown; have HB := Lib.hid hbel; have HSZ := Lib.hid hsz
          obtain ⟨x2, _⟩ := t1.at_ 2 _ rfl
          obtain ⟨u0, _⟩ := t3.at_ 0 _ rfl
          obtain ⟨u2, _⟩ := t3.at_ 2 _ rfl
          have hl3 := t3.lt
          obtain ⟨b, off, hm, hlen, hidx, hc⟩ := (HT.out.mono hbel).facts
          by_cases hlt : k < L.length
          · obtain ⟨⟨s, n⟩, hs⟩ : ∃ s, L.getD k default = s := ⟨_, rfl⟩
            obtain ⟨hlb, q0, q1⟩ := hc k hlt
            rw [hs] at q0 q1
            have hp := hidx k hlt
            have hL : L[k] = (s, n) := by rw [← hs]; simp [List.getD_eq_getElem?_getD, hlt]
            have HN := Lib.hid (show exL false now (L.take (k + 1)) = o ++ exTail false now (s, n) from by rw [exL_snoc _ _ L k hlt, hst, hL])
            have h1 : o.length + 1 ≤ maxLen := by have := HLL.out; unfold maxLen; omega
            have h2 : (o.length + 1) * 24 ≤ 140737488355328 := by have := HLL.out; omega
            clear hidx hc hs hL hst hown hbel t1 t2 t3 hsz
            cases hnc : decide (now < n)
            · have NC := Lib.hid (show ¬ now < n by simpa using hnc)
              have HE := Lib.hid (show exL false now (L.take (k + 1)) = o from by rw [HN.out]; simp [exTail, NC.out])
              go_wp2_with fail
              go_roundw
              case rel => exact ⟨k + 1, _, o, by omega, by go_num, HE.out, T1.out.old _, T2.out.old _, T3.out.old _, HO.out.alloc _, HB.out.alloc HB.out.size _, by have := HSZ.out; simp; omega⟩
              case measure => simp [intOf]; omega
            · have NC := Lib.hid (show now < n by simpa using hnc)
              have HE := Lib.hid (show exL false now (L.take (k + 1)) = o ++ [(s, n)] from by rw [HN.out]; simp [exTail, NC.out])
              go_wp2_with (at_builtin; refine wpList_append_vals _ rfl _ _ 22 rfl W2.heap.size 56 i0 (.agg #[.string ⟨#[]⟩, .int .i64 0]) 2 24 Try.underlying22 hi hz0 hz1 hz2 rfl (by decide) (.slice vo o.length vc) _ _ rfl ((HO.out.alloc _).alloc _) _ 1 [.string (bstr s), .int .i64 n] rfl (sliceOf_block (heap_new _ _ _ (by simp)) rfl (by simp [Value.oneCell'])) h1 h2 (by have := HSZ.out; simp; omega) ?_; intro v2 w3 hown3 hg3 _; obtain ⟨o2, c2, rfl⟩ := own_form hown3; have NE := (show ∀ b, b < W2.heap.size → some b ≠ Value.ownBlock (.slice vo o.length vc) from fun b hb e => by have := (HO.out.lt _ e.symm).1; omega); have U3 := Lib.hid (((T3.out.old _).old _).grown hg3 (NE _ HLT.out)); obtain ⟨y2, _⟩ := U3.out.at_ 2 _ rfl; have V1 := Lib.hid (((T1.out.old _).old _).grown hg3 (NE _ (by have := HLT.out; have := HW1.out; omega))); have V2 := Lib.hid (((T2.out.old _).old _).grown hg3 (NE _ (by have := HLT.out; have := HW1.out; omega))); have HO3 := Lib.hid hown3; have HG3 := Lib.hid hg3; clear hown3 hg3 NE)
              go_roundw
              case rel =>
                have g1 := HG3.out.size
                have q1 := HSZ.out
                have q2 := HW1.out
                have q3 := HLT.out
                have g2 := (HB.out.alloc HB.out.size (.cells #[.string (bstr s), .int .i64 n] 56)).alloc (by have := HB.out.size; simp; omega) (.cells ([.string (bstr s), .int .i64 n]).toArray 56)
                have g3 := g2.grown HG3.out g2.size (fun j e => Nat.le_trans (by omega) (HO.out.lt j e).1)
                refine ⟨k + 1, _, _, by omega, by go_num, HE.out, V1.out.far (by simp; omega) _, V2.out.far (by simp; omega) _, U3.out.set 2 _, ?_, g3.setCell (by simp; omega) _, by simp; simp at g1; omega⟩
                refine ownsRow_setCell_below ?_ (by simp; omega) _
                simpa [tcells] using HO3.out
              case measure => simp [intOf]; omega
          · have hL : L.take k = L := List.take_of_length_le (by omega)
            rw [hL] at hst
            have HK := Lib.hid hst
            have HA := Lib.hid (asc_ex false now (pcheck_asc HP.out))
            have HTM := Lib.hid (show Tms wr (.slice vo o.length vc) o from Tms.own HO.out (by have := HLL.out; omega) (by rw [← HK.out]; exact exL_wfs _ _ HWF.out))
            have HL := Lib.hid (Lies.own HO.out)
            clear hidx hc hL t1
            by_cases ho : o = []
            · subst ho
              have HK0 := Lib.hid (show exL false now L = [] from HK.out)
              obtain ⟨y0, _⟩ := t2.at_ 0 _ rfl
              obtain ⟨y1, _⟩ := t2.at_ 1 _ rfl
              obtain ⟨y2, _⟩ := t2.at_ 2 _ rfl
              obtain ⟨z0, _⟩ := t3.at_ 0 _ rfl
              obtain ⟨z2, _⟩ := t3.at_ 2 _ rfl
              clear t2 t3 hown hbel hsz hst
              simp only [List.length_nil] at z2
              go_wp2
              have R := fun u1 u2 u3 => ((T2.out.set 0 u1).set 1 u2).set 2 u3
              have r0 := fun u1 u2 u3 => ((R u1 u2 u3).at_ 0 _ rfl).1
              have r1 := fun u1 u2 u3 => ((R u1 u2 u3).at_ 1 _ rfl).1
              have r2 := fun u1 u2 u3 => ((R u1 u2 u3).at_ 2 _ rfl).1
              refine bodyPost_ret (v := .tuple #[.agg #[.bool false, .int .i64 0, .slice none 0 0], .bool false]) (by simp [results, Try.results15, go_sem, r0, r1, r2]) rfl (.inr ⟨HP.out, _, [], by rw [HX.out]; rfl, Tms.nil _, by rw [HX.out, ← HK0.out]; exact HA.out, Nat.zero_le _, fun j hj => by simp [Value.ownBlock] at hj, ((HB.out.setCell (by simp) _).setCell (by simp) _).setCell (by simp) _⟩)
            · have hob : ((o.length : Int) == 0) = false := by simp; exact ho
              have HQ := Lib.hid (show o.isEmpty = false by simpa using ho)
              obtain ⟨y0, _⟩ := t2.at_ 0 _ rfl
              obtain ⟨y1, _⟩ := t2.at_ 1 _ rfl
              obtain ⟨y2, _⟩ := t2.at_ 2 _ rfl
              obtain ⟨z0, _⟩ := t3.at_ 0 _ rfl
              obtain ⟨z1, _⟩ := t3.at_ 1 _ rfl
              obtain ⟨z2, _⟩ := t3.at_ 2 _ rfl
              clear t2 t3 hown hbel hsz hst
              go_wp2
              have R := fun u1 u2 u3 => ((T2.out.set 0 u1).set 1 u2).set 2 u3
              have r0 := fun u1 u2 u3 => ((R u1 u2 u3).at_ 0 _ rfl).1
              have r1 := fun u1 u2 u3 => ((R u1 u2 u3).at_ 1 _ rfl).1
              have r2 := fun u1 u2 u3 => ((R u1 u2 u3).at_ 2 _ rfl).1
              have q1 := HW1.out
              have q2 := HLT.out
              refine bodyPost_ret (v := .tuple #[.agg #[.bool false, .int .i64 0, .slice vo o.length vc], .bool true]) (by simp [results, Try.results15, go_sem, r0, r1, r2]) rfl (.inr ⟨HP.out, _, o, ?_, ?_, by rw [HX.out, ← HK.out]; exact HA.out, by rw [← HK.out]; exact exL_len _ _ _, HL.out.mono (by omega), ((HB.out.setCell (by simp) _).setCell (by simp) _).setCell (by simp) _⟩)
              · rw [HX.out]; simp [HQ.out]
              · exact ((HTM.out.far HL.out (by simp; omega) _).far HL.out (by simp; omega) _).far HL.out (by simp; omega) _
      · obtain ⟨W2, hW2⟩ : ∃ W2, W2 = w1.alloc (.cells #[.bool true, .int .i64 at', .slice none 0 0] 24) := ⟨_, rfl⟩
        have hbw : Below w1.heap.size w1 W2 := by rw [hW2]; exact (Below.refl _ _).alloc (Nat.le_refl _) _
        have s3 : CBox W2 w1.heap.size 24 #[.bool true, .int .i64 at', .slice none 0 0] := by rw [hW2]; exact CBox.new _ rfl
        have HX := Lib.hid (show (true && decide (now < at')) = true from by rw [hq]; rfl)
        have HLT := Lib.hid s3.lt
        have S3 := Lib.hid s3
        have S1 := Lib.hid (T1.out.below hbw T1.out.lt); have S2 := Lib.hid (T2.out.below hbw T2.out.lt); have B2 := Lib.hid (HBW.out.trans (hbw.mono HBW.out.size))
        have nb1 := T1.out.old (.cells #[.bool true, .int .i64 0, .slice none 0 0] 24)
        obtain ⟨n1, _⟩ := nb1.at_ 1 _ rfl
        have nb2 : CBox (w1.alloc (.cells #[.bool true, .int .i64 0, .slice none 0 0] 24)) w1.heap.size 24 #[.bool true, .int .i64 0, .slice none 0 0] := CBox.new _ rfl
        obtain ⟨m0, _⟩ := nb2.at_ 0 _ rfl
        obtain ⟨m1, m1f⟩ := nb2.at_ 1 _ rfl
        clear nb1 nb2
        clear s3 hbw T1 T2 HBW
        go_wp2_with fail
        rw [← hW2]
        clear hW2 x0 x1 x2 y0 y1 y2 n1 m0 m1 m1f
        go_loopw [7] (fun i wr => ∃ (k : Nat) (v' : Value) (o : List Tmd), k ≤ L.length ∧ i = .int .i64 k ∧ exL true now (L.take k) = o ∧ CBox wr w.heap.size 24 #[.bool true, .int .i64 at', .slice ao L.length cap] ∧ CBox wr (w.heap.size + 1) 24 #[.bool false, .int .i64 0, .slice none 0 0] ∧ CBox wr w1.heap.size 24 #[.bool true, .int .i64 at', v'] ∧ wr.ownsRow W2.heap.size 56 2 v' o.length (o.flatMap tcells) ∧ Below w.heap.size w wr ∧ W2.heap.size ≤ wr.heap.size) (fun i _ => L.length - (intOf i).toNat)
        case atStart => exact ⟨0, _, [], Nat.zero_le _, rfl, rfl, S1.out, S2.out, S3.out, World.ownsRow_nil _ _ _ _, B2.out, Nat.le_refl _⟩
        case round =>
          obtain ⟨k, v', o, hk, rfl, hst, t1, t2, t3, hown, hbel, hsz⟩ := hrel
          obtain ⟨vo, vc, rfl⟩ := own_form hown
          have hol : o.length ≤ k := by rw [← hst]; exact Nat.le_trans (exL_len _ _ _) (by simp; omega)
          have T1 := Lib.hid t1; have T2 := Lib.hid t2; have T3 := Lib.hid t3; have HO := Lib.hid hown; have HB := Lib.hid hbel; have HSZ := Lib.hid hsz
          obtain ⟨x2, _⟩ := t1.at_ 2 _ rfl
          obtain ⟨u0, _⟩ := t3.at_ 0 _ rfl
          obtain ⟨u2, _⟩ := t3.at_ 2 _ rfl
          have hl3 := t3.lt
          obtain ⟨b, off, hm, hlen, hidx, hc⟩ := (HT.out.mono hbel).facts
          by_cases hlt : k < L.length
          · obtain ⟨⟨s, n⟩, hs⟩ : ∃ s, L.getD k default = s := ⟨_, rfl⟩
            obtain ⟨hlb, q0, q1⟩ := hc k hlt
            rw [hs] at q0 q1
            have hp := hidx k hlt
            have hL : L[k] = (s, n) := by rw [← hs]; simp [List.getD_eq_getElem?_getD, hlt]
            have HN := Lib.hid (show exL true now (L.take (k + 1)) = o ++ exTail true now (s, n) from by rw [exL_snoc _ _ L k hlt, hst, hL])
            have h1 : o.length + 1 ≤ maxLen := by have := HLL.out; unfold maxLen; omega
            have h2 : (o.length + 1) * 24 ≤ 140737488355328 := by have := HLL.out; omega
            clear hidx hc hs hL hst hown hbel t1 t2 t3 hsz
            cases hnc : decide (now < n)
            · have NC := Lib.hid (show ¬ now < n by simpa using hnc)
              have HE := Lib.hid (show exL true now (L.take (k + 1)) = o ++ [(s, 0)] from by rw [HN.out]; simp [exTail, NC.out])
              go_wp2_with (at_builtin; refine wpList_append_vals _ rfl _ _ 22 rfl W2.heap.size 56 i0 (.agg #[.string ⟨#[]⟩, .int .i64 0]) 2 24 Try.underlying22 hi hz0 hz1 hz2 rfl (by decide) (.slice vo o.length vc) _ _ rfl ((HO.out.alloc _).alloc _) _ 1 [.string (bstr s), .int .i64 0] rfl (sliceOf_block (heap_new _ _ _ (by simp)) rfl (by simp [Value.oneCell'])) h1 h2 (by have := HSZ.out; simp; omega) ?_; intro v2 w3 hown3 hg3 _; obtain ⟨o2, c2, rfl⟩ := own_form hown3; have NE := (show ∀ b, b < W2.heap.size → some b ≠ Value.ownBlock (.slice vo o.length vc) from fun b hb e => by have := (HO.out.lt _ e.symm).1; omega); have U3 := Lib.hid (((T3.out.old _).old _).grown hg3 (NE _ HLT.out)); obtain ⟨y2, _⟩ := U3.out.at_ 2 _ rfl; have V1 := Lib.hid (((T1.out.old _).old _).grown hg3 (NE _ (by have := HLT.out; have := HW1.out; omega))); have V2 := Lib.hid (((T2.out.old _).old _).grown hg3 (NE _ (by have := HLT.out; have := HW1.out; omega))); have HO3 := Lib.hid hown3; have HG3 := Lib.hid hg3; clear hown3 hg3 NE)
              go_roundw
              case rel =>
                have g1 := HG3.out.size
                have q1 := HSZ.out
                have q2 := HW1.out
                have q3 := HLT.out
                have g2 := (HB.out.alloc HB.out.size (.cells #[.string (bstr s), .int .i64 n] 56)).alloc (by have := HB.out.size; simp; omega) (.cells ([.string (bstr s), .int .i64 0]).toArray 56)
                have g3 := g2.grown HG3.out g2.size (fun j e => Nat.le_trans (by omega) (HO.out.lt j e).1)
                refine ⟨k + 1, _, _, by omega, by go_num, HE.out, V1.out.far (by simp; omega) _, V2.out.far (by simp; omega) _, U3.out.set 2 _, ?_, g3.setCell (by simp; omega) _, by simp; simp at g1; omega⟩
                refine ownsRow_setCell_below ?_ (by simp; omega) _
                simpa [tcells] using HO3.out
              case measure => simp [intOf]; omega
            · have NC := Lib.hid (show now < n by simpa using hnc)
              have HE := Lib.hid (show exL true now (L.take (k + 1)) = o ++ [(s, n)] from by rw [HN.out]; simp [exTail, NC.out])
              go_wp2_with (at_builtin; refine wpList_append_vals _ rfl _ _ 22 rfl W2.heap.size 56 i0 (.agg #[.string ⟨#[]⟩, .int .i64 0]) 2 24 Try.underlying22 hi hz0 hz1 hz2 rfl (by decide) (.slice vo o.length vc) _ _ rfl ((HO.out.alloc _).alloc _) _ 1 [.string (bstr s), .int .i64 n] rfl (sliceOf_block (heap_new _ _ _ (by simp)) rfl (by simp [Value.oneCell'])) h1 h2 (by have := HSZ.out; simp; omega) ?_; intro v2 w3 hown3 hg3 _; obtain ⟨o2, c2, rfl⟩ := own_form hown3; have NE := (show ∀ b, b < W2.heap.size → some b ≠ Value.ownBlock (.slice vo o.length vc) from fun b hb e => by have := (HO.out.lt _ e.symm).1; omega); have U3 := Lib.hid (((T3.out.old _).old _).grown hg3 (NE _ HLT.out)); obtain ⟨y2, _⟩ := U3.out.at_ 2 _ rfl; have V1 := Lib.hid (((T1.out.old _).old _).grown hg3 (NE _ (by have := HLT.out; have := HW1.out; omega))); have V2 := Lib.hid (((T2.out.old _).old _).grown hg3 (NE _ (by have := HLT.out; have := HW1.out; omega))); have HO3 := Lib.hid hown3; have HG3 := Lib.hid hg3; clear hown3 hg3 NE)
              go_roundw
              case rel =>
                have g1 := HG3.out.size
                have q1 := HSZ.out
                have q2 := HW1.out
                have q3 := HLT.out
                have g2 := (HB.out.alloc HB.out.size (.cells #[.string (bstr s), .int .i64 n] 56)).alloc (by have := HB.out.size; simp; omega) (.cells ([.string (bstr s), .int .i64 n]).toArray 56)
                have g3 := g2.grown HG3.out g2.size (fun j e => Nat.le_trans (by omega) (HO.out.lt j e).1)
                refine ⟨k + 1, _, _, by omega, by go_num, HE.out, V1.out.far (by simp; omega) _, V2.out.far (by simp; omega) _, U3.out.set 2 _, ?_, g3.setCell (by simp; omega) _, by simp; simp at g1; omega⟩
                refine ownsRow_setCell_below ?_ (by simp; omega) _
                simpa [tcells] using HO3.out
              case measure => simp [intOf]; omega
          · have hL : L.take k = L := List.take_of_length_le (by omega)
            rw [hL] at hst
            have HK := Lib.hid hst
            have HA := Lib.hid (asc_ex true now (pcheck_asc HP.out))
            have HTM := Lib.hid (show Tms wr (.slice vo o.length vc) o from Tms.own HO.out (by have := HLL.out; omega) (by rw [← HK.out]; exact exL_wfs _ _ HWF.out))
            have HL := Lib.hid (Lies.own HO.out)
            clear hidx hc hL t1
            obtain ⟨y0, _⟩ := t2.at_ 0 _ rfl
            obtain ⟨y1, _⟩ := t2.at_ 1 _ rfl
            obtain ⟨y2, _⟩ := t2.at_ 2 _ rfl
            obtain ⟨z0, _⟩ := t3.at_ 0 _ rfl
            obtain ⟨z1, _⟩ := t3.at_ 1 _ rfl
            obtain ⟨z2, _⟩ := t3.at_ 2 _ rfl
            clear t2 t3 hown hbel hsz hst
            go_wp2
            have R := fun u1 u2 u3 => ((T2.out.set 0 u1).set 1 u2).set 2 u3
            have r0 := fun u1 u2 u3 => ((R u1 u2 u3).at_ 0 _ rfl).1
            have r1 := fun u1 u2 u3 => ((R u1 u2 u3).at_ 1 _ rfl).1
            have r2 := fun u1 u2 u3 => ((R u1 u2 u3).at_ 2 _ rfl).1
            have q1 := HW1.out
            have q2 := HLT.out
            refine bodyPost_ret (v := .tuple #[.agg #[.bool true, .int .i64 at', .slice vo o.length vc], .bool true]) (by simp [results, Try.results15, go_sem, r0, r1, r2]) rfl (.inr ⟨HP.out, _, o, ?_, ?_, by rw [HX.out, ← HK.out]; exact HA.out, by rw [← HK.out]; exact exL_len _ _ _, HL.out.mono (by omega), ((HB.out.setCell (by simp) _).setCell (by simp) _).setCell (by simp) _⟩)
            · rw [HX.out]; simp
            · exact ((HTM.out.far HL.out (by simp; omega) _).far HL.out (by simp; omega) _).far HL.out (by simp; omega) _
end Go.Proofs.Ytkphgonbbhlnfaa
