/- csum.words, Sum, Right; siphonref02.Sum; both Fills. -/
import Derived.Test.YthkogdgfkhhleaaJSum
import Derived.RangeFuncBox
import Derived.RangeFuncNested
import Derived.RangeFuncWrites
import Derived.Shelf.Abstract
import Derived.RangeFuncLeaves
import Derived.RangeFuncKeeps
import Derived.OwnWalkIn
import Derived.TacticsInMore
import Derived.LoopNIn
import Derived.LoopIn
namespace Go.Proofs.Ythkogdgfkhhleaa
open Go.RowKit Go.Shelf
set_option maxRecDepth 20000
set_option maxRecDepth 20000
attribute [local go_sem] bstr_size bstr_extract bstr_append bstr_toList bstr_get
attribute [local go_sem] Oper.semAt_some

/-- what lies below B0, and block Bs, are as they were -/
def KpB (B0 Bs : Nat) (A B : World) : Prop := Below B0 A B ∧ B.heap[Bs]? = A.heap[Bs]?
theorem KpB.t {B0 Bs : Nat} {A B C : World} (h : KpB B0 Bs A B) (k : KpB B0 Bs B C) : KpB B0 Bs A C := ⟨h.1.trans k.1, k.2.trans h.2⟩
theorem KpB.b {B0 Bs : Nat} {w : World} (hn : B0 ≤ w.heap.size) (hB : Bs < w.heap.size) (W : World) (l : Nat) (o o' : Obj) (hl : w.heap.size ≤ l) (h : W.heap[l]? = some o) (hc : o.isCells = false) (hw : o.isWalk = false) : KpB B0 Bs W (W.putObj l o') :=
  ⟨belowK_b hn W l o o' hl h hc hw, World.putObj_heap_other (by omega)⟩

theorem word_two (x y : UInt8) : bits .or .i64 (wrap64 ((x.toNat : Int) * 256)) (y.toNat : Int) = 256 * (x.toNat : Int) + y.toNat := by
  have h1 := x.toNat_lt
  have h2 := y.toNat_lt
  rw [show wrap64 ((x.toNat : Int) * 256) = (x.toNat : Int) * 256 by unfold wrap64; omega, i64_join 8 _ _ (by omega) (by omega) (by omega) (by omega) (by omega) (by omega)]
  omega
theorem word_one (x : UInt8) : wrap64 ((x.toNat : Int) * 256) = 256 * (x.toNat : Int) := by
  have h1 := x.toNat_lt
  unfold wrap64; omega

def wordsF (s : Str) : List (Fin 65536) := (List.range ((s.length + 1) / 2)).map fun k => ⟨wordAt s (2 * k), by have := wordAt_le s (2 * k); omega⟩
theorem wordsF_length (s : Str) : (wordsF s).length = (s.length + 1) / 2 := by simp [wordsF]
theorem wordsF_val (s : Str) : (wordsF s).map (·.val) = wordsL s := by simp [wordsF, wordsL]
theorem wordsF_at (s : Str) (k : Nat) (h : k < (wordsF s).length) (hx : wordAt s (2 * k) < 65536) : (wordsF s)[k] = ⟨wordAt s (2 * k), hx⟩ := by simp [wordsF]
/-- the iterator's words, in order -/
theorem words_stops (n : Nat) (hn : 1 ≤ n) (w0 : World) (Bs : Nat) (s : Str) (hs : s.length ≤ 140737488355328) (w : World) (_hB : Below w0.heap.size w0 w) (hc : Boxed w Bs 9 (.string (bstr s))) :
    SeqStopsK Fence.wide n Try.prog 77 #[.pointer (some ⟨Bs, 0, none⟩)] (fun x : Fin 65536 => #[.int .i64 (x.val : Int)]) (KpB w0.heap.size Bs) (fun ys => ys = wordsF s) (fun pre => pre <+: wordsF s) (wordsF s).length w := fun l J Jx W hW _ _ hY h0 => by
  have hcW : Boxed W Bs 9 (.string (bstr s)) := (hW.block Bs hc.lt).trans hc
  have hL := wordsF_length s
  clear hc
  refine callsIn_of_wp Try.func77 rfl trivial ?_ rfl
  simp only [Try.ntmps77, List.size_toArray, List.length_cons, List.length_nil, Nat.reduceAdd, Nat.reduceSub, Array.replicate_succ, Array.replicate_zero, List.push_toArray, List.append_toArray, List.nil_append, List.cons_append]
  gi_wp2
  gi_loopw [3, 4] (fun i _ wr => ∃ k : Nat, k ≤ (wordsF s).length ∧ i = .int .i64 ((2 * k : Nat) : Int) ∧ J ((wordsF s).take k) wr ∧ Boxed wr Bs 9 (.string (bstr s))) (fun i _ _ => s.length + 2 - (intOf i).toNat)
  case atStart => exact ⟨0, Nat.zero_le _, rfl, h0, hcW⟩
  case round =>
    obtain ⟨k, hk, rfl, hJs, hbr⟩ := hrel
    have hcr := hbr.cell
    have HBR := Lib.hid hbr
    clear hbr hcW
    by_cases hlt : k < (wordsF s).length
    · obtain ⟨i, hi⟩ : ∃ i, i = 2 * k := ⟨_, rfl⟩
      have hx64 : wordAt s i < 65536 := by have := wordAt_le s i; omega
      have HWL := Lib.hid (show (wordsF s).take (k + 1) = (wordsF s).take k ++ [⟨wordAt s i, hx64⟩] from by subst hi; rw [List.take_succ_eq_append_getElem hlt, wordsF_at s k hlt hx64])
      obtain ⟨fn, tmps, assign, body, hy, hR⟩ := hY _ ⟨wordAt s i, hx64⟩ wr hJs (by simp; omega)
      have hi0 : i < s.length := by omega
      rw [← hi]
      dsimp only at hy
      have HI := Lib.hid hi
      have HS47 := Lib.hid (wrap_two i (by omega))
      have HLT := Lib.hid (show k + 1 ≤ (wordsF s).length from hlt)
      clear hi hk hlt hL hs hY
      have hw1 := (HS47.out).1
      have HE := Lib.hid (And.intro (show (Value.int .i64 (wrap64 ((i : Int) + 2))) = .int .i64 ((2 * (k + 1) : Nat) : Int) from by rw [HS47.out.2, HI.out]; go_num) (total_meas s.length i (wrap64 ((i : Int) + 2)) hi0 HS47.out.2))
      have hx : wrap64 ((s[i]'hi0).toNat : Int) = (s[i]'hi0).toNat := by have := (s[i]'hi0).toNat_lt; unfold wrap64; omega
      by_cases h1 : i + 1 < s.length
      · have h1' : (i : Int) + 1 < s.length := by omega
        have hy' : wrap64 ((s[i + 1]'h1).toNat : Int) = (s[i + 1]'h1).toNat := by have := (s[i + 1]'h1).toNat_lt; unfold wrap64; omega
        have HWA : ((wordAt s i : Nat) : Int) = bits .or .i64 (wrap64 (((s[i]'hi0).toNat : Int) * 256)) ((s[i + 1]'h1).toNat : Int) := by
          rw [word_two]
          unfold wordAt
          rw [List.getD_eq_getElem?_getD, List.getElem?_eq_getElem hi0, List.getD_eq_getElem?_getD, List.getElem?_eq_getElem h1]; simp
        rw [HWA] at hy
        clear HWA
        gi_wp2
        refine hR.mono ?_
        rintro e W3 (⟨rfl, hJ3, hk3⟩ | ⟨rfl, hJx3⟩)
        · gi_wp2
          go_roundw
          case rel => exact ⟨k + 1, HLT.out, HE.out.1, by rw [HWL.out]; exact hJ3, hk3.2.trans HBR.out⟩
          case measure => exact HE.out.2
        · gi_wp2
          refine bodyPost_ret (results_none rfl _ _ _) rfl ?_
          exact ⟨⟨_, rfl⟩, .inr ⟨_, List.take_prefix (k + 1) _, by rw [HWL.out]; exact hJx3⟩⟩
      · have h1' : ¬ ((i : Int) + 1 < s.length) := by omega
        have HWA : ((wordAt s i : Nat) : Int) = wrap64 (((s[i]'hi0).toNat : Int) * 256) := by
          rw [word_one]
          unfold wordAt
          rw [List.getD_eq_getElem?_getD, List.getElem?_eq_getElem hi0, List.getD_eq_getElem?_getD, List.getElem?_eq_none (by omega)]; simp
        rw [HWA] at hy
        clear HWA
        gi_wp2
        refine hR.mono ?_
        rintro e W3 (⟨rfl, hJ3, hk3⟩ | ⟨rfl, hJx3⟩)
        · gi_wp2
          go_roundw
          case rel => exact ⟨k + 1, HLT.out, HE.out.1, by rw [HWL.out]; exact hJ3, hk3.2.trans HBR.out⟩
          case measure => exact HE.out.2
        · gi_wp2
          refine bodyPost_ret (results_none rfl _ _ _) rfl ?_
          exact ⟨⟨_, rfl⟩, .inr ⟨_, List.take_prefix (k + 1) _, by rw [HWL.out]; exact hJx3⟩⟩
    · have HL := Lib.hid (show (wordsF s).take k = wordsF s from List.take_of_length_le (by omega))
      have hk2 : ¬ (2 * (k : Int) < s.length) := by omega
      rw [HL.out] at hJs
      clear hs hL hk hlt
      gi_wp2
      go_end0
      exact ⟨⟨_, rfl⟩, .inl hJs⟩

theorem words_in (n : Nat) (s : Str) (w : World) :
    CallsIn Fence.wide n Try.prog 68 #[.string (bstr s)] w fun e w' => e = .returned (.func (.func 77) #[] #[.pointer (some ⟨w.heap.size, 0, none⟩)]) ∧ w' = w.alloc (.cells #[.string (bstr s)] 9) := by
  refine callsIn_of_wp Try.func68 rfl trivial ?_ rfl
  simp only [Try.ntmps68, List.size_toArray, List.length_cons, List.length_nil, Nat.reduceAdd, Nat.reduceSub, Array.replicate_succ, Array.replicate_zero, List.push_toArray, List.append_toArray, List.nil_append, List.cons_append]
  gi_wp2
  go_ret
  exact ⟨rfl, rfl⟩

set_option maxRecDepth 100000 in
set_option maxHeartbeats 2000000 in
theorem csum_any (s : Str) (w : World) (hs : s.length ≤ 140737488355328) :
    Calls Try.prog 49 #[.string (bstr s)] w fun e w' => e = .returned (.int .i64 (psum s)) ∧ Below w.heap.size w w' := by
  refine (callsIn_wide (n := 6)).1 ?_
  refine callsIn_of_wp_marks Try.func49 rfl trivial ?_ rfl
  simp only [Try.ntmps49, List.size_toArray, List.length_cons, List.length_nil, Nat.reduceAdd, Nat.reduceSub, Array.replicate_succ, Array.replicate_zero, List.push_toArray, List.append_toArray, List.nil_append, List.cons_append]
  gi_wp2_with (refine ⟨trivial, ?_⟩; gi_at_call 68; refine (words_in _ _ _).mono ?_; rintro e w' ⟨rfl, rfl⟩)
  obtain ⟨W0, hW0⟩ : ∃ W0, W0 = (w.alloc (.cells #[.int .i64 0] 3)).alloc (.cells #[.string (bstr s)] 9) := ⟨_, rfl⟩
  rw [← hW0]
  have hB0 : Below w.heap.size w W0 := by rw [hW0]; exact ((Below.refl _ _).alloc (Nat.le_refl _) _).alloc (by simp) _
  have bN : Boxed W0 w.heap.size 3 (.int .i64 0) := by rw [hW0]; exact (Boxed.new w 3 (.int .i64 0)).alloc _
  have bS : Boxed W0 (w.heap.size + 1) 9 (.string (bstr s)) := by rw [hW0]; have := Boxed.new (w.alloc (.cells #[.int .i64 0] 3)) 9 (.string (bstr s)); rw [World.size_alloc] at this; exact this
  have hsz : W0.heap.size = w.heap.size + 2 := by rw [hW0]; simp
  clear hW0
  refine wpIn_rangeFunc_ownG rfl (by decide) (gf := 77) (lb := #[.pointer (some ⟨w.heap.size + 1, 0, none⟩)]) rfl trivial (enters_of Try.func77 (by kernel_rfl) rfl)
    (words_stops _ (by decide) w (w.heap.size + 1) s hs W0 hB0 bS) KpB.t (KpB.b (by omega) (by omega)) (Below.refl _ _) (fun _ => rfl)
    (fun pre W => Boxed W w.heap.size 3 (.int .i64 ((pre.map (·.val)).foldl pplus 0 : Nat)) ∧ (pre.map (·.val)).foldl pplus 0 ≤ 65535 ∧ Below w.heap.size w W)
    (fun _ _ _ => False)
    ?hI
    (fun _ _ _ _ _ hs _ _ => hs)
    ⟨bN, Nat.zero_le _, hB0⟩
    (fun x => { tmps := #[.string (bstr s), undef, .int .i64 0, .pointer (some ⟨w.heap.size, 0, none⟩), .int .i64 (x.val : Int), .string (bstr s), .func (.func 77) #[] #[.pointer (some ⟨w.heap.size + 1, 0, none⟩)], .int .i64 (x.val : Int), undef, undef, undef, undef, undef], defers := [] }) ?assign ?body ?done ?stop
  case hI =>
    refine OwnFrom.and (Own.from (boxed_own w.heap.size 3 (fun pre : List (Fin 65536) => .int .i64 ((pre.map (·.val)).foldl pplus 0 : Nat))) _) (OwnFrom.and (fun _ _ _ _ hs _ _ => hs) (ownFrom_below (Nat.le_refl _) (by omega)))
  case assign =>
    intro l x W K hK
    gi_wp2
    exact hK
  case body =>
    rintro l pre x W ⟨hn, hle, hW⟩ hlt
    have hcb := hn.cell
    have hcf := hn.frozen
    obtain ⟨N, hN⟩ : ∃ N, N = (pre.map (·.val)).foldl pplus 0 := ⟨_, rfl⟩
    rw [← hN] at hcb hn hle
    have HX := Lib.hid (show ((pre ++ [x]).map (·.val)).foldl pplus 0 = pplus N x.val from by rw [List.map_append, List.foldl_append, ← hN]; rfl)
    have hxl : x.val ≤ 65535 := by have := x.isLt; omega
    have HL := Lib.hid (pplus_le hle hxl)
    have HP := Lib.hid (plus_any N x.val W hle hxl)
    have HW := Lib.hid hW; have HN := Lib.hid hn
    have HSZ := Lib.hid hsz
    clear hN hle hW hn hxl hB0 bN bS hsz hs
    gi_wp2_with (refine ⟨trivial, ?_⟩; gi_at_call 69; refine (callsIn_wide.2 HP.out).mono ?_; rintro e w2 ⟨rfl, hw2⟩; subst w2)
    refine ⟨(KeepsOthers.setCell _ _ _).from _, ⟨(Below.refl w.heap.size W).setCell (p := ⟨w.heap.size, 0, none⟩) (Nat.le_refl _) _, Below.heap_setCell W ⟨w.heap.size, 0, none⟩ _ _ (by simp)⟩, ?_, ?_, HW.out.setCell (Nat.le_refl _) _⟩
    · rw [HX.out]; exact HN.out.set _
    · rw [HX.out]; exact HL.out
  case done =>
    rintro D ys W hD rfl ⟨hn, hle, hW⟩ hK
    have hcb := hn.cell
    have HS := Lib.hid (show (65535 : Int) - (((wordsF s).map (·.val)).foldl pplus 0 : Nat) = (psum s : Nat) from by
      rw [wordsF_val] at hle ⊢
      have : tot s = (wordsL s).foldl pplus 0 := totG_fold s 0
      unfold psum
      rw [this]
      omega)
    gi_wp2
    refine ⟨by simp, .inl ⟨_, _, rfl, run_takeDeferred hK, ?_⟩⟩
    refine ⟨_, results_tmp rfl _ _ _, ?_, hW.trans (belowK_b (w := w) (Nat.le_refl _) W D _ _ (by omega) hK rfl rfl)⟩
    show Ending.returned (.int .i64 ((65535 : Int) - (((wordsF s).map (·.val)).foldl pplus 0 : Nat))) = .returned (.int .i64 (psum s : Nat))
    rw [HS.out]
  case stop =>
    rintro D c pre W _ _ h _
    exact h.elim
end Go.Proofs.Ythkogdgfkhhleaa
