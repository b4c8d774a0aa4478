/- Texts joined into one file: JWords, JRound, JFill. -/
import Derived.Test.YthkibgdeibolfaaQ04
import Derived.RangeFuncBox
import Derived.RangeFuncNested
import Derived.RangeFuncWrites
import Derived.Shelf.Abstract
import Derived.RangeFuncLeaves
import Derived.RangeFuncKeeps
import Derived.OwnWalkIn
import Derived.TacticsInMore
import Derived.LoopNIn
import Derived.LoopIn
import Derived.Test.YthkibgdeibolfaaQ02
import Derived.OrdersHeld
import Derived.OrdersIn
import Derived.Deep.RegionHeld

/- csum.words, Sum, Right; siphonref02.Sum; both Fills. -/
namespace Go.Proofs.Ythkibgdeibolfaa
open Go.RowKit Go.Shelf
set_option maxRecDepth 20000
set_option maxRecDepth 20000
attribute [local go_sem] bstr_size bstr_extract bstr_append bstr_toList bstr_get
attribute [local go_sem] Oper.semAt_some

/-- what lies below B0, and block Bs, are as they were -/
def KpB (B0 Bs : Nat) (A B : World) : Prop := Below B0 A B ∧ B.heap[Bs]? = A.heap[Bs]?
theorem KpB.t {B0 Bs : Nat} {A B C : World} (h : KpB B0 Bs A B) (k : KpB B0 Bs B C) : KpB B0 Bs A C := ⟨h.1.trans k.1, k.2.trans h.2⟩
theorem KpB.b {B0 Bs : Nat} {w : World} (hn : B0 ≤ w.heap.size) (hB : Bs < w.heap.size) (W : World) (l : Nat) (o o' : Obj) (hl : w.heap.size ≤ l) (h : W.heap[l]? = some o) (hc : o.isCells = false) (hw : o.isWalk = false) : KpB B0 Bs W (W.putObj l o') :=
  ⟨belowK_b hn W l o o' hl h hc hw, World.putObj_heap_other (by omega)⟩

theorem word_two (x y : UInt8) : bits .or .i64 (wrap64 ((x.toNat : Int) * 256)) (y.toNat : Int) = 256 * (x.toNat : Int) + y.toNat := by
  have h1 := x.toNat_lt
  have h2 := y.toNat_lt
  rw [show wrap64 ((x.toNat : Int) * 256) = (x.toNat : Int) * 256 by unfold wrap64; omega, i64_join 8 _ _ (by omega) (by omega) (by omega) (by omega) (by omega) (by omega)]
  omega
theorem word_one (x : UInt8) : wrap64 ((x.toNat : Int) * 256) = 256 * (x.toNat : Int) := by
  have h1 := x.toNat_lt
  unfold wrap64; omega

def wordsF (s : Str) : List (Fin 65536) := (List.range ((s.length + 1) / 2)).map fun k => ⟨wordAt s (2 * k), by have := wordAt_le s (2 * k); omega⟩
theorem wordsF_length (s : Str) : (wordsF s).length = (s.length + 1) / 2 := by simp [wordsF]
theorem wordsF_val (s : Str) : (wordsF s).map (·.val) = wordsL s := by simp [wordsF, wordsL]
theorem wordsF_at (s : Str) (k : Nat) (h : k < (wordsF s).length) (hx : wordAt s (2 * k) < 65536) : (wordsF s)[k] = ⟨wordAt s (2 * k), hx⟩ := by simp [wordsF]
/-- the iterator's words, in order -/
theorem words_stops (n : Nat) (hn : 1 ≤ n) (w0 : World) (Bs : Nat) (s : Str) (hs : s.length ≤ 140737488355328) (w : World) (_hB : Below w0.heap.size w0 w) (hc : Boxed w Bs 9 (.string (bstr s))) :
    SeqStopsK Fence.wide n Try.prog 92 #[.pointer (some ⟨Bs, 0, none⟩)] (fun x : Fin 65536 => #[.int .i64 (x.val : Int)]) (KpB w0.heap.size Bs) (fun ys => ys = wordsF s) (fun pre => pre <+: wordsF s) (wordsF s).length w := fun l J Jx W hW _ _ hY h0 => by
  have hcW : Boxed W Bs 9 (.string (bstr s)) := (hW.block Bs hc.lt).trans hc
  have hL := wordsF_length s
  clear hc
  refine callsIn_of_wp Try.func92 rfl trivial ?_ rfl
  simp only [Try.ntmps92, List.size_toArray, List.length_cons, List.length_nil, Nat.reduceAdd, Nat.reduceSub, Array.replicate_succ, Array.replicate_zero, List.push_toArray, List.append_toArray, List.nil_append, List.cons_append]
  gi_wp2
  gi_loopw [3, 4] (fun i _ wr => ∃ k : Nat, k ≤ (wordsF s).length ∧ i = .int .i64 ((2 * k : Nat) : Int) ∧ J ((wordsF s).take k) wr ∧ Boxed wr Bs 9 (.string (bstr s))) (fun i _ _ => s.length + 2 - (intOf i).toNat)
  case atStart => exact ⟨0, Nat.zero_le _, rfl, h0, hcW⟩
  case round =>
    obtain ⟨k, hk, rfl, hJs, hbr⟩ := hrel
    have hcr := hbr.cell
    have HBR := Lib.hid hbr
    clear hbr hcW
    by_cases hlt : k < (wordsF s).length
    · obtain ⟨i, hi⟩ : ∃ i, i = 2 * k := ⟨_, rfl⟩
      have hx64 : wordAt s i < 65536 := by have := wordAt_le s i; omega
      have HWL := Lib.hid (show (wordsF s).take (k + 1) = (wordsF s).take k ++ [⟨wordAt s i, hx64⟩] from by subst hi; rw [List.take_succ_eq_append_getElem hlt, wordsF_at s k hlt hx64])
      obtain ⟨fn, tmps, assign, body, hy, hR⟩ := hY _ ⟨wordAt s i, hx64⟩ wr hJs (by simp; omega)
      have hi0 : i < s.length := by omega
      rw [← hi]
      dsimp only at hy
      have HI := Lib.hid hi
      have HS47 := Lib.hid (wrap_two i (by omega))
      have HLT := Lib.hid (show k + 1 ≤ (wordsF s).length from hlt)
      clear hi hk hlt hL hs hY
      have hw1 := (HS47.out).1
      have HE := Lib.hid (And.intro (show (Value.int .i64 (wrap64 ((i : Int) + 2))) = .int .i64 ((2 * (k + 1) : Nat) : Int) from by rw [HS47.out.2, HI.out]; go_num) (total_meas s.length i (wrap64 ((i : Int) + 2)) hi0 HS47.out.2))
      have hx : wrap64 ((s[i]'hi0).toNat : Int) = (s[i]'hi0).toNat := by have := (s[i]'hi0).toNat_lt; unfold wrap64; omega
      by_cases h1 : i + 1 < s.length
      · have h1' : (i : Int) + 1 < s.length := by omega
        have hy' : wrap64 ((s[i + 1]'h1).toNat : Int) = (s[i + 1]'h1).toNat := by have := (s[i + 1]'h1).toNat_lt; unfold wrap64; omega
        have HWA : ((wordAt s i : Nat) : Int) = bits .or .i64 (wrap64 (((s[i]'hi0).toNat : Int) * 256)) ((s[i + 1]'h1).toNat : Int) := by
          rw [word_two]
          unfold wordAt
          rw [List.getD_eq_getElem?_getD, List.getElem?_eq_getElem hi0, List.getD_eq_getElem?_getD, List.getElem?_eq_getElem h1]; simp
        rw [HWA] at hy
        clear HWA
        gi_wp2
        refine hR.mono ?_
        rintro e W3 (⟨rfl, hJ3, hk3⟩ | ⟨rfl, hJx3⟩)
        · gi_wp2
          go_roundw
          case rel => exact ⟨k + 1, HLT.out, HE.out.1, by rw [HWL.out]; exact hJ3, hk3.2.trans HBR.out⟩
          case measure => exact HE.out.2
        · gi_wp2
          refine bodyPost_ret (results_none rfl _ _ _) rfl ?_
          exact ⟨⟨_, rfl⟩, .inr ⟨_, List.take_prefix (k + 1) _, by rw [HWL.out]; exact hJx3⟩⟩
      · have h1' : ¬ ((i : Int) + 1 < s.length) := by omega
        have HWA : ((wordAt s i : Nat) : Int) = wrap64 (((s[i]'hi0).toNat : Int) * 256) := by
          rw [word_one]
          unfold wordAt
          rw [List.getD_eq_getElem?_getD, List.getElem?_eq_getElem hi0, List.getD_eq_getElem?_getD, List.getElem?_eq_none (by omega)]; simp
        rw [HWA] at hy
        clear HWA
        gi_wp2
        refine hR.mono ?_
        rintro e W3 (⟨rfl, hJ3, hk3⟩ | ⟨rfl, hJx3⟩)
        · gi_wp2
          go_roundw
          case rel => exact ⟨k + 1, HLT.out, HE.out.1, by rw [HWL.out]; exact hJ3, hk3.2.trans HBR.out⟩
          case measure => exact HE.out.2
        · gi_wp2
          refine bodyPost_ret (results_none rfl _ _ _) rfl ?_
          exact ⟨⟨_, rfl⟩, .inr ⟨_, List.take_prefix (k + 1) _, by rw [HWL.out]; exact hJx3⟩⟩
    · have HL := Lib.hid (show (wordsF s).take k = wordsF s from List.take_of_length_le (by omega))
      have hk2 : ¬ (2 * (k : Int) < s.length) := by omega
      rw [HL.out] at hJs
      clear hs hL hk hlt
      gi_wp2
      go_end0
      exact ⟨⟨_, rfl⟩, .inl hJs⟩

theorem words_in (n : Nat) (s : Str) (w : World) :
    CallsIn Fence.wide n Try.prog 73 #[.string (bstr s)] w fun e w' => e = .returned (.func (.func 92) #[] #[.pointer (some ⟨w.heap.size, 0, none⟩)]) ∧ w' = w.alloc (.cells #[.string (bstr s)] 9) := by
  refine callsIn_of_wp Try.func73 rfl trivial ?_ rfl
  simp only [Try.ntmps73, List.size_toArray, List.length_cons, List.length_nil, Nat.reduceAdd, Nat.reduceSub, Array.replicate_succ, Array.replicate_zero, List.push_toArray, List.append_toArray, List.nil_append, List.cons_append]
  gi_wp2
  go_ret
  exact ⟨rfl, rfl⟩

set_option maxRecDepth 100000 in
set_option maxHeartbeats 2000000 in
theorem csum_any (s : Str) (w : World) (hs : s.length ≤ 140737488355328) :
    Calls Try.prog 36 #[.string (bstr s)] w fun e w' => e = .returned (.int .i64 (psum s)) ∧ Below w.heap.size w w' := by
  refine (callsIn_wide (n := 6)).1 ?_
  refine callsIn_of_wp_marks Try.func36 rfl trivial ?_ rfl
  simp only [Try.ntmps36, List.size_toArray, List.length_cons, List.length_nil, Nat.reduceAdd, Nat.reduceSub, Array.replicate_succ, Array.replicate_zero, List.push_toArray, List.append_toArray, List.nil_append, List.cons_append]
  gi_wp2_with (refine ⟨trivial, ?_⟩; gi_at_call 73; refine (words_in _ _ _).mono ?_; rintro e w' ⟨rfl, rfl⟩)
  obtain ⟨W0, hW0⟩ : ∃ W0, W0 = (w.alloc (.cells #[.int .i64 0] 3)).alloc (.cells #[.string (bstr s)] 9) := ⟨_, rfl⟩
  rw [← hW0]
  have hB0 : Below w.heap.size w W0 := by rw [hW0]; exact ((Below.refl _ _).alloc (Nat.le_refl _) _).alloc (by simp) _
  have bN : Boxed W0 w.heap.size 3 (.int .i64 0) := by rw [hW0]; exact (Boxed.new w 3 (.int .i64 0)).alloc _
  have bS : Boxed W0 (w.heap.size + 1) 9 (.string (bstr s)) := by rw [hW0]; have := Boxed.new (w.alloc (.cells #[.int .i64 0] 3)) 9 (.string (bstr s)); rw [World.size_alloc] at this; exact this
  have hsz : W0.heap.size = w.heap.size + 2 := by rw [hW0]; simp
  clear hW0
  refine wpIn_rangeFunc_ownG rfl (by decide) (gf := 92) (lb := #[.pointer (some ⟨w.heap.size + 1, 0, none⟩)]) rfl trivial (enters_of Try.func92 (by kernel_rfl) rfl)
    (words_stops _ (by decide) w (w.heap.size + 1) s hs W0 hB0 bS) KpB.t (KpB.b (by omega) (by omega)) (Below.refl _ _) (fun _ => rfl)
    (fun pre W => Boxed W w.heap.size 3 (.int .i64 ((pre.map (·.val)).foldl pplus 0 : Nat)) ∧ (pre.map (·.val)).foldl pplus 0 ≤ 65535 ∧ Below w.heap.size w W)
    (fun _ _ _ => False)
    ?hI
    (fun _ _ _ _ _ hs _ _ => hs)
    ⟨bN, Nat.zero_le _, hB0⟩
    (fun x => { tmps := #[.string (bstr s), undef, .int .i64 0, .pointer (some ⟨w.heap.size, 0, none⟩), .int .i64 (x.val : Int), .string (bstr s), .func (.func 92) #[] #[.pointer (some ⟨w.heap.size + 1, 0, none⟩)], .int .i64 (x.val : Int), undef, undef, undef, undef, undef], defers := [] }) ?assign ?body ?done ?stop
  case hI =>
    refine OwnFrom.and (Own.from (boxed_own w.heap.size 3 (fun pre : List (Fin 65536) => .int .i64 ((pre.map (·.val)).foldl pplus 0 : Nat))) _) (OwnFrom.and (fun _ _ _ _ hs _ _ => hs) (ownFrom_below (Nat.le_refl _) (by omega)))
  case assign =>
    intro l x W K hK
    gi_wp2
    exact hK
  case body =>
    rintro l pre x W ⟨hn, hle, hW⟩ hlt
    have hcb := hn.cell
    have hcf := hn.frozen
    obtain ⟨N, hN⟩ : ∃ N, N = (pre.map (·.val)).foldl pplus 0 := ⟨_, rfl⟩
    rw [← hN] at hcb hn hle
    have HX := Lib.hid (show ((pre ++ [x]).map (·.val)).foldl pplus 0 = pplus N x.val from by rw [List.map_append, List.foldl_append, ← hN]; rfl)
    have hxl : x.val ≤ 65535 := by have := x.isLt; omega
    have HL := Lib.hid (pplus_le hle hxl)
    have HP := Lib.hid (plus_any N x.val W hle hxl)
    have HW := Lib.hid hW; have HN := Lib.hid hn
    have HSZ := Lib.hid hsz
    clear hN hle hW hn hxl hB0 bN bS hsz hs
    gi_wp2_with (refine ⟨trivial, ?_⟩; gi_at_call 74; refine (callsIn_wide.2 HP.out).mono ?_; rintro e w2 ⟨rfl, hw2⟩; subst w2)
    refine ⟨(KeepsOthers.setCell _ _ _).from _, ⟨(Below.refl w.heap.size W).setCell (p := ⟨w.heap.size, 0, none⟩) (Nat.le_refl _) _, Below.heap_setCell W ⟨w.heap.size, 0, none⟩ _ _ (by simp)⟩, ?_, ?_, HW.out.setCell (Nat.le_refl _) _⟩
    · rw [HX.out]; exact HN.out.set _
    · rw [HX.out]; exact HL.out
  case done =>
    rintro D ys W hD rfl ⟨hn, hle, hW⟩ hK
    have hcb := hn.cell
    have HS := Lib.hid (show (65535 : Int) - (((wordsF s).map (·.val)).foldl pplus 0 : Nat) = (psum s : Nat) from by
      rw [wordsF_val] at hle ⊢
      have : tot s = (wordsL s).foldl pplus 0 := totG_fold s 0
      unfold psum
      rw [this]
      omega)
    gi_wp2
    refine ⟨by simp, .inl ⟨_, _, rfl, run_takeDeferred hK, ?_⟩⟩
    refine ⟨_, results_tmp rfl _ _ _, ?_, hW.trans (belowK_b (w := w) (Nat.le_refl _) W D _ _ (by omega) hK rfl rfl)⟩
    show Ending.returned (.int .i64 ((65535 : Int) - (((wordsF s).map (·.val)).foldl pplus 0 : Nat))) = .returned (.int .i64 (psum s : Nat))
    rw [HS.out]
  case stop =>
    rintro D c pre W _ _ h _
    exact h.elim
end Go.Proofs.Ythkibgdeibolfaa

/- Regions that draw their order, by hand: 'takeL', 'nextL'. -/
namespace Go.Proofs.Ythkibgdeibolfaa
open Go.RowKit Go.Lib
set_option maxRecDepth 20000

section
variable {P : Program} {ops : Array Oper} {Q : Exit → Act → World → Prop} {md : Region.Mode}
/-- an operation of the region that may come first -/
theorem takeL {l : List Oper} {S : World → Prop} (i : Nat) {oi : Oper} {v : Value} {fuel : Nat} {listed : Array Bool} {a : Act} {w : World} (hi : l[i]? = some oi)
    (hs : Region.noSelect l.toArray = true) (hf : Region.free md l.toArray listed i = true) (hr : (Region.ready md l.toArray listed).contains i = true)
    (hQ : ∀ c a w, Q (.panic c) (a.put oi.dst v) w → Q (.panic c) a w) (hy : YieldsIf P l.toArray S oi v a) (hS : S w)
    (h : wpAnyH P md l.toArray Q S fuel (listed.setIfInBounds i true) (a.put oi.dst v) w) : wpAnyH P md l.toArray Q S (fuel + 1) listed a w :=
  wpAnyH_take (by simpa using hi) hs hf hr hQ hy hS h
theorem nextL {l : List Oper} {S : World → Prop} {fuel : Nat} {listed : Array Bool} {a : Act} {w : World} (i : Nat) {o : Oper} {rs : List Nat} (ho : l[i]? = some o)
    (h : ∀ K' : Act → World → Prop, Shut (∀ a w, S w → (S w → wpAnyH P md l.toArray Q S fuel (listed.setIfInBounds i true) a w) → K' a w) → if Region.wanted o (yielded l.toArray a.tmps) = true then Oper.wp P o a w K' Q else K' (a.put o.dst undef) w)
    (hs : AllReadyH P md l.toArray Q S fuel listed a w rs) : AllReadyH P md l.toArray Q S fuel listed a w (i :: rs) :=
  AllReadyH.cons (by simpa using ho) h hs
end
end Go.Proofs.Ythkibgdeibolfaa

/- csum.Right, siphonref02.Sum; both Fills. -/
namespace Go.Proofs.Ythkibgdeibolfaa
open Go.RowKit
set_option maxRecDepth 20000
set_option maxRecDepth 20000
attribute [local go_sem] bstr_size bstr_extract bstr_toList bstr_get

theorem right_any (s : Str) (w : World) (hs : s.length ≤ 140737488355328) :
    Calls Try.prog 16 #[.string (bstr s)] w fun e w' => e = .returned (.bool (decide (psum s = 0))) ∧ Below w.heap.size w w' := by
  have HC := Lib.hid (csum_any s w hs)
  obtain ⟨N, hN⟩ : ∃ N, N = psum s := ⟨_, rfl⟩
  rw [← hN] at HC ⊢
  have HB := Lib.hid (show ((N : Int) == 0) = decide (N = 0) from by
    by_cases h : N = 0
    · subst h; rfl
    · rw [decide_eq_false h]; exact beq_eq_false_iff_ne.2 (by omega))
  clear hN hs
  go_enter Try.func16, Try.ntmps16
  go_wp2_with ((with_reducible refine HC.out.mono ?_); rintro e w2 ⟨rfl, hb2⟩; have HB2 := Lib.hid hb2; clear hb2)
  go_ret
  exact ⟨ret_bool HB.out, HB2.out⟩

theorem rsum_any (s : Str) (w : World) (hs : s.length ≤ 140737488355328) :
    Calls Try.prog 22 #[.string (bstr s)] w fun e w' => e = .returned (.int .i64 (psum s)) ∧ w = w' := by
  have HC := Lib.hid (rtotal_any s w hs)
  have HS := Lib.hid (show (65535 : Int) - (tot s : Nat) = (psum s : Nat) from by have := (tot_spec s).1; unfold psum; omega)
  have hw : wrap64 ((65535 : Int) - (tot s : Nat)) = (65535 : Int) - (tot s : Nat) := by have := (tot_spec s).1; unfold wrap64; omega
  clear hs
  go_enter Try.func22, Try.ntmps22
  go_wp2_with ((with_reducible refine HC.out.mono ?_); rintro e w2 ⟨rfl, hw2⟩; subst w2)
  go_ret
  exact ⟨congrArg (fun x => Ending.returned (.int .i64 x)) (hw.trans HS.out), rfl⟩

theorem psum_le (s : Str) : psum s ≤ 65535 := by unfold psum; omega
theorem psum_putS (s : Str) : putS (psum s : Nat) 2 = ofN (psum s) 2 ∧ okPut (psum s : Nat) 2 = true := by
  have h := psum_le s
  have : okPut (psum s : Nat) 2 = true := by unfold okPut; simp; omega
  unfold putS
  rw [this]
  simp

set_option maxHeartbeats 1000000 in
theorem fill_any (a s : Str) (w : World) (ha : a.length % 2 = 0) (ha' : a.length ≤ 1000) (h4 : 4 ≤ s.length) (hs : s.length ≤ 1000000) :
    Calls Try.prog 31 #[.string (bstr a), .string (bstr s), .int .i64 2] w fun e w' => e = .returned (.tuple #[.string (bstr (fillS a s 2)), .int .i64 0]) ∧ Below w.heap.size w w' := by
  have hm : (bits .and .i64 (a.length : Int) 1 == 1) = false := by
    rw [show (1 : Int) = 2 ^ 1 - 1 from rfl, i64_mask 1 (by decide) _ (by omega) (by omega)]
    simp; omega
  have hw4 : IntKind.i64.wrap 4 = 4 := by decide
  have ht : List.take (s.length - 4) (s.drop 4) = s.drop 4 := List.take_of_length_le (by simp)
  have hm2 : (bits .and .i64 2 1 == 1) = false := by decide
  have hws : wrap64 ((s.length : Int) - 2) = s.length - 2 := by unfold wrap64; omega
  have d1 : decide ((s.length : Int) - 2 < 2) = false := decide_eq_false (by omega)
  have h4' : (4 : Int) ≤ s.length := by omega
  have h2' : (2 : Int) ≤ s.length := by omega
  have b00 : (⟨#[0, 0]⟩ : ByteArray) = bstr [0, 0] := by rw [bstr_eq]
  have HC := Lib.hid (fun W => csum_any (a ++ s.take 2 ++ [0, 0] ++ s.drop 4) W (by simp; omega))
  have hF : fillS a s 2 = s.take 2 ++ ofN (psum (a ++ s.take 2 ++ [0, 0] ++ s.drop 4)) 2 ++ s.drop 4 := rfl
  rw [hF]
  have HP := Lib.hid (fun W => put_any (psum (a ++ s.take 2 ++ [0, 0] ++ s.drop 4) : Nat) 2 W (by decide) (by decide))
  rw [(psum_putS _).1, (psum_putS _).2, if_pos rfl] at HP
  obtain ⟨N, hN⟩ : ∃ N, N = psum (a ++ s.take 2 ++ [0, 0] ++ s.drop 4) := ⟨_, rfl⟩
  rw [← hN] at HC HP ⊢
  obtain ⟨O, hO⟩ : ∃ O, O = ofN N 2 := ⟨_, rfl⟩
  rw [← hO] at HP ⊢
  have lO : O.length = 2 := by rw [hO, ofN_length]
  obtain ⟨X, hX⟩ : ∃ X, List.take 2 s = X := ⟨_, rfl⟩
  obtain ⟨D, hD⟩ : ∃ D, List.drop 4 s = D := ⟨_, rfl⟩
  have lX : X.length = 2 := by rw [← hX, List.length_take]; omega
  have lD : D.length ≤ 1000000 := by rw [← hD, List.length_drop]; omega
  rw [hX, hD] at HC ⊢
  rw [hD] at ht
  clear hN hO hF
  obtain ⟨X1, h1⟩ : ∃ X1, a ++ X = X1 := ⟨_, rfl⟩
  obtain ⟨X2, h2⟩ : ∃ X2, X1 ++ [0, 0] = X2 := ⟨_, rfl⟩
  obtain ⟨X3, h3⟩ : ∃ X3, X2 ++ D = X3 := ⟨_, rfl⟩
  obtain ⟨Y1, g1⟩ : ∃ Y1, X ++ O = Y1 := ⟨_, rfl⟩
  obtain ⟨Y2, g2⟩ : ∃ Y2, Y1 ++ D = Y2 := ⟨_, rfl⟩
  rw [h1, h2, h3] at HC
  rw [g1, g2]
  have l1 : X1.length ≤ 1002 := by rw [← h1, List.length_append]; omega
  have l2 : X2.length ≤ 1004 := by rw [← h2, List.length_append]; simp; omega
  have k1 : Y1.length = 4 := by rw [← g1, List.length_append]; omega
  have e1 : bstr a ++ bstr X = bstr X1 := by rw [bstr_append, h1]
  have e2 : bstr X1 ++ bstr [0, 0] = bstr X2 := by rw [bstr_append, h2]
  have e3 : bstr X2 ++ bstr D = bstr X3 := by rw [bstr_append, h3]
  have f1 : bstr X ++ bstr O = bstr Y1 := by rw [bstr_append, g1]
  have f2 : bstr Y1 ++ bstr D = bstr Y2 := by rw [bstr_append, g2]
  have n1 : ¬ 9223372036854775807 < a.length + 2 := by omega
  have n2 : ¬ 9223372036854775807 < X1.length + 2 := by omega
  have n3 : ¬ 9223372036854775807 < X2.length + D.length := by omega
  have n5 : ¬ 9223372036854775807 < 4 + D.length := by omega
  clear h1 h2 h3 g1 g2 l1 l2 lD ha ha' h4 hs
  go_enter Try.func31, Try.ntmps31
  go_upto_region 3 with fail
  have hd : Below w.heap.size w w.drew := Below.drew (Below.refl _ _)
  refine wp_region_held_drew (S := fun W' => Below w.heap.size w W') (by kernel_rfl) hd (fun hHeld => ?_)
  refine takeL 0 (v := ?_) rfl (by kernel_rfl) (by kernel_rfl) (by kernel_rfl) (fun _ _ _ h => h) (Or.inl ⟨by rfl, ?_⟩) (by assumption) ?_
  rotate_left
  focus (intro wq hSq; go_simp <;> with_reducible rfl)
  simp only [Act.put, List.setIfInBounds_toArray, List.set_cons_zero, List.set_cons_succ]
  refine takeL 1 (v := ?_) rfl (by kernel_rfl) (by kernel_rfl) (by kernel_rfl) (fun _ _ _ h => h) (Or.inl ⟨by rfl, ?_⟩) (by assumption) ?_
  rotate_left
  focus (intro wq hSq; go_simp <;> with_reducible rfl)
  simp only [Act.put, List.setIfInBounds_toArray, List.set_cons_zero, List.set_cons_succ]
  refine takeL 2 (v := ?_) rfl (by kernel_rfl) (by kernel_rfl) (by kernel_rfl) (fun _ _ _ h => h) (Or.inl ⟨by rfl, ?_⟩) (by assumption) ?_
  rotate_left
  focus (intro wq hSq; go_simp <;> with_reducible rfl)
  simp only [Act.put, List.setIfInBounds_toArray, List.set_cons_zero, List.set_cons_succ]
  refine takeL 3 (v := ?_) rfl (by kernel_rfl) (by kernel_rfl) (by kernel_rfl) (fun _ _ _ h => h) (Or.inl ⟨by rfl, ?_⟩) (by assumption) ?_
  rotate_left
  focus (intro wq hSq; go_simp <;> with_reducible rfl)
  simp only [Act.put, List.setIfInBounds_toArray, List.set_cons_zero, List.set_cons_succ]
  refine takeL 4 (v := ?_) rfl (by kernel_rfl) (by kernel_rfl) (by kernel_rfl) (fun _ _ _ h => h) (Or.inl ⟨by rfl, ?_⟩) (by assumption) ?_
  rotate_left
  focus (intro wq hSq; go_simp <;> with_reducible rfl)
  simp only [Act.put, List.setIfInBounds_toArray, List.set_cons_zero, List.set_cons_succ]
  refine takeL 5 (v := ?_) rfl (by kernel_rfl) (by kernel_rfl) (by kernel_rfl) (fun _ _ _ h => h) (Or.inl ⟨by rfl, ?_⟩) (by assumption) ?_
  rotate_left
  focus (intro wq hSq; go_simp <;> with_reducible rfl)
  simp only [Act.put, List.setIfInBounds_toArray, List.set_cons_zero, List.set_cons_succ]
  refine takeL 6 (v := ?_) rfl (by kernel_rfl) (by kernel_rfl) (by kernel_rfl) (fun _ _ _ h => h) (Or.inl ⟨by rfl, ?_⟩) (by assumption) ?_
  rotate_left
  focus (intro wq hSq; go_simp <;> with_reducible rfl)
  simp only [Act.put, List.setIfInBounds_toArray, List.set_cons_zero, List.set_cons_succ]
  refine takeL 7 (v := ?_) rfl (by kernel_rfl) (by kernel_rfl) (by kernel_rfl) (fun _ _ _ h => h) (Or.inl ⟨by rfl, ?_⟩) (by assumption) ?_
  rotate_left
  focus (intro wq hSq; go_simp <;> with_reducible rfl)
  simp only [Act.put, List.setIfInBounds_toArray, List.set_cons_zero, List.set_cons_succ]
  refine takeL 8 (v := ?_) rfl (by kernel_rfl) (by kernel_rfl) (by kernel_rfl) (fun _ _ _ h => h) (Or.inl ⟨by rfl, ?_⟩) (by assumption) ?_
  rotate_left
  focus (intro wq hSq; go_simp <;> with_reducible rfl)
  simp only [Act.put, List.setIfInBounds_toArray, List.set_cons_zero, List.set_cons_succ]
  refine takeL 9 (v := ?_) rfl (by kernel_rfl) (by kernel_rfl) (by kernel_rfl) (fun _ _ _ h => h) (Or.inl ⟨by rfl, ?_⟩) (by assumption) ?_
  rotate_left
  focus (intro wq hSq; go_simp <;> with_reducible rfl)
  simp only [Act.put, List.setIfInBounds_toArray, List.set_cons_zero, List.set_cons_succ]
  refine takeL 10 (v := ?_) rfl (by kernel_rfl) (by kernel_rfl) (by kernel_rfl) (fun _ _ _ h => h) (Or.inl ⟨by rfl, ?_⟩) (by assumption) ?_
  rotate_left
  focus (intro wq hSq; go_simp <;> with_reducible rfl)
  simp only [Act.put, List.setIfInBounds_toArray, List.set_cons_zero, List.set_cons_succ]
  refine wpAnyH_ready (rs := [11]) (by kernel_rfl) (by simp) (nextL 11 rfl (fun Kr hKr => ?_) AllReadyH.nil)
  rw [if_pos (by rfl)]
  go_simp
  refine (HC.out _).mono ?_
  rintro e w3 ⟨rfl, hb3⟩
  refine hKr.out _ _ (hd.trans hb3) (fun hHeld3 => ?_)
  clear hKr
  refine wpAnyH_ready (rs := [12]) (by kernel_rfl) (by simp) (nextL 12 rfl (fun Kr hKr => ?_) AllReadyH.nil)
  rw [if_pos (by rfl)]
  go_simp
  refine (HP.out _).mono ?_
  rintro e w4 ⟨rfl, hb4⟩
  refine hKr.out _ _ (hHeld3.trans (hb4.mono hHeld3.size)) (fun hHeld4 => ?_)
  clear hKr
  refine takeL 13 (v := ?_) rfl (by kernel_rfl) (by kernel_rfl) (by kernel_rfl) (fun _ _ _ h => h) (Or.inl ⟨by rfl, ?_⟩) (by assumption) ?_
  rotate_left
  focus (intro wq hSq; go_simp <;> with_reducible rfl)
  simp only [Act.put, List.setIfInBounds_toArray, List.set_cons_zero, List.set_cons_succ]
  refine takeL 14 (v := ?_) rfl (by kernel_rfl) (by kernel_rfl) (by kernel_rfl) (fun _ _ _ h => h) (Or.inl ⟨by rfl, ?_⟩) (by assumption) ?_
  rotate_left
  focus (intro wq hSq; go_simp <;> with_reducible rfl)
  simp only [Act.put, List.setIfInBounds_toArray, List.set_cons_zero, List.set_cons_succ]
  refine takeL 15 (v := ?_) rfl (by kernel_rfl) (by kernel_rfl) (by kernel_rfl) (fun _ _ _ h => h) (Or.inl ⟨by rfl, ?_⟩) (by assumption) ?_
  rotate_left
  focus (intro wq hSq; go_simp <;> with_reducible rfl)
  simp only [Act.put, List.setIfInBounds_toArray, List.set_cons_zero, List.set_cons_succ]
  refine takeL 16 (v := ?_) rfl (by kernel_rfl) (by kernel_rfl) (by kernel_rfl) (fun _ _ _ h => h) (Or.inl ⟨by rfl, ?_⟩) (by assumption) ?_
  rotate_left
  focus (intro wq hSq; go_simp <;> with_reducible rfl)
  simp only [Act.put, List.setIfInBounds_toArray, List.set_cons_zero, List.set_cons_succ]
  refine takeL 17 (v := ?_) rfl (by kernel_rfl) (by kernel_rfl) (by kernel_rfl) (fun _ _ _ h => h) (Or.inl ⟨by rfl, ?_⟩) (by assumption) ?_
  rotate_left
  focus (intro wq hSq; go_simp <;> with_reducible rfl)
  simp only [Act.put, List.setIfInBounds_toArray, List.set_cons_zero, List.set_cons_succ]
  refine wpAnyH_done (by kernel_rfl) ?_ _
  go_wp2_with fail
  have HB4 := Lib.hid hHeld4
  have hd4 : Below w4.heap.size w4 w4.drew := Below.drew (Below.refl _ _)
  clear hb3 hb4 hHeld3 hHeld4 hHeld HC HP
  refine wp_region_held_drew (S := fun W' => Below w4.heap.size w4 W') (by kernel_rfl) hd4 (fun hHeld => ?_)
  refine takeL 0 (v := ?_) rfl (by kernel_rfl) (by kernel_rfl) (by kernel_rfl) (fun _ _ _ h => h) (Or.inl ⟨by rfl, ?_⟩) (by assumption) ?_
  rotate_left
  focus (intro wq hSq; go_simp <;> with_reducible rfl)
  simp only [Act.put, List.setIfInBounds_toArray, List.set_cons_zero, List.set_cons_succ]
  refine takeL 1 (v := ?_) rfl (by kernel_rfl) (by kernel_rfl) (by kernel_rfl) (fun _ _ _ h => h) (Or.inl ⟨by rfl, ?_⟩) (by assumption) ?_
  rotate_left
  focus (intro wq hSq; go_simp <;> with_reducible rfl)
  simp only [Act.put, List.setIfInBounds_toArray, List.set_cons_zero, List.set_cons_succ]
  refine takeL 2 (v := ?_) rfl (by kernel_rfl) (by kernel_rfl) (by kernel_rfl) (fun _ _ _ h => h) (Or.inl ⟨by rfl, ?_⟩) (by assumption) ?_
  rotate_left
  focus (intro wq hSq; go_simp <;> with_reducible rfl)
  simp only [Act.put, List.setIfInBounds_toArray, List.set_cons_zero, List.set_cons_succ]
  refine takeL 3 (v := ?_) rfl (by kernel_rfl) (by kernel_rfl) (by kernel_rfl) (fun _ _ _ h => h) (Or.inl ⟨by rfl, ?_⟩) (by assumption) ?_
  rotate_left
  focus (intro wq hSq; go_simp <;> with_reducible rfl)
  simp only [Act.put, List.setIfInBounds_toArray, List.set_cons_zero, List.set_cons_succ]
  refine takeL 4 (v := ?_) rfl (by kernel_rfl) (by kernel_rfl) (by kernel_rfl) (fun _ _ _ h => h) (Or.inl ⟨by rfl, ?_⟩) (by assumption) ?_
  rotate_left
  focus (intro wq hSq; go_simp <;> with_reducible rfl)
  simp only [Act.put, List.setIfInBounds_toArray, List.set_cons_zero, List.set_cons_succ]
  refine takeL 5 (v := ?_) rfl (by kernel_rfl) (by kernel_rfl) (by kernel_rfl) (fun _ _ _ h => h) (Or.inl ⟨by rfl, ?_⟩) (by assumption) ?_
  rotate_left
  focus (intro wq hSq; go_simp <;> with_reducible rfl)
  simp only [Act.put, List.setIfInBounds_toArray, List.set_cons_zero, List.set_cons_succ]
  refine takeL 6 (v := ?_) rfl (by kernel_rfl) (by kernel_rfl) (by kernel_rfl) (fun _ _ _ h => h) (Or.inl ⟨by rfl, ?_⟩) (by assumption) ?_
  rotate_left
  focus (intro wq hSq; go_simp <;> with_reducible rfl)
  simp only [Act.put, List.setIfInBounds_toArray, List.set_cons_zero, List.set_cons_succ]
  refine takeL 7 (v := ?_) rfl (by kernel_rfl) (by kernel_rfl) (by kernel_rfl) (fun _ _ _ h => h) (Or.inl ⟨by rfl, ?_⟩) (by assumption) ?_
  rotate_left
  focus (intro wq hSq; go_simp <;> with_reducible rfl)
  simp only [Act.put, List.setIfInBounds_toArray, List.set_cons_zero, List.set_cons_succ]
  refine takeL 8 (v := ?_) rfl (by kernel_rfl) (by kernel_rfl) (by kernel_rfl) (fun _ _ _ h => h) (Or.inl ⟨by rfl, ?_⟩) (by assumption) ?_
  rotate_left
  focus (intro wq hSq; go_simp <;> with_reducible rfl)
  simp only [Act.put, List.setIfInBounds_toArray, List.set_cons_zero, List.set_cons_succ]
  refine takeL 9 (v := ?_) rfl (by kernel_rfl) (by kernel_rfl) (by kernel_rfl) (fun _ _ _ h => h) (Or.inl ⟨by rfl, ?_⟩) (by assumption) ?_
  rotate_left
  focus (intro wq hSq; go_simp <;> with_reducible rfl)
  simp only [Act.put, List.setIfInBounds_toArray, List.set_cons_zero, List.set_cons_succ]
  refine takeL 10 (v := ?_) rfl (by kernel_rfl) (by kernel_rfl) (by kernel_rfl) (fun _ _ _ h => h) (Or.inl ⟨by rfl, ?_⟩) (by assumption) ?_
  rotate_left
  focus (intro wq hSq; go_simp <;> with_reducible rfl)
  simp only [Act.put, List.setIfInBounds_toArray, List.set_cons_zero, List.set_cons_succ]
  refine takeL 11 (v := ?_) rfl (by kernel_rfl) (by kernel_rfl) (by kernel_rfl) (fun _ _ _ h => h) (Or.inl ⟨by rfl, ?_⟩) (by assumption) ?_
  rotate_left
  focus (intro wq hSq; go_simp <;> with_reducible rfl)
  simp only [Act.put, List.setIfInBounds_toArray, List.set_cons_zero, List.set_cons_succ]
  refine wpAnyH_done (by kernel_rfl) ?_ _
  go_wp2_with fail
  go_ret2
  exact ⟨rfl, HB4.out.trans (hd4.mono HB4.out.size)⟩
set_option maxHeartbeats 1000000 in
theorem rfill_any (a s : Str) (w : World) (ha : a.length % 2 = 0) (ha' : a.length ≤ 1000) (h4 : 4 ≤ s.length) (hs : s.length ≤ 1000000) :
    Calls Try.prog 34 #[.string (bstr a), .string (bstr s), .int .i64 2] w fun e w' => e = .returned (.tuple #[.string (bstr (fillS a s 2)), .int .i64 0]) ∧ Below w.heap.size w w' := by
  have hm : (((a.length : Int) % 2) == 1) = false := beq_eq_false_iff_ne.2 (by omega)
  have hm3 : ((Int.tmod (a.length : Int) 2) == 1) = false := beq_eq_false_iff_ne.2 (by rw [Int.tmod_eq_emod_of_nonneg (by omega)]; omega)
  have hw4 : IntKind.i64.wrap 4 = 4 := by decide
  have ht : List.take (s.length - 4) (s.drop 4) = s.drop 4 := List.take_of_length_le (by simp)
  have hm2 : (bits .and .i64 2 1 == 1) = false := by decide
  have hws : wrap64 ((s.length : Int) - 2) = s.length - 2 := by unfold wrap64; omega
  have d1 : decide ((s.length : Int) - 2 < 2) = false := decide_eq_false (by omega)
  have h4' : (4 : Int) ≤ s.length := by omega
  have h2' : (2 : Int) ≤ s.length := by omega
  have b00 : (⟨#[0, 0]⟩ : ByteArray) = bstr [0, 0] := by rw [bstr_eq]
  have HC := Lib.hid (fun W => rsum_any (a ++ s.take 2 ++ [0, 0] ++ s.drop 4) W (by simp; omega))
  have hF : fillS a s 2 = s.take 2 ++ ofN (psum (a ++ s.take 2 ++ [0, 0] ++ s.drop 4)) 2 ++ s.drop 4 := rfl
  rw [hF]
  have HP := Lib.hid (fun W => of_any (psum (a ++ s.take 2 ++ [0, 0] ++ s.drop 4)) 2 W (by decide) (by decide) (by have := psum_le (a ++ s.take 2 ++ [0, 0] ++ s.drop 4); omega))
  obtain ⟨N, hN⟩ : ∃ N, N = psum (a ++ s.take 2 ++ [0, 0] ++ s.drop 4) := ⟨_, rfl⟩
  rw [← hN] at HC HP ⊢
  obtain ⟨O, hO⟩ : ∃ O, O = ofN N 2 := ⟨_, rfl⟩
  rw [← hO] at HP ⊢
  have lO : O.length = 2 := by rw [hO, ofN_length]
  obtain ⟨X, hX⟩ : ∃ X, List.take 2 s = X := ⟨_, rfl⟩
  obtain ⟨D, hD⟩ : ∃ D, List.drop 4 s = D := ⟨_, rfl⟩
  have lX : X.length = 2 := by rw [← hX, List.length_take]; omega
  have lD : D.length ≤ 1000000 := by rw [← hD, List.length_drop]; omega
  rw [hX, hD] at HC ⊢
  rw [hD] at ht
  clear hN hO hF
  obtain ⟨X1, h1⟩ : ∃ X1, a ++ X = X1 := ⟨_, rfl⟩
  obtain ⟨X2, h2⟩ : ∃ X2, X1 ++ [0, 0] = X2 := ⟨_, rfl⟩
  obtain ⟨X3, h3⟩ : ∃ X3, X2 ++ D = X3 := ⟨_, rfl⟩
  obtain ⟨Y1, g1⟩ : ∃ Y1, X ++ O = Y1 := ⟨_, rfl⟩
  obtain ⟨Y2, g2⟩ : ∃ Y2, Y1 ++ D = Y2 := ⟨_, rfl⟩
  rw [h1, h2, h3] at HC
  rw [g1, g2]
  have l1 : X1.length ≤ 1002 := by rw [← h1, List.length_append]; omega
  have l2 : X2.length ≤ 1004 := by rw [← h2, List.length_append]; simp; omega
  have k1 : Y1.length = 4 := by rw [← g1, List.length_append]; omega
  have e1 : bstr a ++ bstr X = bstr X1 := by rw [bstr_append, h1]
  have e2 : bstr X1 ++ bstr [0, 0] = bstr X2 := by rw [bstr_append, h2]
  have e3 : bstr X2 ++ bstr D = bstr X3 := by rw [bstr_append, h3]
  have f1 : bstr X ++ bstr O = bstr Y1 := by rw [bstr_append, g1]
  have f2 : bstr Y1 ++ bstr D = bstr Y2 := by rw [bstr_append, g2]
  have n1 : ¬ 9223372036854775807 < a.length + 2 := by omega
  have n2 : ¬ 9223372036854775807 < X1.length + 2 := by omega
  have n3 : ¬ 9223372036854775807 < X2.length + D.length := by omega
  have n5 : ¬ 9223372036854775807 < 4 + D.length := by omega
  clear h1 h2 h3 g1 g2 l1 l2 lD ha ha' h4 hs
  go_enter Try.func34, Try.ntmps34
  go_upto_region 3 with fail
  have hd : Below w.heap.size w w.drew := Below.drew (Below.refl _ _)
  refine wp_region_held_drew (S := fun W' => Below w.heap.size w W') (by kernel_rfl) hd (fun hHeld => ?_)
  refine takeL 0 (v := ?_) rfl (by kernel_rfl) (by kernel_rfl) (by kernel_rfl) (fun _ _ _ h => h) (Or.inl ⟨by rfl, ?_⟩) (by assumption) ?_
  rotate_left
  focus (intro wq hSq; go_simp <;> with_reducible rfl)
  simp only [Act.put, List.setIfInBounds_toArray, List.set_cons_zero, List.set_cons_succ]
  refine takeL 1 (v := ?_) rfl (by kernel_rfl) (by kernel_rfl) (by kernel_rfl) (fun _ _ _ h => h) (Or.inl ⟨by rfl, ?_⟩) (by assumption) ?_
  rotate_left
  focus (intro wq hSq; go_simp <;> with_reducible rfl)
  simp only [Act.put, List.setIfInBounds_toArray, List.set_cons_zero, List.set_cons_succ]
  refine takeL 2 (v := ?_) rfl (by kernel_rfl) (by kernel_rfl) (by kernel_rfl) (fun _ _ _ h => h) (Or.inl ⟨by rfl, ?_⟩) (by assumption) ?_
  rotate_left
  focus (intro wq hSq; go_simp <;> with_reducible rfl)
  simp only [Act.put, List.setIfInBounds_toArray, List.set_cons_zero, List.set_cons_succ]
  refine takeL 3 (v := ?_) rfl (by kernel_rfl) (by kernel_rfl) (by kernel_rfl) (fun _ _ _ h => h) (Or.inl ⟨by rfl, ?_⟩) (by assumption) ?_
  rotate_left
  focus (intro wq hSq; go_simp <;> with_reducible rfl)
  simp only [Act.put, List.setIfInBounds_toArray, List.set_cons_zero, List.set_cons_succ]
  refine takeL 4 (v := ?_) rfl (by kernel_rfl) (by kernel_rfl) (by kernel_rfl) (fun _ _ _ h => h) (Or.inl ⟨by rfl, ?_⟩) (by assumption) ?_
  rotate_left
  focus (intro wq hSq; go_simp <;> with_reducible rfl)
  simp only [Act.put, List.setIfInBounds_toArray, List.set_cons_zero, List.set_cons_succ]
  refine takeL 5 (v := ?_) rfl (by kernel_rfl) (by kernel_rfl) (by kernel_rfl) (fun _ _ _ h => h) (Or.inl ⟨by rfl, ?_⟩) (by assumption) ?_
  rotate_left
  focus (intro wq hSq; go_simp <;> with_reducible rfl)
  simp only [Act.put, List.setIfInBounds_toArray, List.set_cons_zero, List.set_cons_succ]
  refine takeL 6 (v := ?_) rfl (by kernel_rfl) (by kernel_rfl) (by kernel_rfl) (fun _ _ _ h => h) (Or.inl ⟨by rfl, ?_⟩) (by assumption) ?_
  rotate_left
  focus (intro wq hSq; go_simp <;> with_reducible rfl)
  simp only [Act.put, List.setIfInBounds_toArray, List.set_cons_zero, List.set_cons_succ]
  refine takeL 7 (v := ?_) rfl (by kernel_rfl) (by kernel_rfl) (by kernel_rfl) (fun _ _ _ h => h) (Or.inl ⟨by rfl, ?_⟩) (by assumption) ?_
  rotate_left
  focus (intro wq hSq; go_simp <;> with_reducible rfl)
  simp only [Act.put, List.setIfInBounds_toArray, List.set_cons_zero, List.set_cons_succ]
  refine takeL 8 (v := ?_) rfl (by kernel_rfl) (by kernel_rfl) (by kernel_rfl) (fun _ _ _ h => h) (Or.inl ⟨by rfl, ?_⟩) (by assumption) ?_
  rotate_left
  focus (intro wq hSq; go_simp <;> with_reducible rfl)
  simp only [Act.put, List.setIfInBounds_toArray, List.set_cons_zero, List.set_cons_succ]
  refine takeL 9 (v := ?_) rfl (by kernel_rfl) (by kernel_rfl) (by kernel_rfl) (fun _ _ _ h => h) (Or.inl ⟨by rfl, ?_⟩) (by assumption) ?_
  rotate_left
  focus (intro wq hSq; go_simp <;> with_reducible rfl)
  simp only [Act.put, List.setIfInBounds_toArray, List.set_cons_zero, List.set_cons_succ]
  refine takeL 10 (v := ?_) rfl (by kernel_rfl) (by kernel_rfl) (by kernel_rfl) (fun _ _ _ h => h) (Or.inl ⟨by rfl, ?_⟩) (by assumption) ?_
  rotate_left
  focus (intro wq hSq; go_simp <;> with_reducible rfl)
  simp only [Act.put, List.setIfInBounds_toArray, List.set_cons_zero, List.set_cons_succ]
  refine wpAnyH_ready (rs := [11]) (by kernel_rfl) (by simp) (nextL 11 rfl (fun Kr hKr => ?_) AllReadyH.nil)
  rw [if_pos (by rfl)]
  go_simp
  refine (HC.out _).mono ?_
  rintro e w3 ⟨rfl, hw3⟩
  subst hw3
  refine hKr.out _ _ hd (fun hHeld3 => ?_)
  clear hKr
  refine takeL 12 (v := ?_) rfl (by kernel_rfl) (by kernel_rfl) (by kernel_rfl) (fun _ _ _ h => h) (Or.inl ⟨by rfl, ?_⟩) (by assumption) ?_
  rotate_left
  focus (intro wq hSq; go_simp <;> with_reducible rfl)
  simp only [Act.put, List.setIfInBounds_toArray, List.set_cons_zero, List.set_cons_succ]
  refine wpAnyH_done (by kernel_rfl) ?_ _
  go_wp2_with fail
  have HB4 := Lib.hid hd
  have hd4 : Below w.drew.heap.size w.drew w.drew.drew := Below.drew (Below.refl _ _)
  clear hHeld3 hHeld HC hd
  generalize w.drew = w4 at *
  refine wp_region_held_drew (S := fun W' => Below w4.heap.size w4 W') (by kernel_rfl) hd4 (fun hHeld => ?_)
  refine takeL 0 (v := ?_) rfl (by kernel_rfl) (by kernel_rfl) (by kernel_rfl) (fun _ _ _ h => h) (Or.inl ⟨by rfl, ?_⟩) (by assumption) ?_
  rotate_left
  focus (intro wq hSq; go_simp <;> with_reducible rfl)
  simp only [Act.put, List.setIfInBounds_toArray, List.set_cons_zero, List.set_cons_succ]
  refine takeL 1 (v := ?_) rfl (by kernel_rfl) (by kernel_rfl) (by kernel_rfl) (fun _ _ _ h => h) (Or.inl ⟨by rfl, ?_⟩) (by assumption) ?_
  rotate_left
  focus (intro wq hSq; go_simp <;> with_reducible rfl)
  simp only [Act.put, List.setIfInBounds_toArray, List.set_cons_zero, List.set_cons_succ]
  refine takeL 2 (v := ?_) rfl (by kernel_rfl) (by kernel_rfl) (by kernel_rfl) (fun _ _ _ h => h) (Or.inl ⟨by rfl, ?_⟩) (by assumption) ?_
  rotate_left
  focus (intro wq hSq; go_simp <;> with_reducible rfl)
  simp only [Act.put, List.setIfInBounds_toArray, List.set_cons_zero, List.set_cons_succ]
  refine takeL 3 (v := ?_) rfl (by kernel_rfl) (by kernel_rfl) (by kernel_rfl) (fun _ _ _ h => h) (Or.inl ⟨by rfl, ?_⟩) (by assumption) ?_
  rotate_left
  focus (intro wq hSq; go_simp <;> with_reducible rfl)
  simp only [Act.put, List.setIfInBounds_toArray, List.set_cons_zero, List.set_cons_succ]
  refine takeL 6 (v := ?_) rfl (by kernel_rfl) (by kernel_rfl) (by kernel_rfl) (fun _ _ _ h => h) (Or.inl ⟨by rfl, ?_⟩) (by assumption) ?_
  rotate_left
  focus (intro wq hSq; go_simp <;> with_reducible rfl)
  simp only [Act.put, List.setIfInBounds_toArray, List.set_cons_zero, List.set_cons_succ]
  refine takeL 7 (v := ?_) rfl (by kernel_rfl) (by kernel_rfl) (by kernel_rfl) (fun _ _ _ h => h) (Or.inl ⟨by rfl, ?_⟩) (by assumption) ?_
  rotate_left
  focus (intro wq hSq; go_simp <;> with_reducible rfl)
  simp only [Act.put, List.setIfInBounds_toArray, List.set_cons_zero, List.set_cons_succ]
  refine takeL 8 (v := ?_) rfl (by kernel_rfl) (by kernel_rfl) (by kernel_rfl) (fun _ _ _ h => h) (Or.inl ⟨by rfl, ?_⟩) (by assumption) ?_
  rotate_left
  focus (intro wq hSq; go_simp <;> with_reducible rfl)
  simp only [Act.put, List.setIfInBounds_toArray, List.set_cons_zero, List.set_cons_succ]
  refine takeL 9 (v := ?_) rfl (by kernel_rfl) (by kernel_rfl) (by kernel_rfl) (fun _ _ _ h => h) (Or.inl ⟨by rfl, ?_⟩) (by assumption) ?_
  rotate_left
  focus (intro wq hSq; go_simp <;> with_reducible rfl)
  simp only [Act.put, List.setIfInBounds_toArray, List.set_cons_zero, List.set_cons_succ]
  refine wpAnyH_ready (rs := [4]) (by kernel_rfl) (by simp) (nextL 4 rfl (fun Kr hKr => ?_) AllReadyH.nil)
  rw [if_pos (by rfl)]
  go_simp
  refine (HP.out _).mono ?_
  rintro e w5 ⟨rfl, hb5⟩
  refine hKr.out _ _ (hd4.trans (hb5.mono hd4.size)) (fun hHeld5 => ?_)
  clear hKr
  refine takeL 5 (v := ?_) rfl (by kernel_rfl) (by kernel_rfl) (by kernel_rfl) (fun _ _ _ h => h) (Or.inl ⟨by rfl, ?_⟩) (by assumption) ?_
  rotate_left
  focus (intro wq hSq; go_simp <;> with_reducible rfl)
  simp only [Act.put, List.setIfInBounds_toArray, List.set_cons_zero, List.set_cons_succ]
  refine takeL 10 (v := ?_) rfl (by kernel_rfl) (by kernel_rfl) (by kernel_rfl) (fun _ _ _ h => h) (Or.inl ⟨by rfl, ?_⟩) (by assumption) ?_
  rotate_left
  focus (intro wq hSq; go_simp <;> with_reducible rfl)
  simp only [Act.put, List.setIfInBounds_toArray, List.set_cons_zero, List.set_cons_succ]
  refine takeL 11 (v := ?_) rfl (by kernel_rfl) (by kernel_rfl) (by kernel_rfl) (fun _ _ _ h => h) (Or.inl ⟨by rfl, ?_⟩) (by assumption) ?_
  rotate_left
  focus (intro wq hSq; go_simp <;> with_reducible rfl)
  simp only [Act.put, List.setIfInBounds_toArray, List.set_cons_zero, List.set_cons_succ]
  refine takeL 12 (v := ?_) rfl (by kernel_rfl) (by kernel_rfl) (by kernel_rfl) (fun _ _ _ h => h) (Or.inl ⟨by rfl, ?_⟩) (by assumption) ?_
  rotate_left
  focus (intro wq hSq; go_simp <;> with_reducible rfl)
  simp only [Act.put, List.setIfInBounds_toArray, List.set_cons_zero, List.set_cons_succ]
  refine wpAnyH_done (by kernel_rfl) ?_ _
  go_wp2_with fail
  go_ret2
  exact ⟨rfl, HB4.out.trans (hHeld5.mono HB4.out.size)⟩
end Go.Proofs.Ythkibgdeibolfaa
