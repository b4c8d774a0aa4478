/- Texts joined into one file: TNil2, TInts, TLive. -/
import Derived.Test.YtpibmjkbebkilaaA23
import Derived.Test.YtpibmjkbebkilaaA01
import Derived.Test.YtpibmjkbebkilaaA02
import Derived.Test.YtpibmjkbebkilaaA24
import Derived.Test.YtpibmjkbebkilaaA21

/- A table that is none: Remove, Drop, Expire; Expire at no time that may be. -/
namespace Go.Proofs.Ytpibmjkbebkilaa
open Go.RowKit Go.Lib Go.Maps Go.Sort Go.Shelf
set_option maxRecDepth 20000
attribute [local go_sem] Oper.semAt_some

theorem tread_nil (w : World) : TRead w none 0 (fun _ => none) [] := ⟨⟨List.Pairwise.nil, fun x => by simp⟩, .inl ⟨rfl, rfl, rfl⟩⟩

set_option maxRecDepth 20000 in
theorem tover_nil (v now : Int) (w : World) : Calls Try.prog 18 #[.pointer none, .int .i64 v, .int .i64 now] w fun e w' => e = .returned (.bool false) ∧ w' = w := by
  go_enter Try.func18, Try.ntmps18
  go_wp2
  go_ret
  exact ⟨rfl, rfl⟩
set_option maxRecDepth 20000 in
theorem remove_nil (x : TK) (w : World) : Calls Try.prog 19 #[.pointer none, encT x] w fun e w' => e = .returned (.bool false) ∧ Below w.heap.size w w' := by
  obtain ⟨xv, xg, xp⟩ := x
  obtain ⟨W0, hW0⟩ : ∃ W0, W0 = w.alloc (.cells #[.int .i64 xv, .string (bstr xg), .int .i64 xp] 46) := ⟨_, rfl⟩
  have hb0 : Below w.heap.size w W0 := by rw [hW0]; exact (Below.refl _ _).alloc (Nat.le_refl _) _
  have b1 : CBox W0 w.heap.size 46 #[.int .i64 xv, .string (bstr xg), .int .i64 xp] := by rw [hW0]; exact CBox.new _ rfl
  have HS := Lib.hid (tstate_nil (xv, xg, xp) W0)
  have HB0 := Lib.hid hb0; have HW0 := Lib.hid hW0
  obtain ⟨k0, _⟩ := b1.at_ 0 _ rfl
  obtain ⟨k1, _⟩ := b1.at_ 1 _ rfl
  obtain ⟨k2, _⟩ := b1.at_ 2 _ rfl
  clear hb0 b1 hW0
  unfold encT at HS ⊢
  dsimp only at HS ⊢
  go_enter Try.func19, Try.ntmps19
  go_upto_region 1 with fail
  rw [← HW0.out]
  clear HW0
  go_wp2_with fail
  refine HS.out.mono ?_
  rintro e w1 ⟨u, rfl, hT1, hb1⟩
  obtain ⟨uo, uc, rfl⟩ := hT1.shape
  have HB1 := Lib.hid (HB0.out.trans (hb1.mono HB0.out.size))
  unfold encS noS
  dsimp only
  clear hT1 hb1 HS HB0
  go_wp2
  go_ret
  exact ⟨rfl, HB1.out.alloc HB1.out.size _⟩

set_option maxRecDepth 100000 in
set_option maxHeartbeats 4000000 in
theorem drop_nil (port : Int) (w : World) : Calls Try.prog 11 #[.pointer none, .int .i64 port] w fun e w' => e = .returned (.int .i64 0) ∧ Below w.heap.size w w' := by
  refine (callsIn_wide (n := 6)).1 ?_
  refine callsIn_of_wp_marks Try.func11 rfl trivial ?_ rfl
  simp only [Try.ntmps11, List.size_toArray, List.length_cons, List.length_nil, Nat.reduceAdd, Nat.reduceSub, Array.replicate_succ, Array.replicate_zero, List.push_toArray, List.append_toArray, List.nil_append, List.cons_append]
  gi_wp2_with (refine ⟨trivial, ?_⟩; gi_at_call 27; refine (tall_in _ _ _).mono ?_; rintro e w' ⟨rfl, rfl⟩)
  have hB0 : Below w.heap.size w ((((w.alloc (.cells #[.pointer none] 27)).alloc (.cells #[.int .i64 port] 3)).alloc (.cells #[.int .i64 0] 3)).alloc (.cells #[.pointer none] 27)) := ((((Below.refl _ w).alloc (Nat.le_refl _) _).alloc (by simp) _).alloc (by simp <;> omega) _).alloc (by simp <;> omega) _
  have b2 := (CBox.new (w := (w.alloc (.cells #[.pointer none] 27)).alloc (.cells #[.int .i64 port] 3)) (T := 3) #[.int .i64 0] rfl).old (.cells #[.pointer none] 27)
  have b3 := CBox.new (w := ((w.alloc (.cells #[.pointer none] 27)).alloc (.cells #[.int .i64 port] 3)).alloc (.cells #[.int .i64 0] 3)) (T := 27) #[.pointer none] rfl
  obtain ⟨W0, hW0⟩ : ∃ W0, ((((w.alloc (.cells #[.pointer none] 27)).alloc (.cells #[.int .i64 port] 3)).alloc (.cells #[.int .i64 0] 3)).alloc (.cells #[.pointer none] 27)) = W0 := ⟨_, rfl⟩
  have hsz : W0.heap.size = w.heap.size + 4 := by rw [← hW0]; simp
  rw [hW0] at hB0 b2 b3 ⊢
  clear hW0
  simp only [World.size_alloc] at b2 b3
  refine wpIn_rangeG (w.heap.size + 1 + 1 + 1) rfl (fun hd => by cases hd) (gf := 44) (lb := #[.pointer (some ⟨w.heap.size + 1 + 1 + 1, 0, none⟩)]) rfl trivial (enters_of Try.func44 (by kernel_rfl) rfl)
    (tall_stops_nil _ (w.heap.size + 1 + 1 + 1) 0 (w.heap.size + 1 + 1 + 1) W0 (by omega) (b3.at_ 0 _ rfl).1) (fun _ => rfl)
    (fun H pre W => (fun (_ : List TKo) W => CBox W (w.heap.size + 1 + 1) 3 #[.int .i64 0]) pre W ∧ Below w.heap.size w W)
    (fun _ _ _ _ => False)
    (fun H => OwnFrom.and (Own.from (fun (l : List TKo) => tcbox_own _ _ _ ()) _) (ownFrom_below (Nat.le_refl _) (by omega)))
    (fun _ _ _ _ _ _ hs _ _ => hs)
    (fun H hH => ⟨b2, hB0⟩)
    (fun x a' W => True)
    (fun x a' _ X Y row hs hg hr => trivial)
    ?assign ?body ?done ?stop
  case assign =>
    rintro l H pre ⟨⟨xv, xg, xp⟩, hx⟩ W Kx hH1 hH2 ⟨hb2, hW⟩ hK
    have hWs := hW.size
    simp only [encT]
    gi_wp2
    exact hK _ _ ((KeepsOthers.alloc _ _).from _) (KeepsR.alloc _ _ _ _) ⟨hb2.old _, hW.alloc hWs _⟩ trivial
  case body =>
    rintro l H pre ⟨⟨xv, xg, xp⟩, hx⟩ a' W hl hH1 hH2 hr _ _ hlt
    omega
  case done =>
    rintro D H ys W hD hDH hys ⟨hb2, hW⟩ hK
    have HW := Lib.hid hW
    obtain ⟨f0, f1⟩ := hb2.at_ 0 _ rfl
    clear hb2 hW
    gi_wp2
    refine ⟨by simp, .inl ⟨_, _, rfl, run_takeDeferred hK, ?_⟩⟩
    exact ⟨_, results_tmp rfl _ _ _, rfl, HW.out.trans (belowK_b (w := w) (Nat.le_refl _) W D _ _ (by omega) hK rfl rfl)⟩
  case stop =>
    rintro D H c pre W _ _ _ h _
    exact h.elim

set_option maxRecDepth 20000 in
theorem expire_out (t : Option Addr) (now : Int) (w : World) (hn : ¬ (1 ≤ now ∧ now ≤ 1099511627776)) : Calls Try.prog 20 #[.pointer t, .int .i64 now] w fun e w' => e = .returned (.int .i64 0) ∧ Below w.heap.size w w' := by
  have hwi : (decide (1 ≤ now) && decide (now ≤ 1099511627776)) = false := by rw [← Bool.decide_and]; exact decide_eq_false hn
  have HWI := Lib.hid (fun W => twithin_any now 1 1099511627776 W)
  rw [hwi] at HWI
  have hB0 : Below w.heap.size w (((w.alloc (.cells #[.pointer t] 27)).alloc (.cells #[.int .i64 now] 3)).alloc (.cells #[.int .i64 0] 3)) := (((Below.refl _ w).alloc (Nat.le_refl _) _).alloc (by simp) _).alloc (by simp <;> omega) _
  have HB := Lib.hid hB0
  clear hwi hn hB0
  go_enter Try.func20, Try.ntmps20
  go_wp2_with ((with_reducible refine (HWI.out _).mono ?_); rintro e w' ⟨rfl, rfl⟩)
  go_ret
  exact ⟨rfl, HB.out⟩

set_option maxRecDepth 100000 in
set_option maxHeartbeats 4000000 in
theorem expire_nil (now : Int) (w : World) : Calls Try.prog 20 #[.pointer none, .int .i64 now] w fun e w' => e = .returned (.int .i64 0) ∧ Below w.heap.size w w' := by
  by_cases hn : 1 ≤ now ∧ now ≤ 1099511627776
  · have hwi : (decide (1 ≤ now) && decide (now ≤ 1099511627776)) = true := by simp [hn]
    have HWI := Lib.hid (fun W => twithin_any now 1 1099511627776 W)
    rw [hwi] at HWI
    clear hwi hn
    refine (callsIn_wide (n := 6)).1 ?_
    refine callsIn_of_wp_marks Try.func20 rfl trivial ?_ rfl
    simp only [Try.ntmps20, List.size_toArray, List.length_cons, List.length_nil, Nat.reduceAdd, Nat.reduceSub, Array.replicate_succ, Array.replicate_zero, List.push_toArray, List.append_toArray, List.nil_append, List.cons_append]
    gi_wp2_with (first
      | (refine ⟨trivial, ?_⟩; gi_at_call 21; refine (callsIn_wide.2 (HWI.out _)).mono ?_; rintro e w' ⟨rfl, rfl⟩)
      | (refine ⟨trivial, ?_⟩; gi_at_call 27; refine (tall_in _ _ _).mono ?_; rintro e w' ⟨rfl, rfl⟩))
    have hB0 : Below w.heap.size w ((((w.alloc (.cells #[.pointer none] 27)).alloc (.cells #[.int .i64 now] 3)).alloc (.cells #[.int .i64 0] 3)).alloc (.cells #[.pointer none] 27)) := ((((Below.refl _ w).alloc (Nat.le_refl _) _).alloc (by simp) _).alloc (by simp <;> omega) _).alloc (by simp <;> omega) _
    have b2 := (CBox.new (w := (w.alloc (.cells #[.pointer none] 27)).alloc (.cells #[.int .i64 now] 3)) (T := 3) #[.int .i64 0] rfl).old (.cells #[.pointer none] 27)
    have b3 := CBox.new (w := ((w.alloc (.cells #[.pointer none] 27)).alloc (.cells #[.int .i64 now] 3)).alloc (.cells #[.int .i64 0] 3)) (T := 27) #[.pointer none] rfl
    obtain ⟨W0, hW0⟩ : ∃ W0, ((((w.alloc (.cells #[.pointer none] 27)).alloc (.cells #[.int .i64 now] 3)).alloc (.cells #[.int .i64 0] 3)).alloc (.cells #[.pointer none] 27)) = W0 := ⟨_, rfl⟩
    have hsz : W0.heap.size = w.heap.size + 4 := by rw [← hW0]; simp
    rw [hW0] at hB0 b2 b3 ⊢
    clear hW0
    simp only [World.size_alloc] at b2 b3
    refine wpIn_rangeG (w.heap.size + 1 + 1 + 1) rfl (fun hd => by cases hd) (gf := 44) (lb := #[.pointer (some ⟨w.heap.size + 1 + 1 + 1, 0, none⟩)]) rfl trivial (enters_of Try.func44 (by kernel_rfl) rfl)
      (tall_stops_nil _ (w.heap.size + 1 + 1 + 1) 0 (w.heap.size + 1 + 1 + 1) W0 (by omega) (b3.at_ 0 _ rfl).1) (fun _ => rfl)
      (fun H pre W => (fun (_ : List TKo) W => CBox W (w.heap.size + 1 + 1) 3 #[.int .i64 0]) pre W ∧ Below w.heap.size w W)
      (fun _ _ _ _ => False)
      (fun H => OwnFrom.and (Own.from (fun (l : List TKo) => tcbox_own _ _ _ ()) _) (ownFrom_below (Nat.le_refl _) (by omega)))
      (fun _ _ _ _ _ _ hs _ _ => hs)
      (fun H hH => ⟨b2, hB0⟩)
      (fun x a' W => True)
      (fun x a' _ X Y row hs hg hr => trivial)
      ?assign ?body ?done ?stop
    case assign =>
      rintro l H pre ⟨⟨xv, xg, xp⟩, hx⟩ W Kx hH1 hH2 ⟨hb2, hW⟩ hK
      have hWs := hW.size
      simp only [encT]
      gi_wp2
      exact hK _ _ ((KeepsOthers.alloc _ _).from _) (KeepsR.alloc _ _ _ _) ⟨hb2.old _, hW.alloc hWs _⟩ trivial
    case body =>
      rintro l H pre ⟨⟨xv, xg, xp⟩, hx⟩ a' W hl hH1 hH2 hr _ _ hlt
      omega
    case done =>
      rintro D H ys W hD hDH hys ⟨hb2, hW⟩ hK
      have HW := Lib.hid hW
      obtain ⟨f0, f1⟩ := hb2.at_ 0 _ rfl
      clear hb2 hW
      gi_wp2
      refine ⟨by simp, .inl ⟨_, _, rfl, run_takeDeferred hK, ?_⟩⟩
      exact ⟨_, results_tmp rfl _ _ _, rfl, HW.out.trans (belowK_b (w := w) (Nat.le_refl _) W D _ _ (by omega) hK rfl rfl)⟩
    case stop =>
      rintro D H c pre W _ _ _ h _
      exact h.elim
  · exact expire_out none now w hn
end Go.Proofs.Ytpibmjkbebkilaa

/- Contracts of the small functions on slices of ints: siphonref12.Has, siphonref12.SameInts, slices.Contains, each for every slice. -/
namespace Go.Proofs.Ytpibmjkbebkilaa
open Go.RowKit
set_option maxRecDepth 20000

theorem contains_snoc (L : List Int) (x : Int) (k : Nat) (h : k < L.length) : (L.take (k + 1)).contains x = ((L.take k).contains x || L[k] == x) := by
  rw [take_snoc L k h, Bool.eq_iff_iff, List.contains_iff_mem, List.mem_append, Bool.or_eq_true, List.contains_iff_mem, List.mem_singleton, beq_iff_eq, eq_comm (a := x)]

set_option maxHeartbeats 400000 in
theorem has_any (v : Value) (L : List Int) (x : Int) (w : World) (h : Ints w v L) :
    Calls Try.prog 15 #[v, .int .i64 x] w fun e w' => e = .returned (.bool (L.contains x)) ∧ w = w' := by
  obtain ⟨b, off, hm, hlen, hidx, hc⟩ := h.facts
  clear h
  go_enter Try.func15, Try.ntmps15
  go_wp2
  go_loop [5] (fun i => ∃ k : Nat, k ≤ L.length ∧ i = .int .i64 k ∧ (L.take k).contains x = false) (fun i => L.length - (intOf i).toNat)
  case atStart => exact ⟨0, Nat.zero_le _, rfl, by simp⟩
  case round =>
    obtain ⟨k, hk, rfl, hn⟩ := hrel
    by_cases hlt : k < L.length
    · have HN : Hid ((L.take (k + 1)).contains x = (L[k] == x)) := by rw [contains_snoc L x k hlt, hn]; rfl
      have HF : Hid ((L[k] == x) = true → L.contains x = true) := by
        intro h
        have : L[k] = x := by simpa using h
        simp [← this]
      have hp := hidx k hlt
      have hcell := (hc k hlt).2
      clear hidx hc hn
      go_wp2
      · go_ret
        have h : (L[k] == x) = true := by assumption
        exact ⟨by simpa using HF.out h, rfl⟩
      · go_round
        case rel => 
          have h : (L[k] == x) = false := by assumption
          exact ⟨k + 1, by omega, by go_num, HN.out.trans h⟩
        case measure => simp [intOf]; omega
    · have HN : Hid (L.contains x = false) := by rw [List.take_of_length_le (by omega)] at hn; exact hn
      clear hidx hc hn
      go_wp2
      go_ret
      exact ⟨by simpa using HN.out, rfl⟩


theorem take_eq_snoc (A B : List Int) (k : Nat) (ha : k < A.length) (hb : k < B.length) (h : A.take k = B.take k) : (A.take (k + 1) = B.take (k + 1)) ↔ A[k] = B[k] := by
  rw [take_snoc A k ha, take_snoc B k hb, h, List.append_cancel_left_eq]
  simp only [List.cons.injEq, and_true]

set_option maxHeartbeats 800000 in
theorem same_any (v u : Value) (A B : List Int) (w : World) (h : Ints w v A) (h' : Ints w u B) :
    Calls Try.prog 22 #[v, u] w fun e w' => e = .returned (.bool (A == B)) ∧ ∃ n, w' = w.drewN n := by
  obtain ⟨b, off, hm, hlen, hidx, hc⟩ := h.facts
  obtain ⟨b', off', hm', hlen', hidx', hc'⟩ := h'.facts
  clear h h'
  by_cases hl : A.length = B.length
  · have hne : ((A.length : Int) != (B.length : Int)) = false := by rw [hl]; simp
    have HL := Lib.hid hl
    have hle : A.length ≤ B.length := by omega
    have hle' : B.length ≤ A.length := by omega
    clear hl
    go_enter Try.func22, Try.ntmps22
    go_wp2
    go_loopw [5] (fun i wr => ∃ k : Nat, k ≤ A.length ∧ i = .int .i64 k ∧ A.take k = B.take k ∧ ∃ n, wr = w.drewN n) (fun i _ => A.length - (intOf i).toNat)
    case atStart => exact ⟨0, Nat.zero_le _, rfl, by simp, 0, rfl⟩
    case round =>
      obtain ⟨k, hk, rfl, hn, n, rfl⟩ := hrel
      have HN := Lib.hid hn
      by_cases hlt : k < A.length
      · have hlt' : k < B.length := by omega
        have HS := Lib.hid (take_eq_snoc A B k hlt hlt' hn)
        have hp := hidx k hlt
        have hcell := (hc k hlt).2
        have hp' := hidx' k hlt'
        have hcell' := (hc' k hlt').2
        clear hidx hc hidx' hc' hn
        go_wp2
        go_quiet (fail)
        go_wp2
        · go_ret
          have h : (A[k] != B[k]) = true := by assumption
          refine ⟨ret_bool ?_, n + nq, by simp⟩
          symm
          rw [beq_eq_false_iff_ne]
          rintro rfl
          simp at h
        · go_roundw
          case rel =>
            have h : (A[k] != B[k]) = false := by assumption
            exact ⟨k + 1, by omega, by go_num, HS.out.2 (by simpa using h), n + nq, rfl⟩
          case measure => simp [intOf]; omega
      · have HE : Hid (A = B) := by
          rw [List.take_of_length_le (by omega), List.take_of_length_le (by omega)] at hn
          exact hn
        clear hidx hc hidx' hc' hn
        go_wp2
        go_ret
        exact ⟨ret_bool (by simp [HE.out]), n, rfl⟩
  · have hne : ((A.length : Int) != (B.length : Int)) = true := by rw [bne_iff_ne]; omega
    have HL := Lib.hid hl
    clear hl
    go_enter Try.func22, Try.ntmps22
    go_wp2
    go_ret
    refine ⟨ret_bool ?_, 0, rfl⟩
    symm
    rw [beq_eq_false_iff_ne]
    rintro rfl
    exact HL.out rfl

end Go.Proofs.Ytpibmjkbebkilaa

/- siphonlaw18.live. -/
namespace Go.Proofs.Ytpibmjkbebkilaa
open Go.RowKit Go.Lib Go.Maps Go.Sort
set_option maxRecDepth 20000
set_option maxRecDepth 20000

def oneG : Str := [224, 1, 2, 3]
theorem bOneG : (⟨#[224, 1, 2, 3]⟩ : ByteArray) = bstr oneG := bstr_of _
theorem bSrcA : (⟨#[97]⟩ : ByteArray) = bstr [97] := bstr_of _
theorem asc_empty : Asc (fun _ => none) [] := ⟨⟨List.Pairwise.nil, fun a => by simp⟩, by simp⟩
theorem papp_live (now : Int) (h1 : 1 ≤ now) (h2 : now ≤ 100) : papp noS 2 (sasc []) 0 now 10 2 = (0, some (true, now + 10, []), (false, [])) := by
  have hs : sasc [] = ([] : List Str) := by decide +kernel
  have hv : verdict (pcheck noS.1 noS.2.1 noS.2.2) 2 0 now 10 2 = 0 := by
    have hm : may now 10 2 = true := by unfold may; exact decide_eq_true (by omega)
    unfold verdict
    rw [hm]
    rfl
  have hF : inF 2 noS.1 noS.2.1 (rd noS.2.2) [] (now + 10) = fun _ => none := by
    unfold inF
    rw [if_neg (by decide), if_pos (by decide), excF_nil]
  have hQ : inQ 2 noS.1 noS.2.1 (rd noS.2.2) [] (now + 10) = fun _ => false := by
    funext a
    unfold inQ
    rw [if_neg (by decide), if_pos (by decide)]
    rfl
  have hA : ascOf (fun _ : Str => (none : Option Int)) = [] := ascOf_eq asc_empty
  have hR : riseOf (fun _ : Str => false) = [] := riseOf_eq ⟨List.Pairwise.nil, fun a => by simp⟩
  unfold papp
  rw [hv, hs, hF, hQ, hA, hR, soonF_nil, hA]
  simp [inEx, inG, inAt, noS]
theorem prep_live1 : prep 1 10 2 0 (fun _ => none) (fun _ => none) (1, oneG, 3) 2 [] 5 = ((false, []), 0, updS (fun _ => none) (1, oneG, 3) (true, 15, []), fun _ => none) := by
  unfold prep
  rw [show (pexp (oldS (fun _ => none) (1, oneG, 3)) 5).1 = noS from rfl, show ([] : List Str).length = 0 from rfl, papp_live 5 (by decide) (by decide)]
  simp
theorem prep_live2 : prep 1 10 2 1 (updS (fun _ => none) (1, oneG, 3) (true, 15, [])) (fun _ => none) (1, oneG, 4) 2 [] 6 = ((false, []), 5, updS (fun _ => none) (1, oneG, 3) (true, 15, []), updO (fun _ => none) 1 6) := by
  unfold prep
  have h0 : updS (fun _ => none) (1, oneG, 3) (true, 15, []) (1, oneG, 4) = none := by unfold updS; rw [if_neg (by decide)]
  have h1 : oldS (updS (fun _ => none) (1, oneG, 3) (true, 15, [])) (1, oneG, 4) = noS := by unfold oldS; rw [h0]; rfl
  rw [h1, show (pexp noS 6).1 = noS from rfl, show ([] : List Str).length = 0 from rfl, papp_live 6 (by decide) (by decide), h0]
  simp
theorem keys_live0 : KeysS (fun _ => none) [] := ⟨List.Pairwise.nil, fun x => by simp⟩
theorem keys_live1 : KeysS (updS (fun _ => none) (1, oneG, 3) (true, 15, [])) [(1, oneG, 3)] := ⟨by simp, fun x => by
  unfold updS
  by_cases e : x = (1, oneG, 3)
  · simp [e]
  · simp [e]⟩
theorem ports_live : portsS (updS (fun _ => none) (1, oneG, 3) (true, 15, [])) [97] 6 (([(1, oneG, 3)] : List TK).filter (inOf 1 oneG)) = [3] := by decide +kernel
theorem known_live1 : ((([(1, oneG, 3)] : List TK).filter (inOf 1 oneG)).any fun x => liveS (oldS (updS (fun _ => none) (1, oneG, 3) (true, 15, [])) x) 14) = true := by decide +kernel
theorem known_live2 : ((([(1, oneG, 3)] : List TK).filter (inOf 1 oneG)).any fun x => liveS (oldS (updS (fun _ => none) (1, oneG, 3) (true, 15, [])) x) 15) = false := by decide +kernel

set_option maxHeartbeats 8000000 in
theorem tlive_any (w : World) : Calls Try.prog 8 #[] w fun e w' => e = .returned (.bool true) ∧ Below w.heap.size w w' := by
  have HN := Lib.hid (tnew_yes 1 10 2 w (by unfold fitsT; omega))
  go_enter Try.func8, Try.ntmps8
  go_wp2_with fail
  refine HN.out.mono ?_
  rintro e w1 ⟨p, b, o, rfl, hT, hb, ho, hbw⟩
  have HT := Lib.hid hT; have HB := Lib.hid hbw; have HBO := Lib.hid (And.intro hb ho)
  have HZ := Lib.hid (tnew_no 0 10 2 w1 (by unfold fitsT; omega))
  clear hT hb ho hbw HN
  go_wp2_with fail
  refine HZ.out.mono ?_
  rintro e w2 ⟨rfl, hb2⟩
  have HT2 := Lib.hid (HT.out.mono hb2); have HB2 := Lib.hid (HB.out.trans (hb2.mono HB.out.size))
  have HR := Lib.hid (report_go p b o 0 0 1 10 2 1 3 2 5 oneG _ [] _ _ [] w2 HT2.out keys_live0 (by unfold mayT; omega) (by decide +kernel) (Strs.nil _) (by decide) (by decide))
  rw [show ([] : List TK).length = 0 from rfl, prep_live1, ← bOneG] at HR
  clear hb2 HZ HT HB
  go_wp2_with fail
  refine HR.out.mono ?_
  rintro e w3 ⟨⟨u, rfl, hu, hT3, hM3⟩, _⟩
  obtain ⟨uo, uc, hue⟩ := hu.shape
  replace hue : u = .slice uo 0 uc := hue
  subst hue
  dsimp only at hT3
  obtain ⟨W4, hW4⟩ : ∃ W4, W4 = w3.alloc (.cells #[.bool false, .slice uo 0 uc] 39) := ⟨_, rfl⟩
  have hb4 : Below w3.heap.size w3 W4 := by rw [hW4]; exact (Below.refl _ _).alloc (Nat.le_refl _) _
  have HT4 := Lib.hid (hT3.mono hb4)
  have HM4 := Lib.hid (((MTurn.of_below (b := b) (o := o) HB2.out).trans hM3).trans (MTurn.of_below hb4))
  have HW4 := Lib.hid hW4
  have HR2 := Lib.hid (report_go p b o 1 1 1 10 2 1 4 2 6 oneG _ [] _ _ [(1, oneG, 3)] W4 HT4.out keys_live1 (by unfold mayT; omega) (by decide +kernel) (Strs.nil _) (by decide) (by decide))
  rw [show ([(1, oneG, 3)] : List TK).length = 1 from rfl, prep_live2, ← bOneG] at HR2
  rw [hW4] at HR2
  clear hu hT3 hM3 HR HT2 HB2 hb4 hW4
  go_wp2_with fail
  refine HR2.out.mono ?_
  rintro e w5 ⟨⟨u2, rfl, hu2, hT5, hM5⟩, _⟩
  obtain ⟨vo, vc, hve⟩ := hu2.shape
  replace hve : u2 = .slice vo 0 vc := hve
  subst hve
  dsimp only at hT5
  rw [← HW4.out] at hM5
  obtain ⟨W6, hW6⟩ : ∃ W6, W6 = w5.alloc (.cells #[.bool false, .slice vo 0 vc] 39) := ⟨_, rfl⟩
  have hb6 : Below w5.heap.size w5 W6 := by rw [hW6]; exact (Below.refl _ _).alloc (Nat.le_refl _) _
  have HT6 := Lib.hid (hT5.mono hb6)
  have HM6 := Lib.hid ((HM4.out.trans hM5).trans (MTurn.of_below hb6))
  have HW6 := Lib.hid hW6
  have HRD := Lib.hid (show ∀ W, Below W6.heap.size W6 W → TRead W (some ⟨p, 0, none⟩) 2 (updS (fun _ => none) (1, oneG, 3) (true, 15, [])) [(1, oneG, 3)] from fun W hW => ⟨keys_live1, .inr ⟨p, b, o, _, _, _, _, _, rfl, HT6.out.mono hW⟩⟩)
  have HP := Lib.hid (ports_any (some ⟨p, 0, none⟩) 2 1 6 oneG [97] _ _ W6 (HRD.out W6 (Below.refl _ _)) (by decide) (by decide))
  rw [ports_live, ← bOneG, ← bSrcA] at HP
  rw [hW6] at HP
  clear hu2 hT5 hM5 HR2 HT4 HM4 hb6 hW6 HW4
  go_wp2_with fail
  refine HP.out.mono ?_
  rintro e w7 ⟨v, rfl, hv, hb7⟩
  rw [← HW6.out] at hb7
  have hI : Ints w7 v [3] := Ints.own hv (by decide) (by decide)
  obtain ⟨W8, hW8⟩ : ∃ W8, W8 = w7.alloc (.cells #[.int .i64 3] 3) := ⟨_, rfl⟩
  have hb8 : Below w7.heap.size w7 W8 := by rw [hW8]; exact (Below.refl _ _).alloc (Nat.le_refl _) _
  have hb68 : Below W6.heap.size W6 W8 := hb7.trans (hb8.mono hb7.size)
  have hI2 : Ints W8 (.slice (some ⟨w7.heap.size, 0, none⟩) 1 1) [3] := by
    refine ⟨_, 1, w7.heap.size, 0, rfl, .inr rfl, by decide, by decide, fun k hk => ?_⟩
    obtain rfl : k = 0 := by simp at hk; omega
    rw [hW8]
    exact ⟨by simp, ((show CBox (w7.alloc (.cells #[.int .i64 3] 3)) w7.heap.size 3 #[.int .i64 3] from CBox.new _ rfl).at_ 0 _ rfl).1⟩
  have HSA := Lib.hid (same_any v _ [3] [3] W8 (hI.mono hb8) hI2)
  rw [hW8] at HSA
  have H68 := Lib.hid hb68
  have HW8 := Lib.hid hW8
  clear hv hI hb7 hb8 hb68 hI2 hW8 HP HW6
  go_wp2_with fail
  refine HSA.out.mono ?_
  rintro e w9 ⟨rfl, nd, hw9⟩
  rw [← HW8.out] at hw9
  have hb9 : Below W6.heap.size W6 w9 := by rw [hw9]; exact below_draws _ H68.out nd
  have hsame : (([3] : List Int) == [3]) = true := rfl
  rw [hsame]
  have HB9 := Lib.hid hb9
  have HO1 := Lib.hid (over_any p b o _ _ 1 10 2 1 15 _ _ w9 (HT6.out.mono hb9) (by decide) (by decide) (fun v s h => by unfold updO at h; split at h <;> simp at h; omega))
  have HO2 := Lib.hid (over_any p b o _ _ 1 10 2 1 16 _ _ w9 (HT6.out.mono hb9) (by decide) (by decide) (fun v s h => by unfold updO at h; split at h <;> simp at h; omega))
  have ho1 : isOver (updO (fun _ => none) 1 6) 10 1 15 = true := by decide
  have ho2 : isOver (updO (fun _ => none) 1 6) 10 1 16 = false := by decide
  rw [ho1] at HO1
  rw [ho2] at HO2
  have HK1 := Lib.hid (known_any (some ⟨p, 0, none⟩) 2 1 14 oneG _ _ w9 (HRD.out w9 hb9) (by decide))
  rw [known_live1, ← bOneG] at HK1
  clear hw9 hb9 hsame ho1 ho2 HSA HW8 H68
  go_wp2_with (first
    | ((with_reducible refine HO1.out.mono ?_); rintro e w' ⟨rfl, hw'⟩; subst w'; clear HO1)
    | ((with_reducible refine HO2.out.mono ?_); rintro e w' ⟨rfl, hw'⟩; subst w'; clear HO2))
  refine HK1.out.mono ?_
  rintro e wa ⟨rfl, hba⟩
  have HBa := Lib.hid (HB9.out.trans (hba.mono HB9.out.size))
  have HK2 := Lib.hid (known_any (some ⟨p, 0, none⟩) 2 1 15 oneG _ _ wa (HRD.out wa HBa.out) (by decide))
  rw [known_live2, ← bOneG] at HK2
  clear hba HK1
  go_wp2_with fail
  refine HK2.out.mono ?_
  rintro e wb ⟨rfl, hbb⟩
  have HBb := Lib.hid (HBa.out.trans (hbb.mono HBa.out.size))
  clear hbb HK2
  go_wp2_with fail
  go_ret
  exact ⟨rfl, (HM6.out.trans (MTurn.of_below HBb.out)).below (Nat.le_refl _) HBO.out.1 HBO.out.2⟩
end Go.Proofs.Ytpibmjkbebkilaa
