/- Texts joined into one file: UOver, URead, URem. -/
import Derived.Test.YtpibmjkbebkilaaGreatW29
import Derived.Test.YtpibmjkbebkilaaGreatW25
import Derived.Test.YtpibmjkbebkilaaGreatW17
import Derived.Test.YtpibmjkbebkilaaGreatW28

namespace Go.Proofs.YtpibmjkbebkilaaGreat
open Go.RowKit Go.Lib Go.Maps Go.Sort
set_option maxRecDepth 20000
set_option maxRecDepth 20000

section
variable {w : World} {B q : Nat} {room M L : Int} {Q : List QRow18} {S : List (Int × Int)}
theorem Kt.since {v u : Value} {j g : Nat} {x now : Int} (h1 : CBox w q 35 #[.int .i64 room, .int .i64 M, .int .i64 L, v, u]) (hB : B ≤ q) (hrows : w.ownsRow B 73 6 v Q.length (Q.flatMap rcell)) (hok : ∀ x ∈ Q, okQ w x) (hS : w.ownsRow B 98 2 u S.length (S.flatMap scell)) (hN : NoStr w u)
 (hg : u.ownBlock = some g) (hj : j < S.length) (hx : S[j].1 = x) : Kt (w.setCell ⟨g, j * 2 + 1, none⟩ (.int .i64 now)) B q room M L Q (S.set j (x, now)) ∧ RTurn B w (w.setCell ⟨g, j * 2 + 1, none⟩ (.int .i64 now)) := by
 obtain ⟨hBg, cur, e, hsz, _⟩ := own_type hS hg
 have ht : RTurn B w (w.setCell ⟨g, j * 2 + 1, none⟩ (.int .i64 now)) := RTurn.store e hBg (.inr (.inl rfl)) (hN g cur _ _ hg e _) (fun o s n _ ho => absurd ho (hN g cur _ _ hg e o s)) _
 have hne : ∀ {k : Nat} {cs : Array Value} {T : TypeId} {fr : Nat × Nat}, w.heap[k]? = some (.cells cs T fr) → T ≠ 98 → (w.setCell ⟨g, j * 2 + 1, none⟩ (.int .i64 now)).heap[k]? = w.heap[k]? := fun {k cs T fr} hk hT => Below.heap_setCell _ _ _ k (fun q => by
  have q : k = g := q
  subst q
  rw [hk] at e
  injection e with e
  injection e with _ e _
  exact hT e)
 have hown := own_setIn hS hg (show j * 2 + 1 < S.length * 2 by omega) (.int .i64 now)
 rw [gflat_set scell_len S j 1 (.int .i64 now) (x, now) hj (by decide) (by rw [show S.getD j default = S[j] from by simp [List.getD_eq_getElem?_getD, hj]]; subst hx; rfl)] at hown
 refine ⟨⟨v, u, (hne h1 (by decide)).trans h1, hB, own_keep hrows fun k hk => ?_, fun y hy => (hok y hy).rturn ht, by rw [List.length_set]; exact hown, fun g' cs T fr hg' hc i s hi => ?_⟩, ht⟩
 · obtain ⟨_, c, e', _⟩ := own_type hrows hk
   exact hne e' (by decide)
 · rw [hg] at hg'
   injection hg' with hg'
   subst hg'
   have e2 : (w.setCell ⟨g, j * 2 + 1, none⟩ (.int .i64 now)).heap[g]? = some (.cells (cur.setIfInBounds (j * 2 + 1) (.int .i64 now)) 98 (0, 0)) := by simp [World.setCell, Array.getElem?_modify, e]
   rw [e2] at hc
   injection hc with hc
   injection hc with hc _ _
   subst hc
   rw [Array.getElem?_setIfInBounds] at hi
   split at hi
   · split at hi
     · cases hi
     · cases hi
   · exact hN g cur _ _ hg e i s hi
end

theorem RTurn.grown {w w2 : World} {B n : Nat} {u : Value} {xs : List Value} (hS : w.ownsRow B 98 2 u n xs) (hN : NoStr w u) (hB : B ≤ w.heap.size) (hg : w.grownBy w2 u.ownBlock) : RTurn B w w2 := by
 have own : ∀ k, some k = u.ownBlock → B ≤ k ∧ ∃ cur, w.heap[k]? = some (.cells cur 98 (0, 0)) ∧ ∀ (i : Nat) s, cur[i]? ≠ some (Value.string s) := fun k hk => by
  obtain ⟨h1, cur, e, _⟩ := own_type hS hk.symm
  exact ⟨h1, cur, e, hN k cur _ _ hk.symm e⟩
 have nos : ∀ (p : Addr) s, w.cell? p = some (.string s) → some p.block ≠ u.ownBlock := fun p s hp hk => by
  obtain ⟨_, cur, e, h⟩ := own _ hk
  unfold World.cell? at hp
  rw [e] at hp
  dsimp only at hp
  split at hp
  · cases hp
  · exact h _ _ hp
 have blk : ∀ (p : Addr) x, w.cell? p = some x → some p.block ≠ u.ownBlock → w2.cell? p = some x := fun p x hp hk => by
  have := hg.block p.block (cell_lt hp) hk
  unfold World.cell? at hp ⊢
  rw [this]; exact hp
 refine ⟨⟨hg.os, hg.tape, hg.output, hg.size, fun k hk => hg.block k (by omega) (fun e => by have := (own k e).1; omega)⟩, fun k es c e => hg.block k (Array.getElem?_eq_some_iff.1 e).1 (fun q => ?_), fun k cs T fr e _ hT _ => hg.block k (Array.getElem?_eq_some_iff.1 e).1 (fun q => ?_), fun p s hp => blk p _ hp (nos p s hp), fun b o s n hs hn => blk _ _ hn (nos ⟨b, o, none⟩ s hs)⟩
 · obtain ⟨_, cur, e', _⟩ := own k q
   rw [e] at e'; cases e'
 · obtain ⟨_, cur, e', _⟩ := own k q
   rw [e] at e'
   injection e' with e'
   injection e' with _ e' _
   exact hT e'
theorem Kt.over {w w2 : World} {B q : Nat} {room M L : Int} {Q : List QRow18} {S S2 : List (Int × Int)} {v u u2 : Value} (h1 : CBox w q 35 #[.int .i64 room, .int .i64 M, .int .i64 L, v, u]) (hB : B ≤ q) (hrows : w.ownsRow B 73 6 v Q.length (Q.flatMap rcell)) (hok : ∀ x ∈ Q, okQ w x) (hS : w.ownsRow B 98 2 u S.length (S.flatMap scell)) (hN : NoStr w u)
 (hg : w.grownBy w2 u.ownBlock) (hown : w2.ownsRow B 98 2 u2 S2.length (S2.flatMap scell)) (hN2 : NoStr w2 u2) : Kt (w2.setCell ⟨q, 4, none⟩ u2) B q room M L Q S2 ∧ RTurn B w (w2.setCell ⟨q, 4, none⟩ u2) := by
 have hBw : B ≤ w.heap.size := Nat.le_trans hB (Nat.le_of_lt h1.lt)
 have e1 : w.heap[q]? = some _ := h1
 have hqu : some q ≠ u.ownBlock := fun k => by
  obtain ⟨_, cur, e, _⟩ := own_type hS k.symm
  rw [e1] at e
  injection e with e
  injection e with _ e _
  cases e
 have h2 : CBox w2 q 35 #[.int .i64 room, .int .i64 M, .int .i64 L, v, u] := h1.grown hg hqu
 have e2 : w2.heap[q]? = some _ := h2
 obtain ⟨o1, c1, ev⟩ := own_slice hrows
 obtain ⟨o2, c2, eu⟩ := own_slice hS
 have t1 := RTurn.grown hS hN hBw hg
 have t2 : RTurn B w2 (w2.setCell ⟨q, 4, none⟩ u2) := tbox_turn h2 hB ⟨_, _, _, ev⟩ ⟨_, _, _, eu⟩ (.inr rfl) u2
 have hk : ∀ g, v.ownBlock = some g → (w2.setCell ⟨q, 4, none⟩ u2).heap[g]? = w.heap[g]? := fun g hg' => by
  obtain ⟨_, cur, e, _⟩ := own_type hrows hg'
  have n1 : g ≠ q := fun k => by
   subst k
   rw [e1] at e
   injection e with e
   injection e with _ e _
   cases e
  have n2 : some g ≠ u.ownBlock := fun k => by
   obtain ⟨_, cur', e', _⟩ := own_type hS k.symm
   rw [e] at e'
   injection e' with e'
   injection e' with _ e' _
   cases e'
  rw [Below.heap_setCell _ _ _ g n1, hg.block g (Array.getElem?_eq_some_iff.1 e).1 n2]
 have hk2 : ∀ g, u2.ownBlock = some g → (w2.setCell ⟨q, 4, none⟩ u2).heap[g]? = w2.heap[g]? := fun g hg' => by
  obtain ⟨_, cur, e, _⟩ := own_type hown hg'
  refine Below.heap_setCell _ _ _ g fun k => ?_
  have k : g = q := k
  subst k
  rw [e2] at e
  injection e with e
  injection e with _ e _
  cases e
 exact ⟨⟨v, u2, by simpa using h2.set 4 u2, hB, own_keep hrows hk, fun x hx => (hok x hx).rturn (t1.trans t2), own_keep hown hk2, hN2.same hk2⟩, t1.trans t2⟩
set_option maxHeartbeats 4000000 in
theorem rover_any (B q : Nat) (room M L v now : Int) (Q : List QRow18) (S : List (Int × Int)) (w : World) (h : Kt w B q room M L Q S) (hS : S.length ≤ 1000000) :
 Calls Tryz.prog 39 #[.pointer (some ⟨q, 0, none⟩), .int .i64 v, .int .i64 now] w (RetTurn w B q room M L Q (overS S v now)) := by
 obtain ⟨i0, hi0, hz0, hz1, hz2⟩ := info_parts infoSince
 obtain ⟨v0, u0, hbox, hB, hrows, hok, hov, hns⟩ := h
 obtain ⟨gs, hlen, hidx, hc, hg⟩ := sfacts hov
 obtain ⟨x4, xf4⟩ := hbox.at_ 4 _ rfl
 have HC := Lib.hid hc; have HIX := Lib.hid hidx; have HG := Lib.hid hg
 have HBX := Lib.hid hbox; have HBq := Lib.hid hB; have HR := Lib.hid hrows; have HOK := Lib.hid hok; have HOV := Lib.hid hov; have HNS := Lib.hid hns
 clear hbox hB hrows hok hov hns hidx hc hg
 go_enter Tryz.func39, Tryz.ntmps39
 go_wp2
 go_loop [6] (fun i => ∃ j : Nat, j ≤ S.length ∧ i = .int .i64 j ∧ ∀ m, (hm : m < S.length) → m < j → S[m].1 ≠ v) (fun i => S.length - (intOf i).toNat)
 case atStart => exact ⟨0, Nat.zero_le _, rfl, fun m hm hj => absurd hj (by omega)⟩
 case round =>
  obtain ⟨j, hj, rfl, hno⟩ := hrel
  have HNO := Lib.hid hno
  clear hno
  by_cases hlt : j < S.length
  · obtain ⟨c0, c1⟩ := HC.out j hlt
    have hp := HIX.out j hlt
    obtain ⟨⟨sv, st⟩, hst⟩ : ∃ x : Int × Int, x = S[j] := ⟨_, rfl⟩
    rw [← hst] at c0 c1
    dsimp only at c0 c1
    have HST := Lib.hid (show S[j].1 = sv from by rw [← hst])
    clear hst
    cases q1 : (sv == v)
    · have HE := Lib.hid (show sv ≠ v from by simpa using q1)
      go_wp2_with fail
      go_round
      case rel =>
       refine ⟨j + 1, by omega, by go_num, fun m hm hmj => ?_⟩
       rcases Nat.lt_or_ge m j with hh | hh
       · exact HNO.out m hm hh
       · obtain rfl : m = j := by omega
         rw [HST.out]; exact HE.out
      case measure => simp [intOf]; omega
    · have HE := Lib.hid (show sv = v from by simpa using q1)
      have rf := (HG.out j hlt).2.2.2
      have HGB := Lib.hid (HG.out j hlt).2.2.1
      have HLT := Lib.hid hlt
      go_wp2_with fail
      go_end0
      obtain ⟨k1, k2⟩ := Kt.since (now := now) HBX.out HBq.out HR.out HOK.out HOV.out HNS.out HGB.out HLT.out (HST.out.trans HE.out)
      rw [overS_at HLT.out (fun i hi => HNO.out i (by have := HLT.out; omega) hi) (HST.out.trans HE.out)]
      exact ⟨rfl, k1, k2⟩
  · have HEN := Lib.hid (overS_end (now := now) (v := v) (S := S) (fun m hm => HNO.out m hm (by omega)))
    have ha : Below w.heap.size w (w.alloc (.cells #[.int .i64 v, .int .i64 now] 98)) := (Below.refl _ _).alloc (Nat.le_refl _) _
    have T0 := Lib.hid ha
    have T1 := Lib.hid (HOV.out.alloc (.cells #[.int .i64 v, .int .i64 now] 98))
    have T2 := Lib.hid (sliceOf_block (size := 2) (m := 1) (c := 1) (heap_new w (.cells #[.int .i64 v, .int .i64 now] 98) _ rfl) rfl (by simp [Value.oneCell']))
    have T3 := Lib.hid (show B ≤ (w.alloc (.cells #[.int .i64 v, .int .i64 now] 98)).heap.size from by have := HBX.out.lt; have := HBq.out; rw [World.size_alloc]; omega)
    have T4 := Lib.hid (HNS.out.same (w' := w.alloc (.cells #[.int .i64 v, .int .i64 now] 98)) fun g hg => by obtain ⟨_, cur, e, _⟩ := own_type HOV.out hg; exact ha.block g (Array.getElem?_eq_some_iff.1 e).1)
    have T5 := Lib.hid (show ∀ x ∈ S.flatMap scell, ∀ s, x ≠ Value.string s from fun x hx s => by
     obtain ⟨y, _, hy⟩ := List.mem_flatMap.1 hx
     simp [scell] at hy
     rcases hy with rfl | rfl <;> simp)
    have HSL := Lib.hid hS
    have QNE := Lib.hid (show some q ≠ u0.ownBlock from fun k => by
     obtain ⟨_, cur, e, _⟩ := own_type HOV.out k.symm
     have e1 : w.heap[q]? = some _ := HBX.out
     rw [e1] at e
     injection e with e
     injection e with _ e _
     cases e)
    obtain ⟨y4, yf4⟩ := ((HBX.out.below ha HBX.out.lt).at_ 4 _ rfl)
    clear ha
    go_wp2_with (at_builtin; refine wpList_append_ns _ rfl _ _ 33 rfl B 98 i0 _ 2 16 Tryz.underlying33 hi0 hz0 hz1 hz2 rfl (by decide) u0 S.length (S.flatMap scell) rfl T1.out (.slice (some ⟨w.heap.size, 0, none⟩) 1 1) 1 [.int .i64 v, .int .i64 now] rfl T2.out (by have := HSL.out; unfold maxLen; omega) (by have := HSL.out; omega) T3.out (by decide) T4.out T5.out (by simp) (by simp [Value.cells]) ?_; intro v' w2 ho hg hn; obtain ⟨z4, zf4⟩ := ((HBX.out.below T0.out HBX.out.lt).grown hg QNE.out).at_ 4 _ rfl; obtain ⟨o2, c2, rfl⟩ := own_form ho; have H2 := Lib.hid (And.intro ho (And.intro hg hn)); clear ho hg hn y4 yf4)
    go_end0
    have hbw := T0.out
    have hrw := own_keep HR.out fun g hg => by obtain ⟨_, cur, e, _⟩ := own_type HR.out hg; exact hbw.block g (Array.getElem?_eq_some_iff.1 e).1
    have hown : w2.ownsRow B 98 2 (.slice o2 (S.length + 1) c2) (S ++ [(v, now)]).length ((S ++ [(v, now)]).flatMap scell) := by
     rw [List.flatMap_append, List.length_append]
     exact H2.out.1
    obtain ⟨k1, k2⟩ := Kt.over (HBX.out.below hbw HBX.out.lt) HBq.out hrw (fun x hx => (HOK.out x hx).keep (CKeep.of_below hbw)) T1.out T4.out H2.out.2.1 hown H2.out.2.2
    rw [HEN.out]
    exact ⟨rfl, k1, (RTurn.of_below hbw (Nat.le_trans HBq.out (Nat.le_of_lt HBX.out.lt))).trans k2⟩

def overB (S : List (Int × Int)) (M v now : Int) : Bool := match S.find? fun s => s.1 == v with | none => false | some s => decide (now < s.2 + M)
theorem overB_some {S : List (Int × Int)} {M v now a b : Int} (h : S.find? (fun s => s.1 == v) = some (a, b)) : overB S M v now = decide (now < b + M) := by unfold overB; rw [h]
theorem overB_none {S : List (Int × Int)} {M v now : Int} (h : S.find? (fun s => s.1 == v) = none) : overB S M v now = false := by unfold overB; rw [h]
theorem overB_rel {O : Int → Option Int} {S : List (Int × Int)} (h : RelO O S) (M v now : Int) : isOver O M v now = overB S M v now := by
 unfold isOver overB
 rw [h v]
 cases S.find? fun s => s.1 == v <;> rfl
set_option maxHeartbeats 4000000 in
theorem rOver_any (B q : Nat) (room M L v now : Int) (Q : List QRow18) (S : List (Int × Int)) (w : World) (h : Kt w B q room M L Q S) (hS : S.length ≤ 1000000) (hM : 0 ≤ M ∧ M ≤ 1000000) (ht : ∀ s ∈ S, 1 ≤ s.2 ∧ s.2 ≤ 1099511627776) :
 Calls Tryz.prog 19 #[.pointer (some ⟨q, 0, none⟩), .int .i64 v, .int .i64 now] w fun e w' => e = .returned (.bool (overB S M v now)) ∧ Below w.heap.size w w' := by
 obtain ⟨v0, u0, hbox, hB, hrows, hok, hov, hns⟩ := h
 obtain ⟨gs, hlen, hidx, hc, hg⟩ := sfacts hov
 obtain ⟨x4, xf4⟩ := hbox.at_ 4 _ rfl
 have HC := Lib.hid hc; have HIX := Lib.hid hidx; have HTT := Lib.hid ht; have HBX := Lib.hid hbox; have HMM := Lib.hid hM
 clear hbox hB hrows hok hov hns hidx hc hg ht hM
 go_enter Tryz.func19, Tryz.ntmps19
 go_wp2
 go_loop [7] (fun i => ∃ j : Nat, j ≤ S.length ∧ i = .int .i64 j ∧ S.find? (fun s => s.1 == v) = (S.drop j).find? (fun s => s.1 == v)) (fun i => S.length - (intOf i).toNat)
 case atStart => exact ⟨0, Nat.zero_le _, rfl, rfl⟩
 case round =>
  obtain ⟨j, hj, rfl, hno⟩ := hrel
  by_cases hlt : j < S.length
  · obtain ⟨c0, c1⟩ := HC.out j hlt
    have hp := HIX.out j hlt
    rw [List.drop_eq_getElem_cons hlt, List.find?_cons] at hno
    have HT := Lib.hid (HTT.out _ (List.getElem_mem hlt))
    obtain ⟨⟨sv, st⟩, hst⟩ : ∃ x : Int × Int, x = S[j] := ⟨_, rfl⟩
    rw [← hst] at c0 c1 hno HT
    dsimp only at c0 c1 hno HT
    cases q1 : (sv == v)
    · rw [q1] at hno
      dsimp only at hno
      have HNO := Lib.hid hno
      clear hno hst
      go_wp2_with fail
      go_round
      case rel => exact ⟨j + 1, by omega, by go_num, HNO.out⟩
      case measure => simp [intOf]; omega
    · rw [q1] at hno
      dsimp only at hno
      have HV := Lib.hid (overB_some (M := M) (now := now) hno)
      clear hno hst
      obtain ⟨x1, xf1⟩ := HBX.out.at_ 1 _ rfl
      have hs : IntKind.i64.wrap (st + M) = st + M := by have := HT.out; have := HMM.out; rw [IntKind.wrap_i64]; omega
      go_upto_region 5 with fail
      have hd : Below w.heap.size w w.drew := Below.drew (Below.refl _ _)
      refine wp_region_held_drew (S := fun W' => W' = w.drew) (by kernel_rfl) rfl (fun hHeld => ?_)
      refine tkL 0 (v := ?_) rfl (by kernel_rfl) (fun _ _ _ => id) (Or.inl ⟨by rfl, ?_⟩) (by assumption) ?_; rotate_left; (focus (intro wq hSq; go_simp <;> with_reducible rfl)); simp only [Act.put, pA, pB, pC]
      refine tkL 1 (v := ?_) rfl (by kernel_rfl) (fun _ _ _ => id) (Or.inl ⟨by rfl, ?_⟩) (by assumption) ?_; rotate_left; (focus (intro wq hSq; go_simp <;> with_reducible rfl)); simp only [Act.put, pA, pB, pC]
      refine tkL 2 (v := ?_) rfl (by kernel_rfl) (fun _ _ _ => id) (Or.inl ⟨by rfl, ?_⟩) (by assumption) ?_; rotate_left; (focus (intro wq hSq; go_simp <;> with_reducible rfl)); simp only [Act.put, pA, pB, pC]
      refine tkL 3 (v := ?_) rfl (by kernel_rfl) (fun _ _ _ => id) (Or.inl ⟨by rfl, ?_⟩) (by assumption) ?_; rotate_left; (focus (intro wq hSq; go_simp <;> with_reducible rfl)); simp only [Act.put, pA, pB, pC]
      refine tkL 4 (v := ?_) rfl (by kernel_rfl) (fun _ _ _ => id) (Or.inl ⟨by rfl, ?_⟩) (by assumption) ?_; rotate_left; (focus (intro wq hSq; go_simp <;> with_reducible rfl)); simp only [Act.put, pA, pB, pC]
      refine tkL 5 (v := ?_) rfl (by kernel_rfl) (fun _ _ _ => id) (Or.inl ⟨by rfl, ?_⟩) (by assumption) ?_; rotate_left; (focus (intro wq hSq; go_simp <;> with_reducible rfl)); simp only [Act.put, pA, pB, pC]
      refine tkL 6 (v := ?_) rfl (by kernel_rfl) (fun _ _ _ => id) (Or.inl ⟨by rfl, ?_⟩) (by assumption) ?_; rotate_left; (focus (intro wq hSq; go_simp <;> with_reducible rfl)); simp only [Act.put, pA, pB, pC]
      refine tkL 7 (v := ?_) rfl (by kernel_rfl) (fun _ _ _ => id) (Or.inl ⟨by rfl, ?_⟩) (by assumption) ?_; rotate_left; (focus (intro wq hSq; go_simp <;> with_reducible rfl)); simp only [Act.put, pA, pB, pC]
      refine tkL 8 (v := ?_) rfl (by kernel_rfl) (fun _ _ _ => id) (Or.inl ⟨by rfl, ?_⟩) (by assumption) ?_; rotate_left; (focus (intro wq hSq; go_simp <;> with_reducible rfl)); simp only [Act.put, pA, pB, pC]
      refine tkL 9 (v := ?_) rfl (by kernel_rfl) (fun _ _ _ => id) (Or.inl ⟨by rfl, ?_⟩) (by assumption) ?_; rotate_left; (focus (intro wq hSq; go_simp <;> with_reducible rfl)); simp only [Act.put, pA, pB, pC]
      refine tkL 10 (v := ?_) rfl (by kernel_rfl) (fun _ _ _ => id) (Or.inl ⟨by rfl, ?_⟩) (by assumption) ?_; rotate_left; (focus (intro wq hSq; go_simp <;> with_reducible rfl)); simp only [Act.put, pA, pB, pC]
      refine tkL 11 (v := ?_) rfl (by kernel_rfl) (fun _ _ _ => id) (Or.inl ⟨by rfl, ?_⟩) (by assumption) ?_; rotate_left; (focus (intro wq hSq; go_simp <;> with_reducible rfl)); simp only [Act.put, pA, pB, pC]
      refine tkL 12 (v := ?_) rfl (by kernel_rfl) (fun _ _ _ => id) (Or.inl ⟨by rfl, ?_⟩) (by assumption) ?_; rotate_left; (focus (intro wq hSq; go_simp <;> with_reducible rfl)); simp only [Act.put, pA, pB, pC]
      refine tkL 13 (v := ?_) rfl (by kernel_rfl) (fun _ _ _ => id) (Or.inl ⟨by rfl, ?_⟩) (by assumption) ?_; rotate_left; (focus (intro wq hSq; go_simp <;> with_reducible rfl)); simp only [Act.put, pA, pB, pC]
      refine tkL 14 (v := ?_) rfl (by kernel_rfl) (fun _ _ _ => id) (Or.inl ⟨by rfl, ?_⟩) (by assumption) ?_; rotate_left; (focus (intro wq hSq; go_simp <;> with_reducible rfl)); simp only [Act.put, pA, pB, pC]
      refine tkL 15 (v := ?_) rfl (by kernel_rfl) (fun _ _ _ => id) (Or.inl ⟨by rfl, ?_⟩) (by assumption) ?_; rotate_left; (focus (intro wq hSq; go_simp <;> with_reducible rfl)); simp only [Act.put, pA, pB, pC]
      refine wpAnyH_done (by kernel_rfl) ?_ _
      go_wp2_with fail
      go_ret
      exact ⟨by rw [HV.out]; rfl, hd⟩
  · obtain rfl : S.length = j := by omega
    have HV := Lib.hid (overB_none (M := M) (now := now) (show S.find? (fun s => s.1 == v) = none from by rw [hno, List.drop_length]; rfl))
    clear hno
    go_wp2_with fail
    go_ret
    exact ⟨by rw [HV.out]; rfl, Below.refl _ _⟩

theorem portsR_snoc {src : Str} {now v : Int} {g : Str} {R : List RowT} {k : Nat} (h : k < R.length) :
 portsR src now v g (R.take (k + 1)) = portsR src now v g (R.take k) ++ (if (R[k].1.1 == v && R[k].1.2.1 == g && padmS R[k].2 src now) = true then [R[k].1.2.2] else []) := by
 unfold portsR
 rw [show (R[k].1.1 == v && R[k].1.2.1 == g && padmS R[k].2 src now) = (inOf v g R[k].1 && padmS R[k].2 src now) from rfl, take_snoc R k h, List.filter_append, List.map_append, List.filter_cons, List.filter_nil]
 split <;> rfl
theorem knownR_snoc {now v : Int} {g : Str} {R : List RowT} {k : Nat} (h : k < R.length) :
 knownR now v g (R.take (k + 1)) = (knownR now v g (R.take k) || (R[k].1.1 == v && R[k].1.2.1 == g && liveS R[k].2 now)) := by
 unfold knownR
 rw [take_snoc R k h, List.any_append]
 simp [inOf]
theorem knownR_yes {now v : Int} {g : Str} {R : List RowT} {k : Nat} (h : k < R.length) (hk : (R[k].1.1 == v && R[k].1.2.1 == g && liveS R[k].2 now) = true) : knownR now v g R = true := by
 unfold knownR
 exact List.any_eq_true.2 ⟨R[k], List.getElem_mem h, hk⟩
theorem portsR_len (src : Str) (now v : Int) (g : Str) (R : List RowT) : (portsR src now v g R).length ≤ R.length := by
 unfold portsR
 rw [List.length_map]
 exact List.length_filter_le _ _

theorem own_bel {w w' : World} {base size n : Nat} {e : TypeId} {v : Value} {xs : List Value} (h : w.ownsRow base e size v n xs) (hb : Below w.heap.size w w') : w'.ownsRow base e size v n xs :=
 own_keep h fun g hg => by obtain ⟨_, cur, e, _⟩ := own_type h hg; exact hb.block g (Array.getElem?_eq_some_iff.1 e).1

set_option maxHeartbeats 4000000 in
theorem rports_any (B q : Nat) (room M L v now : Int) (g src : Str) (Q : List QRow18) (S : List (Int × Int)) (w : World) (h : Kt w B q room M L Q S) (hQ : Q.length ≤ 1000000) :
 Calls Tryz.prog 17 #[.pointer (some ⟨q, 0, none⟩), .int .i64 v, .string (bstr g), .string (bstr src), .int .i64 now] w (RetI w (portsR src now v g (Q.map Prod.fst))) := by
 have hbt := bstr_toList
 obtain ⟨i0, hi0, hz0, hz1, hz2⟩ := info_parts infoIn
 obtain ⟨v0, u0, hbox, hB, hrows, hok, hov⟩ := h
 obtain ⟨gb, hlen, hidx, hc, hgb⟩ := rfacts hrows
 have HC := Lib.hid hc; have HIX := Lib.hid hidx; have HBX := Lib.hid hbox; have HOK := Lib.hid hok; have HGB := Lib.hid hgb
 clear hbox hrows hok hov hidx hc hgb
 go_enter Tryz.func17, Tryz.ntmps17
 go_wp2
 go_loopw [11, 12] (fun r i wr => ∃ k, k ≤ Q.length ∧ i = .int .i64 (k : Nat) ∧ wr.ownsRow w.heap.size 3 1 r (portsR src now v g ((Q.map Prod.fst).take k)).length ((portsR src now v g ((Q.map Prod.fst).take k)).map (Value.int .i64)) ∧ Below w.heap.size w wr) (fun _ i _ => Q.length - (intOf i).toNat)
 case atStart => exact ⟨0, Nat.zero_le _, rfl, World.ownsRow_nil _ _ _ _, Below.refl _ _⟩
 case round =>
  obtain ⟨k, hk, rfl, hq, hb⟩ := hrel
  have HQ := Lib.hid hq; have HB := Lib.hid hb
  have HN := Lib.hid (show (portsR src now v g ((Q.map Prod.fst).take k)).length ≤ 1000000 from by
   have := portsR_len src now v g ((Q.map Prod.fst).take k)
   rw [List.length_take, List.length_map] at this
   omega)
  obtain ⟨x3, _⟩ := (HBX.out.below hb HBX.out.lt).at_ 3 _ rfl
  clear hq hb
  by_cases hlt : k < Q.length
  · have HSN := Lib.hid (portsR_snoc (src := src) (now := now) (v := v) (g := g) (R := Q.map Prod.fst) (k := k) (by simpa using hlt))
    obtain ⟨hgl, hgl2, _⟩ := HGB.out k hlt
    obtain ⟨c0, c1, c2, c3, c4, c5⟩ := HC.out k hlt
    have hp := HIX.out k hlt
    obtain ⟨⟨⟨⟨rv, rg, rp⟩, ⟨re, ra, rl⟩⟩, ru⟩, hst⟩ : ∃ x : QRow18, x = Q[k] := ⟨_, rfl⟩
    have hT := (HOK.out Q[k] (List.getElem_mem hlt)).1
    rw [List.getElem_map] at HSN
    rw [← hst] at c0 c1 c2 c3 c4 c5 hT HSN
    dsimp only at c0 c1 c2 c3 c4 c5 hT HSN
    obtain ⟨ao, cap, rfl⟩ := hT.shape
    have d0 := (HB.out.cell (p := ⟨gb, k * 6, none⟩) hgl2).trans c0
    have d1 := (HB.out.cell (p := ⟨gb, k * 6 + 1, none⟩) hgl2).trans c1
    have d2 := (HB.out.cell (p := ⟨gb, k * 6 + 2, none⟩) hgl2).trans c2
    have d3 := (HB.out.cell (p := ⟨gb, k * 6 + 3, none⟩) hgl2).trans c3
    have d4 := (HB.out.cell (p := ⟨gb, k * 6 + 4, none⟩) hgl2).trans c4
    have d5 := (HB.out.cell (p := ⟨gb, k * 6 + 5, none⟩) hgl2).trans c5
    obtain ⟨ad, had⟩ : ∃ ad, padmS (re, ra, rl) src now = ad := ⟨_, rfl⟩
    have HADM := Lib.hid (radmits_any re ra _ rl now src wr (hT.mono HB.out))
    rw [had] at HSN
    unfold padmS at had
    dsimp only at had
    rw [had] at HADM
    have HX3 := Lib.hid (fun (w1 : World) (hb1 : Below wr.heap.size wr w1) => (hb1.cell (p := ⟨gb, k * 6 + 2, none⟩) (Nat.lt_of_lt_of_le hgl2 HB.out.size)).trans d2)
    have HX4 := Lib.hid (fun (w1 : World) (hb1 : Below wr.heap.size wr w1) => (hb1.cell (p := ⟨q, 3, none⟩) (Nat.lt_of_lt_of_le HBX.out.lt HB.out.size)).trans x3)
    have HE0 := Lib.hid (show ((rv == v && rg == g) && ad) = false → portsR src now v g ((Q.map Prod.fst).take (k + 1)) = portsR src now v g ((Q.map Prod.fst).take k) from fun h => by rw [HSN.out, h]; simp)
    have HE1 := Lib.hid (show ((rv == v && rg == g) && ad) = true → portsR src now v g ((Q.map Prod.fst).take (k + 1)) = portsR src now v g ((Q.map Prod.fst).take k) ++ [rp] from fun h => by rw [HSN.out, h]; simp)
    clear c0 c1 c2 c3 c4 c5 hT hst had HSN hgl hgl2
    cases q1 : (rv == v)
    · have HE := Lib.hid (HE0.out (by rw [q1]; rfl))
      go_wp2_with fail
      go_roundw
      case rel => exact ⟨k + 1, by omega, by go_num, by rw [HE.out]; exact HQ.out, HB.out⟩
      case measure => simp [intOf]; omega
    cases q2 : (rg == g)
    · have HE := Lib.hid (HE0.out (by rw [q1, q2]; rfl))
      go_wp2_with fail
      go_roundw
      case rel => exact ⟨k + 1, by omega, by go_num, by rw [HE.out]; exact HQ.out, HB.out⟩
      case measure => simp [intOf]; omega
    cases ad
    · have HE := Lib.hid (HE0.out (by rw [q1, q2]; rfl))
      go_wp2_with ((with_reducible refine HADM.out.mono ?_); rintro e w1 ⟨rfl, hb1⟩; have H1 := Lib.hid hb1; clear hb1)
      go_roundw
      case rel => exact ⟨k + 1, by omega, by go_num, by rw [HE.out]; exact own_bel HQ.out H1.out, HB.out.trans (H1.out.mono HB.out.size)⟩
      case measure => simp [intOf]; omega
    · have HE := Lib.hid (HE1.out (by rw [q1, q2]; rfl))
      go_wp2_with (first
       | ((with_reducible refine HADM.out.mono ?_); rintro e w1 ⟨rfl, hb1⟩; have y2 := HX3.out w1 hb1; have y3 := HX4.out w1 hb1; have H1 := Lib.hid hb1; have T1 := Lib.hid ((own_bel HQ.out hb1).alloc (.cells #[.int .i64 rp] 3)); have T2 := Lib.hid (sliceOf_block (size := 1) (m := 1) (c := 1) (heap_new w1 (.cells #[.int .i64 rp] 3) _ rfl) rfl (by simp [Value.oneCell'])); have T3 := Lib.hid (show w.heap.size ≤ (w1.alloc (.cells #[.int .i64 rp] 3)).heap.size from by have := hb1.size; have := HB.out.size; rw [World.size_alloc]; omega); clear hb1)
       | (at_builtin; refine wpList_append_vals _ rfl _ _ 54 rfl w.heap.size 3 i0 _ 1 8 Tryz.underlying54 hi0 hz0 hz1 hz2 rfl (by decide) _ (portsR src now v g ((Q.map Prod.fst).take k)).length ((portsR src now v g ((Q.map Prod.fst).take k)).map (Value.int .i64)) rfl T1.out _ 1 [.int .i64 rp] rfl T2.out (by have := HN.out; unfold maxLen; omega) (by have := HN.out; omega) T3.out ?_; intro v' w2 ho hg hv; have H2 := Lib.hid (And.intro ho hg); clear ho hg hv))
      go_roundw
      case rel =>
       refine ⟨k + 1, by omega, by go_num, ?_, below_own ((HB.out.trans (H1.out.mono HB.out.size)).alloc (Nat.le_trans HB.out.size H1.out.size) _) T1.out (Nat.le_refl _) T3.out H2.out.2⟩
       rw [HE.out, List.length_append, List.map_append]
       exact H2.out.1
      case measure => simp [intOf]; omega
  · obtain rfl : k = Q.length := by omega
    have HE := Lib.hid (show (Q.map Prod.fst).take Q.length = Q.map Prod.fst from List.take_of_length_le (by simp))
    go_wp2_with fail
    go_ret
    exact ⟨_, rfl, by rw [HE.out] at HQ; exact HQ.out, HB.out⟩

set_option maxHeartbeats 4000000 in
theorem rknown_any (B q : Nat) (room M L v now : Int) (g : Str) (Q : List QRow18) (S : List (Int × Int)) (w : World) (h : Kt w B q room M L Q S) (hQ : Q.length ≤ 1000000) :
 Calls Tryz.prog 18 #[.pointer (some ⟨q, 0, none⟩), .int .i64 v, .string (bstr g), .int .i64 now] w fun e w' => e = .returned (.bool (knownR now v g (Q.map Prod.fst))) ∧ Below w.heap.size w w' := by
 have hbt := bstr_toList
 obtain ⟨v0, u0, hbox, hB, hrows, hok, hov⟩ := h
 obtain ⟨gb, hlen, hidx, hc, hgb⟩ := rfacts hrows
 have HC := Lib.hid hc; have HIX := Lib.hid hidx; have HBX := Lib.hid hbox; have HOK := Lib.hid hok; have HGB := Lib.hid hgb
 clear hbox hrows hok hov hidx hc hgb
 go_enter Tryz.func18, Tryz.ntmps18
 go_wp2
 go_loopw [9] (fun i wr => ∃ k, k ≤ Q.length ∧ i = .int .i64 (k : Nat) ∧ knownR now v g ((Q.map Prod.fst).take k) = false ∧ Below w.heap.size w wr) (fun i _ => Q.length - (intOf i).toNat)
 case atStart => exact ⟨0, Nat.zero_le _, rfl, rfl, Below.refl _ _⟩
 case round =>
  obtain ⟨k, hk, rfl, hq, hb⟩ := hrel
  have HQ := Lib.hid hq; have HB := Lib.hid hb
  obtain ⟨x3, _⟩ := (HBX.out.below hb HBX.out.lt).at_ 3 _ rfl
  clear hq hb
  by_cases hlt : k < Q.length
  · have HSN := Lib.hid (knownR_snoc (now := now) (v := v) (g := g) (R := Q.map Prod.fst) (k := k) (by simpa using hlt))
    have HYES := Lib.hid (knownR_yes (now := now) (v := v) (g := g) (R := Q.map Prod.fst) (k := k) (by simpa using hlt))
    obtain ⟨hgl, hgl2, _⟩ := HGB.out k hlt
    obtain ⟨c0, c1, c2, c3, c4, c5⟩ := HC.out k hlt
    have hp := HIX.out k hlt
    obtain ⟨⟨⟨⟨rv, rg, rp⟩, ⟨re, ra, rl⟩⟩, ru⟩, hst⟩ : ∃ x : QRow18, x = Q[k] := ⟨_, rfl⟩
    have hT := (HOK.out Q[k] (List.getElem_mem hlt)).1
    rw [List.getElem_map] at HSN HYES
    rw [← hst] at c0 c1 c2 c3 c4 c5 hT HSN HYES
    dsimp only at c0 c1 c2 c3 c4 c5 hT HSN HYES
    obtain ⟨ao, cap, rfl⟩ := hT.shape
    have d0 := (HB.out.cell (p := ⟨gb, k * 6, none⟩) hgl2).trans c0
    have d1 := (HB.out.cell (p := ⟨gb, k * 6 + 1, none⟩) hgl2).trans c1
    have d3 := (HB.out.cell (p := ⟨gb, k * 6 + 3, none⟩) hgl2).trans c3
    have d4 := (HB.out.cell (p := ⟨gb, k * 6 + 4, none⟩) hgl2).trans c4
    have d5 := (HB.out.cell (p := ⟨gb, k * 6 + 5, none⟩) hgl2).trans c5
    have HEX := Lib.hid (rexpire_st (re, ra, rl) _ now wr (hT.mono HB.out))
    obtain ⟨⟨⟨ta, tt, tl⟩, tb⟩, ht⟩ : ∃ t, pexp (re, ra, rl) now = t := ⟨_, rfl⟩
    unfold liveS at HSN HYES
    rw [ht] at HSN HYES HEX
    dsimp only at HSN HYES
    unfold RetPexp encS at HEX
    dsimp only at HEX
    have HL := Lib.hid (show gb < wr.heap.size ∧ q < wr.heap.size from ⟨Nat.lt_of_lt_of_le hgl2 HB.out.size, Nat.lt_of_lt_of_le HBX.out.lt HB.out.size⟩)
    clear c0 c1 c2 c3 c4 c5 hT hst hgl hgl2 ht
    go_upto_region 5 with ((with_reducible refine HEX.out.mono ?_); rintro e w1 ⟨val, rfl, hv, hb1⟩; obtain ⟨so, sc, rfl⟩ := hv.shape; have H1 := Lib.hid hb1; clear hb1 hv)
    obtain ⟨W2, hW2⟩ : ∃ W2, w1.alloc (.cells #[.bool ta, .int .i64 tt, .slice so tl.length sc] 71) = W2 := ⟨_, rfl⟩
    have hb2 : Below wr.heap.size wr W2 := by rw [← hW2]; exact H1.out.alloc H1.out.size _
    rw [hW2]
    have H2 := Lib.hid hb2
    have y0 := (hb2.cell (p := ⟨gb, k * 6, none⟩) HL.out.1).trans d0
    have y1 := (hb2.cell (p := ⟨gb, k * 6 + 1, none⟩) HL.out.1).trans d1
    have y3 := (hb2.cell (p := ⟨q, 3, none⟩) HL.out.2).trans x3
    clear hW2 hb2 d0 d1 d3 d4 d5 x3 H1
    cases q1 : (rv == v)
    · have HE := Lib.hid (HSN.out.trans (by rw [q1, HQ.out]))
      go_wp2_with fail
      go_roundw
      case rel => exact ⟨k + 1, by omega, by go_num, HE.out, HB.out.trans (H2.out.mono HB.out.size)⟩
      case measure => simp [intOf]; omega
    cases q2 : (rg == g)
    · have HE := Lib.hid (HSN.out.trans (by rw [q1, q2, HQ.out]))
      go_wp2_with fail
      go_roundw
      case rel => exact ⟨k + 1, by omega, by go_num, HE.out, HB.out.trans (H2.out.mono HB.out.size)⟩
      case measure => simp [intOf]; omega
    cases tb
    · have HE := Lib.hid (HSN.out.trans (by rw [q1, q2, HQ.out]))
      go_wp2_with fail
      go_roundw
      case rel => exact ⟨k + 1, by omega, by go_num, HE.out, HB.out.trans (H2.out.mono HB.out.size)⟩
      case measure => simp [intOf]; omega
    · have HE := Lib.hid (HYES.out (by rw [q1, q2]; rfl))
      go_wp2_with fail
      go_ret
      exact ⟨by rw [HE.out]; rfl, HB.out.trans (H2.out.mono HB.out.size)⟩
  · obtain rfl : k = Q.length := by omega
    have HE := Lib.hid (show (Q.map Prod.fst).take Q.length = Q.map Prod.fst from List.take_of_length_le (by simp))
    go_wp2_with fail
    go_ret
    exact ⟨by rw [HE.out] at HQ; rw [HQ.out]; rfl, HB.out⟩

def RetTurnV (x : Value) (w : World) (B q : Nat) (room M L : Int) (Q : List QRow18) (S : List (Int × Int)) (e : Ending) (w' : World) : Prop := e = .returned x ∧ Kt w' B q room M L Q S ∧ RTurn B w w'

def hasT (R : List RowT) (k : TK) : Bool := R.any fun r => r.1 == k
def lessT (Q : List QRow18) (k : TK) : List QRow18 := Q.eraseP fun r => r.1.1 == k
theorem found_has {R : List RowT} {k : TK} {i : Nat} (hi : i < R.length) (e : R[i].1 = k) : hasT R k = true := List.any_eq_true.2 ⟨R[i], List.getElem_mem hi, by simp [e]⟩
theorem found_not {R : List RowT} {k : TK} (h : ∀ i, (h : i < R.length) → R[i].1 ≠ k) : hasT R k = false := by
 cases hx : hasT R k
 · rfl
 · obtain ⟨r, hr, e⟩ := List.any_eq_true.1 hx
   obtain ⟨i, hi, rfl⟩ := List.mem_iff_getElem.1 hr
   exact absurd (by simpa using e) (h i hi)
theorem lessT_at : ∀ {Q : List QRow18} {k : TK} {i : Nat} (hi : i < Q.length), SortedT (Q.map Prod.fst) → Q[i].1.1 = k → lessT Q k = Q.eraseIdx i
 | [], _, _, hi, _, _ => by simp at hi
 | x :: Q, k, 0, _, _, e => by
   unfold lessT
   rw [List.eraseP_cons_of_pos (by simpa using e)]
   rfl
 | x :: Q, k, i + 1, hi, hs, e => by
   have hs' : SortedT (x.1 :: Q.map Prod.fst) := hs
   unfold SortedT at hs'
   rw [List.pairwise_cons] at hs'
   have hi' : i < Q.length := by simpa using hi
   have he : Q[i].1.1 = k := by simpa using e
   have hne : ¬ x.1.1 = k := fun q => by
    have := hs'.1 Q[i].1 (List.mem_map.2 ⟨_, List.getElem_mem hi', rfl⟩)
    rw [q, he] at this
    exact tltP.irrefl _ this
   unfold lessT
   rw [List.eraseP_cons_of_neg (by simpa using hne), List.eraseIdx_cons_succ]
   congr 1
   exact lessT_at hi' hs'.2 he
theorem lessT_not {Q : List QRow18} {k : TK} (h : ∀ i, (h : i < (Q.map Prod.fst).length) → (Q.map Prod.fst)[i].1 ≠ k) : lessT Q k = Q := by
 unfold lessT
 refine List.eraseP_of_forall_not fun x hx => ?_
 obtain ⟨i, hi, rfl⟩ := List.mem_iff_getElem.1 hx
 have := h i (by simpa using hi)
 rw [List.getElem_map] at this
 simpa using this

set_option maxHeartbeats 4000000 in
theorem rremove_any (B q : Nat) (room M L v port : Int) (g : Str) (Q : List QRow18) (S : List (Int × Int)) (w : World) (h : Kt w B q room M L Q S) (hs : SortedT (Q.map Prod.fst)) (hQ : Q.length ≤ 1000000) :
 Calls Tryz.prog 21 #[.pointer (some ⟨q, 0, none⟩), .int .i64 v, .string (bstr g), .int .i64 port] w (RetTurnV (.bool (hasT (Q.map Prod.fst) (v, g, port))) w B q room M L (lessT Q (v, g, port)) S) := by
 have HF := Lib.hid (rfind_any B q room M L v port g Q S w h hQ)
 have HK := Lib.hid h; have HS := Lib.hid hs; have HQ := Lib.hid hQ
 have HR := Lib.hid (RTurn.refl (B := B) (w := w) h.lt.2.2)
 clear h hs hQ
 go_enter Tryz.func21, Tryz.ntmps21
 go_upto_region 2 with ((with_reducible refine HF.out.mono ?_); rintro e w1 ⟨a, rfl, ha, hw1⟩; subst w1; have HA := Lib.hid ha; clear ha)
 rcases HA.out with ⟨rfl, hn⟩ | ⟨i, hi, he, rfl⟩
 · have HH := Lib.hid (found_not hn); have HL := Lib.hid (lessT_not hn)
   clear hn HA HF
   go_wp2_with fail
   go_ret
   exact ⟨by rw [HH.out]; rfl, by rw [HL.out]; exact HK.out, HR.out⟩
 · have HH := Lib.hid (found_has hi he)
   have hi' : i < Q.length := by simpa using hi
   have HL := Lib.hid (lessT_at hi' HS.out (by simpa using he))
   have HC := Lib.hid (rcut_any B q i room M L Q S w HK.out hi' HQ.out)
   clear he HA HF
   have d : decide ((i : Int) < 0) = false := decide_eq_false (by omega)
   go_wp2_with ((with_reducible refine HC.out.mono ?_); rintro e w1 ⟨rfl, hk, hr⟩; have H1 := Lib.hid (And.intro hk hr); clear hk hr)
   go_ret
   exact ⟨by rw [HH.out]; rfl, by rw [HL.out]; exact H1.out.1, H1.out.2⟩

def keep18 (port : Int) (Q : List QRow18) : List QRow18 := Q.filter fun q => !(q.1.1.2.2 == port)
def van18 (port : Int) (Q : List QRow18) : List QRow18 := Q.filter fun q => q.1.1.2.2 == port
theorem keep18_map (port : Int) (Q : List QRow18) : (keep18 port Q).map Prod.fst = (Q.map Prod.fst).filter fun r => !(r.1.2.2 == port) := by
 unfold keep18
 rw [List.filter_map]
 rfl
theorem van18_len (port : Int) (Q : List QRow18) : (van18 port Q).length = ((Q.map Prod.fst).filter fun r => r.1.2.2 == port).length := by
 unfold van18
 rw [List.filter_map, List.length_map]
 rfl
theorem keep18_step {v : Int} {Q : List QRow18} {m : Nat} (hm : m < Q.length) : (Q[m].1.1.2.2 == v) = true →
 (Q.take (m + 1) ++ keep18 v (Q.drop (m + 1))).eraseIdx m = Q.take m ++ keep18 v (Q.drop m) ∧ (van18 v (Q.drop m)).length = (van18 v (Q.drop (m + 1))).length + 1 := by
 intro h
 have e : Q.drop m = Q[m] :: Q.drop (m + 1) := by rw [List.drop_eq_getElem_cons hm]
 refine ⟨?_, by rw [e, van18, List.filter_cons, if_pos h]; rfl⟩
 rw [e, keep18, keep18, List.filter_cons, if_neg (by simp [h]), take_snoc Q m hm, List.append_assoc, List.eraseIdx_append_of_length_le (by simp; omega)]
 have : m - (Q.take m).length = 0 := by simp; omega
 rw [this]
 rfl
theorem keep18_skip {v : Int} {Q : List QRow18} {m : Nat} (hm : m < Q.length) : (Q[m].1.1.2.2 == v) = false →
 Q.take (m + 1) ++ keep18 v (Q.drop (m + 1)) = Q.take m ++ keep18 v (Q.drop m) ∧ (van18 v (Q.drop m)).length = (van18 v (Q.drop (m + 1))).length := by
 intro h
 have e : Q.drop m = Q[m] :: Q.drop (m + 1) := by rw [List.drop_eq_getElem_cons hm]
 refine ⟨?_, by rw [e, van18, List.filter_cons, if_neg (by simp [h])]; rfl⟩
 rw [e, keep18, keep18, List.filter_cons, if_pos (by simp [h]), take_snoc Q m hm, List.append_assoc]
 rfl

set_option maxHeartbeats 4000000 in
theorem rdrop_any (B q : Nat) (room M L port : Int) (Q : List QRow18) (S : List (Int × Int)) (w : World) (h : Kt w B q room M L Q S) (hQ : Q.length ≤ 10000) :
 Calls Tryz.prog 23 #[.pointer (some ⟨q, 0, none⟩), .int .i64 port] w (RetTurnV (.int .i64 (van18 port Q).length) w B q room M L (keep18 port Q) S) := by
 have HK := Lib.hid h
 have HR := Lib.hid (RTurn.refl (B := B) (w := w) h.lt.2.2)
 obtain ⟨v0, u0, hbox, hB, hrows, _⟩ := h
 obtain ⟨_, hlen, _, _, _⟩ := rfacts hrows
 obtain ⟨x3, _⟩ := hbox.at_ 3 _ rfl
 clear hbox hrows hB
 go_enter Tryz.func23, Tryz.ntmps23
 go_wp2
 go_loopw [5, 6] (fun n i wr => ∃ m, m ≤ Q.length ∧ i = .int .i64 ((m : Int) - 1) ∧ n = .int .i64 ((van18 port (Q.drop m)).length : Nat) ∧ Kt wr B q room M L (Q.take m ++ keep18 port (Q.drop m)) S ∧ RTurn B w wr) (fun _ i _ => (intOf i + 1).toNat)
 case atStart => exact ⟨Q.length, Nat.le_refl _, rfl, by simp [van18], by simpa [keep18] using HK.out, HR.out⟩
 case round =>
  obtain ⟨m, hm, rfl, rfl, hkx, hg⟩ := hrel
  have HKX := Lib.hid hkx; have HG := Lib.hid hg
  clear hlen x3 hkx hg
  cases m with
  | succ m =>
    have hlt : m < Q.length := by omega
    simp only [show ((m + 1 : Nat) : Int) - 1 = (m : Int) from by omega]
    obtain ⟨v1, u1, hbox, _, hrows, _⟩ := HKX.out
    obtain ⟨g, _, hidx, hc, _⟩ := rfacts hrows
    have hl : (Q.take (m + 1) ++ keep18 port (Q.drop (m + 1))).length ≤ 10000 := by
     rw [List.length_append, List.length_take]
     have : (keep18 port (Q.drop (m + 1))).length ≤ (Q.drop (m + 1)).length := List.length_filter_le _ _
     rw [List.length_drop] at this
     omega
    have hml : m < (Q.take (m + 1) ++ keep18 port (Q.drop (m + 1))).length := by rw [List.length_append, List.length_take]; omega
    have hget : (Q.take (m + 1) ++ keep18 port (Q.drop (m + 1)))[m] = Q[m] := by
     rw [List.getElem_append_left (by rw [List.length_take]; omega), List.getElem_take]
    obtain ⟨_, _, c2, _, _, _⟩ := hc m hml
    have hp := hidx m hml
    rw [hget] at c2
    obtain ⟨x3, _⟩ := hbox.at_ 3 _ rfl
    have HCT := Lib.hid (rcut_any B q m room M L _ S wr HKX.out hml (by omega))
    have HL := Lib.hid (show (van18 port (Q.drop (m + 1))).length ≤ 10000 from by
     have : (van18 port (Q.drop (m + 1))).length ≤ (Q.drop (m + 1)).length := List.length_filter_le _ _
     rw [List.length_drop] at this
     omega)
    have HY := Lib.hid (keep18_step (v := port) hlt); have HN := Lib.hid (keep18_skip (v := port) hlt)
    generalize Q[m].1.1.2.2 = vm at c2 HY HN
    have hl2 := HL.out
    clear hidx hc hbox hrows hl hget
    cases hq : (vm == port)
    · have HE := Lib.hid (HN.out hq)
      go_wp2_with fail
      go_roundw
      case rel => exact ⟨m, by omega, rfl, by rw [HE.out.2], by rw [← HE.out.1]; exact HKX.out, HG.out⟩
      case measure => simp [intOf]
    · have HE := Lib.hid (HY.out hq)
      go_wp2_with ((with_reducible refine HCT.out.mono ?_); rintro e w1 ⟨rfl, hk1, hg1⟩; have HK1 := Lib.hid hk1; have HG1 := Lib.hid hg1; clear hk1 hg1)
      go_roundw
      case rel => exact ⟨m, by omega, rfl, by rw [HE.out.2]; go_num, by rw [← HE.out.1]; exact HK1.out, HG.out.trans HG1.out⟩
      case measure => simp [intOf]
  | zero =>
    simp only [show ((0 : Nat) : Int) - 1 = (-1 : Int) from rfl]
    go_wp2_with fail
    go_ret
    exact ⟨by rw [List.drop_zero]; rfl, by simpa using HKX.out, HG.out⟩
end Go.Proofs.YtpibmjkbebkilaaGreat
