/- Texts joined into one file: TRepBad, TRep, TNil2. -/
import Derived.Test.YtpibmjkbebkilaaGreatW25
import Derived.Deep.DeepCutAuto
import Derived.Test.YtpibmjkbebkilaaGreatW24

namespace Go.Proofs.YtpibmjkbebkilaaGreat
open Go.RowKit Go.Lib Go.Maps Go.Sort
set_option maxRecDepth 20000
set_option maxRecDepth 20000

set_option maxHeartbeats 2000000 in
theorem tnew_no (room M L : Int) (w : World) (h : ¬ fitsT room M L) :
 Calls Tryz.prog 4 #[.int .i64 room, .agg #[.int .i64 M, .int .i64 L]] w fun e w' => e = .returned (.tuple #[.pointer none, .int .i64 1]) ∧ Below w.heap.size w w' := by
 obtain ⟨e1, h1⟩ : ∃ e, e = (decide (1 ≤ room) && decide (room ≤ 4096)) := ⟨_, rfl⟩
 obtain ⟨e2, h2⟩ : ∃ e, e = (decide (1 ≤ M) && decide (M ≤ 1000000)) := ⟨_, rfl⟩
 obtain ⟨e3, h3⟩ : ∃ e, e = (decide (1 ≤ L) && decide (L ≤ 1000000)) := ⟨_, rfl⟩
 have hn : ¬ (e1 = true ∧ e2 = true ∧ e3 = true) := by
  rintro ⟨q1, q2, q3⟩
  rw [q1] at h1; rw [q2] at h2; rw [q3] at h3
  simp at h1 h2 h3
  exact h ⟨h1, h2, h3⟩
 have H1 := Lib.hid (fun W => twithin_any room 1 4096 W)
 have H2 := Lib.hid (fun W => twithin_any M 1 1000000 W)
 have H3 := Lib.hid (fun W => twithin_any L 1 1000000 W)
 rw [← h1] at H1
 rw [← h2] at H2
 rw [← h3] at H3
 obtain ⟨W0, hW0⟩ : ∃ W0, W0 = w.alloc (.cells #[.int .i64 M, .int .i64 L] 23) := ⟨_, rfl⟩
 have hb0 : Below w.heap.size w W0 := by rw [hW0]; exact (Below.refl _ _).alloc (Nat.le_refl _) _
 have b0 : CBox W0 w.heap.size 23 #[.int .i64 M, .int .i64 L] := by rw [hW0]; exact CBox.new _ rfl
 obtain ⟨x0, _⟩ := b0.at_ 0 _ rfl
 obtain ⟨x1, _⟩ := b0.at_ 1 _ rfl
 have HB := Lib.hid hb0; have HW0 := Lib.hid hW0
 clear hb0 b0 hW0 h h1 h2 h3
 cases e1 <;> cases e2 <;> cases e3
 all_goals try (exact absurd ⟨rfl, rfl, rfl⟩ hn)
 all_goals
  clear hn
  go_enter Tryz.func4, Tryz.ntmps4
  go_upto_region 1 with fail
  rw [← HW0.out]
  go_wp2_with (first
   | ((with_reducible refine (H1.out _).mono ?_); rintro e w' ⟨rfl, hw'⟩; subst w')
   | ((with_reducible refine (H2.out _).mono ?_); rintro e w' ⟨rfl, hw'⟩; subst w')
   | ((with_reducible refine (H3.out _).mono ?_); rintro e w' ⟨rfl, hw'⟩; subst w'))
  exact bodyPost_ret (v := .tuple #[.pointer none, .int .i64 1]) (by simp [results, Tryz.results4, go_sem]) rfl ⟨rfl, HB.out⟩

def mayT (v port now : Int) : Prop := (1 ≤ v ∧ v ≤ 4094) ∧ (0 ≤ port ∧ port ≤ 15) ∧ (1 ≤ now ∧ now ≤ 1099511627776)

theorem ask_end {W : World} {B : Nat} {u0 u1 : Value} (h : CBox W B 51 #[u0, u1]) (x y : Value) :
 ((W.setCell ⟨B, 0, none⟩ x).setCell ⟨B, 1, none⟩ y).cell? ⟨B, 0, none⟩ = some x ∧ ((W.setCell ⟨B, 0, none⟩ x).setCell ⟨B, 1, none⟩ y).cell? ⟨B, 1, none⟩ = some y :=
 ⟨(((h.set 0 x).set 1 y).at_ 0 _ rfl).1, (((h.set 0 x).set 1 y).at_ 1 _ rfl).1⟩

def RetNone (w : World) (e : Ending) (w' : World) : Prop := e = .returned (.tuple #[noAsk, .int .i64 1]) ∧ Below w.heap.size w w'

set_option maxHeartbeats 8000000 in
theorem report_bad (q : Addr) (v port kind now : Int) (g : Str) (ro : Option Addr) (rn rc : Nat) (w : World) (h : ¬ (mayT v port now ∧ isGrp g = true)) :
 Calls Tryz.prog 10 #[.pointer (some q), .int .i64 v, .int .i64 port, .agg #[.int .i64 kind, .string (bstr g), .slice ro rn rc], .int .i64 now] w (RetNone w) := by
 obtain ⟨e1, h1⟩ : ∃ e, e = (decide (1 ≤ v) && decide (v ≤ 4094)) := ⟨_, rfl⟩
 obtain ⟨e2, h2⟩ : ∃ e, e = (decide (0 ≤ port) && decide (port ≤ 15)) := ⟨_, rfl⟩
 obtain ⟨e3, h3⟩ : ∃ e, e = (decide (1 ≤ now) && decide (now ≤ 1099511627776)) := ⟨_, rfl⟩
 obtain ⟨e4, h4⟩ : ∃ e, e = isGrp g := ⟨_, rfl⟩
 have hn : ¬ (e1 = true ∧ e2 = true ∧ e3 = true ∧ e4 = true) := by
  rintro ⟨q1, q2, q3, q4⟩
  rw [q1] at h1; rw [q2] at h2; rw [q3] at h3; rw [q4] at h4
  simp at h1 h2 h3
  exact h ⟨⟨h1, h2, h3⟩, h4.symm⟩
 have H1 := Lib.hid (fun W => twithin_any v 1 4094 W)
 have H2 := Lib.hid (fun W => twithin_any port 0 15 W)
 have H3 := Lib.hid (fun W => twithin_any now 1 1099511627776 W)
 rw [← h1] at H1
 rw [← h2] at H2
 rw [← h3] at H3
 obtain ⟨W0, hW0⟩ : ∃ W0, W0 = (w.alloc (.cells #[.int .i64 kind, .string (bstr g), .slice ro rn rc] 39)).alloc (.cells #[.bool false, .slice none 0 0] 51) := ⟨_, rfl⟩
 have hb0 : Below w.heap.size w W0 := by rw [hW0]; exact ((Below.refl _ _).alloc (Nat.le_refl _) _).alloc (by simp) _
 have b1 : CBox W0 w.heap.size 39 #[.int .i64 kind, .string (bstr g), .slice ro rn rc] := by rw [hW0]; exact (CBox.new _ rfl).old _
 have b2 : CBox W0 (w.heap.size + 1) 51 #[.bool false, .slice none 0 0] := by rw [hW0]; exact CBox.new _ (by simp)
 have HE := Lib.hid (egroup_any g W0)
 rw [← h4] at HE
 have HB := Lib.hid hb0; have B2 := Lib.hid b2; have HW := Lib.hid hW0
 obtain ⟨y1, _⟩ := b1.at_ 1 _ rfl
 obtain ⟨z0, _⟩ := b2.at_ 0 _ rfl
 obtain ⟨z1, _⟩ := b2.at_ 1 _ rfl
 clear hb0 b1 b2 hW0 h h1 h2 h3 h4
 have bad : e1 = false ∨ e2 = false ∨ e3 = false ∨ (e1 = true ∧ e2 = true ∧ e3 = true ∧ e4 = false) := by
  cases e1 <;> cases e2 <;> cases e3 <;> cases e4 <;> simp_all
 clear hn
 rcases bad with rfl | bad
 · clear HE
   go_enter Tryz.func10, Tryz.ntmps10
   go_upto_region 1 with fail
   rw [← HW.out]
   go_wp2_with ((with_reducible refine (H1.out _).mono ?_); rintro e w' ⟨rfl, hw'⟩; subst w')
   have r := fun x y => ask_end B2.out x y
   exact bodyPost_ret (v := .tuple #[.agg #[.bool false, .slice none 0 0], .int .i64 1]) (by simp [results, Tryz.results10, go_sem, r]) rfl ⟨rfl, (HB.out.setCell (by simp) _).setCell (by simp) _⟩
 · cases e1
   · clear HE
     go_enter Tryz.func10, Tryz.ntmps10
     go_upto_region 1 with fail
     rw [← HW.out]
     go_wp2_with ((with_reducible refine (H1.out _).mono ?_); rintro e w' ⟨rfl, hw'⟩; subst w')
     have r := fun x y => ask_end B2.out x y
     exact bodyPost_ret (v := .tuple #[.agg #[.bool false, .slice none 0 0], .int .i64 1]) (by simp [results, Tryz.results10, go_sem, r]) rfl ⟨rfl, (HB.out.setCell (by simp) _).setCell (by simp) _⟩
   · rcases bad with rfl | bad
     · clear HE
       go_enter Tryz.func10, Tryz.ntmps10
       go_upto_region 1 with fail
       rw [← HW.out]
       go_wp2_with (first | ((with_reducible refine (H1.out _).mono ?_); rintro e w' ⟨rfl, hw'⟩; subst w') | ((with_reducible refine (H2.out _).mono ?_); rintro e w' ⟨rfl, hw'⟩; subst w'))
       have r := fun x y => ask_end B2.out x y
       exact bodyPost_ret (v := .tuple #[.agg #[.bool false, .slice none 0 0], .int .i64 1]) (by simp [results, Tryz.results10, go_sem, r]) rfl ⟨rfl, (HB.out.setCell (by simp) _).setCell (by simp) _⟩
     · cases e2
       · clear HE
         go_enter Tryz.func10, Tryz.ntmps10
         go_upto_region 1 with fail
         rw [← HW.out]
         go_wp2_with (first | ((with_reducible refine (H1.out _).mono ?_); rintro e w' ⟨rfl, hw'⟩; subst w') | ((with_reducible refine (H2.out _).mono ?_); rintro e w' ⟨rfl, hw'⟩; subst w'))
         have r := fun x y => ask_end B2.out x y
         exact bodyPost_ret (v := .tuple #[.agg #[.bool false, .slice none 0 0], .int .i64 1]) (by simp [results, Tryz.results10, go_sem, r]) rfl ⟨rfl, (HB.out.setCell (by simp) _).setCell (by simp) _⟩
       · rcases bad with rfl | ⟨_, _, rfl, rfl⟩
         · clear HE
           go_enter Tryz.func10, Tryz.ntmps10
           go_upto_region 1 with fail
           rw [← HW.out]
           go_wp2_with (first | ((with_reducible refine (H1.out _).mono ?_); rintro e w' ⟨rfl, hw'⟩; subst w') | ((with_reducible refine (H2.out _).mono ?_); rintro e w' ⟨rfl, hw'⟩; subst w') | ((with_reducible refine (H3.out _).mono ?_); rintro e w' ⟨rfl, hw'⟩; subst w'))
           have r := fun x y => ask_end B2.out x y
           exact bodyPost_ret (v := .tuple #[.agg #[.bool false, .slice none 0 0], .int .i64 1]) (by simp [results, Tryz.results10, go_sem, r]) rfl ⟨rfl, (HB.out.setCell (by simp) _).setCell (by simp) _⟩
         · simp only [Bool.false_eq_true, if_false] at HE
           go_enter Tryz.func10, Tryz.ntmps10
           go_upto_region 1 with fail
           rw [← HW.out]
           go_wp2_with (first | ((with_reducible refine (H1.out _).mono ?_); rintro e w' ⟨rfl, hw'⟩; subst w') | ((with_reducible refine (H2.out _).mono ?_); rintro e w' ⟨rfl, hw'⟩; subst w') | ((with_reducible refine (H3.out _).mono ?_); rintro e w' ⟨rfl, hw'⟩; subst w') | ((with_reducible refine HE.out.mono ?_); rintro e w1 ⟨mm, rfl, hb1⟩; have B3 := Lib.hid (B2.out.below hb1 B2.out.lt); have HB3 := Lib.hid (HB.out.trans (hb1.mono HB.out.size)); obtain ⟨q0, _⟩ := B3.out.at_ 0 _ rfl; obtain ⟨q1, _⟩ := B3.out.at_ 1 _ rfl; clear hb1))
           have r := fun x y => ask_end B3.out x y
           exact bodyPost_ret (v := .tuple #[.agg #[.bool false, .slice none 0 0], .int .i64 1]) (by simp [results, Tryz.results10, go_sem, r]) rfl ⟨rfl, (HB3.out.setCell (by simp) _).setCell (by simp) _⟩

noncomputable def prep (room M L : Int) (c : Nat) (F : Tst) (O : Int → Option Int) (k : TK) (kind : Int) (C : List Str) (now : Int) : (Bool × List Str) × Int × Tst × (Int → Option Int) :=
 if (papp (pexp (oldS F k) now).1 kind (sasc C) C.length now M L).1 ≠ 0 then ((false, []), (papp (pexp (oldS F k) now).1 kind (sasc C) C.length now M L).1, F, O)
 else match (papp (pexp (oldS F k) now).1 kind (sasc C) C.length now M L).2.1 with
  | none => ((papp (pexp (oldS F k) now).1 kind (sasc C) C.length now M L).2.2, 0, delS F k, O)
  | some s => if (F k).isSome = false ∧ room ≤ (c : Int) then ((false, []), 5, F, updO O k.1 now) else ((papp (pexp (oldS F k) now).1 kind (sasc C) C.length now M L).2.2, 0, updS F k s, O)

def RetRep (w : World) (p b o n m : Nat) (room M L : Int) (r : (Bool × List Str) × Int × Tst × (Int → Option Int)) (e : Ending) (w' : World) : Prop :=
 ∃ u, e = .returned (.tuple #[.agg #[.bool r.1.1, u], .int .i64 r.2.1]) ∧ Strs w' u r.1.2 ∧ Tb w' p b o (n + 1) (m + 1) room M L r.2.2.1 r.2.2.2 ∧ MTurn b o w w'

theorem isGrp_size {g : Str} (h : isGrp g = true) : g.length ≤ maxLen := by
 have : g.length ≤ 16 := by
  unfold isGrp at h
  split at h
  · omega
  · simp at h; omega
 exact Nat.le_trans this (by decide)
theorem mayT.ok {v port now : Int} {g : Str} (h : mayT v port now) (hg : isGrp g = true) : okT (v, g, port) :=
 ⟨by have := h.1; simp [Lit.wf, IntKind.min, IntKind.max, IntKind.bits, IntKind.signed]; omega, isGrp_size hg, by have := h.2.1; simp [Lit.wf, IntKind.min, IntKind.max, IntKind.bits, IntKind.signed]; omega⟩

theorem VMap.len_at {P : Program} {T : TypeId} {κ : Type} {K : KeyEnc P T κ} {w : World} {b n : Nat} {F : κ → Option Value} {t e : TypeId} (h : VMap K w b n F) (ht : P.underlying t = some (.map T e)) {L : List κ} (hL : KeysV F L) (ty : TypeId) : (Builtin.len_ #[t] ty #[.map (some b)]).run P w = .ok (.int .i64 L.length) w := by
 obtain ⟨L', h1, _, h2⟩ := h.count ht
 rw [hL.len h1]
 exact h2 ty
def ChkO (x : Option Stt) : Prop := ∀ s, x = some s → pcheck s.1 s.2.1 s.2.2 = true
theorem Tb.setAny {W : World} {p b o n m B : Nat} {room M L : Int} {F : Tst} {O : Int → Option Int} {T : TypeId} {cs : Array Value} (h : Tb W p b o n m room M L F O) (hB : CBox W B T cs) (hs : ∀ (i : Nat) (s : ByteArray), cs[i]? ≠ some (Value.string s)) (hp : B ≠ p) (i : Nat) (u : Value) : Tb (W.setCell ⟨B, i, none⟩ u) p b o n m room M L F O := by
 obtain ⟨V, hV, hH⟩ := h.states
 obtain ⟨U, hU, hO⟩ := h.overs
 have hb' : W.heap[B]? = some _ := hB
 refine ⟨h.box.far (p := ⟨B, i, none⟩) (Ne.symm hp) u, ⟨V, hV.set (p := ⟨B, i, none⟩) (fun e => ?_) u, fun k => ?_⟩, ⟨U, hU.set (p := ⟨B, i, none⟩) (fun e => ?_) u, hO⟩, h.ne⟩
 · obtain ⟨es, c, e'⟩ := hV.map_is
   rw [show b = B from e, hb'] at e'
   cases e'
 · have := hH k
   cases hF : F k
   · rw [hF] at this; exact this
   · rw [hF] at this
     obtain ⟨v, e, hT, hw⟩ := this
     exact ⟨v, e, hT.apart (p := ⟨B, i, none⟩) (fun hL c hc => hT.ne_box hB hs hL c hc) u, hw⟩
 · obtain ⟨es, c, e'⟩ := hU.map_is
   rw [show o = B from e, hb'] at e'
   cases e'
theorem Tb.ask {W : World} {p b o n m B : Nat} {room M L : Int} {F : Tst} {O : Int → Option Int} {f f' : Bool} {o1 o2 : Option Addr} {n1 c1 n2 c2 : Nat} (h : Tb W p b o n m room M L F O) (hB : CBox W B 51 #[.bool f, .slice o1 n1 c1]) (hp : B ≠ p) : Tb ((W.setCell ⟨B, 0, none⟩ (.bool f')).setCell ⟨B, 1, none⟩ (.slice o2 n2 c2)) p b o n m room M L F O :=
 (h.setAny hB (fun i s => ns2 _ _ _ _ i s) hp 0 _).setAny (show CBox _ B 51 #[.bool f', .slice o1 n1 c1] from hB.set 0 _) (fun i s => ns2 _ _ _ _ i s) hp 1 _
theorem MTurn.ask {w W : World} {b o B : Nat} (h : MTurn b o w W) (hB : w.heap.size ≤ B) (x y : Value) : MTurn b o w ((W.setCell ⟨B, 0, none⟩ x).setCell ⟨B, 1, none⟩ y) :=
 have hs : ∀ (X : World) (i : Nat) (u : Value), X.grownBy (X.setCell ⟨B, i, none⟩ u) (some B) := fun X i u => ⟨rfl, rfl, rfl, by simp [World.setCell], fun k _ hne => Below.heap_setCell _ _ _ k (fun e => hne (by rw [e]))⟩
 (h.far (B := w.heap.size) (hs W 0 x) (fun r e => by injection e with e; omega) (Nat.le_refl _)).far (B := w.heap.size) (hs _ 1 y) (fun r e => by injection e with e; omega) (Nat.le_refl _)

theorem end_s {Y : World} {sb : Nat} {a0 : Bool} {a1 : Int} {o1 : Option Addr} {n1 c1 : Nat} {v u : Value} {L : List Tmd} {R : List Str} (h : CBox Y sb 71 #[.bool a0, .int .i64 a1, .slice o1 n1 c1]) (hT : Tms Y v L) (hU : Strs Y u R) (x y z : Value) :
 CBox (((Y.setCell ⟨sb, 0, none⟩ x).setCell ⟨sb, 1, none⟩ y).setCell ⟨sb, 2, none⟩ z) sb 71 #[x, y, z] ∧ Tms (((Y.setCell ⟨sb, 0, none⟩ x).setCell ⟨sb, 1, none⟩ y).setCell ⟨sb, 2, none⟩ z) v L ∧ Strs (((Y.setCell ⟨sb, 0, none⟩ x).setCell ⟨sb, 1, none⟩ y).setCell ⟨sb, 2, none⟩ z) u R := by
 have a1 : L ≠ [] → ∀ c, v.ownBlock = some c → c ≠ sb := fun hL c hc => hT.ne_box h (fun i s => ns3 _ _ _ _ _ i s) hL c hc
 have a2 : R ≠ [] → ∀ c, u.ownBlock = some c → c ≠ sb := fun hL c hc => hU.ne_box h (fun i s => ns3 _ _ _ _ _ i s) hL c hc
 exact ⟨((h.set 0 x).set 1 y).set 2 z, ((hT.apart (p := ⟨sb, 0, none⟩) a1 x).apart (p := ⟨sb, 1, none⟩) a1 y).apart (p := ⟨sb, 2, none⟩) a1 z, ((hU.apart' (p := ⟨sb, 0, none⟩) a2 x).apart' (p := ⟨sb, 1, none⟩) a2 y).apart' (p := ⟨sb, 2, none⟩) a2 z⟩
theorem end_a {Y : World} {ab : Nat} {f : Bool} {o1 : Option Addr} {n1 c1 : Nat} {v u : Value} {L : List Tmd} {R : List Str} (h : CBox Y ab 51 #[.bool f, .slice o1 n1 c1]) (hT : Tms Y v L) (hU : Strs Y u R) (x y : Value) :
 CBox ((Y.setCell ⟨ab, 0, none⟩ x).setCell ⟨ab, 1, none⟩ y) ab 51 #[x, y] ∧ Tms ((Y.setCell ⟨ab, 0, none⟩ x).setCell ⟨ab, 1, none⟩ y) v L ∧ Strs ((Y.setCell ⟨ab, 0, none⟩ x).setCell ⟨ab, 1, none⟩ y) u R := by
 have a1 : L ≠ [] → ∀ c, v.ownBlock = some c → c ≠ ab := fun hL c hc => hT.ne_box h (fun i s => ns2 _ _ _ _ i s) hL c hc
 have a2 : R ≠ [] → ∀ c, u.ownBlock = some c → c ≠ ab := fun hL c hc => hU.ne_box h (fun i s => ns2 _ _ _ _ i s) hL c hc
 exact ⟨(h.set 0 x).set 1 y, (hT.apart (p := ⟨ab, 0, none⟩) a1 x).apart (p := ⟨ab, 1, none⟩) a1 y, (hU.apart' (p := ⟨ab, 0, none⟩) a2 x).apart' (p := ⟨ab, 1, none⟩) a2 y⟩
theorem far_s {Y : World} {sb B : Nat} {T : TypeId} {cs : Array Value} (h : CBox Y B T cs) (hne : B ≠ sb) (x y z : Value) : CBox (((Y.setCell ⟨sb, 0, none⟩ x).setCell ⟨sb, 1, none⟩ y).setCell ⟨sb, 2, none⟩ z) B T cs := ((h.far (p := ⟨sb, 0, none⟩) hne x).far (p := ⟨sb, 1, none⟩) hne y).far (p := ⟨sb, 2, none⟩) hne z
theorem far_a {Y : World} {sb B : Nat} {T : TypeId} {cs : Array Value} (h : CBox Y B T cs) (hne : B ≠ sb) (x y : Value) : CBox ((Y.setCell ⟨sb, 0, none⟩ x).setCell ⟨sb, 1, none⟩ y) B T cs := (h.far (p := ⟨sb, 0, none⟩) hne x).far (p := ⟨sb, 1, none⟩) hne y
theorem below_s {B : Nat} {W Y : World} {sb : Nat} (h : Below B W Y) (hb : B ≤ sb) (x y z : Value) : Below B W (((Y.setCell ⟨sb, 0, none⟩ x).setCell ⟨sb, 1, none⟩ y).setCell ⟨sb, 2, none⟩ z) := ((h.setCell (p := ⟨sb, 0, none⟩) hb x).setCell (p := ⟨sb, 1, none⟩) hb y).setCell (p := ⟨sb, 2, none⟩) hb z
theorem below_a {B : Nat} {W Y : World} {sb : Nat} (h : Below B W Y) (hb : B ≤ sb) (x y : Value) : Below B W ((Y.setCell ⟨sb, 0, none⟩ x).setCell ⟨sb, 1, none⟩ y) := (h.setCell (p := ⟨sb, 0, none⟩) hb x).setCell (p := ⟨sb, 1, none⟩) hb y

set_option maxHeartbeats 16000000 in
theorem report_go (p b o n m : Nat) (room M L v port kind now : Int) (g : Str) (rv : Value) (C : List Str) (F : Tst) (O : Int → Option Int) (K : List TK) (w : World) (h : Tb w p b o n m room M L F O) (hK : KeysS F K) (hm : mayT v port now) (hg : isGrp g = true) (hr : Strs w rv C) (hn : n < 1000000) (hmm : m < 1000000) :
 Calls Tryz.prog 10 #[.pointer (some ⟨p, 0, none⟩), .int .i64 v, .int .i64 port, .agg #[.int .i64 kind, .string (bstr g), rv], .int .i64 now] w
  fun e w' => RetRep w p b o n m room M L (prep room M L K.length F O (v, g, port) kind C now) e w' ∧ ChkO (papp (pexp (oldS F (v, g, port)) now).1 kind (sasc C) C.length now M L).2.1 := by
 have hz : ∀ w, (zeroValue 71).run Tryz.prog w = .ok noState w := fun w => Tryz.zeroValue71 w
 obtain ⟨ro, rc, rfl⟩ := hr.shape
 have hok := hm.ok hg
 have H1 := Lib.hid (fun W => twithin_any v 1 4094 W)
 have H2 := Lib.hid (fun W => twithin_any port 0 15 W)
 have H3 := Lib.hid (fun W => twithin_any now 1 1099511627776 W)
 have e1 : (decide (1 ≤ v) && decide (v ≤ 4094)) = true := by simp [hm.1]
 have e2 : (decide (0 ≤ port) && decide (port ≤ 15)) = true := by simp [hm.2.1]
 have e3 : (decide (1 ≤ now) && decide (now ≤ 1099511627776)) = true := by simp [hm.2.2]
 rw [e1] at H1
 rw [e2] at H2
 rw [e3] at H3
 obtain ⟨W0, hW0⟩ : ∃ W0, W0 = (w.alloc (.cells #[.int .i64 kind, .string (bstr g), .slice ro C.length rc] 39)).alloc (.cells #[.bool false, .slice none 0 0] 51) := ⟨_, rfl⟩
 have hb0 : Below w.heap.size w W0 := by rw [hW0]; exact ((Below.refl _ _).alloc (Nat.le_refl _) _).alloc (by simp) _
 have b1 : CBox W0 w.heap.size 39 #[.int .i64 kind, .string (bstr g), .slice ro C.length rc] := by rw [hW0]; exact (CBox.new _ rfl).old _
 have b2 : CBox W0 (w.heap.size + 1) 51 #[.bool false, .slice none 0 0] := by rw [hW0]; exact CBox.new _ (by simp)
 have HE := Lib.hid (egroup_any g W0)
 rw [hg] at HE
 simp only [if_true] at HE
 have HT := Lib.hid h; have HK := Lib.hid hK; have HOK := Lib.hid hok; have HR := Lib.hid hr; have HMT := Lib.hid hm; have HN := Lib.hid (And.intro hn hmm)
 have HB := Lib.hid hb0; have B1 := Lib.hid b1; have B2 := Lib.hid b2; have HW := Lib.hid hW0
 obtain ⟨y1, _⟩ := b1.at_ 1 _ rfl
 clear hb0 b1 b2 hW0 e1 e2 e3 h hK hm hg hr hok hn hmm
 go_enter Tryz.func10, Tryz.ntmps10
 go_upto_region 1 with fail
 rw [← HW.out]
 clear HW
 go_upto_region 7 with (first | ((with_reducible refine (H1.out _).mono ?_); rintro e w' ⟨rfl, hw'⟩; subst w') | ((with_reducible refine (H2.out _).mono ?_); rintro e w' ⟨rfl, hw'⟩; subst w') | ((with_reducible refine (H3.out _).mono ?_); rintro e w' ⟨rfl, hw'⟩; subst w') | ((with_reducible refine HE.out.mono ?_); rintro e w1 ⟨mm, rfl, hb1⟩; have C1 := Lib.hid (B1.out.below hb1 B1.out.lt); have C2 := Lib.hid (B2.out.below hb1 B2.out.lt); have HB1 := Lib.hid (HB.out.trans (hb1.mono HB.out.size)); obtain ⟨q1, _⟩ := C1.out.at_ 1 _ rfl; clear hb1 y1 HE B1 B2 HB H1 H2 H3))
 -- the old state
 have C2lt := Lib.hid (show w.heap.size + 1 < w1.heap.size from C2.out.lt)
 obtain ⟨W2, hW2⟩ : ∃ W2, W2 = w1.alloc (.cells #[.int .i64 v, .string (bstr g), .int .i64 port] 65) := ⟨_, rfl⟩
 have hb2 : Below w1.heap.size w1 W2 := by rw [hW2]; exact (Below.refl _ _).alloc (Nat.le_refl _) _
 have hbw := HB1.out.trans (hb2.mono HB1.out.size)
 have HS2 := Lib.hid (show W2.heap.size = w1.heap.size + 1 from by rw [hW2]; simp)
 have k2 : CBox W2 w1.heap.size 65 #[.int .i64 v, .string (bstr g), .int .i64 port] := by rw [hW2]; exact CBox.new _ rfl
 have hT2 := HT.out.mono hbw
 have hbp := hT2.box
 obtain ⟨V, hV, hH⟩ := hT2.states
 obtain ⟨sv, he, hTm, hi, hw⟩ := hH.at_ (v, g, port)
 obtain ⟨⟨ya, yt, yl⟩, hy⟩ : ∃ y, oldS F (v, g, port) = y := ⟨_, rfl⟩
 rw [hy] at he hTm hw
 dsimp only at hTm hw
 obtain ⟨ao, cap, rfl⟩ := hTm.shape
 obtain ⟨is, his⟩ : ∃ is, (F (v, g, port)).isSome = is := ⟨_, rfl⟩
 rw [his] at hi
 have hd : Below W2.heap.size W2 W2.drew := Below.drew (Below.refl _ _)
 have HF := Lib.hid (show ∀ wq, Below W2.heap.size W2 wq → wq.cell? ⟨w1.heap.size, 0, none⟩ = some (.int .i64 v) ∧ wq.cell? ⟨w1.heap.size, 1, none⟩ = some (.string (bstr g)) ∧ wq.cell? ⟨w1.heap.size, 2, none⟩ = some (.int .i64 port) ∧ wq.cell? ⟨p, 3, none⟩ = some (.map (some b)) ∧
  (Instr.lookup 46 (.map (some b)) (.agg #[.int .i64 v, .string (bstr g), .int .i64 port]) true).run Tryz.prog wq = .ok (.tuple #[.agg #[.bool ya, .int .i64 yt, .slice ao yl.length cap], .bool is]) wq from fun wq hb =>
  ⟨(hb.cell (p := ⟨w1.heap.size, 0, none⟩) k2.lt).trans (k2.at_ 0 _ rfl).1, (hb.cell (p := ⟨w1.heap.size, 1, none⟩) k2.lt).trans (k2.at_ 1 _ rfl).1, (hb.cell (p := ⟨w1.heap.size, 2, none⟩) k2.lt).trans (k2.at_ 2 _ rfl).1, (hb.cell (p := ⟨p, 3, none⟩) hbp.lt).trans (hbp.at_ 3 _ rfl).1, by
    have := (hV.below hb hV.lt).getOk Tryz.underlying46 (hz wq) (v, g, port) HOK.out
    rw [he, hi] at this
    exact this⟩)
 have HY := Lib.hid hy; have HIS := Lib.hid his; have HTM := Lib.hid hTm; have HWF := Lib.hid hw; have HBW := Lib.hid hbw; have K2 := Lib.hid k2; have HB2 := Lib.hid hb2
 have D1 := Lib.hid (C1.out.below hb2 C1.out.lt); have D2 := Lib.hid (C2.out.below hb2 C2.out.lt); have HP2 := Lib.hid hbp
 rw [← hW2]
 clear hb2 hbw k2 hT2 hbp hV hH he hTm hi hw hy his hW2 C1 C2 HB1 q1 hz
 refine wp_region_held_drew (S := fun W' => Below W2.heap.size W2 W') (by kernel_rfl) hd (fun hHeld => ?_)
 refine tkL 0 (v := ?_) rfl (by kernel_rfl) (fun _ _ _ => id) (Or.inl ⟨by rfl, ?_⟩) (by assumption) ?_; rotate_left; (focus (intro wq hSq; have f := HF.out wq hSq; go_simp <;> with_reducible rfl)); simp only [Act.put, pA, pB, pC]
 refine tkL 1 (v := ?_) rfl (by kernel_rfl) (fun _ _ _ => id) (Or.inl ⟨by rfl, ?_⟩) (by assumption) ?_; rotate_left; (focus (intro wq hSq; have f := HF.out wq hSq; go_simp <;> with_reducible rfl)); simp only [Act.put, pA, pB, pC]
 refine tkL 2 (v := ?_) rfl (by kernel_rfl) (fun _ _ _ => id) (Or.inl ⟨by rfl, ?_⟩) (by assumption) ?_; rotate_left; (focus (intro wq hSq; have f := HF.out wq hSq; go_simp <;> with_reducible rfl)); simp only [Act.put, pA, pB, pC]
 refine tkL 3 (v := ?_) rfl (by kernel_rfl) (fun _ _ _ => id) (Or.inl ⟨by rfl, ?_⟩) (by assumption) ?_; rotate_left; (focus (intro wq hSq; have f := HF.out wq hSq; go_simp <;> with_reducible rfl)); simp only [Act.put, pA, pB, pC]
 refine tkL 4 (v := ?_) rfl (by kernel_rfl) (fun _ _ _ => id) (Or.inl ⟨by rfl, ?_⟩) (by assumption) ?_; rotate_left; (focus (intro wq hSq; have f := HF.out wq hSq; go_simp <;> with_reducible rfl)); simp only [Act.put, pA, pB, pC]
 refine tkL 5 (v := ?_) rfl (by kernel_rfl) (fun _ _ _ => id) (Or.inl ⟨by rfl, ?_⟩) (by assumption) ?_; rotate_left; (focus (intro wq hSq; have f := HF.out wq hSq; go_simp <;> with_reducible rfl)); simp only [Act.put, pA, pB, pC]
 refine tkL 6 (v := ?_) rfl (by kernel_rfl) (fun _ _ _ => id) (Or.inl ⟨by rfl, ?_⟩) (by assumption) ?_; rotate_left; (focus (intro wq hSq; have f := HF.out wq hSq; go_simp <;> with_reducible rfl)); simp only [Act.put, pA, pB, pC]
 refine tkL 7 (v := ?_) rfl (by kernel_rfl) (fun _ _ _ => id) (Or.inl ⟨by rfl, ?_⟩) (by assumption) ?_; rotate_left; (focus (intro wq hSq; have f := HF.out wq hSq; go_simp <;> with_reducible rfl)); simp only [Act.put, pA, pB, pC]
 refine tkL 8 (v := ?_) rfl (by kernel_rfl) (fun _ _ _ => id) (Or.inl ⟨by rfl, ?_⟩) (by assumption) ?_; rotate_left; (focus (intro wq hSq; have f := HF.out wq hSq; go_simp <;> with_reducible rfl)); simp only [Act.put, pA, pB, pC]
 refine wpAnyH_ready (rs := [9]) (by kernel_rfl) (by simp) (nextL 9 rfl (fun Kr hKr => ?_) AllReadyH.nil)
 go_simp
 refine hKr.out _ _ (hd.alloc hd.size _) (fun hHeld2 => ?_)
 clear hKr hHeld
 refine wpAnyH_ready (rs := [10]) (by kernel_rfl) (by simp) (nextL 10 rfl (fun Kr hKr => ?_) AllReadyH.nil)
 go_simp
 refine hKr.out _ _ (hd.alloc hd.size _) (fun hEnd => ?_)
 clear hKr hHeld2
 refine tkL 11 (v := ?_) rfl (by kernel_rfl) (fun _ _ _ => id) (Or.inl ⟨by rfl, ?_⟩) (by assumption) ?_; rotate_left; (focus (intro wq hSq; have f := HF.out wq hSq; go_simp <;> with_reducible rfl)); simp only [Act.put, pA, pB, pC]
 refine wpAnyH_done (by kernel_rfl) ?_ _
 -- by now
 obtain ⟨W3, hW3⟩ : ∃ W3, W3 = (W2.alloc (.cells #[.bool ya, .int .i64 yt, .slice ao yl.length cap] 71)).drew := ⟨_, rfl⟩
 have b3 : CBox W3 W2.heap.size 71 #[.bool ya, .int .i64 yt, .slice ao yl.length cap] := by rw [hW3]; exact (show CBox (W2.alloc _) _ _ _ from CBox.new _ rfl)
 have HE := Lib.hid hEnd
 rw [← hW3] at HE ⊢
 obtain ⟨s0, _⟩ := b3.at_ 0 _ rfl
 obtain ⟨s1, _⟩ := b3.at_ 1 _ rfl
 obtain ⟨s2, _⟩ := b3.at_ 2 _ rfl
 have HEX := Lib.hid (expire_st (ya, yt, yl) _ now W3 (HTM.out.mono HE.out))
 obtain ⟨⟨⟨xa, xt, xl⟩, xb⟩, hx⟩ : ∃ x, pexp (ya, yt, yl) now = x := ⟨_, rfl⟩
 have HX := Lib.hid hx
 rw [hx] at HEX
 unfold encS at HEX
 dsimp only at HEX
 clear hEnd b3 hd hW3 HF HTM hx
 go_upto_region 9 with ((with_reducible refine HEX.out.mono ?_); rintro e w4 ⟨sv4, rfl, hT4, hb4⟩; obtain ⟨xo, xc, rfl⟩ := hT4.shape; unfold encS; dsimp only; have HT4 := Lib.hid hT4; have HB4 := Lib.hid (HE.out.trans (hb4.mono HE.out.size)); clear hT4 hb4 HEX s0 s1 s2 HE)
 -- Apply
 obtain ⟨W4, hW4⟩ : ∃ W4, W4 = w4.alloc (.cells #[.bool xa, .int .i64 xt, .slice xo xl.length xc] 71) := ⟨_, rfl⟩
 have hb4 : Below w4.heap.size w4 W4 := by rw [hW4]; exact (Below.refl _ _).alloc (Nat.le_refl _) _
 have hs4 : W4.heap.size = w4.heap.size + 1 := by rw [hW4]; simp
 have S4 := Lib.hid (show CBox W4 w4.heap.size 71 #[.bool xa, .int .i64 xt, .slice xo xl.length xc] from by rw [hW4]; exact CBox.new _ rfl)
 have hb24 : Below W2.heap.size W2 W4 := HB4.out.trans (hb4.mono HB4.out.size)
 have E1 := Lib.hid (D1.out.below hb24 D1.out.lt); have E2 := Lib.hid (D2.out.below hb24 D2.out.lt); have EP := Lib.hid (HP2.out.below hb24 HP2.out.lt); have EK := Lib.hid (K2.out.below hb24 K2.out.lt)
 have HBW4 := Lib.hid (HBW.out.trans (hb24.mono HBW.out.size))
 have HL4 := Lib.hid (show w.heap.size + 1 < w1.heap.size ∧ w1.heap.size < w4.heap.size ∧ p < w4.heap.size ∧ W4.heap.size = w4.heap.size + 1 from by
  have q1 := HS2.out
  have q2 := HB4.out.size
  have q3 := HP2.out.lt
  have q4 := D2.out.lt
  refine ⟨?_, by omega, by omega, hs4⟩
  have q5 := C2lt.out
  omega)
 have hxi : xb = false → (xa, xt, xl) = noS := fun e => by
  have := pexp_none (ya, yt, yl) now (by rw [HX.out]; exact e)
  rw [HX.out] at this
  exact this
 have hxk : xb = true → is = true := fun e => by
  cases hq : is
  · have hF0 : F (v, g, port) = none := by
     have := HIS.out
     rw [hq] at this
     cases hF : F (v, g, port) with
     | none => rfl
     | some s => rw [hF] at this; cases this
    have hn : (ya, yt, yl) = noS := by rw [← HY.out]; unfold oldS; rw [hF0]; rfl
    have := HX.out
    rw [hn, pexp_noS] at this
    injection this with _ h2
    rw [← h2] at e
    cases e
  · rfl
 obtain ⟨⟨ac, ax, ag, aR⟩, hA⟩ : ∃ A, papp (xa, xt, xl) kind (sasc C) C.length now M L = A := ⟨_, rfl⟩
 obtain ⟨⟨za, zt, zl⟩, hZ⟩ : ∃ z, ax.getD noS = z := ⟨_, rfl⟩
 have hxw : (Lit.int .i64 xt).wf = true := by
  have := pexp_wf (ya, yt, yl) now HWF.out
  rw [HX.out] at this
  exact this
 have HAP := Lib.hid (show ∀ X, Below W4.heap.size W4 X → Calls Tryz.prog 31 #[.agg #[.bool xa, .int .i64 xt, .slice xo xl.length xc], .bool xb, .agg #[.int .i64 kind, .string (bstr g), .slice ro C.length rc], .int .i64 now, .agg #[.int .i64 M, .int .i64 L]] X
  (fun e w' => ∃ so sc uo uc, e = .returned (.tuple #[.agg #[.bool za, .int .i64 zt, .slice so zl.length sc], .bool ax.isSome, .agg #[.bool ag, .slice uo aR.length uc], .int .i64 ac]) ∧ Tms w' (.slice so zl.length sc) zl ∧ Strs w' (.slice uo aR.length uc) aR ∧ Below X.heap.size X w' ∧ ∀ s, ax = some s → pcheck s.1 s.2.1 s.2.2 = true ∧ (Lit.int .i64 s.2.1).wf = true) from fun X hX => by
  have hr2 : Strs X (.slice ro C.length rc) C := HR.out.mono (HBW4.out.trans (hX.mono HBW4.out.size))
  have hT2 : Tms X (.slice xo xl.length xc) xl := (HT4.out.mono hb4).mono hX
  refine (apply_st (xa, xt, xl) _ xb kind (bstr g) _ C now M L X hT2 hr2 hxw hxi).mono ?_
  rw [hA]
  rintro e w' ⟨vv, uu, rfl, q1, q2, q3, q4⟩
  dsimp only at q1 q2 q4 ⊢
  rw [hZ] at q1 ⊢
  obtain ⟨so, sc, rfl⟩ := q1.shape
  obtain ⟨uo, uc, rfl⟩ := q2.shape
  exact ⟨so, sc, uo, uc, rfl, q1, q2, q3, q4⟩)
 have HA := Lib.hid hA; have HZ := Lib.hid hZ; have HW4 := Lib.hid hW4
 rw [← hW4]
 clear hW4 hb4 hs4 hb24 hA hZ hxi hxw HT4 HB4 HWF D1 D2 HP2 K2 HB2 HBW HS2
 go_cut [18, 19, 20] (fun s18 s19 s20 w' => ∃ ab so sc uo uc, s18 = .bool ax.isSome ∧ s19 = .pointer (some ⟨ab, 0, none⟩) ∧ s20 = .int .i64 ac ∧ w4.heap.size < ab ∧ CBox w' w4.heap.size 71 #[.bool za, .int .i64 zt, .slice so zl.length sc] ∧ CBox w' ab 51 #[.bool ag, .slice uo aR.length uc] ∧ Tms w' (.slice so zl.length sc) zl ∧ Strs w' (.slice uo aR.length uc) aR ∧ Below w4.heap.size W4 w' ∧ (∀ s, ax = some s → pcheck s.1 s.2.1 s.2.2 = true ∧ (Lit.int .i64 s.2.1).wf = true))
 case first =>
  have hd : Below W4.heap.size W4 W4.drew := Below.drew (Below.refl _ _)
  have hS : CBox W4.drew w.heap.size 39 #[.int .i64 kind, .string (bstr g), .slice ro C.length rc] ∧ CBox W4.drew p 49 #[.int .i64 room, .int .i64 M, .int .i64 L, .map (some b), .map (some o)] := ⟨E1.out.below hd E1.out.lt, EP.out.below hd EP.out.lt⟩
  have HF := Lib.hid (show ∀ wq, (CBox wq w.heap.size 39 #[.int .i64 kind, .string (bstr g), .slice ro C.length rc] ∧ CBox wq p 49 #[.int .i64 room, .int .i64 M, .int .i64 L, .map (some b), .map (some o)]) → wq.cell? ⟨w.heap.size, 0, none⟩ = some (.int .i64 kind) ∧ wq.cell? ⟨w.heap.size, 1, none⟩ = some (.string (bstr g)) ∧ wq.cell? ⟨w.heap.size, 2, none⟩ = some (.slice ro C.length rc) ∧ wq.cell? ⟨p, 1, none⟩ = some (.int .i64 M) ∧ wq.cell? ⟨p, 2, none⟩ = some (.int .i64 L) from fun wq hq =>
   ⟨(hq.1.at_ 0 _ rfl).1, (hq.1.at_ 1 _ rfl).1, (hq.1.at_ 2 _ rfl).1, (hq.2.at_ 1 _ rfl).1, (hq.2.at_ 2 _ rfl).1⟩)
  cases xb
  · clear hxk
    refine wp_region_held_drew (S := fun wq => CBox wq w.heap.size 39 #[.int .i64 kind, .string (bstr g), .slice ro C.length rc] ∧ CBox wq p 49 #[.int .i64 room, .int .i64 M, .int .i64 L, .map (some b), .map (some o)]) (by kernel_rfl) hS (fun hHeld => ?_)
    refine tkL 1 (v := ?_) rfl (by kernel_rfl) (fun _ _ _ => id) (Or.inl ⟨by rfl, ?_⟩) (by assumption) ?_; rotate_left; (focus (intro wq hSq; have f := HF.out wq hSq; go_simp <;> with_reducible rfl)); simp only [Act.put, pA, pB, pC]
    refine tkL 2 (v := ?_) rfl (by kernel_rfl) (fun _ _ _ => id) (Or.inl ⟨by rfl, ?_⟩) (by assumption) ?_; rotate_left; (focus (intro wq hSq; have f := HF.out wq hSq; go_simp <;> with_reducible rfl)); simp only [Act.put, pA, pB, pC]
    refine tkL 3 (v := undef) rfl (by kernel_rfl) (fun _ _ _ h => h) (Or.inr ⟨by rfl, rfl⟩) (by assumption) ?_; simp only [Act.put, pA, pB, pC]
    refine tkL 4 (v := ?_) rfl (by kernel_rfl) (fun _ _ _ => id) (Or.inl ⟨by rfl, ?_⟩) (by assumption) ?_; rotate_left; (focus (intro wq hSq; have f := HF.out wq hSq; go_simp <;> with_reducible rfl)); simp only [Act.put, pA, pB, pC]
    refine tkL 5 (v := ?_) rfl (by kernel_rfl) (fun _ _ _ => id) (Or.inl ⟨by rfl, ?_⟩) (by assumption) ?_; rotate_left; (focus (intro wq hSq; have f := HF.out wq hSq; go_simp <;> with_reducible rfl)); simp only [Act.put, pA, pB, pC]
    refine tkL 6 (v := ?_) rfl (by kernel_rfl) (fun _ _ _ => id) (Or.inl ⟨by rfl, ?_⟩) (by assumption) ?_; rotate_left; (focus (intro wq hSq; have f := HF.out wq hSq; go_simp <;> with_reducible rfl)); simp only [Act.put, pA, pB, pC]
    refine tkL 7 (v := ?_) rfl (by kernel_rfl) (fun _ _ _ => id) (Or.inl ⟨by rfl, ?_⟩) (by assumption) ?_; rotate_left; (focus (intro wq hSq; have f := HF.out wq hSq; go_simp <;> with_reducible rfl)); simp only [Act.put, pA, pB, pC]
    refine tkL 8 (v := ?_) rfl (by kernel_rfl) (fun _ _ _ => id) (Or.inl ⟨by rfl, ?_⟩) (by assumption) ?_; rotate_left; (focus (intro wq hSq; have f := HF.out wq hSq; go_simp <;> with_reducible rfl)); simp only [Act.put, pA, pB, pC]
    refine tkL 9 (v := ?_) rfl (by kernel_rfl) (fun _ _ _ => id) (Or.inl ⟨by rfl, ?_⟩) (by assumption) ?_; rotate_left; (focus (intro wq hSq; have f := HF.out wq hSq; go_simp <;> with_reducible rfl)); simp only [Act.put, pA, pB, pC]
    refine tkL 10 (v := ?_) rfl (by kernel_rfl) (fun _ _ _ => id) (Or.inl ⟨by rfl, ?_⟩) (by assumption) ?_; rotate_left; (focus (intro wq hSq; have f := HF.out wq hSq; go_simp <;> with_reducible rfl)); simp only [Act.put, pA, pB, pC]
    obtain ⟨z0, _⟩ := S4.out.at_ 0 _ rfl
    obtain ⟨z1, _⟩ := S4.out.at_ 1 _ rfl
    obtain ⟨z2, _⟩ := S4.out.at_ 2 _ rfl
    refine wpAnyH_ready (rs := [0, 17]) (by kernel_rfl) (by simp) (nextL 0 rfl (fun Kr hKr => ?_) (nextL 17 rfl (fun Kr hKr => ?_) AllReadyH.nil))
    · go_simp
      refine hKr.out _ _ hS (fun hHeld2 => ?_)
      clear hKr z0 z1 z2 hHeld
      refine wpAnyH_ready (rs := [11, 17]) (by kernel_rfl) (by simp) (nextL 11 rfl (fun Kr hKr => ?_) (nextL 17 rfl (fun Kr hKr => ?_) AllReadyH.nil))
      · go_simp
        refine (HAP.out _ hd).mono ?_
        rintro e w5 ⟨so, sc, uo, uc, rfl, hTz, hUz, hb5, hpc⟩
        have hb45 : Below W4.heap.size W4 w5 := hd.trans hb5
        have G0 := S4.out.below hb45 S4.out.lt
        refine hKr.out _ _ ⟨E1.out.below hb45 E1.out.lt, EP.out.below hb45 EP.out.lt⟩ (fun hHeldC => ?_)
        clear hKr hHeld2
        refine tkL 12 (v := ?_) rfl (by kernel_rfl) (fun _ _ _ => id) (Or.inl ⟨by rfl, ?_⟩) (by assumption) ?_; rotate_left; (focus (intro wq hSq; have f := HF.out wq hSq; go_simp <;> with_reducible rfl)); simp only [Act.put, pA, pB, pC]
        refine tkL 13 (v := ?_) rfl (by kernel_rfl) (fun _ _ _ => id) (Or.inl ⟨by rfl, ?_⟩) (by assumption) ?_; rotate_left; (focus (intro wq hSq; have f := HF.out wq hSq; go_simp <;> with_reducible rfl)); simp only [Act.put, pA, pB, pC]
        refine tkL 14 (v := ?_) rfl (by kernel_rfl) (fun _ _ _ => id) (Or.inl ⟨by rfl, ?_⟩) (by assumption) ?_; rotate_left; (focus (intro wq hSq; have f := HF.out wq hSq; go_simp <;> with_reducible rfl)); simp only [Act.put, pA, pB, pC]
        refine tkL 15 (v := ?_) rfl (by kernel_rfl) (fun _ _ _ => id) (Or.inl ⟨by rfl, ?_⟩) (by assumption) ?_; rotate_left; (focus (intro wq hSq; have f := HF.out wq hSq; go_simp <;> with_reducible rfl)); simp only [Act.put, pA, pB, pC]
        refine tkL 16 (v := ?_) rfl (by kernel_rfl) (fun _ _ _ => id) (Or.inl ⟨by rfl, ?_⟩) (by assumption) ?_; rotate_left; (focus (intro wq hSq; have f := HF.out wq hSq; go_simp <;> with_reducible rfl)); simp only [Act.put, pA, pB, pC]
        have hlt5 : w4.heap.size < w5.heap.size := by have := HL4.out; have := hb45.size; omega
        refine wpAnyH_ready (rs := [17]) (by kernel_rfl) (by simp) (nextL 17 rfl (fun Kr hKr => ?_) AllReadyH.nil)
        · go_simp
          refine hKr.out _ _ ⟨hHeldC.1.old _, hHeldC.2.old _⟩ (fun hHeldD => ?_)
          clear hKr hHeldC
          have hal : Below w5.heap.size w5 (w5.alloc (.cells #[.bool false, .slice none 0 0] 51)) := (Below.refl _ _).alloc (Nat.le_refl _) _
          have G0b := G0.old (.cells #[.bool false, .slice none 0 0] 51)
          have GA := show CBox (w5.alloc (.cells #[.bool false, .slice none 0 0] 51)) w5.heap.size 51 #[.bool false, .slice none 0 0] from CBox.new _ rfl
          have TY := hTz.mono hal
          have UY := hUz.mono hal
          have BY := (hb45.trans (hal.mono hb45.size)).mono (show w4.heap.size ≤ W4.heap.size from by have := HL4.out; omega)
          clear hal hTz hUz hb5 hb45 G0
          generalize w5.alloc (.cells #[.bool false, .slice none 0 0] 51) = Y at hHeldD G0b GA TY UY BY ⊢
          obtain ⟨q0, qf0⟩ := G0b.at_ 0 _ rfl
          obtain ⟨q1, qf1⟩ := G0b.at_ 1 _ rfl
          obtain ⟨q2, qf2⟩ := G0b.at_ 2 _ rfl
          refine wpAnyH_ready (rs := [18]) (by kernel_rfl) (by simp) (nextL 18 rfl (fun Kr hKr => ?_) AllReadyH.nil)
          go_simp
          refine hKr.out _ _ ⟨far_s hHeldD.1 (by have := HL4.out; omega) _ _ _, far_s hHeldD.2 (by have := HL4.out; omega) _ _ _⟩ (fun hHeldS => ?_)
          clear hKr hHeldD
          refine tkL 19 (v := ?_) rfl (by kernel_rfl) (fun _ _ _ => id) (Or.inl ⟨by rfl, ?_⟩) (by assumption) ?_; rotate_left; (focus (intro wq hSq; have f := HF.out wq hSq; go_simp <;> with_reducible rfl)); simp only [Act.put, pA, pB, pC]
          have F1 := end_s G0b TY UY (.bool za) (.int .i64 zt) (.slice so zl.length sc)
          have G1 := F1.1
          have G2 := far_s GA (sb := w4.heap.size) (by omega) (.bool za) (.int .i64 zt) (.slice so zl.length sc)
          have G3 := F1.2.1
          have G4 := F1.2.2
          have G5 := below_s BY (Nat.le_refl w4.heap.size) (.bool za) (.int .i64 zt) (.slice so zl.length sc)
          obtain ⟨t0, tf0⟩ := G2.at_ 0 _ rfl
          obtain ⟨t1, tf1⟩ := G2.at_ 1 _ rfl
          refine wpAnyH_ready (rs := [20]) (by kernel_rfl) (by simp) (nextL 20 rfl (fun Kr hKr => ?_) AllReadyH.nil)
          go_simp
          refine hKr.out _ _ ⟨far_a hHeldS.1 (by have := HL4.out; omega) _ _, far_a hHeldS.2 (by have := HL4.out; omega) _ _⟩ (fun hHeldE => ?_)
          clear hKr hHeldS
          refine tkL 21 (v := ?_) rfl (by kernel_rfl) (fun _ _ _ => id) (Or.inl ⟨by rfl, ?_⟩) (by assumption) ?_; rotate_left; (focus (intro wq hSq; have f := HF.out wq hSq; go_simp <;> with_reducible rfl)); simp only [Act.put, pA, pB, pC]
          refine wpAnyH_done (by kernel_rfl) ?_ _
          have F2 := end_a G2 G3 G4 (.bool ag) (.slice uo aR.length uc)
          go_wp2_with fail
          go_meet
          case rel => exact ⟨_, so, sc, uo, uc, rfl, rfl, rfl, hlt5, far_a G1 (by omega) _ _, F2.1, F2.2.1, F2.2.2, below_a G5 (by omega) _ _, hpc⟩
      · go_simp
        refine hKr.out _ _ ⟨hS.1.old _, hS.2.old _⟩ (fun hHeld3 => ?_)
        clear hKr hHeld2
        refine wpAnyH_ready (rs := [11]) (by kernel_rfl) (by simp) (nextL 11 rfl (fun Kr hKr => ?_) AllReadyH.nil)
        go_simp
        refine (HAP.out _ (hd.alloc hd.size _)).mono ?_
        rintro e w5 ⟨so, sc, uo, uc, rfl, hTz, hUz, hb5, hpc⟩
        have G0 := (S4.out.below (hd.alloc hd.size (.cells #[.bool false, .slice none 0 0] 51)) S4.out.lt).below hb5 (by simp; have := HL4.out; omega)
        have G0a := (show CBox (W4.drew.alloc (.cells #[.bool false, .slice none 0 0] 51)) W4.heap.size 51 #[.bool false, .slice none 0 0] from CBox.new _ rfl).below hb5 (by simp)
        have hb45 : Below W4.heap.size W4 w5 := (hd.alloc hd.size (.cells #[.bool false, .slice none 0 0] 51)).trans (hb5.mono (by simp))
        refine hKr.out _ _ ⟨E1.out.below hb45 E1.out.lt, EP.out.below hb45 EP.out.lt⟩ (fun hHeldC => ?_)
        clear hKr
        refine tkL 12 (v := ?_) rfl (by kernel_rfl) (fun _ _ _ => id) (Or.inl ⟨by rfl, ?_⟩) (by assumption) ?_; rotate_left; (focus (intro wq hSq; have f := HF.out wq hSq; go_simp <;> with_reducible rfl)); simp only [Act.put, pA, pB, pC]
        refine tkL 13 (v := ?_) rfl (by kernel_rfl) (fun _ _ _ => id) (Or.inl ⟨by rfl, ?_⟩) (by assumption) ?_; rotate_left; (focus (intro wq hSq; have f := HF.out wq hSq; go_simp <;> with_reducible rfl)); simp only [Act.put, pA, pB, pC]
        refine tkL 14 (v := ?_) rfl (by kernel_rfl) (fun _ _ _ => id) (Or.inl ⟨by rfl, ?_⟩) (by assumption) ?_; rotate_left; (focus (intro wq hSq; have f := HF.out wq hSq; go_simp <;> with_reducible rfl)); simp only [Act.put, pA, pB, pC]
        refine tkL 15 (v := ?_) rfl (by kernel_rfl) (fun _ _ _ => id) (Or.inl ⟨by rfl, ?_⟩) (by assumption) ?_; rotate_left; (focus (intro wq hSq; have f := HF.out wq hSq; go_simp <;> with_reducible rfl)); simp only [Act.put, pA, pB, pC]
        refine tkL 16 (v := ?_) rfl (by kernel_rfl) (fun _ _ _ => id) (Or.inl ⟨by rfl, ?_⟩) (by assumption) ?_; rotate_left; (focus (intro wq hSq; have f := HF.out wq hSq; go_simp <;> with_reducible rfl)); simp only [Act.put, pA, pB, pC]
        have hlt5 : w4.heap.size < W4.heap.size := by have := HL4.out; omega
        obtain ⟨q0, qf0⟩ := G0.at_ 0 _ rfl
        obtain ⟨q1, qf1⟩ := G0.at_ 1 _ rfl
        obtain ⟨q2, qf2⟩ := G0.at_ 2 _ rfl
        refine wpAnyH_ready (rs := [18]) (by kernel_rfl) (by simp) (nextL 18 rfl (fun Kr hKr => ?_) AllReadyH.nil)
        go_simp
        refine hKr.out _ _ ⟨far_s hHeldC.1 (by have := HL4.out; omega) _ _ _, far_s hHeldC.2 (by have := HL4.out; omega) _ _ _⟩ (fun hHeldS => ?_)
        clear hKr hHeldC
        refine tkL 19 (v := ?_) rfl (by kernel_rfl) (fun _ _ _ => id) (Or.inl ⟨by rfl, ?_⟩) (by assumption) ?_; rotate_left; (focus (intro wq hSq; have f := HF.out wq hSq; go_simp <;> with_reducible rfl)); simp only [Act.put, pA, pB, pC]
        have F1 := end_s G0 hTz hUz (.bool za) (.int .i64 zt) (.slice so zl.length sc)
        have G1 := F1.1
        have G2 := far_s G0a (sb := w4.heap.size) (by omega) (.bool za) (.int .i64 zt) (.slice so zl.length sc)
        have G3 := F1.2.1
        have G4 := F1.2.2
        have G5 := below_s (hb45.mono (Nat.le_of_lt hlt5)) (Nat.le_refl w4.heap.size) (.bool za) (.int .i64 zt) (.slice so zl.length sc)
        obtain ⟨t0, tf0⟩ := G2.at_ 0 _ rfl
        obtain ⟨t1, tf1⟩ := G2.at_ 1 _ rfl
        refine wpAnyH_ready (rs := [20]) (by kernel_rfl) (by simp) (nextL 20 rfl (fun Kr hKr => ?_) AllReadyH.nil)
        go_simp
        refine hKr.out _ _ ⟨far_a hHeldS.1 (by have := HL4.out; omega) _ _, far_a hHeldS.2 (by have := HL4.out; omega) _ _⟩ (fun hHeldE => ?_)
        clear hKr hHeldS
        refine tkL 21 (v := ?_) rfl (by kernel_rfl) (fun _ _ _ => id) (Or.inl ⟨by rfl, ?_⟩) (by assumption) ?_; rotate_left; (focus (intro wq hSq; have f := HF.out wq hSq; go_simp <;> with_reducible rfl)); simp only [Act.put, pA, pB, pC]
        refine wpAnyH_done (by kernel_rfl) ?_ _
        have F2 := end_a G2 G3 G4 (.bool ag) (.slice uo aR.length uc)
        go_wp2_with fail
        go_meet
        case rel => exact ⟨_, so, sc, uo, uc, rfl, rfl, rfl, hlt5, far_a G1 (by omega) _ _, F2.1, F2.2.1, F2.2.2, below_a G5 (by omega) _ _, hpc⟩
    · go_simp
      refine hKr.out _ _ ⟨hS.1.old _, hS.2.old _⟩ (fun hHeld3 => ?_)
      clear hKr hHeld
      have Z4 := show CBox (W4.alloc (.cells #[.bool false, .slice none 0 0] 51)).drew w4.heap.size 71 #[.bool xa, .int .i64 xt, .slice xo xl.length xc] from S4.out.old (.cells #[.bool false, .slice none 0 0] 51)
      obtain ⟨z0, _⟩ := Z4.at_ 0 _ rfl
      obtain ⟨z1, _⟩ := Z4.at_ 1 _ rfl
      obtain ⟨z2, _⟩ := Z4.at_ 2 _ rfl
      refine wpAnyH_ready (rs := [0]) (by kernel_rfl) (by simp) (nextL 0 rfl (fun Kr hKr => ?_) AllReadyH.nil)
      go_simp
      refine hKr.out _ _ ⟨hS.1.old _, hS.2.old _⟩ (fun hHeld4 => ?_)
      clear hKr z0 z1 z2 Z4 hHeld3
      refine wpAnyH_ready (rs := [11]) (by kernel_rfl) (by simp) (nextL 11 rfl (fun Kr hKr => ?_) AllReadyH.nil)
      go_simp
      refine (HAP.out _ (hd.alloc hd.size _)).mono ?_
      rintro e w5 ⟨so, sc, uo, uc, rfl, hTz, hUz, hb5, hpc⟩
      have G0 := (S4.out.below (hd.alloc hd.size (.cells #[.bool false, .slice none 0 0] 51)) S4.out.lt).below hb5 (by simp; have := HL4.out; omega)
      have G0a := (show CBox (W4.drew.alloc (.cells #[.bool false, .slice none 0 0] 51)) W4.heap.size 51 #[.bool false, .slice none 0 0] from CBox.new _ rfl).below hb5 (by simp)
      have hb45 : Below W4.heap.size W4 w5 := (hd.alloc hd.size (.cells #[.bool false, .slice none 0 0] 51)).trans (hb5.mono (by simp))
      refine hKr.out _ _ ⟨E1.out.below hb45 E1.out.lt, EP.out.below hb45 EP.out.lt⟩ (fun hHeldC => ?_)
      clear hKr
      refine tkL 12 (v := ?_) rfl (by kernel_rfl) (fun _ _ _ => id) (Or.inl ⟨by rfl, ?_⟩) (by assumption) ?_; rotate_left; (focus (intro wq hSq; have f := HF.out wq hSq; go_simp <;> with_reducible rfl)); simp only [Act.put, pA, pB, pC]
      refine tkL 13 (v := ?_) rfl (by kernel_rfl) (fun _ _ _ => id) (Or.inl ⟨by rfl, ?_⟩) (by assumption) ?_; rotate_left; (focus (intro wq hSq; have f := HF.out wq hSq; go_simp <;> with_reducible rfl)); simp only [Act.put, pA, pB, pC]
      refine tkL 14 (v := ?_) rfl (by kernel_rfl) (fun _ _ _ => id) (Or.inl ⟨by rfl, ?_⟩) (by assumption) ?_; rotate_left; (focus (intro wq hSq; have f := HF.out wq hSq; go_simp <;> with_reducible rfl)); simp only [Act.put, pA, pB, pC]
      refine tkL 15 (v := ?_) rfl (by kernel_rfl) (fun _ _ _ => id) (Or.inl ⟨by rfl, ?_⟩) (by assumption) ?_; rotate_left; (focus (intro wq hSq; have f := HF.out wq hSq; go_simp <;> with_reducible rfl)); simp only [Act.put, pA, pB, pC]
      refine tkL 16 (v := ?_) rfl (by kernel_rfl) (fun _ _ _ => id) (Or.inl ⟨by rfl, ?_⟩) (by assumption) ?_; rotate_left; (focus (intro wq hSq; have f := HF.out wq hSq; go_simp <;> with_reducible rfl)); simp only [Act.put, pA, pB, pC]
      have hlt5 : w4.heap.size < W4.heap.size := by have := HL4.out; omega
      obtain ⟨q0, qf0⟩ := G0.at_ 0 _ rfl
      obtain ⟨q1, qf1⟩ := G0.at_ 1 _ rfl
      obtain ⟨q2, qf2⟩ := G0.at_ 2 _ rfl
      refine wpAnyH_ready (rs := [18]) (by kernel_rfl) (by simp) (nextL 18 rfl (fun Kr hKr => ?_) AllReadyH.nil)
      go_simp
      refine hKr.out _ _ ⟨far_s hHeldC.1 (by have := HL4.out; omega) _ _ _, far_s hHeldC.2 (by have := HL4.out; omega) _ _ _⟩ (fun hHeldS => ?_)
      clear hKr hHeldC
      refine tkL 19 (v := ?_) rfl (by kernel_rfl) (fun _ _ _ => id) (Or.inl ⟨by rfl, ?_⟩) (by assumption) ?_; rotate_left; (focus (intro wq hSq; have f := HF.out wq hSq; go_simp <;> with_reducible rfl)); simp only [Act.put, pA, pB, pC]
      have F1 := end_s G0 hTz hUz (.bool za) (.int .i64 zt) (.slice so zl.length sc)
      have G1 := F1.1
      have G2 := far_s G0a (sb := w4.heap.size) (by omega) (.bool za) (.int .i64 zt) (.slice so zl.length sc)
      have G3 := F1.2.1
      have G4 := F1.2.2
      have G5 := below_s (hb45.mono (Nat.le_of_lt hlt5)) (Nat.le_refl w4.heap.size) (.bool za) (.int .i64 zt) (.slice so zl.length sc)
      obtain ⟨t0, tf0⟩ := G2.at_ 0 _ rfl
      obtain ⟨t1, tf1⟩ := G2.at_ 1 _ rfl
      refine wpAnyH_ready (rs := [20]) (by kernel_rfl) (by simp) (nextL 20 rfl (fun Kr hKr => ?_) AllReadyH.nil)
      go_simp
      refine hKr.out _ _ ⟨far_a hHeldS.1 (by have := HL4.out; omega) _ _, far_a hHeldS.2 (by have := HL4.out; omega) _ _⟩ (fun hHeldE => ?_)
      clear hKr hHeldS
      refine tkL 21 (v := ?_) rfl (by kernel_rfl) (fun _ _ _ => id) (Or.inl ⟨by rfl, ?_⟩) (by assumption) ?_; rotate_left; (focus (intro wq hSq; have f := HF.out wq hSq; go_simp <;> with_reducible rfl)); simp only [Act.put, pA, pB, pC]
      refine wpAnyH_done (by kernel_rfl) ?_ _
      have F2 := end_a G2 G3 G4 (.bool ag) (.slice uo aR.length uc)
      go_wp2_with fail
      go_meet
      case rel => exact ⟨_, so, sc, uo, uc, rfl, rfl, rfl, hlt5, far_a G1 (by omega) _ _, F2.1, F2.2.1, F2.2.2, below_a G5 (by omega) _ _, hpc⟩
  · obtain rfl : is = true := hxk rfl
    clear hxk
    refine wp_region_held_drew (S := fun wq => CBox wq w.heap.size 39 #[.int .i64 kind, .string (bstr g), .slice ro C.length rc] ∧ CBox wq p 49 #[.int .i64 room, .int .i64 M, .int .i64 L, .map (some b), .map (some o)]) (by kernel_rfl) hS (fun hHeld => ?_)
    refine tkL 1 (v := ?_) rfl (by kernel_rfl) (fun _ _ _ => id) (Or.inl ⟨by rfl, ?_⟩) (by assumption) ?_; rotate_left; (focus (intro wq hSq; have f := HF.out wq hSq; go_simp <;> with_reducible rfl)); simp only [Act.put, pA, pB, pC]
    refine tkL 2 (v := ?_) rfl (by kernel_rfl) (fun _ _ _ => id) (Or.inl ⟨by rfl, ?_⟩) (by assumption) ?_; rotate_left; (focus (intro wq hSq; have f := HF.out wq hSq; go_simp <;> with_reducible rfl)); simp only [Act.put, pA, pB, pC]
    refine tkL 3 (v := ?_) rfl (by kernel_rfl) (fun _ _ _ => id) (Or.inl ⟨by rfl, ?_⟩) (by assumption) ?_; rotate_left; (focus (intro wq hSq; have f := HF.out wq hSq; go_simp <;> with_reducible rfl)); simp only [Act.put, pA, pB, pC]
    refine tkL 4 (v := ?_) rfl (by kernel_rfl) (fun _ _ _ => id) (Or.inl ⟨by rfl, ?_⟩) (by assumption) ?_; rotate_left; (focus (intro wq hSq; have f := HF.out wq hSq; go_simp <;> with_reducible rfl)); simp only [Act.put, pA, pB, pC]
    refine tkL 5 (v := ?_) rfl (by kernel_rfl) (fun _ _ _ => id) (Or.inl ⟨by rfl, ?_⟩) (by assumption) ?_; rotate_left; (focus (intro wq hSq; have f := HF.out wq hSq; go_simp <;> with_reducible rfl)); simp only [Act.put, pA, pB, pC]
    refine tkL 6 (v := ?_) rfl (by kernel_rfl) (fun _ _ _ => id) (Or.inl ⟨by rfl, ?_⟩) (by assumption) ?_; rotate_left; (focus (intro wq hSq; have f := HF.out wq hSq; go_simp <;> with_reducible rfl)); simp only [Act.put, pA, pB, pC]
    refine tkL 7 (v := ?_) rfl (by kernel_rfl) (fun _ _ _ => id) (Or.inl ⟨by rfl, ?_⟩) (by assumption) ?_; rotate_left; (focus (intro wq hSq; have f := HF.out wq hSq; go_simp <;> with_reducible rfl)); simp only [Act.put, pA, pB, pC]
    refine tkL 8 (v := ?_) rfl (by kernel_rfl) (fun _ _ _ => id) (Or.inl ⟨by rfl, ?_⟩) (by assumption) ?_; rotate_left; (focus (intro wq hSq; have f := HF.out wq hSq; go_simp <;> with_reducible rfl)); simp only [Act.put, pA, pB, pC]
    refine tkL 9 (v := ?_) rfl (by kernel_rfl) (fun _ _ _ => id) (Or.inl ⟨by rfl, ?_⟩) (by assumption) ?_; rotate_left; (focus (intro wq hSq; have f := HF.out wq hSq; go_simp <;> with_reducible rfl)); simp only [Act.put, pA, pB, pC]
    refine tkL 10 (v := ?_) rfl (by kernel_rfl) (fun _ _ _ => id) (Or.inl ⟨by rfl, ?_⟩) (by assumption) ?_; rotate_left; (focus (intro wq hSq; have f := HF.out wq hSq; go_simp <;> with_reducible rfl)); simp only [Act.put, pA, pB, pC]
    obtain ⟨z0, _⟩ := S4.out.at_ 0 _ rfl
    obtain ⟨z1, _⟩ := S4.out.at_ 1 _ rfl
    obtain ⟨z2, _⟩ := S4.out.at_ 2 _ rfl
    refine wpAnyH_ready (rs := [0, 17]) (by kernel_rfl) (by simp) (nextL 0 rfl (fun Kr hKr => ?_) (nextL 17 rfl (fun Kr hKr => ?_) AllReadyH.nil))
    · go_simp
      refine hKr.out _ _ hS (fun hHeld2 => ?_)
      clear hKr z0 z1 z2 hHeld
      refine wpAnyH_ready (rs := [11, 17]) (by kernel_rfl) (by simp) (nextL 11 rfl (fun Kr hKr => ?_) (nextL 17 rfl (fun Kr hKr => ?_) AllReadyH.nil))
      · go_simp
        refine (HAP.out _ hd).mono ?_
        rintro e w5 ⟨so, sc, uo, uc, rfl, hTz, hUz, hb5, hpc⟩
        have hb45 : Below W4.heap.size W4 w5 := hd.trans hb5
        have G0 := S4.out.below hb45 S4.out.lt
        refine hKr.out _ _ ⟨E1.out.below hb45 E1.out.lt, EP.out.below hb45 EP.out.lt⟩ (fun hHeldC => ?_)
        clear hKr hHeld2
        refine tkL 12 (v := ?_) rfl (by kernel_rfl) (fun _ _ _ => id) (Or.inl ⟨by rfl, ?_⟩) (by assumption) ?_; rotate_left; (focus (intro wq hSq; have f := HF.out wq hSq; go_simp <;> with_reducible rfl)); simp only [Act.put, pA, pB, pC]
        refine tkL 13 (v := ?_) rfl (by kernel_rfl) (fun _ _ _ => id) (Or.inl ⟨by rfl, ?_⟩) (by assumption) ?_; rotate_left; (focus (intro wq hSq; have f := HF.out wq hSq; go_simp <;> with_reducible rfl)); simp only [Act.put, pA, pB, pC]
        refine tkL 14 (v := ?_) rfl (by kernel_rfl) (fun _ _ _ => id) (Or.inl ⟨by rfl, ?_⟩) (by assumption) ?_; rotate_left; (focus (intro wq hSq; have f := HF.out wq hSq; go_simp <;> with_reducible rfl)); simp only [Act.put, pA, pB, pC]
        refine tkL 15 (v := ?_) rfl (by kernel_rfl) (fun _ _ _ => id) (Or.inl ⟨by rfl, ?_⟩) (by assumption) ?_; rotate_left; (focus (intro wq hSq; have f := HF.out wq hSq; go_simp <;> with_reducible rfl)); simp only [Act.put, pA, pB, pC]
        refine tkL 16 (v := ?_) rfl (by kernel_rfl) (fun _ _ _ => id) (Or.inl ⟨by rfl, ?_⟩) (by assumption) ?_; rotate_left; (focus (intro wq hSq; have f := HF.out wq hSq; go_simp <;> with_reducible rfl)); simp only [Act.put, pA, pB, pC]
        have hlt5 : w4.heap.size < w5.heap.size := by have := HL4.out; have := hb45.size; omega
        refine wpAnyH_ready (rs := [17]) (by kernel_rfl) (by simp) (nextL 17 rfl (fun Kr hKr => ?_) AllReadyH.nil)
        · go_simp
          refine hKr.out _ _ ⟨hHeldC.1.old _, hHeldC.2.old _⟩ (fun hHeldD => ?_)
          clear hKr hHeldC
          have hal : Below w5.heap.size w5 (w5.alloc (.cells #[.bool false, .slice none 0 0] 51)) := (Below.refl _ _).alloc (Nat.le_refl _) _
          have G0b := G0.old (.cells #[.bool false, .slice none 0 0] 51)
          have GA := show CBox (w5.alloc (.cells #[.bool false, .slice none 0 0] 51)) w5.heap.size 51 #[.bool false, .slice none 0 0] from CBox.new _ rfl
          have TY := hTz.mono hal
          have UY := hUz.mono hal
          have BY := (hb45.trans (hal.mono hb45.size)).mono (show w4.heap.size ≤ W4.heap.size from by have := HL4.out; omega)
          clear hal hTz hUz hb5 hb45 G0
          generalize w5.alloc (.cells #[.bool false, .slice none 0 0] 51) = Y at hHeldD G0b GA TY UY BY ⊢
          obtain ⟨q0, qf0⟩ := G0b.at_ 0 _ rfl
          obtain ⟨q1, qf1⟩ := G0b.at_ 1 _ rfl
          obtain ⟨q2, qf2⟩ := G0b.at_ 2 _ rfl
          refine wpAnyH_ready (rs := [18]) (by kernel_rfl) (by simp) (nextL 18 rfl (fun Kr hKr => ?_) AllReadyH.nil)
          go_simp
          refine hKr.out _ _ ⟨far_s hHeldD.1 (by have := HL4.out; omega) _ _ _, far_s hHeldD.2 (by have := HL4.out; omega) _ _ _⟩ (fun hHeldS => ?_)
          clear hKr hHeldD
          refine tkL 19 (v := ?_) rfl (by kernel_rfl) (fun _ _ _ => id) (Or.inl ⟨by rfl, ?_⟩) (by assumption) ?_; rotate_left; (focus (intro wq hSq; have f := HF.out wq hSq; go_simp <;> with_reducible rfl)); simp only [Act.put, pA, pB, pC]
          have F1 := end_s G0b TY UY (.bool za) (.int .i64 zt) (.slice so zl.length sc)
          have G1 := F1.1
          have G2 := far_s GA (sb := w4.heap.size) (by omega) (.bool za) (.int .i64 zt) (.slice so zl.length sc)
          have G3 := F1.2.1
          have G4 := F1.2.2
          have G5 := below_s BY (Nat.le_refl w4.heap.size) (.bool za) (.int .i64 zt) (.slice so zl.length sc)
          obtain ⟨t0, tf0⟩ := G2.at_ 0 _ rfl
          obtain ⟨t1, tf1⟩ := G2.at_ 1 _ rfl
          refine wpAnyH_ready (rs := [20]) (by kernel_rfl) (by simp) (nextL 20 rfl (fun Kr hKr => ?_) AllReadyH.nil)
          go_simp
          refine hKr.out _ _ ⟨far_a hHeldS.1 (by have := HL4.out; omega) _ _, far_a hHeldS.2 (by have := HL4.out; omega) _ _⟩ (fun hHeldE => ?_)
          clear hKr hHeldS
          refine tkL 21 (v := ?_) rfl (by kernel_rfl) (fun _ _ _ => id) (Or.inl ⟨by rfl, ?_⟩) (by assumption) ?_; rotate_left; (focus (intro wq hSq; have f := HF.out wq hSq; go_simp <;> with_reducible rfl)); simp only [Act.put, pA, pB, pC]
          refine wpAnyH_done (by kernel_rfl) ?_ _
          have F2 := end_a G2 G3 G4 (.bool ag) (.slice uo aR.length uc)
          go_wp2_with fail
          go_meet
          case rel => exact ⟨_, so, sc, uo, uc, rfl, rfl, rfl, hlt5, far_a G1 (by omega) _ _, F2.1, F2.2.1, F2.2.2, below_a G5 (by omega) _ _, hpc⟩
      · go_simp
        refine hKr.out _ _ ⟨hS.1.old _, hS.2.old _⟩ (fun hHeld3 => ?_)
        clear hKr hHeld2
        refine wpAnyH_ready (rs := [11]) (by kernel_rfl) (by simp) (nextL 11 rfl (fun Kr hKr => ?_) AllReadyH.nil)
        go_simp
        refine (HAP.out _ (hd.alloc hd.size _)).mono ?_
        rintro e w5 ⟨so, sc, uo, uc, rfl, hTz, hUz, hb5, hpc⟩
        have G0 := (S4.out.below (hd.alloc hd.size (.cells #[.bool false, .slice none 0 0] 51)) S4.out.lt).below hb5 (by simp; have := HL4.out; omega)
        have G0a := (show CBox (W4.drew.alloc (.cells #[.bool false, .slice none 0 0] 51)) W4.heap.size 51 #[.bool false, .slice none 0 0] from CBox.new _ rfl).below hb5 (by simp)
        have hb45 : Below W4.heap.size W4 w5 := (hd.alloc hd.size (.cells #[.bool false, .slice none 0 0] 51)).trans (hb5.mono (by simp))
        refine hKr.out _ _ ⟨E1.out.below hb45 E1.out.lt, EP.out.below hb45 EP.out.lt⟩ (fun hHeldC => ?_)
        clear hKr
        refine tkL 12 (v := ?_) rfl (by kernel_rfl) (fun _ _ _ => id) (Or.inl ⟨by rfl, ?_⟩) (by assumption) ?_; rotate_left; (focus (intro wq hSq; have f := HF.out wq hSq; go_simp <;> with_reducible rfl)); simp only [Act.put, pA, pB, pC]
        refine tkL 13 (v := ?_) rfl (by kernel_rfl) (fun _ _ _ => id) (Or.inl ⟨by rfl, ?_⟩) (by assumption) ?_; rotate_left; (focus (intro wq hSq; have f := HF.out wq hSq; go_simp <;> with_reducible rfl)); simp only [Act.put, pA, pB, pC]
        refine tkL 14 (v := ?_) rfl (by kernel_rfl) (fun _ _ _ => id) (Or.inl ⟨by rfl, ?_⟩) (by assumption) ?_; rotate_left; (focus (intro wq hSq; have f := HF.out wq hSq; go_simp <;> with_reducible rfl)); simp only [Act.put, pA, pB, pC]
        refine tkL 15 (v := ?_) rfl (by kernel_rfl) (fun _ _ _ => id) (Or.inl ⟨by rfl, ?_⟩) (by assumption) ?_; rotate_left; (focus (intro wq hSq; have f := HF.out wq hSq; go_simp <;> with_reducible rfl)); simp only [Act.put, pA, pB, pC]
        refine tkL 16 (v := ?_) rfl (by kernel_rfl) (fun _ _ _ => id) (Or.inl ⟨by rfl, ?_⟩) (by assumption) ?_; rotate_left; (focus (intro wq hSq; have f := HF.out wq hSq; go_simp <;> with_reducible rfl)); simp only [Act.put, pA, pB, pC]
        have hlt5 : w4.heap.size < W4.heap.size := by have := HL4.out; omega
        obtain ⟨q0, qf0⟩ := G0.at_ 0 _ rfl
        obtain ⟨q1, qf1⟩ := G0.at_ 1 _ rfl
        obtain ⟨q2, qf2⟩ := G0.at_ 2 _ rfl
        refine wpAnyH_ready (rs := [18]) (by kernel_rfl) (by simp) (nextL 18 rfl (fun Kr hKr => ?_) AllReadyH.nil)
        go_simp
        refine hKr.out _ _ ⟨far_s hHeldC.1 (by have := HL4.out; omega) _ _ _, far_s hHeldC.2 (by have := HL4.out; omega) _ _ _⟩ (fun hHeldS => ?_)
        clear hKr hHeldC
        refine tkL 19 (v := ?_) rfl (by kernel_rfl) (fun _ _ _ => id) (Or.inl ⟨by rfl, ?_⟩) (by assumption) ?_; rotate_left; (focus (intro wq hSq; have f := HF.out wq hSq; go_simp <;> with_reducible rfl)); simp only [Act.put, pA, pB, pC]
        have F1 := end_s G0 hTz hUz (.bool za) (.int .i64 zt) (.slice so zl.length sc)
        have G1 := F1.1
        have G2 := far_s G0a (sb := w4.heap.size) (by omega) (.bool za) (.int .i64 zt) (.slice so zl.length sc)
        have G3 := F1.2.1
        have G4 := F1.2.2
        have G5 := below_s (hb45.mono (Nat.le_of_lt hlt5)) (Nat.le_refl w4.heap.size) (.bool za) (.int .i64 zt) (.slice so zl.length sc)
        obtain ⟨t0, tf0⟩ := G2.at_ 0 _ rfl
        obtain ⟨t1, tf1⟩ := G2.at_ 1 _ rfl
        refine wpAnyH_ready (rs := [20]) (by kernel_rfl) (by simp) (nextL 20 rfl (fun Kr hKr => ?_) AllReadyH.nil)
        go_simp
        refine hKr.out _ _ ⟨far_a hHeldS.1 (by have := HL4.out; omega) _ _, far_a hHeldS.2 (by have := HL4.out; omega) _ _⟩ (fun hHeldE => ?_)
        clear hKr hHeldS
        refine tkL 21 (v := ?_) rfl (by kernel_rfl) (fun _ _ _ => id) (Or.inl ⟨by rfl, ?_⟩) (by assumption) ?_; rotate_left; (focus (intro wq hSq; have f := HF.out wq hSq; go_simp <;> with_reducible rfl)); simp only [Act.put, pA, pB, pC]
        refine wpAnyH_done (by kernel_rfl) ?_ _
        have F2 := end_a G2 G3 G4 (.bool ag) (.slice uo aR.length uc)
        go_wp2_with fail
        go_meet
        case rel => exact ⟨_, so, sc, uo, uc, rfl, rfl, rfl, hlt5, far_a G1 (by omega) _ _, F2.1, F2.2.1, F2.2.2, below_a G5 (by omega) _ _, hpc⟩
    · go_simp
      refine hKr.out _ _ ⟨hS.1.old _, hS.2.old _⟩ (fun hHeld3 => ?_)
      clear hKr hHeld
      have Z4 := show CBox (W4.alloc (.cells #[.bool false, .slice none 0 0] 51)).drew w4.heap.size 71 #[.bool xa, .int .i64 xt, .slice xo xl.length xc] from S4.out.old (.cells #[.bool false, .slice none 0 0] 51)
      obtain ⟨z0, _⟩ := Z4.at_ 0 _ rfl
      obtain ⟨z1, _⟩ := Z4.at_ 1 _ rfl
      obtain ⟨z2, _⟩ := Z4.at_ 2 _ rfl
      refine wpAnyH_ready (rs := [0]) (by kernel_rfl) (by simp) (nextL 0 rfl (fun Kr hKr => ?_) AllReadyH.nil)
      go_simp
      refine hKr.out _ _ ⟨hS.1.old _, hS.2.old _⟩ (fun hHeld4 => ?_)
      clear hKr z0 z1 z2 Z4 hHeld3
      refine wpAnyH_ready (rs := [11]) (by kernel_rfl) (by simp) (nextL 11 rfl (fun Kr hKr => ?_) AllReadyH.nil)
      go_simp
      refine (HAP.out _ (hd.alloc hd.size _)).mono ?_
      rintro e w5 ⟨so, sc, uo, uc, rfl, hTz, hUz, hb5, hpc⟩
      have G0 := (S4.out.below (hd.alloc hd.size (.cells #[.bool false, .slice none 0 0] 51)) S4.out.lt).below hb5 (by simp; have := HL4.out; omega)
      have G0a := (show CBox (W4.drew.alloc (.cells #[.bool false, .slice none 0 0] 51)) W4.heap.size 51 #[.bool false, .slice none 0 0] from CBox.new _ rfl).below hb5 (by simp)
      have hb45 : Below W4.heap.size W4 w5 := (hd.alloc hd.size (.cells #[.bool false, .slice none 0 0] 51)).trans (hb5.mono (by simp))
      refine hKr.out _ _ ⟨E1.out.below hb45 E1.out.lt, EP.out.below hb45 EP.out.lt⟩ (fun hHeldC => ?_)
      clear hKr
      refine tkL 12 (v := ?_) rfl (by kernel_rfl) (fun _ _ _ => id) (Or.inl ⟨by rfl, ?_⟩) (by assumption) ?_; rotate_left; (focus (intro wq hSq; have f := HF.out wq hSq; go_simp <;> with_reducible rfl)); simp only [Act.put, pA, pB, pC]
      refine tkL 13 (v := ?_) rfl (by kernel_rfl) (fun _ _ _ => id) (Or.inl ⟨by rfl, ?_⟩) (by assumption) ?_; rotate_left; (focus (intro wq hSq; have f := HF.out wq hSq; go_simp <;> with_reducible rfl)); simp only [Act.put, pA, pB, pC]
      refine tkL 14 (v := ?_) rfl (by kernel_rfl) (fun _ _ _ => id) (Or.inl ⟨by rfl, ?_⟩) (by assumption) ?_; rotate_left; (focus (intro wq hSq; have f := HF.out wq hSq; go_simp <;> with_reducible rfl)); simp only [Act.put, pA, pB, pC]
      refine tkL 15 (v := ?_) rfl (by kernel_rfl) (fun _ _ _ => id) (Or.inl ⟨by rfl, ?_⟩) (by assumption) ?_; rotate_left; (focus (intro wq hSq; have f := HF.out wq hSq; go_simp <;> with_reducible rfl)); simp only [Act.put, pA, pB, pC]
      refine tkL 16 (v := ?_) rfl (by kernel_rfl) (fun _ _ _ => id) (Or.inl ⟨by rfl, ?_⟩) (by assumption) ?_; rotate_left; (focus (intro wq hSq; have f := HF.out wq hSq; go_simp <;> with_reducible rfl)); simp only [Act.put, pA, pB, pC]
      have hlt5 : w4.heap.size < W4.heap.size := by have := HL4.out; omega
      obtain ⟨q0, qf0⟩ := G0.at_ 0 _ rfl
      obtain ⟨q1, qf1⟩ := G0.at_ 1 _ rfl
      obtain ⟨q2, qf2⟩ := G0.at_ 2 _ rfl
      refine wpAnyH_ready (rs := [18]) (by kernel_rfl) (by simp) (nextL 18 rfl (fun Kr hKr => ?_) AllReadyH.nil)
      go_simp
      refine hKr.out _ _ ⟨far_s hHeldC.1 (by have := HL4.out; omega) _ _ _, far_s hHeldC.2 (by have := HL4.out; omega) _ _ _⟩ (fun hHeldS => ?_)
      clear hKr hHeldC
      refine tkL 19 (v := ?_) rfl (by kernel_rfl) (fun _ _ _ => id) (Or.inl ⟨by rfl, ?_⟩) (by assumption) ?_; rotate_left; (focus (intro wq hSq; have f := HF.out wq hSq; go_simp <;> with_reducible rfl)); simp only [Act.put, pA, pB, pC]
      have F1 := end_s G0 hTz hUz (.bool za) (.int .i64 zt) (.slice so zl.length sc)
      have G1 := F1.1
      have G2 := far_s G0a (sb := w4.heap.size) (by omega) (.bool za) (.int .i64 zt) (.slice so zl.length sc)
      have G3 := F1.2.1
      have G4 := F1.2.2
      have G5 := below_s (hb45.mono (Nat.le_of_lt hlt5)) (Nat.le_refl w4.heap.size) (.bool za) (.int .i64 zt) (.slice so zl.length sc)
      obtain ⟨t0, tf0⟩ := G2.at_ 0 _ rfl
      obtain ⟨t1, tf1⟩ := G2.at_ 1 _ rfl
      refine wpAnyH_ready (rs := [20]) (by kernel_rfl) (by simp) (nextL 20 rfl (fun Kr hKr => ?_) AllReadyH.nil)
      go_simp
      refine hKr.out _ _ ⟨far_a hHeldS.1 (by have := HL4.out; omega) _ _, far_a hHeldS.2 (by have := HL4.out; omega) _ _⟩ (fun hHeldE => ?_)
      clear hKr hHeldS
      refine tkL 21 (v := ?_) rfl (by kernel_rfl) (fun _ _ _ => id) (Or.inl ⟨by rfl, ?_⟩) (by assumption) ?_; rotate_left; (focus (intro wq hSq; have f := HF.out wq hSq; go_simp <;> with_reducible rfl)); simp only [Act.put, pA, pB, pC]
      refine wpAnyH_done (by kernel_rfl) ?_ _
      have F2 := end_a G2 G3 G4 (.bool ag) (.slice uo aR.length uc)
      go_wp2_with fail
      go_meet
      case rel => exact ⟨_, so, sc, uo, uc, rfl, rfl, rfl, hlt5, far_a G1 (by omega) _ _, F2.1, F2.2.1, F2.2.2, below_a G5 (by omega) _ _, hpc⟩
 case rest =>
 obtain ⟨ab, so, sc, uo, uc, rfl, rfl, rfl, hab, hsb, hak, hTz, hUz, hbz, hpc⟩ := hcut
 have hl4 := HL4.out
 have R1 := Lib.hid (E2.out.below hbz (by omega))
 have RP := Lib.hid (EP.out.below hbz (by omega))
 have RK := Lib.hid (EK.out.below hbz (by omega))
 have hbw : Below w.heap.size w wc := HBW4.out.trans (hbz.mono (by omega))
 have RT := Lib.hid (HT.out.mono hbw)
 have RNP := Lib.hid (show p < w.heap.size from HT.out.lt.1)
 have RB := Lib.hid hbw
 have RS := Lib.hid hsb; have RA := Lib.hid hak; have RTz := Lib.hid hTz; have RUz := Lib.hid hUz; have RPC := Lib.hid hpc; have RAB := Lib.hid hab
 have RPR := Lib.hid (show prep room M L K.length F O (v, g, port) kind C now = (if ac ≠ 0 then ((false, []), ac, F, O) else match ax with
  | none => ((ag, aR), 0, delS F (v, g, port), O)
  | some s => if is = false ∧ room ≤ (K.length : Int) then ((false, []), 5, F, updO O v now) else ((ag, aR), 0, updS F (v, g, port) s, O)) from by
  have h1 : papp (pexp (oldS F (v, g, port)) now).1 kind (sasc C) C.length now M L = (ac, ax, ag, aR) := by rw [HY.out, HX.out]; exact HA.out
  unfold prep
  rw [h1, HIS.out])
 have RPA := Lib.hid (show ChkO (papp (pexp (oldS F (v, g, port)) now).1 kind (sasc C) C.length now M L).2.1 from fun s hs => by
  have h1 : papp (pexp (oldS F (v, g, port)) now).1 kind (sasc C) C.length now M L = (ac, ax, ag, aR) := by rw [HY.out, HX.out]; exact HA.out
  rw [h1] at hs
  exact (hpc s hs).1)
 obtain ⟨r0, _⟩ := R1.out.at_ 0 _ rfl
 obtain ⟨r1, _⟩ := R1.out.at_ 1 _ rfl
 clear hsb hak hTz hUz hbz hpc hbw hab E1 E2 EP EK HBW4 HAP HA S4 HW4 HX HY hxk HT hl4
 by_cases hac : ac = 0
 · subst hac
   cases ax with
   | none =>
     obtain ⟨V, hV, hH⟩ := RT.out.states
     have hd : Below wc.heap.size wc wc.drew := Below.drew (Below.refl _ _)
     have hdc : CKeep wc wc.drew := CKeep.drew wc
     have HF := Lib.hid (show ∀ wq, CKeep wc wq → wq.cell? ⟨w1.heap.size, 0, none⟩ = some (.int .i64 v) ∧ wq.cell? ⟨w1.heap.size, 1, none⟩ = some (.string (bstr g)) ∧ wq.cell? ⟨w1.heap.size, 2, none⟩ = some (.int .i64 port) ∧ wq.cell? ⟨p, 3, none⟩ = some (.map (some b)) from fun wq hb =>
      ⟨hb.cell (RK.out.at_ 0 _ rfl).1, hb.cell (RK.out.at_ 1 _ rfl).1, hb.cell (RK.out.at_ 2 _ rfl).1, hb.cell (RP.out.at_ 3 _ rfl).1⟩)
     obtain ⟨w6, hrun6, hV6, hmt6⟩ := (hV.below hd hV.lt).drop Tryz.underlying46 (v, g, port) HOK.out 0
     have hrun' : (Builtin.delete_ #[46, 65] 0 #[.map (some b), .agg #[.int .i64 v, .string (bstr g), .int .i64 port]]).run Tryz.prog wc.drew = .ok (.tuple #[]) w6 := hrun6
     have hck : CKeep wc w6 := hdc.trans (CKeep.of_map (hV.below hd hV.lt) hmt6.grown)
     have T6 := Lib.hid ((RT.out.mono hd).turned hmt6.grown hV6 ((hH.keep hdc).del (v, g, port)))
     have M6 := Lib.hid (show MTurn b o w w6 from (MTurn.of_below RB.out).trans ((MTurn.of_below hd).trans (MTurn.of_grown hmt6.grown fun r e => by injection e with e; exact .inl e.symm)))
     have Q1 := Lib.hid (hck.box R1.out)
     have QA := Lib.hid (hck.box RA.out)
     have QU := Lib.hid (hck.strs RUz.out)
     have HCK := Lib.hid hck
     clear hV hH hd hrun6 hV6 hmt6 hck RT RB R1 RP RK RS RA RTz RUz r0 r1
     go_upto_region 14 with fail
     refine wp_region_held_drew (S := fun W' => CKeep wc W') (by kernel_rfl) hdc (fun hHeld => ?_)
     refine tkL 0 (v := ?_) rfl (by kernel_rfl) (fun _ _ _ => id) (Or.inl ⟨by rfl, ?_⟩) (by assumption) ?_; rotate_left; (focus (intro wq hSq; have f := HF.out wq hSq; go_simp <;> with_reducible rfl)); simp only [Act.put, pA, pB, pC]
     refine tkL 1 (v := ?_) rfl (by kernel_rfl) (fun _ _ _ => id) (Or.inl ⟨by rfl, ?_⟩) (by assumption) ?_; rotate_left; (focus (intro wq hSq; have f := HF.out wq hSq; go_simp <;> with_reducible rfl)); simp only [Act.put, pA, pB, pC]
     refine tkL 2 (v := ?_) rfl (by kernel_rfl) (fun _ _ _ => id) (Or.inl ⟨by rfl, ?_⟩) (by assumption) ?_; rotate_left; (focus (intro wq hSq; have f := HF.out wq hSq; go_simp <;> with_reducible rfl)); simp only [Act.put, pA, pB, pC]
     refine tkL 3 (v := ?_) rfl (by kernel_rfl) (fun _ _ _ => id) (Or.inl ⟨by rfl, ?_⟩) (by assumption) ?_; rotate_left; (focus (intro wq hSq; have f := HF.out wq hSq; go_simp <;> with_reducible rfl)); simp only [Act.put, pA, pB, pC]
     refine tkL 4 (v := ?_) rfl (by kernel_rfl) (fun _ _ _ => id) (Or.inl ⟨by rfl, ?_⟩) (by assumption) ?_; rotate_left; (focus (intro wq hSq; have f := HF.out wq hSq; go_simp <;> with_reducible rfl)); simp only [Act.put, pA, pB, pC]
     refine wpAnyH_ready (rs := [5]) (by kernel_rfl) (by simp) (nextL 5 rfl (fun Kr hKr => ?_) AllReadyH.nil)
     go_simp
     refine hKr.out _ _ HCK.out (fun hEnd => ?_)
     clear hKr hHeld hrun' hEnd hdc HF HCK
     refine wpAnyH_done (by kernel_rfl) ?_ _
     obtain ⟨r0, _⟩ := Q1.out.at_ 0 _ rfl
     obtain ⟨r1, _⟩ := Q1.out.at_ 1 _ rfl
     obtain ⟨a0, _⟩ := QA.out.at_ 0 _ rfl
     obtain ⟨a1, _⟩ := QA.out.at_ 1 _ rfl
     go_wp2
     have r := fun x y => ask_end Q1.out x y
     refine bodyPost_ret (v := .tuple #[.agg #[.bool ag, .slice uo aR.length uc], .int .i64 0]) (by simp [results, Tryz.results10, go_sem, r]) rfl ⟨⟨.slice uo aR.length uc, ?_, ?_, ?_, ?_⟩, RPA.out⟩
     · rw [RPR.out]; rfl
     · rw [RPR.out]; exact (end_a Q1.out (Tms.nil _) QU.out _ _).2.2
     · rw [RPR.out]
       exact (T6.out.ask Q1.out (by have := RNP.out; omega)).up (by omega) (by omega)
     · exact M6.out.ask (by omega) _ _
   | some s =>
     have HZ' : (za, zt, zl) = s := HZ.out.symm
     subst HZ'
     have HPC := Lib.hid (RPC.out (za, zt, zl) rfl)
     obtain ⟨X, hX⟩ : ∃ X, X = wc.drew := ⟨_, rfl⟩
     have hd : Below wc.heap.size wc X := by rw [hX]; exact Below.drew (Below.refl _ _)
     obtain ⟨V, hV, hH⟩ := RT.out.states
     have hll : ∀ ty wq, Below wc.heap.size wc wq → (Builtin.len_ #[46] ty #[.map (some b)]).run Tryz.prog wq = .ok (.int .i64 K.length) wq := fun ty wq hq => (hV.below hq hV.lt).len_at Tryz.underlying46 (hH.keys HK.out) ty
     have HF := Lib.hid (show ∀ wq, Below wc.heap.size wc wq → wq.cell? ⟨p, 3, none⟩ = some (.map (some b)) ∧ wq.cell? ⟨p, 0, none⟩ = some (.int .i64 room) ∧ (Builtin.len_ #[46] 3 #[.map (some b)]).run Tryz.prog wq = .ok (.int .i64 K.length) wq from fun wq hb =>
      ⟨(hb.cell (p := ⟨p, 3, none⟩) RP.out.lt).trans (RP.out.at_ 3 _ rfl).1, (hb.cell (p := ⟨p, 0, none⟩) RP.out.lt).trans (RP.out.at_ 0 _ rfl).1, hll 3 wq hb⟩)
     have XT := Lib.hid (RT.out.mono hd)
     have XB := Lib.hid (RB.out.trans (hd.mono RB.out.size))
     have X1 := Lib.hid (R1.out.below hd R1.out.lt); have XP := Lib.hid (RP.out.below hd RP.out.lt); have XK := Lib.hid (RK.out.below hd RK.out.lt); have XS := Lib.hid (RS.out.below hd RS.out.lt); have XA := Lib.hid (RA.out.below hd RA.out.lt)
     have XU := Lib.hid (RUz.out.mono hd); have XZ := Lib.hid (RTz.out.mono hd)
     have HX' := Lib.hid hX
     rw [hX] at hd
     clear hX hV hH hll RT RB R1 RP RK RS RA RTz RUz r0 r1
     cases is
     · cases dr : decide (room ≤ (K.length : Int))
       · have HCOND := Lib.hid (show ¬ (false = false ∧ room ≤ (K.length : Int)) from fun h => of_decide_eq_false dr h.2)
         go_upto_region 15 with fail
         refine wp_region_held_drew (S := fun W' => Below wc.heap.size wc W') (by kernel_rfl) hd (fun hHeld => ?_)
         refine tkL 0 (v := ?_) rfl (by kernel_rfl) (fun _ _ _ => id) (Or.inl ⟨by rfl, ?_⟩) (by assumption) ?_; rotate_left; (focus (intro wq hSq; have f := HF.out wq hSq; go_simp <;> with_reducible rfl)); simp only [Act.put, pA, pB, pC]
         refine tkL 1 (v := ?_) rfl (by kernel_rfl) (fun _ _ _ => id) (Or.inl ⟨by rfl, ?_⟩) (by assumption) ?_; rotate_left; (focus (intro wq hSq; have f := HF.out wq hSq; go_simp <;> with_reducible rfl)); simp only [Act.put, pA, pB, pC]
         refine tkL 2 (v := ?_) rfl (by kernel_rfl) (fun _ _ _ => id) (Or.inl ⟨by rfl, ?_⟩) (by assumption) ?_; rotate_left; (focus (intro wq hSq; have f := HF.out wq hSq; go_simp <;> with_reducible rfl)); simp only [Act.put, pA, pB, pC]
         refine tkL 3 (v := ?_) rfl (by kernel_rfl) (fun _ _ _ => id) (Or.inl ⟨by rfl, ?_⟩) (by assumption) ?_; rotate_left; (focus (intro wq hSq; have f := HF.out wq hSq; go_simp <;> with_reducible rfl)); simp only [Act.put, pA, pB, pC]
         refine tkL 4 (v := ?_) rfl (by kernel_rfl) (fun _ _ _ => id) (Or.inl ⟨by rfl, ?_⟩) (by assumption) ?_; rotate_left; (focus (intro wq hSq; have f := HF.out wq hSq; go_simp <;> with_reducible rfl)); simp only [Act.put, pA, pB, pC]
         refine tkL 5 (v := ?_) rfl (by kernel_rfl) (fun _ _ _ => id) (Or.inl ⟨by rfl, ?_⟩) (by assumption) ?_; rotate_left; (focus (intro wq hSq; have f := HF.out wq hSq; go_simp <;> with_reducible rfl)); simp only [Act.put, pA, pB, pC]
         refine tkL 6 (v := ?_) rfl (by kernel_rfl) (fun _ _ _ => id) (Or.inl ⟨by rfl, ?_⟩) (by assumption) ?_; rotate_left; (focus (intro wq hSq; have f := HF.out wq hSq; go_simp <;> with_reducible rfl)); simp only [Act.put, pA, pB, pC]
         refine tkL 7 (v := ?_) rfl (by kernel_rfl) (fun _ _ _ => id) (Or.inl ⟨by rfl, ?_⟩) (by assumption) ?_; rotate_left; (focus (intro wq hSq; have f := HF.out wq hSq; go_simp <;> with_reducible rfl)); simp only [Act.put, pA, pB, pC]
         refine tkL 8 (v := ?_) rfl (by kernel_rfl) (fun _ _ _ => id) (Or.inl ⟨by rfl, ?_⟩) (by assumption) ?_; rotate_left; (focus (intro wq hSq; have f := HF.out wq hSq; go_simp <;> with_reducible rfl)); simp only [Act.put, pA, pB, pC]
         refine tkL 9 (v := ?_) rfl (by kernel_rfl) (fun _ _ _ => id) (Or.inl ⟨by rfl, ?_⟩) (by assumption) ?_; rotate_left; (focus (intro wq hSq; have f := HF.out wq hSq; go_simp <;> with_reducible rfl)); simp only [Act.put, pA, pB, pC]
         refine tkL 10 (v := ?_) rfl (by kernel_rfl) (fun _ _ _ => id) (Or.inl ⟨by rfl, ?_⟩) (by assumption) ?_; rotate_left; (focus (intro wq hSq; have f := HF.out wq hSq; go_simp <;> with_reducible rfl)); simp only [Act.put, pA, pB, pC]
         refine tkL 11 (v := ?_) rfl (by kernel_rfl) (fun _ _ _ => id) (Or.inl ⟨by rfl, ?_⟩) (by assumption) ?_; rotate_left; (focus (intro wq hSq; have f := HF.out wq hSq; go_simp <;> with_reducible rfl)); simp only [Act.put, pA, pB, pC]
         refine tkL 12 (v := ?_) rfl (by kernel_rfl) (fun _ _ _ => id) (Or.inl ⟨by rfl, ?_⟩) (by assumption) ?_; rotate_left; (focus (intro wq hSq; have f := HF.out wq hSq; go_simp <;> with_reducible rfl)); simp only [Act.put, pA, pB, pC]
         refine tkL 13 (v := ?_) rfl (by kernel_rfl) (fun _ _ _ => id) (Or.inl ⟨by rfl, ?_⟩) (by assumption) ?_; rotate_left; (focus (intro wq hSq; have f := HF.out wq hSq; go_simp <;> with_reducible rfl)); simp only [Act.put, pA, pB, pC]
         refine tkL 14 (v := ?_) rfl (by kernel_rfl) (fun _ _ _ => id) (Or.inl ⟨by rfl, ?_⟩) (by assumption) ?_; rotate_left; (focus (intro wq hSq; have f := HF.out wq hSq; go_simp <;> with_reducible rfl)); simp only [Act.put, pA, pB, pC]
         refine wpAnyH_done (by kernel_rfl) ?_ _
         clear hHeld HF hd
         rw [← HX'.out]
         obtain ⟨V, hV, hH⟩ := XT.out.states
         have hd : Below X.heap.size X X.drew := Below.drew (Below.refl _ _)
         have hdc : CKeep X X.drew := CKeep.drew X
         have HF := Lib.hid (show ∀ wq, CKeep X wq → wq.cell? ⟨w1.heap.size, 0, none⟩ = some (.int .i64 v) ∧ wq.cell? ⟨w1.heap.size, 1, none⟩ = some (.string (bstr g)) ∧ wq.cell? ⟨w1.heap.size, 2, none⟩ = some (.int .i64 port) ∧ wq.cell? ⟨p, 3, none⟩ = some (.map (some b)) ∧
          wq.cell? ⟨w4.heap.size, 0, none⟩ = some (.bool za) ∧ wq.cell? ⟨w4.heap.size, 1, none⟩ = some (.int .i64 zt) ∧ wq.cell? ⟨w4.heap.size, 2, none⟩ = some (.slice so zl.length sc) from fun wq hb =>
          ⟨hb.cell (XK.out.at_ 0 _ rfl).1, hb.cell (XK.out.at_ 1 _ rfl).1, hb.cell (XK.out.at_ 2 _ rfl).1, hb.cell (XP.out.at_ 3 _ rfl).1, hb.cell (XS.out.at_ 0 _ rfl).1, hb.cell (XS.out.at_ 1 _ rfl).1, hb.cell (XS.out.at_ 2 _ rfl).1⟩)
         obtain ⟨w6, hrun6, hV6, hmt6⟩ := (hV.below hd hV.lt).put Tryz.underlying46 (v, g, port) HOK.out (encS (za, zt, zl) (.slice so zl.length sc)) (by have := HN.out.1; unfold maxLen; omega)
         have hrun' : (Instr.mapUpdate 46 (.map (some b)) (.agg #[.int .i64 v, .string (bstr g), .int .i64 port]) (.agg #[.bool za, .int .i64 zt, .slice so zl.length sc])).run Tryz.prog X.drew = .ok () w6 := hrun6
         have hck : CKeep X w6 := hdc.trans (CKeep.of_map (hV.below hd hV.lt) hmt6.grown)
         have T6 := Lib.hid ((XT.out.mono hd).turned hmt6.grown hV6 ((hH.keep hdc).upd (v, g, port) (za, zt, zl) _ (XZ.out.mono hd) HPC.out.2))
         have M6 := Lib.hid (show MTurn b o w w6 from (MTurn.of_below XB.out).trans ((MTurn.of_below hd).trans (MTurn.of_grown hmt6.grown fun r e => by injection e with e; exact .inl e.symm)))
         have Q1 := Lib.hid (hck.box X1.out)
         have QA := Lib.hid (hck.box XA.out)
         have QU := Lib.hid (hck.strs XU.out)
         have HCK := Lib.hid hck
         clear hV hH hd hrun6 hV6 hmt6 hck XT XB X1 XP XK XS XA XU XZ
         go_upto_region 10 with fail
         refine wp_region_held_drew (S := fun W' => CKeep X W') (by kernel_rfl) hdc (fun hHeld => ?_)
         refine tkL 0 (v := ?_) rfl (by kernel_rfl) (fun _ _ _ => id) (Or.inl ⟨by rfl, ?_⟩) (by assumption) ?_; rotate_left; (focus (intro wq hSq; have f := HF.out wq hSq; go_simp <;> with_reducible rfl)); simp only [Act.put, pA, pB, pC]
         refine tkL 1 (v := ?_) rfl (by kernel_rfl) (fun _ _ _ => id) (Or.inl ⟨by rfl, ?_⟩) (by assumption) ?_; rotate_left; (focus (intro wq hSq; have f := HF.out wq hSq; go_simp <;> with_reducible rfl)); simp only [Act.put, pA, pB, pC]
         refine tkL 2 (v := ?_) rfl (by kernel_rfl) (fun _ _ _ => id) (Or.inl ⟨by rfl, ?_⟩) (by assumption) ?_; rotate_left; (focus (intro wq hSq; have f := HF.out wq hSq; go_simp <;> with_reducible rfl)); simp only [Act.put, pA, pB, pC]
         refine tkL 3 (v := ?_) rfl (by kernel_rfl) (fun _ _ _ => id) (Or.inl ⟨by rfl, ?_⟩) (by assumption) ?_; rotate_left; (focus (intro wq hSq; have f := HF.out wq hSq; go_simp <;> with_reducible rfl)); simp only [Act.put, pA, pB, pC]
         refine tkL 4 (v := ?_) rfl (by kernel_rfl) (fun _ _ _ => id) (Or.inl ⟨by rfl, ?_⟩) (by assumption) ?_; rotate_left; (focus (intro wq hSq; have f := HF.out wq hSq; go_simp <;> with_reducible rfl)); simp only [Act.put, pA, pB, pC]
         refine tkL 5 (v := ?_) rfl (by kernel_rfl) (fun _ _ _ => id) (Or.inl ⟨by rfl, ?_⟩) (by assumption) ?_; rotate_left; (focus (intro wq hSq; have f := HF.out wq hSq; go_simp <;> with_reducible rfl)); simp only [Act.put, pA, pB, pC]
         refine wpAnyH_ready (rs := [6]) (by kernel_rfl) (by simp) (nextL 6 rfl (fun Kr hKr => ?_) AllReadyH.nil)
         go_simp
         refine hKr.out _ _ HCK.out (fun hEnd => ?_)
         clear hKr hHeld hrun' hEnd hdc HF HCK
         refine wpAnyH_done (by kernel_rfl) ?_ _
         obtain ⟨r0, _⟩ := Q1.out.at_ 0 _ rfl
         obtain ⟨r1, _⟩ := Q1.out.at_ 1 _ rfl
         obtain ⟨a0, _⟩ := QA.out.at_ 0 _ rfl
         obtain ⟨a1, _⟩ := QA.out.at_ 1 _ rfl
         go_wp2
         have r := fun x y => ask_end Q1.out x y
         refine bodyPost_ret (v := .tuple #[.agg #[.bool ag, .slice uo aR.length uc], .int .i64 0]) (by simp [results, Tryz.results10, go_sem, r]) rfl ⟨⟨.slice uo aR.length uc, ?_, ?_, ?_, ?_⟩, RPA.out⟩
         · rw [RPR.out, if_neg (by simp)]; rw [if_neg HCOND.out]
         · rw [RPR.out, if_neg (by simp)]; rw [if_neg HCOND.out]; exact (end_a Q1.out (Tms.nil _) QU.out _ _).2.2
         · rw [RPR.out, if_neg (by simp)]; rw [if_neg HCOND.out]
           exact (T6.out.ask Q1.out (by have := RNP.out; omega)).up (by omega) (by omega)
         · exact M6.out.ask (by omega) _ _
       · have HCOND := Lib.hid (show (false = false ∧ room ≤ (K.length : Int)) from ⟨rfl, of_decide_eq_true dr⟩)
         obtain ⟨U, hU, hO⟩ := XT.out.overs
         obtain ⟨w6, hrun6, hU6, hmt6⟩ := hU.put Tryz.underlying47 v HOK.out.1 (.int .i64 now) (by have := HN.out.2; unfold maxLen; omega)
         have hrun' : (Instr.mapUpdate 47 (.map (some o)) (.int .i64 v) (.int .i64 now)).run Tryz.prog X = .ok () w6 := hrun6
         have hck : CKeep X w6 := CKeep.of_map hU hmt6.grown
         have T6 := Lib.hid (XT.out.turnedO hmt6.grown hU6 (hO.upd v now))
         have M6 := Lib.hid (show MTurn b o w w6 from (MTurn.of_below XB.out).trans (MTurn.of_grown hmt6.grown fun r e => by injection e with e; exact .inr (.inl e.symm)))
         have Q1 := Lib.hid (hck.box X1.out)
         obtain ⟨p4, _⟩ := XP.out.at_ 4 _ rfl
         obtain ⟨r0, _⟩ := Q1.out.at_ 0 _ rfl
         obtain ⟨r1, _⟩ := Q1.out.at_ 1 _ rfl
         clear hU hO hrun6 hU6 hmt6 hck XT XB X1 XP XK XS XA XU XZ
         go_upto_region 15 with fail
         refine wp_region_held_drew (S := fun W' => Below wc.heap.size wc W') (by kernel_rfl) hd (fun hHeld => ?_)
         refine tkL 0 (v := ?_) rfl (by kernel_rfl) (fun _ _ _ => id) (Or.inl ⟨by rfl, ?_⟩) (by assumption) ?_; rotate_left; (focus (intro wq hSq; have f := HF.out wq hSq; go_simp <;> with_reducible rfl)); simp only [Act.put, pA, pB, pC]
         refine tkL 1 (v := ?_) rfl (by kernel_rfl) (fun _ _ _ => id) (Or.inl ⟨by rfl, ?_⟩) (by assumption) ?_; rotate_left; (focus (intro wq hSq; have f := HF.out wq hSq; go_simp <;> with_reducible rfl)); simp only [Act.put, pA, pB, pC]
         refine tkL 2 (v := ?_) rfl (by kernel_rfl) (fun _ _ _ => id) (Or.inl ⟨by rfl, ?_⟩) (by assumption) ?_; rotate_left; (focus (intro wq hSq; have f := HF.out wq hSq; go_simp <;> with_reducible rfl)); simp only [Act.put, pA, pB, pC]
         refine tkL 3 (v := ?_) rfl (by kernel_rfl) (fun _ _ _ => id) (Or.inl ⟨by rfl, ?_⟩) (by assumption) ?_; rotate_left; (focus (intro wq hSq; have f := HF.out wq hSq; go_simp <;> with_reducible rfl)); simp only [Act.put, pA, pB, pC]
         refine tkL 4 (v := ?_) rfl (by kernel_rfl) (fun _ _ _ => id) (Or.inl ⟨by rfl, ?_⟩) (by assumption) ?_; rotate_left; (focus (intro wq hSq; have f := HF.out wq hSq; go_simp <;> with_reducible rfl)); simp only [Act.put, pA, pB, pC]
         refine tkL 5 (v := ?_) rfl (by kernel_rfl) (fun _ _ _ => id) (Or.inl ⟨by rfl, ?_⟩) (by assumption) ?_; rotate_left; (focus (intro wq hSq; have f := HF.out wq hSq; go_simp <;> with_reducible rfl)); simp only [Act.put, pA, pB, pC]
         refine tkL 6 (v := ?_) rfl (by kernel_rfl) (fun _ _ _ => id) (Or.inl ⟨by rfl, ?_⟩) (by assumption) ?_; rotate_left; (focus (intro wq hSq; have f := HF.out wq hSq; go_simp <;> with_reducible rfl)); simp only [Act.put, pA, pB, pC]
         refine tkL 7 (v := ?_) rfl (by kernel_rfl) (fun _ _ _ => id) (Or.inl ⟨by rfl, ?_⟩) (by assumption) ?_; rotate_left; (focus (intro wq hSq; have f := HF.out wq hSq; go_simp <;> with_reducible rfl)); simp only [Act.put, pA, pB, pC]
         refine tkL 8 (v := ?_) rfl (by kernel_rfl) (fun _ _ _ => id) (Or.inl ⟨by rfl, ?_⟩) (by assumption) ?_; rotate_left; (focus (intro wq hSq; have f := HF.out wq hSq; go_simp <;> with_reducible rfl)); simp only [Act.put, pA, pB, pC]
         refine tkL 9 (v := ?_) rfl (by kernel_rfl) (fun _ _ _ => id) (Or.inl ⟨by rfl, ?_⟩) (by assumption) ?_; rotate_left; (focus (intro wq hSq; have f := HF.out wq hSq; go_simp <;> with_reducible rfl)); simp only [Act.put, pA, pB, pC]
         refine tkL 10 (v := ?_) rfl (by kernel_rfl) (fun _ _ _ => id) (Or.inl ⟨by rfl, ?_⟩) (by assumption) ?_; rotate_left; (focus (intro wq hSq; have f := HF.out wq hSq; go_simp <;> with_reducible rfl)); simp only [Act.put, pA, pB, pC]
         refine tkL 11 (v := ?_) rfl (by kernel_rfl) (fun _ _ _ => id) (Or.inl ⟨by rfl, ?_⟩) (by assumption) ?_; rotate_left; (focus (intro wq hSq; have f := HF.out wq hSq; go_simp <;> with_reducible rfl)); simp only [Act.put, pA, pB, pC]
         refine tkL 12 (v := ?_) rfl (by kernel_rfl) (fun _ _ _ => id) (Or.inl ⟨by rfl, ?_⟩) (by assumption) ?_; rotate_left; (focus (intro wq hSq; have f := HF.out wq hSq; go_simp <;> with_reducible rfl)); simp only [Act.put, pA, pB, pC]
         refine tkL 13 (v := ?_) rfl (by kernel_rfl) (fun _ _ _ => id) (Or.inl ⟨by rfl, ?_⟩) (by assumption) ?_; rotate_left; (focus (intro wq hSq; have f := HF.out wq hSq; go_simp <;> with_reducible rfl)); simp only [Act.put, pA, pB, pC]
         refine tkL 14 (v := ?_) rfl (by kernel_rfl) (fun _ _ _ => id) (Or.inl ⟨by rfl, ?_⟩) (by assumption) ?_; rotate_left; (focus (intro wq hSq; have f := HF.out wq hSq; go_simp <;> with_reducible rfl)); simp only [Act.put, pA, pB, pC]
         refine wpAnyH_done (by kernel_rfl) ?_ _
         clear hHeld HF hd
         rw [← HX'.out]
         go_wp2
         have r := fun x y => ask_end Q1.out x y
         refine bodyPost_ret (v := .tuple #[.agg #[.bool false, .slice none 0 0], .int .i64 5]) (by simp [results, Tryz.results10, go_sem, r]) rfl ⟨⟨.slice none 0 0, ?_, ?_, ?_, ?_⟩, RPA.out⟩
         · rw [RPR.out, if_neg (by simp)]; rw [if_pos HCOND.out]
         · rw [RPR.out, if_neg (by simp)]; rw [if_pos HCOND.out]; exact Strs.nil _
         · rw [RPR.out, if_neg (by simp)]; rw [if_pos HCOND.out]
           exact (T6.out.ask Q1.out (by have := RNP.out; omega)).up (by omega) (by omega)
         · exact M6.out.ask (by omega) _ _
     · have HCOND := Lib.hid (show ¬ (true = false ∧ room ≤ (K.length : Int)) from fun h => by cases h.1)
       go_upto_region 15 with fail
       refine wp_region_held_drew (S := fun W' => Below wc.heap.size wc W') (by kernel_rfl) hd (fun hHeld => ?_)
       refine tkL 0 (v := ?_) rfl (by kernel_rfl) (fun _ _ _ => id) (Or.inl ⟨by rfl, ?_⟩) (by assumption) ?_; rotate_left; (focus (intro wq hSq; have f := HF.out wq hSq; go_simp <;> with_reducible rfl)); simp only [Act.put, pA, pB, pC]
       refine tkL 1 (v := ?_) rfl (by kernel_rfl) (fun _ _ _ => id) (Or.inl ⟨by rfl, ?_⟩) (by assumption) ?_; rotate_left; (focus (intro wq hSq; have f := HF.out wq hSq; go_simp <;> with_reducible rfl)); simp only [Act.put, pA, pB, pC]
       refine tkL 2 (v := ?_) rfl (by kernel_rfl) (fun _ _ _ => id) (Or.inl ⟨by rfl, ?_⟩) (by assumption) ?_; rotate_left; (focus (intro wq hSq; have f := HF.out wq hSq; go_simp <;> with_reducible rfl)); simp only [Act.put, pA, pB, pC]
       refine tkL 3 (v := undef) rfl (by kernel_rfl) (fun _ _ _ h => h) (Or.inr ⟨by rfl, rfl⟩) (by assumption) ?_; simp only [Act.put, pA, pB, pC]
       refine tkL 4 (v := undef) rfl (by kernel_rfl) (fun _ _ _ h => h) (Or.inr ⟨by rfl, rfl⟩) (by assumption) ?_; simp only [Act.put, pA, pB, pC]
       refine tkL 5 (v := undef) rfl (by kernel_rfl) (fun _ _ _ h => h) (Or.inr ⟨by rfl, rfl⟩) (by assumption) ?_; simp only [Act.put, pA, pB, pC]
       refine tkL 6 (v := undef) rfl (by kernel_rfl) (fun _ _ _ h => h) (Or.inr ⟨by rfl, rfl⟩) (by assumption) ?_; simp only [Act.put, pA, pB, pC]
       refine tkL 7 (v := undef) rfl (by kernel_rfl) (fun _ _ _ h => h) (Or.inr ⟨by rfl, rfl⟩) (by assumption) ?_; simp only [Act.put, pA, pB, pC]
       refine tkL 8 (v := undef) rfl (by kernel_rfl) (fun _ _ _ h => h) (Or.inr ⟨by rfl, rfl⟩) (by assumption) ?_; simp only [Act.put, pA, pB, pC]
       refine tkL 9 (v := undef) rfl (by kernel_rfl) (fun _ _ _ h => h) (Or.inr ⟨by rfl, rfl⟩) (by assumption) ?_; simp only [Act.put, pA, pB, pC]
       refine tkL 10 (v := undef) rfl (by kernel_rfl) (fun _ _ _ h => h) (Or.inr ⟨by rfl, rfl⟩) (by assumption) ?_; simp only [Act.put, pA, pB, pC]
       refine tkL 11 (v := undef) rfl (by kernel_rfl) (fun _ _ _ h => h) (Or.inr ⟨by rfl, rfl⟩) (by assumption) ?_; simp only [Act.put, pA, pB, pC]
       refine tkL 12 (v := undef) rfl (by kernel_rfl) (fun _ _ _ h => h) (Or.inr ⟨by rfl, rfl⟩) (by assumption) ?_; simp only [Act.put, pA, pB, pC]
       refine tkL 13 (v := ?_) rfl (by kernel_rfl) (fun _ _ _ => id) (Or.inl ⟨by rfl, ?_⟩) (by assumption) ?_; rotate_left; (focus (intro wq hSq; have f := HF.out wq hSq; go_simp <;> with_reducible rfl)); simp only [Act.put, pA, pB, pC]
       refine tkL 14 (v := ?_) rfl (by kernel_rfl) (fun _ _ _ => id) (Or.inl ⟨by rfl, ?_⟩) (by assumption) ?_; rotate_left; (focus (intro wq hSq; have f := HF.out wq hSq; go_simp <;> with_reducible rfl)); simp only [Act.put, pA, pB, pC]
       refine wpAnyH_done (by kernel_rfl) ?_ _
       clear hHeld HF hd
       rw [← HX'.out]
       obtain ⟨V, hV, hH⟩ := XT.out.states
       have hd : Below X.heap.size X X.drew := Below.drew (Below.refl _ _)
       have hdc : CKeep X X.drew := CKeep.drew X
       have HF := Lib.hid (show ∀ wq, CKeep X wq → wq.cell? ⟨w1.heap.size, 0, none⟩ = some (.int .i64 v) ∧ wq.cell? ⟨w1.heap.size, 1, none⟩ = some (.string (bstr g)) ∧ wq.cell? ⟨w1.heap.size, 2, none⟩ = some (.int .i64 port) ∧ wq.cell? ⟨p, 3, none⟩ = some (.map (some b)) ∧
        wq.cell? ⟨w4.heap.size, 0, none⟩ = some (.bool za) ∧ wq.cell? ⟨w4.heap.size, 1, none⟩ = some (.int .i64 zt) ∧ wq.cell? ⟨w4.heap.size, 2, none⟩ = some (.slice so zl.length sc) from fun wq hb =>
        ⟨hb.cell (XK.out.at_ 0 _ rfl).1, hb.cell (XK.out.at_ 1 _ rfl).1, hb.cell (XK.out.at_ 2 _ rfl).1, hb.cell (XP.out.at_ 3 _ rfl).1, hb.cell (XS.out.at_ 0 _ rfl).1, hb.cell (XS.out.at_ 1 _ rfl).1, hb.cell (XS.out.at_ 2 _ rfl).1⟩)
       obtain ⟨w6, hrun6, hV6, hmt6⟩ := (hV.below hd hV.lt).put Tryz.underlying46 (v, g, port) HOK.out (encS (za, zt, zl) (.slice so zl.length sc)) (by have := HN.out.1; unfold maxLen; omega)
       have hrun' : (Instr.mapUpdate 46 (.map (some b)) (.agg #[.int .i64 v, .string (bstr g), .int .i64 port]) (.agg #[.bool za, .int .i64 zt, .slice so zl.length sc])).run Tryz.prog X.drew = .ok () w6 := hrun6
       have hck : CKeep X w6 := hdc.trans (CKeep.of_map (hV.below hd hV.lt) hmt6.grown)
       have T6 := Lib.hid ((XT.out.mono hd).turned hmt6.grown hV6 ((hH.keep hdc).upd (v, g, port) (za, zt, zl) _ (XZ.out.mono hd) HPC.out.2))
       have M6 := Lib.hid (show MTurn b o w w6 from (MTurn.of_below XB.out).trans ((MTurn.of_below hd).trans (MTurn.of_grown hmt6.grown fun r e => by injection e with e; exact .inl e.symm)))
       have Q1 := Lib.hid (hck.box X1.out)
       have QA := Lib.hid (hck.box XA.out)
       have QU := Lib.hid (hck.strs XU.out)
       have HCK := Lib.hid hck
       clear hV hH hd hrun6 hV6 hmt6 hck XT XB X1 XP XK XS XA XU XZ
       go_upto_region 10 with fail
       refine wp_region_held_drew (S := fun W' => CKeep X W') (by kernel_rfl) hdc (fun hHeld => ?_)
       refine tkL 0 (v := ?_) rfl (by kernel_rfl) (fun _ _ _ => id) (Or.inl ⟨by rfl, ?_⟩) (by assumption) ?_; rotate_left; (focus (intro wq hSq; have f := HF.out wq hSq; go_simp <;> with_reducible rfl)); simp only [Act.put, pA, pB, pC]
       refine tkL 1 (v := ?_) rfl (by kernel_rfl) (fun _ _ _ => id) (Or.inl ⟨by rfl, ?_⟩) (by assumption) ?_; rotate_left; (focus (intro wq hSq; have f := HF.out wq hSq; go_simp <;> with_reducible rfl)); simp only [Act.put, pA, pB, pC]
       refine tkL 2 (v := ?_) rfl (by kernel_rfl) (fun _ _ _ => id) (Or.inl ⟨by rfl, ?_⟩) (by assumption) ?_; rotate_left; (focus (intro wq hSq; have f := HF.out wq hSq; go_simp <;> with_reducible rfl)); simp only [Act.put, pA, pB, pC]
       refine tkL 3 (v := ?_) rfl (by kernel_rfl) (fun _ _ _ => id) (Or.inl ⟨by rfl, ?_⟩) (by assumption) ?_; rotate_left; (focus (intro wq hSq; have f := HF.out wq hSq; go_simp <;> with_reducible rfl)); simp only [Act.put, pA, pB, pC]
       refine tkL 4 (v := ?_) rfl (by kernel_rfl) (fun _ _ _ => id) (Or.inl ⟨by rfl, ?_⟩) (by assumption) ?_; rotate_left; (focus (intro wq hSq; have f := HF.out wq hSq; go_simp <;> with_reducible rfl)); simp only [Act.put, pA, pB, pC]
       refine tkL 5 (v := ?_) rfl (by kernel_rfl) (fun _ _ _ => id) (Or.inl ⟨by rfl, ?_⟩) (by assumption) ?_; rotate_left; (focus (intro wq hSq; have f := HF.out wq hSq; go_simp <;> with_reducible rfl)); simp only [Act.put, pA, pB, pC]
       refine wpAnyH_ready (rs := [6]) (by kernel_rfl) (by simp) (nextL 6 rfl (fun Kr hKr => ?_) AllReadyH.nil)
       go_simp
       refine hKr.out _ _ HCK.out (fun hEnd => ?_)
       clear hKr hHeld hrun' hEnd hdc HF HCK
       refine wpAnyH_done (by kernel_rfl) ?_ _
       obtain ⟨r0, _⟩ := Q1.out.at_ 0 _ rfl
       obtain ⟨r1, _⟩ := Q1.out.at_ 1 _ rfl
       obtain ⟨a0, _⟩ := QA.out.at_ 0 _ rfl
       obtain ⟨a1, _⟩ := QA.out.at_ 1 _ rfl
       go_wp2
       have r := fun x y => ask_end Q1.out x y
       refine bodyPost_ret (v := .tuple #[.agg #[.bool ag, .slice uo aR.length uc], .int .i64 0]) (by simp [results, Tryz.results10, go_sem, r]) rfl ⟨⟨.slice uo aR.length uc, ?_, ?_, ?_, ?_⟩, RPA.out⟩
       · rw [RPR.out, if_neg (by simp)]; rw [if_neg HCOND.out]
       · rw [RPR.out, if_neg (by simp)]; rw [if_neg HCOND.out]; exact (end_a Q1.out (Tms.nil _) QU.out _ _).2.2
       · rw [RPR.out, if_neg (by simp)]; rw [if_neg HCOND.out]
         exact (T6.out.ask Q1.out (by have := RNP.out; omega)).up (by omega) (by omega)
       · exact M6.out.ask (by omega) _ _
 · have c1 : (ac == 0) = false := by simpa using hac
   have c2 : (ac != 0) = true := by simpa using hac
   have HC := Lib.hid hac
   clear hac
   go_wp2
   have r := fun x y => ask_end R1.out x y
   refine bodyPost_ret (v := .tuple #[.agg #[.bool false, .slice none 0 0], .int .i64 ac]) (by simp [results, Tryz.results10, go_sem, r]) rfl ⟨⟨.slice none 0 0, ?_, ?_, ?_, ?_⟩, RPA.out⟩
   · rw [RPR.out, if_pos HC.out]
   · rw [RPR.out, if_pos HC.out]; exact Strs.nil _
   · rw [RPR.out, if_pos HC.out]
     exact (RT.out.ask R1.out (by have := RNP.out; omega)).up (by omega) (by omega)
   · exact (MTurn.of_below RB.out).ask (by omega) _ _
end Go.Proofs.YtpibmjkbebkilaaGreat

namespace Go.Proofs.YtpibmjkbebkilaaGreat
open Go.RowKit Go.Lib Go.Maps Go.Sort Go.Shelf
set_option maxRecDepth 20000
attribute [local go_sem] Oper.semAt_some

end Go.Proofs.YtpibmjkbebkilaaGreat
