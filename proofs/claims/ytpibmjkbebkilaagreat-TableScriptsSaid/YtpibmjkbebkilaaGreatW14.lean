/- Texts joined into one file: GSA, GSome, GBut. -/
import Derived.Test.YtpibmjkbebkilaaGreatW13

namespace Go.Proofs.YtpibmjkbebkilaaGreat
open Go.RowKit Go.Lib Go.Maps Go.Sort
set_option maxRecDepth 20000

theorem Strs.ne_ge {w : World} {v : Value} {L : List Str} (h : Strs w v L) {b : Nat} (hb : w.heap.size ≤ b) : L ≠ [] → v.ownBlock ≠ some b := by
 intro hL e
 obtain ⟨ao, cap, c, off, rfl, h0, h1, h2, h3⟩ := h
 rcases h0 with h0 | rfl
 · exact hL h0
 · have := (h3 0 (List.length_pos_iff.2 hL)).1
   simp [Value.ownBlock] at e
   omega
theorem Tms.ne_ge {w : World} {v : Value} {L : List Tmd} (h : Tms w v L) {b : Nat} (hb : w.heap.size ≤ b) : L ≠ [] → ∀ c, v.ownBlock = some c → c ≠ b := by
 intro hL c e
 obtain ⟨ao, cap, d, off, rfl, h0, h1, h2, h3⟩ := h
 rcases h0 with h0 | rfl
 · exact absurd h0 hL
 · have := (h3 0 (List.length_pos_iff.2 hL)).1
   simp [Value.ownBlock] at e
   omega
theorem Tms.grown' {w w' : World} {v : Value} {L : List Tmd} {S : Nat} (h : Tms w v L) (hg : w.grownBy w' (some S)) (hne : L ≠ [] → ∀ c, v.ownBlock = some c → c ≠ S) : Tms w' v L := by
 obtain ⟨ao, cap, b, off, rfl, h0, h1, h2, h3⟩ := h
 refine ⟨ao, cap, b, off, rfl, h0, h1, h2, fun j hj => ?_⟩
 obtain ⟨q1, q2, q3⟩ := h3 j hj
 have hL : L ≠ [] := by intro e; rw [e] at hj; simp at hj
 have hb' : b ≠ S := by
  rcases h0 with h0 | rfl
  · exact absurd h0 hL
  · exact hne hL b rfl
 exact ⟨Nat.lt_of_lt_of_le q1 hg.size, hg.cell q2 (fun e => hb' (by injection e)), hg.cell q3 (fun e => hb' (by injection e))⟩
theorem Tms.apart {w : World} {v : Value} {L : List Tmd} (h : Tms w v L) {p : Addr} (hne : L ≠ [] → ∀ b, v.ownBlock = some b → b ≠ p.block) (u : Value) : Tms (w.setCell p u) v L := by
 refine h.grown' (S := p.block) ⟨rfl, rfl, rfl, by simp [World.setCell], fun i hi hne => Below.heap_setCell _ _ _ i (fun e => hne (by rw [e]))⟩ hne
theorem Strs.apart' {w : World} {v : Value} {L : List Str} (h : Strs w v L) {p : Addr} (hne : L ≠ [] → ∀ b, v.ownBlock = some b → b ≠ p.block) (u : Value) : Strs (w.setCell p u) v L := by
 refine h.grown' (row := some p.block) ⟨rfl, rfl, rfl, by simp [World.setCell], fun i hi hne => Below.heap_setCell _ _ _ i (fun e => hne (by rw [e]))⟩ (fun hL e => hne hL _ e rfl)
theorem Tms.drew {w : World} {v : Value} {L : List Tmd} (h : Tms w v L) : Tms w.drew v L := h.mono (Below.drew (Below.refl _ _))
theorem Strs.drew {w : World} {v : Value} {L : List Str} (h : Strs w v L) : Strs w.drew v L := h.mono (Below.drew (Below.refl _ _))
theorem Lies.ne {lo : Nat} {v : Value} (h : Lies lo v) {b : Nat} (hb : b < lo) : v.ownBlock ≠ some b := fun e => by have := h b e; omega
theorem ne_some {S b : Nat} (h : S ≠ b) : some b ≠ some S := fun e => h (by injection e with e; exact e.symm)
theorem boxes_end5 {w : World} {lo : Nat} {a0 a1 a2 b0 b1 : Value} (h1 : CBox w lo 71 #[a0, a1, a2]) (h2 : CBox w (lo + 1) 59 #[b0, b1]) (u0 u1 u2 u3 u4 : Value) :
 (((((w.setCell ⟨lo, 0, none⟩ u0).setCell ⟨lo, 1, none⟩ u1).setCell ⟨lo, 2, none⟩ u2).setCell ⟨lo + 1, 0, none⟩ u3).setCell ⟨lo + 1, 1, none⟩ u4).cell? ⟨lo, 0, none⟩ = some u0 ∧ (((((w.setCell ⟨lo, 0, none⟩ u0).setCell ⟨lo, 1, none⟩ u1).setCell ⟨lo, 2, none⟩ u2).setCell ⟨lo + 1, 0, none⟩ u3).setCell ⟨lo + 1, 1, none⟩ u4).cell? ⟨lo, 1, none⟩ = some u1 ∧ (((((w.setCell ⟨lo, 0, none⟩ u0).setCell ⟨lo, 1, none⟩ u1).setCell ⟨lo, 2, none⟩ u2).setCell ⟨lo + 1, 0, none⟩ u3).setCell ⟨lo + 1, 1, none⟩ u4).cell? ⟨lo, 2, none⟩ = some u2 ∧ (((((w.setCell ⟨lo, 0, none⟩ u0).setCell ⟨lo, 1, none⟩ u1).setCell ⟨lo, 2, none⟩ u2).setCell ⟨lo + 1, 0, none⟩ u3).setCell ⟨lo + 1, 1, none⟩ u4).cell? ⟨lo + 1, 0, none⟩ = some u3 ∧ (((((w.setCell ⟨lo, 0, none⟩ u0).setCell ⟨lo, 1, none⟩ u1).setCell ⟨lo, 2, none⟩ u2).setCell ⟨lo + 1, 0, none⟩ u3).setCell ⟨lo + 1, 1, none⟩ u4).cell? ⟨lo + 1, 1, none⟩ = some u4 := by
 have RS := (((((h1.set 0 u0).set 1 u1).set 2 u2).far (p := ⟨lo + 1, 0, none⟩) (by simp) u3).far (p := ⟨lo + 1, 1, none⟩) (by simp) u4)
 have RK := (((((h2.far (p := ⟨lo, 0, none⟩) (by simp) u0).far (p := ⟨lo, 1, none⟩) (by simp) u1).far (p := ⟨lo, 2, none⟩) (by simp) u2).set 0 u3).set 1 u4)
 exact ⟨(RS.at_ 0 _ rfl).1, (RS.at_ 1 _ rfl).1, (RS.at_ 2 _ rfl).1, (RK.at_ 0 _ rfl).1, (RK.at_ 1 _ rfl).1⟩
theorem below_end5' {B : Nat} {a w : World} (h : Below B a w) {lo : Nat} (hB : B ≤ lo) (u0 u1 u2 u3 u4 : Value) : Below B a (((((w.setCell ⟨lo, 0, none⟩ u0).setCell ⟨lo, 1, none⟩ u1).setCell ⟨lo, 2, none⟩ u2).setCell ⟨lo + 1, 0, none⟩ u3).setCell ⟨lo + 1, 1, none⟩ u4) :=
 ((((h.setCell hB u0).setCell hB u1).setCell hB u2).setCell (Nat.le_succ_of_le hB) u3).setCell (Nat.le_succ_of_le hB) u4
theorem Tms.end5' {w : World} {v : Value} {L : List Tmd} {lo : Nat} (h : Tms w v L) (hl : L ≠ [] → ∀ b, v.ownBlock = some b → b ≠ lo ∧ b ≠ lo + 1) (u0 u1 u2 u3 u4 : Value) : Tms (((((w.setCell ⟨lo, 0, none⟩ u0).setCell ⟨lo, 1, none⟩ u1).setCell ⟨lo, 2, none⟩ u2).setCell ⟨lo + 1, 0, none⟩ u3).setCell ⟨lo + 1, 1, none⟩ u4) v L :=
 ((((h.apart (p := ⟨lo, 0, none⟩) (fun hL b hb => (hl hL b hb).1) u0).apart (p := ⟨lo, 1, none⟩) (fun hL b hb => (hl hL b hb).1) u1).apart (p := ⟨lo, 2, none⟩) (fun hL b hb => (hl hL b hb).1) u2).apart (p := ⟨lo + 1, 0, none⟩) (fun hL b hb => (hl hL b hb).2) u3).apart (p := ⟨lo + 1, 1, none⟩) (fun hL b hb => (hl hL b hb).2) u4
theorem Strs.end5' {w : World} {v : Value} {L : List Str} {lo : Nat} (h : Strs w v L) (hl : L ≠ [] → ∀ b, v.ownBlock = some b → b ≠ lo ∧ b ≠ lo + 1) (u0 u1 u2 u3 u4 : Value) : Strs (((((w.setCell ⟨lo, 0, none⟩ u0).setCell ⟨lo, 1, none⟩ u1).setCell ⟨lo, 2, none⟩ u2).setCell ⟨lo + 1, 0, none⟩ u3).setCell ⟨lo + 1, 1, none⟩ u4) v L :=
 ((((h.apart' (p := ⟨lo, 0, none⟩) (fun hL b hb => (hl hL b hb).1) u0).apart' (p := ⟨lo, 1, none⟩) (fun hL b hb => (hl hL b hb).1) u1).apart' (p := ⟨lo, 2, none⟩) (fun hL b hb => (hl hL b hb).1) u2).apart' (p := ⟨lo + 1, 0, none⟩) (fun hL b hb => (hl hL b hb).2) u3).apart' (p := ⟨lo + 1, 1, none⟩) (fun hL b hb => (hl hL b hb).2) u4

theorem StBox.far {w : World} {S n : Nat} {ok : Nat → Prop} {ex : Bool} {at' : Int} {F : Str → Option Int} (h : StBox w S ok ex at' n F) {p : Addr} (hp : S ≠ p.block) (hk : ∀ b, ok b → b ≠ p.block) (u : Value) : StBox (w.setCell p u) S ok ex at' n F := by
 obtain ⟨v, L, h1, h2, h3, h4, h5⟩ := h
 exact ⟨v, L, h1.far hp u, h2.apart (fun hL b hb => hk b (h5 hL b hb)) u, h3, h4, h5⟩
theorem StBox.setAt {w : World} {S n : Nat} {ok : Nat → Prop} {ex : Bool} {at' : Int} {F : Str → Option Int} (h : StBox w S ok ex at' n F) (hk : ∀ b, ok b → b ≠ S) (m : Int) : StBox (w.setCell ⟨S, 1, none⟩ (.int .i64 m)) S ok ex m n F := by
 obtain ⟨v, L, h1, h2, h3, h4, h5⟩ := h
 exact ⟨v, L, by simpa using h1.set 1 (.int .i64 m), h2.apart (fun hL b hb => hk b (h5 hL b hb)) _, h3, h4, h5⟩

def RetSA (w : World) (ex : Bool) (at' : Int) (F : Str → Option Int) (g : Bool) (R : List Str) (e : Ending) (w' : World) : Prop :=
 ∃ v L u, e = .returned (.tuple #[.agg #[.bool ex, .int .i64 at', v], .agg #[.bool g, u]]) ∧ Tms w' v L ∧ Asc F L ∧ Strs w' u R ∧ Below w.heap.size w w'

def bothL (A B : List Str) : List Str := (sasc A).filter fun x => B.contains x
def lessF (A B : List Str) : List Str := (sasc A).filter fun x => !B.contains x
theorem bothL_len (A B : List Str) : (bothL A B).length ≤ A.length := Nat.le_trans (List.length_filter_le _ _) (sasc_length A)
theorem lessF_len (A B : List Str) : (lessF A B).length ≤ A.length := Nat.le_trans (List.length_filter_le _ _) (sasc_length A)
theorem both_in (v u : Value) (A B : List Str) (w : World) (hv : Strs w v A) (hu : Strs w u B) : Calls Tryz.prog 84 #[v, u] w (RetStrs w (bothL A B)) := rboth_any v u A B w hv hu
theorem less_in (v u : Value) (A B : List Str) (w : World) (hv : Strs w v A) (hu : Strs w u B) : Calls Tryz.prog 87 #[v, u] w (RetStrs w (lessF A B)) := less_any v u A B w hv hu

end Go.Proofs.YtpibmjkbebkilaaGreat

namespace Go.Proofs.YtpibmjkbebkilaaGreat
open Go.RowKit Go.Lib Go.Maps Go.Sort
set_option maxRecDepth 20000

set_option maxRecDepth 20000 in
set_option maxHeartbeats 2000000 in
theorem some_1 (ex : Bool) (at' : Int) (v : Value) (L : List Tmd) {F : Str → Option Int} (rv : Value) (C : List Str) (m : Int) (w : World) (h : Tms w v L) (hA : Asc F L) (hr : Strs w rv C) (hL : L.length ≤ 60) (hC : C.length ≤ 60) (hm : (Lit.int .i64 m).wf = true) :
 Calls Tryz.prog 64 #[.agg #[.bool ex, .int .i64 at', v], .int .i64 1, rv, .int .i64 m] w (RetSA w false 0 (setF (keepF (fun _ => none) (nmL L false) F) C m) false ([])) := by
 obtain ⟨vo, vc, rfl⟩ := h.shape
 obtain ⟨ro, rc, rfl⟩ := hr.shape
 have q1 := nmL_len L false; have q2 := nmL_len L true
 have qbx := bothL_len (nmL L false) C; have qlx := lessF_len (nmL L false) C
 have qby := bothL_len (nmL L true) C; have qly := lessF_len (nmL L true) C
 have qr1 := lessF_len C (sasc (nmL L false ++ nmL L true)); have qr2 := lessF_len C (nmL L true)
 have HB := Lib.hid (Below.refl w.heap.size w)
 have TT := Lib.hid h
 have Sr := Lib.hid hr
 clear h hr
 have hb0 : Below w.heap.size w (((w.alloc (.cells #[.bool ex, .int .i64 at', .slice vo L.length vc] 71)).alloc (.cells #[.bool false, .int .i64 0, .slice none 0 0] 71)).alloc (.cells #[.bool false, .slice none 0 0] 59)) := (((Below.refl _ _).alloc (Nat.le_refl _) _).alloc (by simp) _).alloc (by simp <;> omega) _
 replace Sr := Lib.hid (Sr.out.mono hb0)
 replace TT := Lib.hid (TT.out.mono hb0)
 replace HB := Lib.hid (HB.out.trans (hb0.mono HB.out.size))
 have Xp := Lib.hid (show CBox (((w.alloc (.cells #[.bool ex, .int .i64 at', .slice vo L.length vc] 71)).alloc (.cells #[.bool false, .int .i64 0, .slice none 0 0] 71)).alloc (.cells #[.bool false, .slice none 0 0] 59)) w.heap.size 71 #[.bool ex, .int .i64 at', .slice vo L.length vc] from ((CBox.new _ rfl).old _).old _)
 have Xs := Lib.hid (show CBox (((w.alloc (.cells #[.bool ex, .int .i64 at', .slice vo L.length vc] 71)).alloc (.cells #[.bool false, .int .i64 0, .slice none 0 0] 71)).alloc (.cells #[.bool false, .slice none 0 0] 59)) (w.heap.size + 1) 71 #[.bool false, .int .i64 0, .slice none 0 0] from (CBox.new _ (by simp)).old _)
 have Xk := Lib.hid (show CBox (((w.alloc (.cells #[.bool ex, .int .i64 at', .slice vo L.length vc] 71)).alloc (.cells #[.bool false, .int .i64 0, .slice none 0 0] 71)).alloc (.cells #[.bool false, .slice none 0 0] 59)) (w.heap.size + 1 + 1) 59 #[.bool false, .slice none 0 0] from CBox.new _ (by simp))
 clear hb0
 obtain ⟨x1, x1f⟩ := Xp.out.at_ 0 (.bool ex) rfl
 obtain ⟨x2, x2f⟩ := Xp.out.at_ 1 (.int .i64 at') rfl
 obtain ⟨x3, x3f⟩ := Xp.out.at_ 2 (.slice vo L.length vc) rfl
 go_enter Tryz.func64, Tryz.ntmps64
 go_wp2_with fail
 refine (rnames_any ex at' _ L false _ TT.out).mono ?_
 try clear x1 x1f x2 x2f x3 x3f
 rintro e w1 ⟨o, rfl, ho, hb, hlo⟩
 obtain ⟨aao, aac, rfl⟩ := ho.shape
 have hza : w.heap.size + 3 ≤ (((w.alloc (.cells #[.bool ex, .int .i64 at', .slice vo L.length vc] 71)).alloc (.cells #[.bool false, .int .i64 0, .slice none 0 0] 71)).alloc (.cells #[.bool false, .slice none 0 0] 59)).heap.size := Xk.out.lt
 replace Xp := Lib.hid (Xp.out.below hb Xp.out.lt)
 replace Xs := Lib.hid (Xs.out.below hb Xs.out.lt)
 replace Xk := Lib.hid (Xk.out.below hb Xk.out.lt)
 replace Sr := Lib.hid (Sr.out.mono hb)
 replace TT := Lib.hid (TT.out.mono hb)
 replace HB := Lib.hid (HB.out.trans (hb.mono HB.out.size))
 have Sa := Lib.hid ho
 have hla := hlo
 clear hb ho hlo
 go_wp2_with fail
 refine (both_in _ _ _ _ _ Sa.out Sr.out).mono ?_
 rintro e w2 ⟨o, rfl, ho, hb, hlo⟩
 obtain ⟨cao, cac, rfl⟩ := ho.shape
 have hzc : w.heap.size + 3 ≤ w1.heap.size := Xk.out.lt
 replace Xp := Lib.hid (Xp.out.below hb Xp.out.lt)
 replace Xs := Lib.hid (Xs.out.below hb Xs.out.lt)
 replace Xk := Lib.hid (Xk.out.below hb Xk.out.lt)
 replace Sr := Lib.hid (Sr.out.mono hb)
 replace Sa := Lib.hid (Sa.out.mono hb)
 replace TT := Lib.hid (TT.out.mono hb)
 replace HB := Lib.hid (HB.out.trans (hb.mono HB.out.size))
 have Sc := Lib.hid ho
 have hlc := hlo
 clear hb ho hlo
 have hSlo : w.heap.size ≤ w2.heap.size := by have := HB.out.size; omega
 have hS3 : w.heap.size + 3 ≤ w2.heap.size := by have := Xk.out.lt; omega
 have Np : w2.heap.size ≠ w.heap.size := by omega
 have Ns : w2.heap.size ≠ w.heap.size + 1 := by omega
 have Nk : w2.heap.size ≠ w.heap.size + 1 + 1 := by omega
 have Nr := Lib.hid (Sr.out.ne_ge (b := w2.heap.size) (by omega))
 have Na := Lib.hid (Sa.out.ne_ge (b := w2.heap.size) (by omega))
 have Nc := Lib.hid (Sc.out.ne_ge (b := w2.heap.size) (by omega))
 have Mr := Lib.hid (Sr.out.ne_ge (b := w2.heap.size + 1) (by omega))
 have Ma := Lib.hid (Sa.out.ne_ge (b := w2.heap.size + 1) (by omega))
 have Mc := Lib.hid (Sc.out.ne_ge (b := w2.heap.size + 1) (by omega))
 have NTT := Lib.hid (TT.out.ne_ge (b := w2.heap.size) (by omega))
 have hb0 : Below w2.heap.size w2 ((w2.alloc (.cells #[.bool false, .int .i64 0, .slice none 0 0] 71)).alloc (.cells #[.bool false, .slice none 0 0] 59)) := ((Below.refl _ _).alloc (Nat.le_refl _) _).alloc (by simp) _
 replace Xp := Lib.hid (Xp.out.below hb0 Xp.out.lt)
 replace Xs := Lib.hid (Xs.out.below hb0 Xs.out.lt)
 replace Xk := Lib.hid (Xk.out.below hb0 Xk.out.lt)
 replace Sr := Lib.hid (Sr.out.mono hb0)
 replace Sa := Lib.hid (Sa.out.mono hb0)
 replace Sc := Lib.hid (Sc.out.mono hb0)
 replace TT := Lib.hid (TT.out.mono hb0)
 replace HB := Lib.hid (HB.out.trans (hb0.mono HB.out.size))
 have OO := Lib.hid (show StBox ((w2.alloc (.cells #[.bool false, .int .i64 0, .slice none 0 0] 71)).alloc (.cells #[.bool false, .slice none 0 0] 59)) w2.heap.size (fun b => w2.heap.size + 2 ≤ b) false 0 0 (fun _ => none) from ⟨_, [], (CBox.new _ rfl).old _, Tms.nil _, asc_nil (fun _ => rfl), Nat.le_refl _, fun h => absurd rfl h⟩)
 have Xz := Lib.hid (show CBox ((w2.alloc (.cells #[.bool false, .int .i64 0, .slice none 0 0] 71)).alloc (.cells #[.bool false, .slice none 0 0] 59)) (w2.heap.size + 1) 59 #[.bool false, .slice none 0 0] from CBox.new _ (by simp))
 have Nz : w2.heap.size ≠ w2.heap.size + 1 := by omega
 clear hb0
 obtain ⟨x4, x4f⟩ := Xp.out.at_ 0 (.bool ex) rfl
 obtain ⟨x5, x5f⟩ := Xp.out.at_ 1 (.int .i64 at') rfl
 obtain ⟨x6, x6f⟩ := Xp.out.at_ 2 (.slice vo L.length vc) rfl
 go_wp2_with fail
 refine (kept_any (fun b hb => Nat.le_trans Xz.out.lt hb) _ (nmL L false) ex at' _ L OO.out (by omega) Sa.out Na.out TT.out hA NTT.out).mono ?_
 try clear x4 x4f x5 x5f x6 x6f
 rintro e w3 ⟨rfl, hst, hg⟩
 replace Xp := Lib.hid (Xp.out.grown hg (ne_some Np))
 replace Xs := Lib.hid (Xs.out.grown hg (ne_some Ns))
 replace Xk := Lib.hid (Xk.out.grown hg (ne_some Nk))
 replace Xz := Lib.hid (Xz.out.grown hg (ne_some Nz))
 replace Sr := Lib.hid (Sr.out.grown' hg Nr.out)
 replace Sa := Lib.hid (Sa.out.grown' hg Na.out)
 replace Sc := Lib.hid (Sc.out.grown' hg Nc.out)
 replace TT := Lib.hid (TT.out.grown' hg NTT.out)
 replace HB := Lib.hid (HB.out.grown hg HB.out.size (fun j e => by injection e with e; subst e; exact hSlo))
 replace OO := Lib.hid hst
 clear hg hst
 go_wp2_with fail
 refine (all_any _ (C) m (fun b hb => Nat.le_trans Xz.out.lt hb) OO.out (by omega) Sr.out Nr.out hm).mono ?_
 rintro e w4 ⟨rfl, hst, hg⟩
 replace Xp := Lib.hid (Xp.out.grown hg (ne_some Np))
 replace Xs := Lib.hid (Xs.out.grown hg (ne_some Ns))
 replace Xk := Lib.hid (Xk.out.grown hg (ne_some Nk))
 replace Xz := Lib.hid (Xz.out.grown hg (ne_some Nz))
 replace Sr := Lib.hid (Sr.out.grown' hg Nr.out)
 replace Sa := Lib.hid (Sa.out.grown' hg Na.out)
 replace Sc := Lib.hid (Sc.out.grown' hg Nc.out)
 replace TT := Lib.hid (TT.out.grown' hg NTT.out)
 replace HB := Lib.hid (HB.out.grown hg HB.out.size (fun j e => by injection e with e; subst e; exact hSlo))
 replace OO := Lib.hid hst
 clear hg hst
 obtain ⟨v9, L9, hc9, hT9, hA9, hl9, hk9⟩ := OO.out
 obtain ⟨v9o, v9c, rfl⟩ := hT9.shape
 have C9 := Lib.hid hc9; have T9 := Lib.hid hT9; have A9 := Lib.hid hA9; have L9' := Lib.hid hl9; have K9 := Lib.hid hk9
 obtain ⟨c0, c0f⟩ := hc9.at_ 0 (.bool false) rfl
 obtain ⟨c1, c1f⟩ := hc9.at_ 1 (.int .i64 0) rfl
 obtain ⟨c2, c2f⟩ := hc9.at_ 2 (.slice v9o L9.length v9c) rfl
 obtain ⟨d0, d0f⟩ := Xz.out.at_ 0 (.bool false) rfl
 obtain ⟨d1, d1f⟩ := Xz.out.at_ 1 (.slice none 0 0) rfl
 obtain ⟨e0, e0f⟩ := Xs.out.at_ 0 (.bool false) rfl
 obtain ⟨e1, e1f⟩ := Xs.out.at_ 1 (.int .i64 0) rfl
 obtain ⟨e2, e2f⟩ := Xs.out.at_ 2 (.slice none 0 0) rfl
 obtain ⟨f0, f0f⟩ := Xk.out.at_ 0 (.bool false) rfl
 obtain ⟨f1, f1f⟩ := Xk.out.at_ 1 (.slice none 0 0) rfl
 clear hc9 hT9 hA9 hl9 hk9
 go_wp2_with fail
 go_region
 all_goals
  go_wp2_with fail
  obtain ⟨r0, r1, r2, r3, r4⟩ := boxes_end5 Xs.out Xk.out (.bool false) (.int .i64 0) (.slice v9o L9.length v9c) (.bool false) (.slice none 0 0)
  have hT := T9.out.end5' (lo := w.heap.size + 1) (fun hL b hb => by have := K9.out hL b hb; omega) (.bool false) (.int .i64 0) (.slice v9o L9.length v9c) (.bool false) (.slice none 0 0)
  have hBB := below_end5' HB.out (lo := w.heap.size + 1) (by omega) (.bool false) (.int .i64 0) (.slice v9o L9.length v9c) (.bool false) (.slice none 0 0)
  refine bodyPost_ret (v := .tuple #[.agg #[.bool false, .int .i64 0, .slice v9o L9.length v9c], .agg #[.bool false, (.slice none 0 0)]]) (by simp [results, Tryz.results64, go_sem, r0, r1, r2, r3, r4]) rfl ⟨_, L9, _, rfl, ?_, A9.out, ?_, ?_⟩
  · first | with_reducible exact hT | with_reducible exact hT.drew
  · exact Strs.nil _
  · first | with_reducible exact hBB | with_reducible exact hBB.drew

set_option maxRecDepth 20000 in
set_option maxHeartbeats 2000000 in
theorem some_2 (ex : Bool) (at' : Int) (v : Value) (L : List Tmd) {F : Str → Option Int} (rv : Value) (C : List Str) (m : Int) (w : World) (h : Tms w v L) (hA : Asc F L) (hr : Strs w rv C) (hL : L.length ≤ 60) (hC : C.length ≤ 60) (_hm : (Lit.int .i64 m).wf = true) :
 Calls Tryz.prog 64 #[.agg #[.bool ex, .int .i64 at', v], .int .i64 2, rv, .int .i64 m] w (RetSA w true m (keepF (setF (fun _ => none) C 0) (bothL (nmL L false) C) F) false ([])) := by
 obtain ⟨vo, vc, rfl⟩ := h.shape
 obtain ⟨ro, rc, rfl⟩ := hr.shape
 have q1 := nmL_len L false; have q2 := nmL_len L true
 have qbx := bothL_len (nmL L false) C; have qlx := lessF_len (nmL L false) C
 have qby := bothL_len (nmL L true) C; have qly := lessF_len (nmL L true) C
 have qr1 := lessF_len C (sasc (nmL L false ++ nmL L true)); have qr2 := lessF_len C (nmL L true)
 have HB := Lib.hid (Below.refl w.heap.size w)
 have TT := Lib.hid h
 have Sr := Lib.hid hr
 clear h hr
 have hb0 : Below w.heap.size w (((w.alloc (.cells #[.bool ex, .int .i64 at', .slice vo L.length vc] 71)).alloc (.cells #[.bool false, .int .i64 0, .slice none 0 0] 71)).alloc (.cells #[.bool false, .slice none 0 0] 59)) := (((Below.refl _ _).alloc (Nat.le_refl _) _).alloc (by simp) _).alloc (by simp <;> omega) _
 replace Sr := Lib.hid (Sr.out.mono hb0)
 replace TT := Lib.hid (TT.out.mono hb0)
 replace HB := Lib.hid (HB.out.trans (hb0.mono HB.out.size))
 have Xp := Lib.hid (show CBox (((w.alloc (.cells #[.bool ex, .int .i64 at', .slice vo L.length vc] 71)).alloc (.cells #[.bool false, .int .i64 0, .slice none 0 0] 71)).alloc (.cells #[.bool false, .slice none 0 0] 59)) w.heap.size 71 #[.bool ex, .int .i64 at', .slice vo L.length vc] from ((CBox.new _ rfl).old _).old _)
 have Xs := Lib.hid (show CBox (((w.alloc (.cells #[.bool ex, .int .i64 at', .slice vo L.length vc] 71)).alloc (.cells #[.bool false, .int .i64 0, .slice none 0 0] 71)).alloc (.cells #[.bool false, .slice none 0 0] 59)) (w.heap.size + 1) 71 #[.bool false, .int .i64 0, .slice none 0 0] from (CBox.new _ (by simp)).old _)
 have Xk := Lib.hid (show CBox (((w.alloc (.cells #[.bool ex, .int .i64 at', .slice vo L.length vc] 71)).alloc (.cells #[.bool false, .int .i64 0, .slice none 0 0] 71)).alloc (.cells #[.bool false, .slice none 0 0] 59)) (w.heap.size + 1 + 1) 59 #[.bool false, .slice none 0 0] from CBox.new _ (by simp))
 clear hb0
 obtain ⟨x1, x1f⟩ := Xp.out.at_ 0 (.bool ex) rfl
 obtain ⟨x2, x2f⟩ := Xp.out.at_ 1 (.int .i64 at') rfl
 obtain ⟨x3, x3f⟩ := Xp.out.at_ 2 (.slice vo L.length vc) rfl
 go_enter Tryz.func64, Tryz.ntmps64
 go_wp2_with fail
 refine (rnames_any ex at' _ L false _ TT.out).mono ?_
 try clear x1 x1f x2 x2f x3 x3f
 rintro e w1 ⟨o, rfl, ho, hb, hlo⟩
 obtain ⟨aao, aac, rfl⟩ := ho.shape
 have hza : w.heap.size + 3 ≤ (((w.alloc (.cells #[.bool ex, .int .i64 at', .slice vo L.length vc] 71)).alloc (.cells #[.bool false, .int .i64 0, .slice none 0 0] 71)).alloc (.cells #[.bool false, .slice none 0 0] 59)).heap.size := Xk.out.lt
 replace Xp := Lib.hid (Xp.out.below hb Xp.out.lt)
 replace Xs := Lib.hid (Xs.out.below hb Xs.out.lt)
 replace Xk := Lib.hid (Xk.out.below hb Xk.out.lt)
 replace Sr := Lib.hid (Sr.out.mono hb)
 replace TT := Lib.hid (TT.out.mono hb)
 replace HB := Lib.hid (HB.out.trans (hb.mono HB.out.size))
 have Sa := Lib.hid ho
 have hla := hlo
 clear hb ho hlo
 go_wp2_with fail
 refine (both_in _ _ _ _ _ Sa.out Sr.out).mono ?_
 rintro e w2 ⟨o, rfl, ho, hb, hlo⟩
 obtain ⟨cao, cac, rfl⟩ := ho.shape
 have hzc : w.heap.size + 3 ≤ w1.heap.size := Xk.out.lt
 replace Xp := Lib.hid (Xp.out.below hb Xp.out.lt)
 replace Xs := Lib.hid (Xs.out.below hb Xs.out.lt)
 replace Xk := Lib.hid (Xk.out.below hb Xk.out.lt)
 replace Sr := Lib.hid (Sr.out.mono hb)
 replace Sa := Lib.hid (Sa.out.mono hb)
 replace TT := Lib.hid (TT.out.mono hb)
 replace HB := Lib.hid (HB.out.trans (hb.mono HB.out.size))
 have Sc := Lib.hid ho
 have hlc := hlo
 clear hb ho hlo
 have hSlo : w.heap.size ≤ w2.heap.size := by have := HB.out.size; omega
 have hS3 : w.heap.size + 3 ≤ w2.heap.size := by have := Xk.out.lt; omega
 have Np : w2.heap.size ≠ w.heap.size := by omega
 have Ns : w2.heap.size ≠ w.heap.size + 1 := by omega
 have Nk : w2.heap.size ≠ w.heap.size + 1 + 1 := by omega
 have Nr := Lib.hid (Sr.out.ne_ge (b := w2.heap.size) (by omega))
 have Na := Lib.hid (Sa.out.ne_ge (b := w2.heap.size) (by omega))
 have Nc := Lib.hid (Sc.out.ne_ge (b := w2.heap.size) (by omega))
 have Mr := Lib.hid (Sr.out.ne_ge (b := w2.heap.size + 1) (by omega))
 have Ma := Lib.hid (Sa.out.ne_ge (b := w2.heap.size + 1) (by omega))
 have Mc := Lib.hid (Sc.out.ne_ge (b := w2.heap.size + 1) (by omega))
 have NTT := Lib.hid (TT.out.ne_ge (b := w2.heap.size) (by omega))
 have hb0 : Below w2.heap.size w2 ((w2.alloc (.cells #[.bool true, .int .i64 m, .slice none 0 0] 71)).alloc (.cells #[.bool false, .slice none 0 0] 59)) := ((Below.refl _ _).alloc (Nat.le_refl _) _).alloc (by simp) _
 replace Xp := Lib.hid (Xp.out.below hb0 Xp.out.lt)
 replace Xs := Lib.hid (Xs.out.below hb0 Xs.out.lt)
 replace Xk := Lib.hid (Xk.out.below hb0 Xk.out.lt)
 replace Sr := Lib.hid (Sr.out.mono hb0)
 replace Sa := Lib.hid (Sa.out.mono hb0)
 replace Sc := Lib.hid (Sc.out.mono hb0)
 replace TT := Lib.hid (TT.out.mono hb0)
 replace HB := Lib.hid (HB.out.trans (hb0.mono HB.out.size))
 have OO := Lib.hid (show StBox ((w2.alloc (.cells #[.bool true, .int .i64 m, .slice none 0 0] 71)).alloc (.cells #[.bool false, .slice none 0 0] 59)) w2.heap.size (fun b => w2.heap.size + 2 ≤ b) true m 0 (fun _ => none) from ⟨_, [], (CBox.new _ rfl).old _, Tms.nil _, asc_nil (fun _ => rfl), Nat.le_refl _, fun h => absurd rfl h⟩)
 have Xz := Lib.hid (show CBox ((w2.alloc (.cells #[.bool true, .int .i64 m, .slice none 0 0] 71)).alloc (.cells #[.bool false, .slice none 0 0] 59)) (w2.heap.size + 1) 59 #[.bool false, .slice none 0 0] from CBox.new _ (by simp))
 have Nz : w2.heap.size ≠ w2.heap.size + 1 := by omega
 clear hb0
 obtain ⟨x4, x4f⟩ := Xp.out.at_ 0 (.bool ex) rfl
 obtain ⟨x5, x5f⟩ := Xp.out.at_ 1 (.int .i64 at') rfl
 obtain ⟨x6, x6f⟩ := Xp.out.at_ 2 (.slice vo L.length vc) rfl
 go_wp2_with fail
 refine (all_any _ (C) 0 (fun b hb => Nat.le_trans Xz.out.lt hb) OO.out (by omega) Sr.out Nr.out rfl).mono ?_
 try clear x4 x4f x5 x5f x6 x6f
 rintro e w3 ⟨rfl, hst, hg⟩
 replace Xp := Lib.hid (Xp.out.grown hg (ne_some Np))
 replace Xs := Lib.hid (Xs.out.grown hg (ne_some Ns))
 replace Xk := Lib.hid (Xk.out.grown hg (ne_some Nk))
 replace Xz := Lib.hid (Xz.out.grown hg (ne_some Nz))
 replace Sr := Lib.hid (Sr.out.grown' hg Nr.out)
 replace Sa := Lib.hid (Sa.out.grown' hg Na.out)
 replace Sc := Lib.hid (Sc.out.grown' hg Nc.out)
 replace TT := Lib.hid (TT.out.grown' hg NTT.out)
 replace HB := Lib.hid (HB.out.grown hg HB.out.size (fun j e => by injection e with e; subst e; exact hSlo))
 replace OO := Lib.hid hst
 clear hg hst
 obtain ⟨x7, x7f⟩ := Xp.out.at_ 0 (.bool ex) rfl
 obtain ⟨x8, x8f⟩ := Xp.out.at_ 1 (.int .i64 at') rfl
 obtain ⟨x9, x9f⟩ := Xp.out.at_ 2 (.slice vo L.length vc) rfl
 go_wp2_with fail
 refine (kept_any (fun b hb => Nat.le_trans Xz.out.lt hb) _ (bothL (nmL L false) C) ex at' _ L OO.out (by omega) Sc.out Nc.out TT.out hA NTT.out).mono ?_
 try clear x7 x7f x8 x8f x9 x9f
 rintro e w4 ⟨rfl, hst, hg⟩
 replace Xp := Lib.hid (Xp.out.grown hg (ne_some Np))
 replace Xs := Lib.hid (Xs.out.grown hg (ne_some Ns))
 replace Xk := Lib.hid (Xk.out.grown hg (ne_some Nk))
 replace Xz := Lib.hid (Xz.out.grown hg (ne_some Nz))
 replace Sr := Lib.hid (Sr.out.grown' hg Nr.out)
 replace Sa := Lib.hid (Sa.out.grown' hg Na.out)
 replace Sc := Lib.hid (Sc.out.grown' hg Nc.out)
 replace TT := Lib.hid (TT.out.grown' hg NTT.out)
 replace HB := Lib.hid (HB.out.grown hg HB.out.size (fun j e => by injection e with e; subst e; exact hSlo))
 replace OO := Lib.hid hst
 clear hg hst
 obtain ⟨v9, L9, hc9, hT9, hA9, hl9, hk9⟩ := OO.out
 obtain ⟨v9o, v9c, rfl⟩ := hT9.shape
 have C9 := Lib.hid hc9; have T9 := Lib.hid hT9; have A9 := Lib.hid hA9; have L9' := Lib.hid hl9; have K9 := Lib.hid hk9
 obtain ⟨c0, c0f⟩ := hc9.at_ 0 (.bool true) rfl
 obtain ⟨c1, c1f⟩ := hc9.at_ 1 (.int .i64 m) rfl
 obtain ⟨c2, c2f⟩ := hc9.at_ 2 (.slice v9o L9.length v9c) rfl
 obtain ⟨d0, d0f⟩ := Xz.out.at_ 0 (.bool false) rfl
 obtain ⟨d1, d1f⟩ := Xz.out.at_ 1 (.slice none 0 0) rfl
 obtain ⟨e0, e0f⟩ := Xs.out.at_ 0 (.bool false) rfl
 obtain ⟨e1, e1f⟩ := Xs.out.at_ 1 (.int .i64 0) rfl
 obtain ⟨e2, e2f⟩ := Xs.out.at_ 2 (.slice none 0 0) rfl
 obtain ⟨f0, f0f⟩ := Xk.out.at_ 0 (.bool false) rfl
 obtain ⟨f1, f1f⟩ := Xk.out.at_ 1 (.slice none 0 0) rfl
 clear hc9 hT9 hA9 hl9 hk9
 go_wp2_with fail
 go_region
 all_goals
  go_wp2_with fail
  obtain ⟨r0, r1, r2, r3, r4⟩ := boxes_end5 Xs.out Xk.out (.bool true) (.int .i64 m) (.slice v9o L9.length v9c) (.bool false) (.slice none 0 0)
  have hT := T9.out.end5' (lo := w.heap.size + 1) (fun hL b hb => by have := K9.out hL b hb; omega) (.bool true) (.int .i64 m) (.slice v9o L9.length v9c) (.bool false) (.slice none 0 0)
  have hBB := below_end5' HB.out (lo := w.heap.size + 1) (by omega) (.bool true) (.int .i64 m) (.slice v9o L9.length v9c) (.bool false) (.slice none 0 0)
  refine bodyPost_ret (v := .tuple #[.agg #[.bool true, .int .i64 m, .slice v9o L9.length v9c], .agg #[.bool false, (.slice none 0 0)]]) (by simp [results, Tryz.results64, go_sem, r0, r1, r2, r3, r4]) rfl ⟨_, L9, _, rfl, ?_, A9.out, ?_, ?_⟩
  · first | with_reducible exact hT | with_reducible exact hT.drew
  · exact Strs.nil _
  · first | with_reducible exact hBB | with_reducible exact hBB.drew

set_option maxRecDepth 20000 in
set_option maxHeartbeats 2000000 in
theorem some_3 (ex : Bool) (at' : Int) (v : Value) (L : List Tmd) {F : Str → Option Int} (rv : Value) (C : List Str) (m : Int) (w : World) (h : Tms w v L) (hA : Asc F L) (hr : Strs w rv C) (hL : L.length ≤ 60) (hC : C.length ≤ 60) (hm : (Lit.int .i64 m).wf = true) :
 Calls Tryz.prog 64 #[.agg #[.bool ex, .int .i64 at', v], .int .i64 3, rv, .int .i64 m] w (RetSA w false 0 (setF (keepF (fun _ => none) (nmL L false) F) C m) false (lessF (nmL L false) C)) := by
 obtain ⟨vo, vc, rfl⟩ := h.shape
 obtain ⟨ro, rc, rfl⟩ := hr.shape
 have q1 := nmL_len L false; have q2 := nmL_len L true
 have qbx := bothL_len (nmL L false) C; have qlx := lessF_len (nmL L false) C
 have qby := bothL_len (nmL L true) C; have qly := lessF_len (nmL L true) C
 have qr1 := lessF_len C (sasc (nmL L false ++ nmL L true)); have qr2 := lessF_len C (nmL L true)
 have HB := Lib.hid (Below.refl w.heap.size w)
 have TT := Lib.hid h
 have Sr := Lib.hid hr
 clear h hr
 have hb0 : Below w.heap.size w (((w.alloc (.cells #[.bool ex, .int .i64 at', .slice vo L.length vc] 71)).alloc (.cells #[.bool false, .int .i64 0, .slice none 0 0] 71)).alloc (.cells #[.bool false, .slice none 0 0] 59)) := (((Below.refl _ _).alloc (Nat.le_refl _) _).alloc (by simp) _).alloc (by simp <;> omega) _
 replace Sr := Lib.hid (Sr.out.mono hb0)
 replace TT := Lib.hid (TT.out.mono hb0)
 replace HB := Lib.hid (HB.out.trans (hb0.mono HB.out.size))
 have Xp := Lib.hid (show CBox (((w.alloc (.cells #[.bool ex, .int .i64 at', .slice vo L.length vc] 71)).alloc (.cells #[.bool false, .int .i64 0, .slice none 0 0] 71)).alloc (.cells #[.bool false, .slice none 0 0] 59)) w.heap.size 71 #[.bool ex, .int .i64 at', .slice vo L.length vc] from ((CBox.new _ rfl).old _).old _)
 have Xs := Lib.hid (show CBox (((w.alloc (.cells #[.bool ex, .int .i64 at', .slice vo L.length vc] 71)).alloc (.cells #[.bool false, .int .i64 0, .slice none 0 0] 71)).alloc (.cells #[.bool false, .slice none 0 0] 59)) (w.heap.size + 1) 71 #[.bool false, .int .i64 0, .slice none 0 0] from (CBox.new _ (by simp)).old _)
 have Xk := Lib.hid (show CBox (((w.alloc (.cells #[.bool ex, .int .i64 at', .slice vo L.length vc] 71)).alloc (.cells #[.bool false, .int .i64 0, .slice none 0 0] 71)).alloc (.cells #[.bool false, .slice none 0 0] 59)) (w.heap.size + 1 + 1) 59 #[.bool false, .slice none 0 0] from CBox.new _ (by simp))
 clear hb0
 obtain ⟨x1, x1f⟩ := Xp.out.at_ 0 (.bool ex) rfl
 obtain ⟨x2, x2f⟩ := Xp.out.at_ 1 (.int .i64 at') rfl
 obtain ⟨x3, x3f⟩ := Xp.out.at_ 2 (.slice vo L.length vc) rfl
 go_enter Tryz.func64, Tryz.ntmps64
 go_wp2_with fail
 refine (rnames_any ex at' _ L false _ TT.out).mono ?_
 try clear x1 x1f x2 x2f x3 x3f
 rintro e w1 ⟨o, rfl, ho, hb, hlo⟩
 obtain ⟨aao, aac, rfl⟩ := ho.shape
 have hza : w.heap.size + 3 ≤ (((w.alloc (.cells #[.bool ex, .int .i64 at', .slice vo L.length vc] 71)).alloc (.cells #[.bool false, .int .i64 0, .slice none 0 0] 71)).alloc (.cells #[.bool false, .slice none 0 0] 59)).heap.size := Xk.out.lt
 replace Xp := Lib.hid (Xp.out.below hb Xp.out.lt)
 replace Xs := Lib.hid (Xs.out.below hb Xs.out.lt)
 replace Xk := Lib.hid (Xk.out.below hb Xk.out.lt)
 replace Sr := Lib.hid (Sr.out.mono hb)
 replace TT := Lib.hid (TT.out.mono hb)
 replace HB := Lib.hid (HB.out.trans (hb.mono HB.out.size))
 have Sa := Lib.hid ho
 have hla := hlo
 clear hb ho hlo
 go_wp2_with fail
 refine (both_in _ _ _ _ _ Sa.out Sr.out).mono ?_
 rintro e w2 ⟨o, rfl, ho, hb, hlo⟩
 obtain ⟨cao, cac, rfl⟩ := ho.shape
 have hzc : w.heap.size + 3 ≤ w1.heap.size := Xk.out.lt
 replace Xp := Lib.hid (Xp.out.below hb Xp.out.lt)
 replace Xs := Lib.hid (Xs.out.below hb Xs.out.lt)
 replace Xk := Lib.hid (Xk.out.below hb Xk.out.lt)
 replace Sr := Lib.hid (Sr.out.mono hb)
 replace Sa := Lib.hid (Sa.out.mono hb)
 replace TT := Lib.hid (TT.out.mono hb)
 replace HB := Lib.hid (HB.out.trans (hb.mono HB.out.size))
 have Sc := Lib.hid ho
 have hlc := hlo
 clear hb ho hlo
 have hSlo : w.heap.size ≤ w2.heap.size := by have := HB.out.size; omega
 have hS3 : w.heap.size + 3 ≤ w2.heap.size := by have := Xk.out.lt; omega
 have Np : w2.heap.size ≠ w.heap.size := by omega
 have Ns : w2.heap.size ≠ w.heap.size + 1 := by omega
 have Nk : w2.heap.size ≠ w.heap.size + 1 + 1 := by omega
 have Nr := Lib.hid (Sr.out.ne_ge (b := w2.heap.size) (by omega))
 have Na := Lib.hid (Sa.out.ne_ge (b := w2.heap.size) (by omega))
 have Nc := Lib.hid (Sc.out.ne_ge (b := w2.heap.size) (by omega))
 have Mr := Lib.hid (Sr.out.ne_ge (b := w2.heap.size + 1) (by omega))
 have Ma := Lib.hid (Sa.out.ne_ge (b := w2.heap.size + 1) (by omega))
 have Mc := Lib.hid (Sc.out.ne_ge (b := w2.heap.size + 1) (by omega))
 have NTT := Lib.hid (TT.out.ne_ge (b := w2.heap.size) (by omega))
 have hb0 : Below w2.heap.size w2 ((w2.alloc (.cells #[.bool false, .int .i64 0, .slice none 0 0] 71)).alloc (.cells #[.bool false, .slice none 0 0] 59)) := ((Below.refl _ _).alloc (Nat.le_refl _) _).alloc (by simp) _
 replace Xp := Lib.hid (Xp.out.below hb0 Xp.out.lt)
 replace Xs := Lib.hid (Xs.out.below hb0 Xs.out.lt)
 replace Xk := Lib.hid (Xk.out.below hb0 Xk.out.lt)
 replace Sr := Lib.hid (Sr.out.mono hb0)
 replace Sa := Lib.hid (Sa.out.mono hb0)
 replace Sc := Lib.hid (Sc.out.mono hb0)
 replace TT := Lib.hid (TT.out.mono hb0)
 replace HB := Lib.hid (HB.out.trans (hb0.mono HB.out.size))
 have OO := Lib.hid (show StBox ((w2.alloc (.cells #[.bool false, .int .i64 0, .slice none 0 0] 71)).alloc (.cells #[.bool false, .slice none 0 0] 59)) w2.heap.size (fun b => w2.heap.size + 2 ≤ b) false 0 0 (fun _ => none) from ⟨_, [], (CBox.new _ rfl).old _, Tms.nil _, asc_nil (fun _ => rfl), Nat.le_refl _, fun h => absurd rfl h⟩)
 have Xz := Lib.hid (show CBox ((w2.alloc (.cells #[.bool false, .int .i64 0, .slice none 0 0] 71)).alloc (.cells #[.bool false, .slice none 0 0] 59)) (w2.heap.size + 1) 59 #[.bool false, .slice none 0 0] from CBox.new _ (by simp))
 have Nz : w2.heap.size ≠ w2.heap.size + 1 := by omega
 clear hb0
 obtain ⟨x4, x4f⟩ := Xp.out.at_ 0 (.bool ex) rfl
 obtain ⟨x5, x5f⟩ := Xp.out.at_ 1 (.int .i64 at') rfl
 obtain ⟨x6, x6f⟩ := Xp.out.at_ 2 (.slice vo L.length vc) rfl
 go_wp2_with fail
 refine (kept_any (fun b hb => Nat.le_trans Xz.out.lt hb) _ (nmL L false) ex at' _ L OO.out (by omega) Sa.out Na.out TT.out hA NTT.out).mono ?_
 try clear x4 x4f x5 x5f x6 x6f
 rintro e w3 ⟨rfl, hst, hg⟩
 replace Xp := Lib.hid (Xp.out.grown hg (ne_some Np))
 replace Xs := Lib.hid (Xs.out.grown hg (ne_some Ns))
 replace Xk := Lib.hid (Xk.out.grown hg (ne_some Nk))
 replace Xz := Lib.hid (Xz.out.grown hg (ne_some Nz))
 replace Sr := Lib.hid (Sr.out.grown' hg Nr.out)
 replace Sa := Lib.hid (Sa.out.grown' hg Na.out)
 replace Sc := Lib.hid (Sc.out.grown' hg Nc.out)
 replace TT := Lib.hid (TT.out.grown' hg NTT.out)
 replace HB := Lib.hid (HB.out.grown hg HB.out.size (fun j e => by injection e with e; subst e; exact hSlo))
 replace OO := Lib.hid hst
 clear hg hst
 go_wp2_with fail
 refine (all_any _ (C) m (fun b hb => Nat.le_trans Xz.out.lt hb) OO.out (by omega) Sr.out Nr.out hm).mono ?_
 rintro e w4 ⟨rfl, hst, hg⟩
 replace Xp := Lib.hid (Xp.out.grown hg (ne_some Np))
 replace Xs := Lib.hid (Xs.out.grown hg (ne_some Ns))
 replace Xk := Lib.hid (Xk.out.grown hg (ne_some Nk))
 replace Xz := Lib.hid (Xz.out.grown hg (ne_some Nz))
 replace Sr := Lib.hid (Sr.out.grown' hg Nr.out)
 replace Sa := Lib.hid (Sa.out.grown' hg Na.out)
 replace Sc := Lib.hid (Sc.out.grown' hg Nc.out)
 replace TT := Lib.hid (TT.out.grown' hg NTT.out)
 replace HB := Lib.hid (HB.out.grown hg HB.out.size (fun j e => by injection e with e; subst e; exact hSlo))
 replace OO := Lib.hid hst
 clear hg hst
 go_wp2_with fail
 refine (less_in _ _ _ _ _ Sa.out Sr.out).mono ?_
 rintro e w5 ⟨o, rfl, ho, hb, hlo⟩
 obtain ⟨dao, dac, rfl⟩ := ho.shape
 have Nd := Lib.hid (show (lessF (nmL L false) C) ≠ [] → (Value.slice dao (lessF (nmL L false) C).length dac).ownBlock ≠ some w2.heap.size from fun _ => hlo.ne OO.out.lt)
 have hzd : w.heap.size + 3 ≤ w4.heap.size := Xk.out.lt
 have Md := Lib.hid (show (lessF (nmL L false) C) ≠ [] → (Value.slice dao (lessF (nmL L false) C).length dac).ownBlock ≠ some (w2.heap.size + 1) from fun _ => hlo.ne Xz.out.lt)
 replace Xp := Lib.hid (Xp.out.below hb Xp.out.lt)
 replace Xs := Lib.hid (Xs.out.below hb Xs.out.lt)
 replace Xk := Lib.hid (Xk.out.below hb Xk.out.lt)
 replace Xz := Lib.hid (Xz.out.below hb Xz.out.lt)
 replace Sr := Lib.hid (Sr.out.mono hb)
 replace Sa := Lib.hid (Sa.out.mono hb)
 replace Sc := Lib.hid (Sc.out.mono hb)
 replace TT := Lib.hid (TT.out.mono hb)
 replace OO := Lib.hid (OO.out.mono hb)
 replace HB := Lib.hid (HB.out.trans (hb.mono HB.out.size))
 have Sd := Lib.hid ho
 have hld := hlo
 clear hb ho hlo
 obtain ⟨vq7, Lq7, hq7, hT7, _⟩ := OO.out
 obtain ⟨vq7o, vq7c, rfl⟩ := hT7.shape
 obtain ⟨x7a, x7af⟩ := hq7.at_ 0 (.bool false) rfl
 obtain ⟨x7b, x7bf⟩ := hq7.at_ 1 (.int .i64 0) rfl
 obtain ⟨x7c, x7cf⟩ := hq7.at_ 2 (.slice vq7o Lq7.length vq7c) rfl
 obtain ⟨x8, x8f⟩ := Xz.out.at_ 0 (.bool false) rfl
 obtain ⟨x9, x9f⟩ := Xz.out.at_ 1 (.slice none 0 0) rfl
 replace Xp := Lib.hid (Xp.out.far (p := ⟨w2.heap.size + 1, 1, none⟩) (by simp <;> omega) (.slice dao (lessF (nmL L false) C).length dac))
 replace Xs := Lib.hid (Xs.out.far (p := ⟨w2.heap.size + 1, 1, none⟩) (by simp <;> omega) (.slice dao (lessF (nmL L false) C).length dac))
 replace Xk := Lib.hid (Xk.out.far (p := ⟨w2.heap.size + 1, 1, none⟩) (by simp <;> omega) (.slice dao (lessF (nmL L false) C).length dac))
 replace Xz := Lib.hid (show CBox (w5.setCell ⟨w2.heap.size + 1, 1, none⟩ (.slice dao (lessF (nmL L false) C).length dac)) (w2.heap.size + 1) 59 #[.bool false, .slice dao (lessF (nmL L false) C).length dac] from by simpa using Xz.out.set 1 (.slice dao (lessF (nmL L false) C).length dac))
 clear Sr
 clear Sa
 clear Sc
 replace Sd := Lib.hid (Sd.out.apart' (p := ⟨w2.heap.size + 1, 1, none⟩) (fun hL b hb e => Md.out hL (hb.trans (congrArg some e))) (.slice dao (lessF (nmL L false) C).length dac))
 replace OO := Lib.hid (OO.out.far (p := ⟨w2.heap.size + 1, 1, none⟩) (by simp) (fun b hb => by simp; omega) (.slice dao (lessF (nmL L false) C).length dac))
 replace HB := Lib.hid (HB.out.setCell (p := ⟨w2.heap.size + 1, 1, none⟩) (by simp <;> omega) (.slice dao (lessF (nmL L false) C).length dac))
 obtain ⟨v9, L9, hc9, hT9, hA9, hl9, hk9⟩ := OO.out
 obtain ⟨v9o, v9c, rfl⟩ := hT9.shape
 have C9 := Lib.hid hc9; have T9 := Lib.hid hT9; have A9 := Lib.hid hA9; have L9' := Lib.hid hl9; have K9 := Lib.hid hk9
 obtain ⟨c0, c0f⟩ := hc9.at_ 0 (.bool false) rfl
 obtain ⟨c1, c1f⟩ := hc9.at_ 1 (.int .i64 0) rfl
 obtain ⟨c2, c2f⟩ := hc9.at_ 2 (.slice v9o L9.length v9c) rfl
 obtain ⟨d0, d0f⟩ := Xz.out.at_ 0 (.bool false) rfl
 obtain ⟨d1, d1f⟩ := Xz.out.at_ 1 (.slice dao (lessF (nmL L false) C).length dac) rfl
 obtain ⟨e0, e0f⟩ := Xs.out.at_ 0 (.bool false) rfl
 obtain ⟨e1, e1f⟩ := Xs.out.at_ 1 (.int .i64 0) rfl
 obtain ⟨e2, e2f⟩ := Xs.out.at_ 2 (.slice none 0 0) rfl
 obtain ⟨f0, f0f⟩ := Xk.out.at_ 0 (.bool false) rfl
 obtain ⟨f1, f1f⟩ := Xk.out.at_ 1 (.slice none 0 0) rfl
 clear hc9 hT9 hA9 hl9 hk9
 go_wp2_with fail
 go_region
 all_goals
  go_wp2_with fail
  obtain ⟨r0, r1, r2, r3, r4⟩ := boxes_end5 Xs.out Xk.out (.bool false) (.int .i64 0) (.slice v9o L9.length v9c) (.bool false) (.slice dao (lessF (nmL L false) C).length dac)
  have hT := T9.out.end5' (lo := w.heap.size + 1) (fun hL b hb => by have := K9.out hL b hb; omega) (.bool false) (.int .i64 0) (.slice v9o L9.length v9c) (.bool false) (.slice dao (lessF (nmL L false) C).length dac)
  have hU := Sd.out.end5' (lo := w.heap.size + 1) (fun hL b hb => by have := hld b hb; have := hzd; omega) (.bool false) (.int .i64 0) (.slice v9o L9.length v9c) (.bool false) (.slice dao (lessF (nmL L false) C).length dac)
  have hBB := below_end5' HB.out (lo := w.heap.size + 1) (by omega) (.bool false) (.int .i64 0) (.slice v9o L9.length v9c) (.bool false) (.slice dao (lessF (nmL L false) C).length dac)
  refine bodyPost_ret (v := .tuple #[.agg #[.bool false, .int .i64 0, .slice v9o L9.length v9c], .agg #[.bool false, (.slice dao (lessF (nmL L false) C).length dac)]]) (by simp [results, Tryz.results64, go_sem, r0, r1, r2, r3, r4]) rfl ⟨_, L9, _, rfl, ?_, A9.out, ?_, ?_⟩
  · first | with_reducible exact hT | with_reducible exact hT.drew
  · first | with_reducible exact hU | with_reducible exact hU.drew
  · first | with_reducible exact hBB | with_reducible exact hBB.drew

set_option maxRecDepth 20000 in
set_option maxHeartbeats 2000000 in
theorem some_4 (ex : Bool) (at' : Int) (v : Value) (L : List Tmd) {F : Str → Option Int} (rv : Value) (C : List Str) (m : Int) (w : World) (h : Tms w v L) (hA : Asc F L) (hr : Strs w rv C) (hL : L.length ≤ 60) (hC : C.length ≤ 60) (_hm : (Lit.int .i64 m).wf = true) :
 Calls Tryz.prog 64 #[.agg #[.bool ex, .int .i64 at', v], .int .i64 4, rv, .int .i64 m] w (RetSA w true m (keepF (setF (fun _ => none) C 0) (bothL (nmL L false) C) F) false (bothL (nmL L false) C)) := by
 obtain ⟨vo, vc, rfl⟩ := h.shape
 obtain ⟨ro, rc, rfl⟩ := hr.shape
 have q1 := nmL_len L false; have q2 := nmL_len L true
 have qbx := bothL_len (nmL L false) C; have qlx := lessF_len (nmL L false) C
 have qby := bothL_len (nmL L true) C; have qly := lessF_len (nmL L true) C
 have qr1 := lessF_len C (sasc (nmL L false ++ nmL L true)); have qr2 := lessF_len C (nmL L true)
 have HB := Lib.hid (Below.refl w.heap.size w)
 have TT := Lib.hid h
 have Sr := Lib.hid hr
 clear h hr
 have hb0 : Below w.heap.size w (((w.alloc (.cells #[.bool ex, .int .i64 at', .slice vo L.length vc] 71)).alloc (.cells #[.bool false, .int .i64 0, .slice none 0 0] 71)).alloc (.cells #[.bool false, .slice none 0 0] 59)) := (((Below.refl _ _).alloc (Nat.le_refl _) _).alloc (by simp) _).alloc (by simp <;> omega) _
 replace Sr := Lib.hid (Sr.out.mono hb0)
 replace TT := Lib.hid (TT.out.mono hb0)
 replace HB := Lib.hid (HB.out.trans (hb0.mono HB.out.size))
 have Xp := Lib.hid (show CBox (((w.alloc (.cells #[.bool ex, .int .i64 at', .slice vo L.length vc] 71)).alloc (.cells #[.bool false, .int .i64 0, .slice none 0 0] 71)).alloc (.cells #[.bool false, .slice none 0 0] 59)) w.heap.size 71 #[.bool ex, .int .i64 at', .slice vo L.length vc] from ((CBox.new _ rfl).old _).old _)
 have Xs := Lib.hid (show CBox (((w.alloc (.cells #[.bool ex, .int .i64 at', .slice vo L.length vc] 71)).alloc (.cells #[.bool false, .int .i64 0, .slice none 0 0] 71)).alloc (.cells #[.bool false, .slice none 0 0] 59)) (w.heap.size + 1) 71 #[.bool false, .int .i64 0, .slice none 0 0] from (CBox.new _ (by simp)).old _)
 have Xk := Lib.hid (show CBox (((w.alloc (.cells #[.bool ex, .int .i64 at', .slice vo L.length vc] 71)).alloc (.cells #[.bool false, .int .i64 0, .slice none 0 0] 71)).alloc (.cells #[.bool false, .slice none 0 0] 59)) (w.heap.size + 1 + 1) 59 #[.bool false, .slice none 0 0] from CBox.new _ (by simp))
 clear hb0
 obtain ⟨x1, x1f⟩ := Xp.out.at_ 0 (.bool ex) rfl
 obtain ⟨x2, x2f⟩ := Xp.out.at_ 1 (.int .i64 at') rfl
 obtain ⟨x3, x3f⟩ := Xp.out.at_ 2 (.slice vo L.length vc) rfl
 go_enter Tryz.func64, Tryz.ntmps64
 go_wp2_with fail
 refine (rnames_any ex at' _ L false _ TT.out).mono ?_
 try clear x1 x1f x2 x2f x3 x3f
 rintro e w1 ⟨o, rfl, ho, hb, hlo⟩
 obtain ⟨aao, aac, rfl⟩ := ho.shape
 have hza : w.heap.size + 3 ≤ (((w.alloc (.cells #[.bool ex, .int .i64 at', .slice vo L.length vc] 71)).alloc (.cells #[.bool false, .int .i64 0, .slice none 0 0] 71)).alloc (.cells #[.bool false, .slice none 0 0] 59)).heap.size := Xk.out.lt
 replace Xp := Lib.hid (Xp.out.below hb Xp.out.lt)
 replace Xs := Lib.hid (Xs.out.below hb Xs.out.lt)
 replace Xk := Lib.hid (Xk.out.below hb Xk.out.lt)
 replace Sr := Lib.hid (Sr.out.mono hb)
 replace TT := Lib.hid (TT.out.mono hb)
 replace HB := Lib.hid (HB.out.trans (hb.mono HB.out.size))
 have Sa := Lib.hid ho
 have hla := hlo
 clear hb ho hlo
 go_wp2_with fail
 refine (both_in _ _ _ _ _ Sa.out Sr.out).mono ?_
 rintro e w2 ⟨o, rfl, ho, hb, hlo⟩
 obtain ⟨cao, cac, rfl⟩ := ho.shape
 have hzc : w.heap.size + 3 ≤ w1.heap.size := Xk.out.lt
 replace Xp := Lib.hid (Xp.out.below hb Xp.out.lt)
 replace Xs := Lib.hid (Xs.out.below hb Xs.out.lt)
 replace Xk := Lib.hid (Xk.out.below hb Xk.out.lt)
 replace Sr := Lib.hid (Sr.out.mono hb)
 replace Sa := Lib.hid (Sa.out.mono hb)
 replace TT := Lib.hid (TT.out.mono hb)
 replace HB := Lib.hid (HB.out.trans (hb.mono HB.out.size))
 have Sc := Lib.hid ho
 have hlc := hlo
 clear hb ho hlo
 have hSlo : w.heap.size ≤ w2.heap.size := by have := HB.out.size; omega
 have hS3 : w.heap.size + 3 ≤ w2.heap.size := by have := Xk.out.lt; omega
 have Np : w2.heap.size ≠ w.heap.size := by omega
 have Ns : w2.heap.size ≠ w.heap.size + 1 := by omega
 have Nk : w2.heap.size ≠ w.heap.size + 1 + 1 := by omega
 have Nr := Lib.hid (Sr.out.ne_ge (b := w2.heap.size) (by omega))
 have Na := Lib.hid (Sa.out.ne_ge (b := w2.heap.size) (by omega))
 have Nc := Lib.hid (Sc.out.ne_ge (b := w2.heap.size) (by omega))
 have Mr := Lib.hid (Sr.out.ne_ge (b := w2.heap.size + 1) (by omega))
 have Ma := Lib.hid (Sa.out.ne_ge (b := w2.heap.size + 1) (by omega))
 have Mc := Lib.hid (Sc.out.ne_ge (b := w2.heap.size + 1) (by omega))
 have NTT := Lib.hid (TT.out.ne_ge (b := w2.heap.size) (by omega))
 have hb0 : Below w2.heap.size w2 ((w2.alloc (.cells #[.bool true, .int .i64 m, .slice none 0 0] 71)).alloc (.cells #[.bool false, .slice none 0 0] 59)) := ((Below.refl _ _).alloc (Nat.le_refl _) _).alloc (by simp) _
 replace Xp := Lib.hid (Xp.out.below hb0 Xp.out.lt)
 replace Xs := Lib.hid (Xs.out.below hb0 Xs.out.lt)
 replace Xk := Lib.hid (Xk.out.below hb0 Xk.out.lt)
 replace Sr := Lib.hid (Sr.out.mono hb0)
 replace Sa := Lib.hid (Sa.out.mono hb0)
 replace Sc := Lib.hid (Sc.out.mono hb0)
 replace TT := Lib.hid (TT.out.mono hb0)
 replace HB := Lib.hid (HB.out.trans (hb0.mono HB.out.size))
 have OO := Lib.hid (show StBox ((w2.alloc (.cells #[.bool true, .int .i64 m, .slice none 0 0] 71)).alloc (.cells #[.bool false, .slice none 0 0] 59)) w2.heap.size (fun b => w2.heap.size + 2 ≤ b) true m 0 (fun _ => none) from ⟨_, [], (CBox.new _ rfl).old _, Tms.nil _, asc_nil (fun _ => rfl), Nat.le_refl _, fun h => absurd rfl h⟩)
 have Xz := Lib.hid (show CBox ((w2.alloc (.cells #[.bool true, .int .i64 m, .slice none 0 0] 71)).alloc (.cells #[.bool false, .slice none 0 0] 59)) (w2.heap.size + 1) 59 #[.bool false, .slice none 0 0] from CBox.new _ (by simp))
 have Nz : w2.heap.size ≠ w2.heap.size + 1 := by omega
 clear hb0
 obtain ⟨x4, x4f⟩ := Xp.out.at_ 0 (.bool ex) rfl
 obtain ⟨x5, x5f⟩ := Xp.out.at_ 1 (.int .i64 at') rfl
 obtain ⟨x6, x6f⟩ := Xp.out.at_ 2 (.slice vo L.length vc) rfl
 go_wp2_with fail
 refine (all_any _ (C) 0 (fun b hb => Nat.le_trans Xz.out.lt hb) OO.out (by omega) Sr.out Nr.out rfl).mono ?_
 try clear x4 x4f x5 x5f x6 x6f
 rintro e w3 ⟨rfl, hst, hg⟩
 replace Xp := Lib.hid (Xp.out.grown hg (ne_some Np))
 replace Xs := Lib.hid (Xs.out.grown hg (ne_some Ns))
 replace Xk := Lib.hid (Xk.out.grown hg (ne_some Nk))
 replace Xz := Lib.hid (Xz.out.grown hg (ne_some Nz))
 replace Sr := Lib.hid (Sr.out.grown' hg Nr.out)
 replace Sa := Lib.hid (Sa.out.grown' hg Na.out)
 replace Sc := Lib.hid (Sc.out.grown' hg Nc.out)
 replace TT := Lib.hid (TT.out.grown' hg NTT.out)
 replace HB := Lib.hid (HB.out.grown hg HB.out.size (fun j e => by injection e with e; subst e; exact hSlo))
 replace OO := Lib.hid hst
 clear hg hst
 obtain ⟨x7, x7f⟩ := Xp.out.at_ 0 (.bool ex) rfl
 obtain ⟨x8, x8f⟩ := Xp.out.at_ 1 (.int .i64 at') rfl
 obtain ⟨x9, x9f⟩ := Xp.out.at_ 2 (.slice vo L.length vc) rfl
 go_wp2_with fail
 refine (kept_any (fun b hb => Nat.le_trans Xz.out.lt hb) _ (bothL (nmL L false) C) ex at' _ L OO.out (by omega) Sc.out Nc.out TT.out hA NTT.out).mono ?_
 try clear x7 x7f x8 x8f x9 x9f
 rintro e w4 ⟨rfl, hst, hg⟩
 replace Xp := Lib.hid (Xp.out.grown hg (ne_some Np))
 replace Xs := Lib.hid (Xs.out.grown hg (ne_some Ns))
 replace Xk := Lib.hid (Xk.out.grown hg (ne_some Nk))
 replace Xz := Lib.hid (Xz.out.grown hg (ne_some Nz))
 replace Sr := Lib.hid (Sr.out.grown' hg Nr.out)
 replace Sa := Lib.hid (Sa.out.grown' hg Na.out)
 replace Sc := Lib.hid (Sc.out.grown' hg Nc.out)
 replace TT := Lib.hid (TT.out.grown' hg NTT.out)
 replace HB := Lib.hid (HB.out.grown hg HB.out.size (fun j e => by injection e with e; subst e; exact hSlo))
 replace OO := Lib.hid hst
 clear hg hst
 obtain ⟨vq10, Lq10, hq10, hT10, _⟩ := OO.out
 obtain ⟨vq10o, vq10c, rfl⟩ := hT10.shape
 obtain ⟨x10a, x10af⟩ := hq10.at_ 0 (.bool true) rfl
 obtain ⟨x10b, x10bf⟩ := hq10.at_ 1 (.int .i64 m) rfl
 obtain ⟨x10c, x10cf⟩ := hq10.at_ 2 (.slice vq10o Lq10.length vq10c) rfl
 obtain ⟨x11, x11f⟩ := Xz.out.at_ 0 (.bool false) rfl
 obtain ⟨x12, x12f⟩ := Xz.out.at_ 1 (.slice none 0 0) rfl
 replace Xp := Lib.hid (Xp.out.far (p := ⟨w2.heap.size + 1, 1, none⟩) (by simp <;> omega) (.slice cao (bothL (nmL L false) C).length cac))
 replace Xs := Lib.hid (Xs.out.far (p := ⟨w2.heap.size + 1, 1, none⟩) (by simp <;> omega) (.slice cao (bothL (nmL L false) C).length cac))
 replace Xk := Lib.hid (Xk.out.far (p := ⟨w2.heap.size + 1, 1, none⟩) (by simp <;> omega) (.slice cao (bothL (nmL L false) C).length cac))
 replace Xz := Lib.hid (show CBox (w4.setCell ⟨w2.heap.size + 1, 1, none⟩ (.slice cao (bothL (nmL L false) C).length cac)) (w2.heap.size + 1) 59 #[.bool false, .slice cao (bothL (nmL L false) C).length cac] from by simpa using Xz.out.set 1 (.slice cao (bothL (nmL L false) C).length cac))
 clear Sr
 clear Sa
 replace Sc := Lib.hid (Sc.out.apart' (p := ⟨w2.heap.size + 1, 1, none⟩) (fun hL b hb e => Mc.out hL (hb.trans (congrArg some e))) (.slice cao (bothL (nmL L false) C).length cac))
 replace OO := Lib.hid (OO.out.far (p := ⟨w2.heap.size + 1, 1, none⟩) (by simp) (fun b hb => by simp; omega) (.slice cao (bothL (nmL L false) C).length cac))
 replace HB := Lib.hid (HB.out.setCell (p := ⟨w2.heap.size + 1, 1, none⟩) (by simp <;> omega) (.slice cao (bothL (nmL L false) C).length cac))
 obtain ⟨v9, L9, hc9, hT9, hA9, hl9, hk9⟩ := OO.out
 obtain ⟨v9o, v9c, rfl⟩ := hT9.shape
 have C9 := Lib.hid hc9; have T9 := Lib.hid hT9; have A9 := Lib.hid hA9; have L9' := Lib.hid hl9; have K9 := Lib.hid hk9
 obtain ⟨c0, c0f⟩ := hc9.at_ 0 (.bool true) rfl
 obtain ⟨c1, c1f⟩ := hc9.at_ 1 (.int .i64 m) rfl
 obtain ⟨c2, c2f⟩ := hc9.at_ 2 (.slice v9o L9.length v9c) rfl
 obtain ⟨d0, d0f⟩ := Xz.out.at_ 0 (.bool false) rfl
 obtain ⟨d1, d1f⟩ := Xz.out.at_ 1 (.slice cao (bothL (nmL L false) C).length cac) rfl
 obtain ⟨e0, e0f⟩ := Xs.out.at_ 0 (.bool false) rfl
 obtain ⟨e1, e1f⟩ := Xs.out.at_ 1 (.int .i64 0) rfl
 obtain ⟨e2, e2f⟩ := Xs.out.at_ 2 (.slice none 0 0) rfl
 obtain ⟨f0, f0f⟩ := Xk.out.at_ 0 (.bool false) rfl
 obtain ⟨f1, f1f⟩ := Xk.out.at_ 1 (.slice none 0 0) rfl
 clear hc9 hT9 hA9 hl9 hk9
 go_wp2_with fail
 go_region
 all_goals
  go_wp2_with fail
  obtain ⟨r0, r1, r2, r3, r4⟩ := boxes_end5 Xs.out Xk.out (.bool true) (.int .i64 m) (.slice v9o L9.length v9c) (.bool false) (.slice cao (bothL (nmL L false) C).length cac)
  have hT := T9.out.end5' (lo := w.heap.size + 1) (fun hL b hb => by have := K9.out hL b hb; omega) (.bool true) (.int .i64 m) (.slice v9o L9.length v9c) (.bool false) (.slice cao (bothL (nmL L false) C).length cac)
  have hU := Sc.out.end5' (lo := w.heap.size + 1) (fun hL b hb => by have := hlc b hb; have := hzc; omega) (.bool true) (.int .i64 m) (.slice v9o L9.length v9c) (.bool false) (.slice cao (bothL (nmL L false) C).length cac)
  have hBB := below_end5' HB.out (lo := w.heap.size + 1) (by omega) (.bool true) (.int .i64 m) (.slice v9o L9.length v9c) (.bool false) (.slice cao (bothL (nmL L false) C).length cac)
  refine bodyPost_ret (v := .tuple #[.agg #[.bool true, .int .i64 m, .slice v9o L9.length v9c], .agg #[.bool false, (.slice cao (bothL (nmL L false) C).length cac)]]) (by simp [results, Tryz.results64, go_sem, r0, r1, r2, r3, r4]) rfl ⟨_, L9, _, rfl, ?_, A9.out, ?_, ?_⟩
  · first | with_reducible exact hT | with_reducible exact hT.drew
  · first | with_reducible exact hU | with_reducible exact hU.drew
  · first | with_reducible exact hBB | with_reducible exact hBB.drew

set_option maxRecDepth 20000 in
set_option maxHeartbeats 2000000 in
theorem some_5 (ex : Bool) (at' : Int) (v : Value) (L : List Tmd) {F : Str → Option Int} (rv : Value) (C : List Str) (m : Int) (w : World) (h : Tms w v L) (hA : Asc F L) (hr : Strs w rv C) (hL : L.length ≤ 60) (hC : C.length ≤ 60) (hm : (Lit.int .i64 m).wf = true) :
 Calls Tryz.prog 64 #[.agg #[.bool ex, .int .i64 at', v], .int .i64 5, rv, .int .i64 m] w (RetSA w false 0 (setF (keepF (fun _ => none) (nmL L false) F) C m) false ([])) := by
 obtain ⟨vo, vc, rfl⟩ := h.shape
 obtain ⟨ro, rc, rfl⟩ := hr.shape
 have q1 := nmL_len L false; have q2 := nmL_len L true
 have qbx := bothL_len (nmL L false) C; have qlx := lessF_len (nmL L false) C
 have qby := bothL_len (nmL L true) C; have qly := lessF_len (nmL L true) C
 have qr1 := lessF_len C (sasc (nmL L false ++ nmL L true)); have qr2 := lessF_len C (nmL L true)
 have HB := Lib.hid (Below.refl w.heap.size w)
 have TT := Lib.hid h
 have Sr := Lib.hid hr
 clear h hr
 have hb0 : Below w.heap.size w (((w.alloc (.cells #[.bool ex, .int .i64 at', .slice vo L.length vc] 71)).alloc (.cells #[.bool false, .int .i64 0, .slice none 0 0] 71)).alloc (.cells #[.bool false, .slice none 0 0] 59)) := (((Below.refl _ _).alloc (Nat.le_refl _) _).alloc (by simp) _).alloc (by simp <;> omega) _
 replace Sr := Lib.hid (Sr.out.mono hb0)
 replace TT := Lib.hid (TT.out.mono hb0)
 replace HB := Lib.hid (HB.out.trans (hb0.mono HB.out.size))
 have Xp := Lib.hid (show CBox (((w.alloc (.cells #[.bool ex, .int .i64 at', .slice vo L.length vc] 71)).alloc (.cells #[.bool false, .int .i64 0, .slice none 0 0] 71)).alloc (.cells #[.bool false, .slice none 0 0] 59)) w.heap.size 71 #[.bool ex, .int .i64 at', .slice vo L.length vc] from ((CBox.new _ rfl).old _).old _)
 have Xs := Lib.hid (show CBox (((w.alloc (.cells #[.bool ex, .int .i64 at', .slice vo L.length vc] 71)).alloc (.cells #[.bool false, .int .i64 0, .slice none 0 0] 71)).alloc (.cells #[.bool false, .slice none 0 0] 59)) (w.heap.size + 1) 71 #[.bool false, .int .i64 0, .slice none 0 0] from (CBox.new _ (by simp)).old _)
 have Xk := Lib.hid (show CBox (((w.alloc (.cells #[.bool ex, .int .i64 at', .slice vo L.length vc] 71)).alloc (.cells #[.bool false, .int .i64 0, .slice none 0 0] 71)).alloc (.cells #[.bool false, .slice none 0 0] 59)) (w.heap.size + 1 + 1) 59 #[.bool false, .slice none 0 0] from CBox.new _ (by simp))
 clear hb0
 obtain ⟨x1, x1f⟩ := Xp.out.at_ 0 (.bool ex) rfl
 obtain ⟨x2, x2f⟩ := Xp.out.at_ 1 (.int .i64 at') rfl
 obtain ⟨x3, x3f⟩ := Xp.out.at_ 2 (.slice vo L.length vc) rfl
 go_enter Tryz.func64, Tryz.ntmps64
 go_wp2_with fail
 refine (rnames_any ex at' _ L false _ TT.out).mono ?_
 try clear x1 x1f x2 x2f x3 x3f
 rintro e w1 ⟨o, rfl, ho, hb, hlo⟩
 obtain ⟨aao, aac, rfl⟩ := ho.shape
 have hza : w.heap.size + 3 ≤ (((w.alloc (.cells #[.bool ex, .int .i64 at', .slice vo L.length vc] 71)).alloc (.cells #[.bool false, .int .i64 0, .slice none 0 0] 71)).alloc (.cells #[.bool false, .slice none 0 0] 59)).heap.size := Xk.out.lt
 replace Xp := Lib.hid (Xp.out.below hb Xp.out.lt)
 replace Xs := Lib.hid (Xs.out.below hb Xs.out.lt)
 replace Xk := Lib.hid (Xk.out.below hb Xk.out.lt)
 replace Sr := Lib.hid (Sr.out.mono hb)
 replace TT := Lib.hid (TT.out.mono hb)
 replace HB := Lib.hid (HB.out.trans (hb.mono HB.out.size))
 have Sa := Lib.hid ho
 have hla := hlo
 clear hb ho hlo
 go_wp2_with fail
 refine (both_in _ _ _ _ _ Sa.out Sr.out).mono ?_
 rintro e w2 ⟨o, rfl, ho, hb, hlo⟩
 obtain ⟨cao, cac, rfl⟩ := ho.shape
 have hzc : w.heap.size + 3 ≤ w1.heap.size := Xk.out.lt
 replace Xp := Lib.hid (Xp.out.below hb Xp.out.lt)
 replace Xs := Lib.hid (Xs.out.below hb Xs.out.lt)
 replace Xk := Lib.hid (Xk.out.below hb Xk.out.lt)
 replace Sr := Lib.hid (Sr.out.mono hb)
 replace Sa := Lib.hid (Sa.out.mono hb)
 replace TT := Lib.hid (TT.out.mono hb)
 replace HB := Lib.hid (HB.out.trans (hb.mono HB.out.size))
 have Sc := Lib.hid ho
 have hlc := hlo
 clear hb ho hlo
 have hSlo : w.heap.size ≤ w2.heap.size := by have := HB.out.size; omega
 have hS3 : w.heap.size + 3 ≤ w2.heap.size := by have := Xk.out.lt; omega
 have Np : w2.heap.size ≠ w.heap.size := by omega
 have Ns : w2.heap.size ≠ w.heap.size + 1 := by omega
 have Nk : w2.heap.size ≠ w.heap.size + 1 + 1 := by omega
 have Nr := Lib.hid (Sr.out.ne_ge (b := w2.heap.size) (by omega))
 have Na := Lib.hid (Sa.out.ne_ge (b := w2.heap.size) (by omega))
 have Nc := Lib.hid (Sc.out.ne_ge (b := w2.heap.size) (by omega))
 have Mr := Lib.hid (Sr.out.ne_ge (b := w2.heap.size + 1) (by omega))
 have Ma := Lib.hid (Sa.out.ne_ge (b := w2.heap.size + 1) (by omega))
 have Mc := Lib.hid (Sc.out.ne_ge (b := w2.heap.size + 1) (by omega))
 have NTT := Lib.hid (TT.out.ne_ge (b := w2.heap.size) (by omega))
 have hb0 : Below w2.heap.size w2 ((w2.alloc (.cells #[.bool false, .int .i64 0, .slice none 0 0] 71)).alloc (.cells #[.bool false, .slice none 0 0] 59)) := ((Below.refl _ _).alloc (Nat.le_refl _) _).alloc (by simp) _
 replace Xp := Lib.hid (Xp.out.below hb0 Xp.out.lt)
 replace Xs := Lib.hid (Xs.out.below hb0 Xs.out.lt)
 replace Xk := Lib.hid (Xk.out.below hb0 Xk.out.lt)
 replace Sr := Lib.hid (Sr.out.mono hb0)
 replace Sa := Lib.hid (Sa.out.mono hb0)
 replace Sc := Lib.hid (Sc.out.mono hb0)
 replace TT := Lib.hid (TT.out.mono hb0)
 replace HB := Lib.hid (HB.out.trans (hb0.mono HB.out.size))
 have OO := Lib.hid (show StBox ((w2.alloc (.cells #[.bool false, .int .i64 0, .slice none 0 0] 71)).alloc (.cells #[.bool false, .slice none 0 0] 59)) w2.heap.size (fun b => w2.heap.size + 2 ≤ b) false 0 0 (fun _ => none) from ⟨_, [], (CBox.new _ rfl).old _, Tms.nil _, asc_nil (fun _ => rfl), Nat.le_refl _, fun h => absurd rfl h⟩)
 have Xz := Lib.hid (show CBox ((w2.alloc (.cells #[.bool false, .int .i64 0, .slice none 0 0] 71)).alloc (.cells #[.bool false, .slice none 0 0] 59)) (w2.heap.size + 1) 59 #[.bool false, .slice none 0 0] from CBox.new _ (by simp))
 have Nz : w2.heap.size ≠ w2.heap.size + 1 := by omega
 clear hb0
 obtain ⟨x4, x4f⟩ := Xp.out.at_ 0 (.bool ex) rfl
 obtain ⟨x5, x5f⟩ := Xp.out.at_ 1 (.int .i64 at') rfl
 obtain ⟨x6, x6f⟩ := Xp.out.at_ 2 (.slice vo L.length vc) rfl
 go_wp2_with fail
 refine (kept_any (fun b hb => Nat.le_trans Xz.out.lt hb) _ (nmL L false) ex at' _ L OO.out (by omega) Sa.out Na.out TT.out hA NTT.out).mono ?_
 try clear x4 x4f x5 x5f x6 x6f
 rintro e w3 ⟨rfl, hst, hg⟩
 replace Xp := Lib.hid (Xp.out.grown hg (ne_some Np))
 replace Xs := Lib.hid (Xs.out.grown hg (ne_some Ns))
 replace Xk := Lib.hid (Xk.out.grown hg (ne_some Nk))
 replace Xz := Lib.hid (Xz.out.grown hg (ne_some Nz))
 replace Sr := Lib.hid (Sr.out.grown' hg Nr.out)
 replace Sa := Lib.hid (Sa.out.grown' hg Na.out)
 replace Sc := Lib.hid (Sc.out.grown' hg Nc.out)
 replace TT := Lib.hid (TT.out.grown' hg NTT.out)
 replace HB := Lib.hid (HB.out.grown hg HB.out.size (fun j e => by injection e with e; subst e; exact hSlo))
 replace OO := Lib.hid hst
 clear hg hst
 go_wp2_with fail
 refine (all_any _ (C) m (fun b hb => Nat.le_trans Xz.out.lt hb) OO.out (by omega) Sr.out Nr.out hm).mono ?_
 rintro e w4 ⟨rfl, hst, hg⟩
 replace Xp := Lib.hid (Xp.out.grown hg (ne_some Np))
 replace Xs := Lib.hid (Xs.out.grown hg (ne_some Ns))
 replace Xk := Lib.hid (Xk.out.grown hg (ne_some Nk))
 replace Xz := Lib.hid (Xz.out.grown hg (ne_some Nz))
 replace Sr := Lib.hid (Sr.out.grown' hg Nr.out)
 replace Sa := Lib.hid (Sa.out.grown' hg Na.out)
 replace Sc := Lib.hid (Sc.out.grown' hg Nc.out)
 replace TT := Lib.hid (TT.out.grown' hg NTT.out)
 replace HB := Lib.hid (HB.out.grown hg HB.out.size (fun j e => by injection e with e; subst e; exact hSlo))
 replace OO := Lib.hid hst
 clear hg hst
 obtain ⟨v9, L9, hc9, hT9, hA9, hl9, hk9⟩ := OO.out
 obtain ⟨v9o, v9c, rfl⟩ := hT9.shape
 have C9 := Lib.hid hc9; have T9 := Lib.hid hT9; have A9 := Lib.hid hA9; have L9' := Lib.hid hl9; have K9 := Lib.hid hk9
 obtain ⟨c0, c0f⟩ := hc9.at_ 0 (.bool false) rfl
 obtain ⟨c1, c1f⟩ := hc9.at_ 1 (.int .i64 0) rfl
 obtain ⟨c2, c2f⟩ := hc9.at_ 2 (.slice v9o L9.length v9c) rfl
 obtain ⟨d0, d0f⟩ := Xz.out.at_ 0 (.bool false) rfl
 obtain ⟨d1, d1f⟩ := Xz.out.at_ 1 (.slice none 0 0) rfl
 obtain ⟨e0, e0f⟩ := Xs.out.at_ 0 (.bool false) rfl
 obtain ⟨e1, e1f⟩ := Xs.out.at_ 1 (.int .i64 0) rfl
 obtain ⟨e2, e2f⟩ := Xs.out.at_ 2 (.slice none 0 0) rfl
 obtain ⟨f0, f0f⟩ := Xk.out.at_ 0 (.bool false) rfl
 obtain ⟨f1, f1f⟩ := Xk.out.at_ 1 (.slice none 0 0) rfl
 clear hc9 hT9 hA9 hl9 hk9
 go_wp2_with fail
 go_region
 all_goals
  go_wp2_with fail
  obtain ⟨r0, r1, r2, r3, r4⟩ := boxes_end5 Xs.out Xk.out (.bool false) (.int .i64 0) (.slice v9o L9.length v9c) (.bool false) (.slice none 0 0)
  have hT := T9.out.end5' (lo := w.heap.size + 1) (fun hL b hb => by have := K9.out hL b hb; omega) (.bool false) (.int .i64 0) (.slice v9o L9.length v9c) (.bool false) (.slice none 0 0)
  have hBB := below_end5' HB.out (lo := w.heap.size + 1) (by omega) (.bool false) (.int .i64 0) (.slice v9o L9.length v9c) (.bool false) (.slice none 0 0)
  refine bodyPost_ret (v := .tuple #[.agg #[.bool false, .int .i64 0, .slice v9o L9.length v9c], .agg #[.bool false, (.slice none 0 0)]]) (by simp [results, Tryz.results64, go_sem, r0, r1, r2, r3, r4]) rfl ⟨_, L9, _, rfl, ?_, A9.out, ?_, ?_⟩
  · first | with_reducible exact hT | with_reducible exact hT.drew
  · exact Strs.nil _
  · first | with_reducible exact hBB | with_reducible exact hBB.drew

set_option maxRecDepth 20000 in
set_option maxHeartbeats 2000000 in
theorem some_6 (ex : Bool) (at' : Int) (v : Value) (L : List Tmd) {F : Str → Option Int} (rv : Value) (C : List Str) (m : Int) (w : World) (h : Tms w v L) (hA : Asc F L) (hr : Strs w rv C) (hL : L.length ≤ 60) (_hC : C.length ≤ 60) (_hm : (Lit.int .i64 m).wf = true) :
 Calls Tryz.prog 64 #[.agg #[.bool ex, .int .i64 at', v], .int .i64 6, rv, .int .i64 m] w (RetSA w false 0 (keepF (fun _ => none) (nmL L false) F) false (bothL (nmL L false) C)) := by
 obtain ⟨vo, vc, rfl⟩ := h.shape
 obtain ⟨ro, rc, rfl⟩ := hr.shape
 have q1 := nmL_len L false; have q2 := nmL_len L true
 have qbx := bothL_len (nmL L false) C; have qlx := lessF_len (nmL L false) C
 have qby := bothL_len (nmL L true) C; have qly := lessF_len (nmL L true) C
 have qr1 := lessF_len C (sasc (nmL L false ++ nmL L true)); have qr2 := lessF_len C (nmL L true)
 have HB := Lib.hid (Below.refl w.heap.size w)
 have TT := Lib.hid h
 have Sr := Lib.hid hr
 clear h hr
 have hb0 : Below w.heap.size w (((w.alloc (.cells #[.bool ex, .int .i64 at', .slice vo L.length vc] 71)).alloc (.cells #[.bool false, .int .i64 0, .slice none 0 0] 71)).alloc (.cells #[.bool false, .slice none 0 0] 59)) := (((Below.refl _ _).alloc (Nat.le_refl _) _).alloc (by simp) _).alloc (by simp <;> omega) _
 replace Sr := Lib.hid (Sr.out.mono hb0)
 replace TT := Lib.hid (TT.out.mono hb0)
 replace HB := Lib.hid (HB.out.trans (hb0.mono HB.out.size))
 have Xp := Lib.hid (show CBox (((w.alloc (.cells #[.bool ex, .int .i64 at', .slice vo L.length vc] 71)).alloc (.cells #[.bool false, .int .i64 0, .slice none 0 0] 71)).alloc (.cells #[.bool false, .slice none 0 0] 59)) w.heap.size 71 #[.bool ex, .int .i64 at', .slice vo L.length vc] from ((CBox.new _ rfl).old _).old _)
 have Xs := Lib.hid (show CBox (((w.alloc (.cells #[.bool ex, .int .i64 at', .slice vo L.length vc] 71)).alloc (.cells #[.bool false, .int .i64 0, .slice none 0 0] 71)).alloc (.cells #[.bool false, .slice none 0 0] 59)) (w.heap.size + 1) 71 #[.bool false, .int .i64 0, .slice none 0 0] from (CBox.new _ (by simp)).old _)
 have Xk := Lib.hid (show CBox (((w.alloc (.cells #[.bool ex, .int .i64 at', .slice vo L.length vc] 71)).alloc (.cells #[.bool false, .int .i64 0, .slice none 0 0] 71)).alloc (.cells #[.bool false, .slice none 0 0] 59)) (w.heap.size + 1 + 1) 59 #[.bool false, .slice none 0 0] from CBox.new _ (by simp))
 clear hb0
 obtain ⟨x1, x1f⟩ := Xp.out.at_ 0 (.bool ex) rfl
 obtain ⟨x2, x2f⟩ := Xp.out.at_ 1 (.int .i64 at') rfl
 obtain ⟨x3, x3f⟩ := Xp.out.at_ 2 (.slice vo L.length vc) rfl
 go_enter Tryz.func64, Tryz.ntmps64
 go_wp2_with fail
 refine (rnames_any ex at' _ L false _ TT.out).mono ?_
 try clear x1 x1f x2 x2f x3 x3f
 rintro e w1 ⟨o, rfl, ho, hb, hlo⟩
 obtain ⟨aao, aac, rfl⟩ := ho.shape
 have hza : w.heap.size + 3 ≤ (((w.alloc (.cells #[.bool ex, .int .i64 at', .slice vo L.length vc] 71)).alloc (.cells #[.bool false, .int .i64 0, .slice none 0 0] 71)).alloc (.cells #[.bool false, .slice none 0 0] 59)).heap.size := Xk.out.lt
 replace Xp := Lib.hid (Xp.out.below hb Xp.out.lt)
 replace Xs := Lib.hid (Xs.out.below hb Xs.out.lt)
 replace Xk := Lib.hid (Xk.out.below hb Xk.out.lt)
 replace Sr := Lib.hid (Sr.out.mono hb)
 replace TT := Lib.hid (TT.out.mono hb)
 replace HB := Lib.hid (HB.out.trans (hb.mono HB.out.size))
 have Sa := Lib.hid ho
 have hla := hlo
 clear hb ho hlo
 go_wp2_with fail
 refine (both_in _ _ _ _ _ Sa.out Sr.out).mono ?_
 rintro e w2 ⟨o, rfl, ho, hb, hlo⟩
 obtain ⟨cao, cac, rfl⟩ := ho.shape
 have hzc : w.heap.size + 3 ≤ w1.heap.size := Xk.out.lt
 replace Xp := Lib.hid (Xp.out.below hb Xp.out.lt)
 replace Xs := Lib.hid (Xs.out.below hb Xs.out.lt)
 replace Xk := Lib.hid (Xk.out.below hb Xk.out.lt)
 replace Sr := Lib.hid (Sr.out.mono hb)
 replace Sa := Lib.hid (Sa.out.mono hb)
 replace TT := Lib.hid (TT.out.mono hb)
 replace HB := Lib.hid (HB.out.trans (hb.mono HB.out.size))
 have Sc := Lib.hid ho
 have hlc := hlo
 clear hb ho hlo
 have hSlo : w.heap.size ≤ w2.heap.size := by have := HB.out.size; omega
 have hS3 : w.heap.size + 3 ≤ w2.heap.size := by have := Xk.out.lt; omega
 have Np : w2.heap.size ≠ w.heap.size := by omega
 have Ns : w2.heap.size ≠ w.heap.size + 1 := by omega
 have Nk : w2.heap.size ≠ w.heap.size + 1 + 1 := by omega
 have Nr := Lib.hid (Sr.out.ne_ge (b := w2.heap.size) (by omega))
 have Na := Lib.hid (Sa.out.ne_ge (b := w2.heap.size) (by omega))
 have Nc := Lib.hid (Sc.out.ne_ge (b := w2.heap.size) (by omega))
 have Mr := Lib.hid (Sr.out.ne_ge (b := w2.heap.size + 1) (by omega))
 have Ma := Lib.hid (Sa.out.ne_ge (b := w2.heap.size + 1) (by omega))
 have Mc := Lib.hid (Sc.out.ne_ge (b := w2.heap.size + 1) (by omega))
 have NTT := Lib.hid (TT.out.ne_ge (b := w2.heap.size) (by omega))
 have hb0 : Below w2.heap.size w2 ((w2.alloc (.cells #[.bool false, .int .i64 0, .slice none 0 0] 71)).alloc (.cells #[.bool false, .slice none 0 0] 59)) := ((Below.refl _ _).alloc (Nat.le_refl _) _).alloc (by simp) _
 replace Xp := Lib.hid (Xp.out.below hb0 Xp.out.lt)
 replace Xs := Lib.hid (Xs.out.below hb0 Xs.out.lt)
 replace Xk := Lib.hid (Xk.out.below hb0 Xk.out.lt)
 replace Sr := Lib.hid (Sr.out.mono hb0)
 replace Sa := Lib.hid (Sa.out.mono hb0)
 replace Sc := Lib.hid (Sc.out.mono hb0)
 replace TT := Lib.hid (TT.out.mono hb0)
 replace HB := Lib.hid (HB.out.trans (hb0.mono HB.out.size))
 have OO := Lib.hid (show StBox ((w2.alloc (.cells #[.bool false, .int .i64 0, .slice none 0 0] 71)).alloc (.cells #[.bool false, .slice none 0 0] 59)) w2.heap.size (fun b => w2.heap.size + 2 ≤ b) false 0 0 (fun _ => none) from ⟨_, [], (CBox.new _ rfl).old _, Tms.nil _, asc_nil (fun _ => rfl), Nat.le_refl _, fun h => absurd rfl h⟩)
 have Xz := Lib.hid (show CBox ((w2.alloc (.cells #[.bool false, .int .i64 0, .slice none 0 0] 71)).alloc (.cells #[.bool false, .slice none 0 0] 59)) (w2.heap.size + 1) 59 #[.bool false, .slice none 0 0] from CBox.new _ (by simp))
 have Nz : w2.heap.size ≠ w2.heap.size + 1 := by omega
 clear hb0
 obtain ⟨x4, x4f⟩ := Xp.out.at_ 0 (.bool ex) rfl
 obtain ⟨x5, x5f⟩ := Xp.out.at_ 1 (.int .i64 at') rfl
 obtain ⟨x6, x6f⟩ := Xp.out.at_ 2 (.slice vo L.length vc) rfl
 go_wp2_with fail
 refine (kept_any (fun b hb => Nat.le_trans Xz.out.lt hb) _ (nmL L false) ex at' _ L OO.out (by omega) Sa.out Na.out TT.out hA NTT.out).mono ?_
 try clear x4 x4f x5 x5f x6 x6f
 rintro e w3 ⟨rfl, hst, hg⟩
 replace Xp := Lib.hid (Xp.out.grown hg (ne_some Np))
 replace Xs := Lib.hid (Xs.out.grown hg (ne_some Ns))
 replace Xk := Lib.hid (Xk.out.grown hg (ne_some Nk))
 replace Xz := Lib.hid (Xz.out.grown hg (ne_some Nz))
 replace Sr := Lib.hid (Sr.out.grown' hg Nr.out)
 replace Sa := Lib.hid (Sa.out.grown' hg Na.out)
 replace Sc := Lib.hid (Sc.out.grown' hg Nc.out)
 replace TT := Lib.hid (TT.out.grown' hg NTT.out)
 replace HB := Lib.hid (HB.out.grown hg HB.out.size (fun j e => by injection e with e; subst e; exact hSlo))
 replace OO := Lib.hid hst
 clear hg hst
 obtain ⟨vq7, Lq7, hq7, hT7, _⟩ := OO.out
 obtain ⟨vq7o, vq7c, rfl⟩ := hT7.shape
 obtain ⟨x7a, x7af⟩ := hq7.at_ 0 (.bool false) rfl
 obtain ⟨x7b, x7bf⟩ := hq7.at_ 1 (.int .i64 0) rfl
 obtain ⟨x7c, x7cf⟩ := hq7.at_ 2 (.slice vq7o Lq7.length vq7c) rfl
 obtain ⟨x8, x8f⟩ := Xz.out.at_ 0 (.bool false) rfl
 obtain ⟨x9, x9f⟩ := Xz.out.at_ 1 (.slice none 0 0) rfl
 replace Xp := Lib.hid (Xp.out.far (p := ⟨w2.heap.size + 1, 1, none⟩) (by simp <;> omega) (.slice cao (bothL (nmL L false) C).length cac))
 replace Xs := Lib.hid (Xs.out.far (p := ⟨w2.heap.size + 1, 1, none⟩) (by simp <;> omega) (.slice cao (bothL (nmL L false) C).length cac))
 replace Xk := Lib.hid (Xk.out.far (p := ⟨w2.heap.size + 1, 1, none⟩) (by simp <;> omega) (.slice cao (bothL (nmL L false) C).length cac))
 replace Xz := Lib.hid (show CBox (w3.setCell ⟨w2.heap.size + 1, 1, none⟩ (.slice cao (bothL (nmL L false) C).length cac)) (w2.heap.size + 1) 59 #[.bool false, .slice cao (bothL (nmL L false) C).length cac] from by simpa using Xz.out.set 1 (.slice cao (bothL (nmL L false) C).length cac))
 clear Sr
 clear Sa
 replace Sc := Lib.hid (Sc.out.apart' (p := ⟨w2.heap.size + 1, 1, none⟩) (fun hL b hb e => Mc.out hL (hb.trans (congrArg some e))) (.slice cao (bothL (nmL L false) C).length cac))
 replace OO := Lib.hid (OO.out.far (p := ⟨w2.heap.size + 1, 1, none⟩) (by simp) (fun b hb => by simp; omega) (.slice cao (bothL (nmL L false) C).length cac))
 replace HB := Lib.hid (HB.out.setCell (p := ⟨w2.heap.size + 1, 1, none⟩) (by simp <;> omega) (.slice cao (bothL (nmL L false) C).length cac))
 obtain ⟨v9, L9, hc9, hT9, hA9, hl9, hk9⟩ := OO.out
 obtain ⟨v9o, v9c, rfl⟩ := hT9.shape
 have C9 := Lib.hid hc9; have T9 := Lib.hid hT9; have A9 := Lib.hid hA9; have L9' := Lib.hid hl9; have K9 := Lib.hid hk9
 obtain ⟨c0, c0f⟩ := hc9.at_ 0 (.bool false) rfl
 obtain ⟨c1, c1f⟩ := hc9.at_ 1 (.int .i64 0) rfl
 obtain ⟨c2, c2f⟩ := hc9.at_ 2 (.slice v9o L9.length v9c) rfl
 obtain ⟨d0, d0f⟩ := Xz.out.at_ 0 (.bool false) rfl
 obtain ⟨d1, d1f⟩ := Xz.out.at_ 1 (.slice cao (bothL (nmL L false) C).length cac) rfl
 obtain ⟨e0, e0f⟩ := Xs.out.at_ 0 (.bool false) rfl
 obtain ⟨e1, e1f⟩ := Xs.out.at_ 1 (.int .i64 0) rfl
 obtain ⟨e2, e2f⟩ := Xs.out.at_ 2 (.slice none 0 0) rfl
 obtain ⟨f0, f0f⟩ := Xk.out.at_ 0 (.bool false) rfl
 obtain ⟨f1, f1f⟩ := Xk.out.at_ 1 (.slice none 0 0) rfl
 clear hc9 hT9 hA9 hl9 hk9
 go_wp2_with fail
 go_region
 all_goals
  go_wp2_with fail
  obtain ⟨r0, r1, r2, r3, r4⟩ := boxes_end5 Xs.out Xk.out (.bool false) (.int .i64 0) (.slice v9o L9.length v9c) (.bool false) (.slice cao (bothL (nmL L false) C).length cac)
  have hT := T9.out.end5' (lo := w.heap.size + 1) (fun hL b hb => by have := K9.out hL b hb; omega) (.bool false) (.int .i64 0) (.slice v9o L9.length v9c) (.bool false) (.slice cao (bothL (nmL L false) C).length cac)
  have hU := Sc.out.end5' (lo := w.heap.size + 1) (fun hL b hb => by have := hlc b hb; have := hzc; omega) (.bool false) (.int .i64 0) (.slice v9o L9.length v9c) (.bool false) (.slice cao (bothL (nmL L false) C).length cac)
  have hBB := below_end5' HB.out (lo := w.heap.size + 1) (by omega) (.bool false) (.int .i64 0) (.slice v9o L9.length v9c) (.bool false) (.slice cao (bothL (nmL L false) C).length cac)
  refine bodyPost_ret (v := .tuple #[.agg #[.bool false, .int .i64 0, .slice v9o L9.length v9c], .agg #[.bool false, (.slice cao (bothL (nmL L false) C).length cac)]]) (by simp [results, Tryz.results64, go_sem, r0, r1, r2, r3, r4]) rfl ⟨_, L9, _, rfl, ?_, A9.out, ?_, ?_⟩
  · first | with_reducible exact hT | with_reducible exact hT.drew
  · first | with_reducible exact hU | with_reducible exact hU.drew
  · first | with_reducible exact hBB | with_reducible exact hBB.drew


set_option maxHeartbeats 2000000 in
theorem but_1 (ex : Bool) (at' : Int) (v : Value) (L : List Tmd) {F : Str → Option Int} (rv : Value) (C : List Str) (m : Int) (w : World) (h : Tms w v L) (hA : Asc F L) (hr : Strs w rv C) (hL : L.length ≤ 60) (hC : C.length ≤ 60) (hm : (Lit.int .i64 m).wf = true) (_ha : (Lit.int .i64 at').wf = true) :
 Calls Tryz.prog 65 #[.agg #[.bool ex, .int .i64 at', v], .int .i64 1, rv, .int .i64 m] w (RetSA w true at' (setF (setF (keepF (fun _ => none) (nmL L false) F) (lessF (nmL L true) C) 0) C m) false ([])) := by
 obtain ⟨vo, vc, rfl⟩ := h.shape
 obtain ⟨ro, rc, rfl⟩ := hr.shape
 have q1 := nmL_len L false; have q2 := nmL_len L true
 have qbx := bothL_len (nmL L false) C; have qlx := lessF_len (nmL L false) C
 have qby := bothL_len (nmL L true) C; have qly := lessF_len (nmL L true) C
 have qr1 := lessF_len C (sasc (nmL L false ++ nmL L true)); have qr2 := lessF_len C (nmL L true)
 have qj : (sasc (nmL L false ++ nmL L true)).length ≤ (nmL L false).length + (nmL L true).length := Nat.le_trans (sasc_length _) (by simp)
 have HB := Lib.hid (Below.refl w.heap.size w)
 have TT := Lib.hid h
 have Sr := Lib.hid hr
 clear h hr
 have hb0 : Below w.heap.size w (((w.alloc (.cells #[.bool ex, .int .i64 at', .slice vo L.length vc] 71)).alloc (.cells #[.bool false, .int .i64 0, .slice none 0 0] 71)).alloc (.cells #[.bool false, .slice none 0 0] 59)) := (((Below.refl _ _).alloc (Nat.le_refl _) _).alloc (by simp) _).alloc (by simp <;> omega) _
 replace Sr := Lib.hid (Sr.out.mono hb0)
 replace TT := Lib.hid (TT.out.mono hb0)
 replace HB := Lib.hid (HB.out.trans (hb0.mono HB.out.size))
 have Xp := Lib.hid (show CBox (((w.alloc (.cells #[.bool ex, .int .i64 at', .slice vo L.length vc] 71)).alloc (.cells #[.bool false, .int .i64 0, .slice none 0 0] 71)).alloc (.cells #[.bool false, .slice none 0 0] 59)) w.heap.size 71 #[.bool ex, .int .i64 at', .slice vo L.length vc] from ((CBox.new _ rfl).old _).old _)
 have Xs := Lib.hid (show CBox (((w.alloc (.cells #[.bool ex, .int .i64 at', .slice vo L.length vc] 71)).alloc (.cells #[.bool false, .int .i64 0, .slice none 0 0] 71)).alloc (.cells #[.bool false, .slice none 0 0] 59)) (w.heap.size + 1) 71 #[.bool false, .int .i64 0, .slice none 0 0] from (CBox.new _ (by simp)).old _)
 have Xk := Lib.hid (show CBox (((w.alloc (.cells #[.bool ex, .int .i64 at', .slice vo L.length vc] 71)).alloc (.cells #[.bool false, .int .i64 0, .slice none 0 0] 71)).alloc (.cells #[.bool false, .slice none 0 0] 59)) (w.heap.size + 1 + 1) 59 #[.bool false, .slice none 0 0] from CBox.new _ (by simp))
 clear hb0
 obtain ⟨x1, x1f⟩ := Xp.out.at_ 0 (.bool ex) rfl
 obtain ⟨x2, x2f⟩ := Xp.out.at_ 1 (.int .i64 at') rfl
 obtain ⟨x3, x3f⟩ := Xp.out.at_ 2 (.slice vo L.length vc) rfl
 go_enter Tryz.func65, Tryz.ntmps65
 go_wp2_with fail
 refine (rnames_any ex at' _ L false _ TT.out).mono ?_
 try clear x1 x1f x2 x2f x3 x3f
 rintro e w1 ⟨o, rfl, ho, hb, hlo⟩
 obtain ⟨aao, aac, rfl⟩ := ho.shape
 have hza : w.heap.size + 3 ≤ (((w.alloc (.cells #[.bool ex, .int .i64 at', .slice vo L.length vc] 71)).alloc (.cells #[.bool false, .int .i64 0, .slice none 0 0] 71)).alloc (.cells #[.bool false, .slice none 0 0] 59)).heap.size := Xk.out.lt
 replace Xp := Lib.hid (Xp.out.below hb Xp.out.lt)
 replace Xs := Lib.hid (Xs.out.below hb Xs.out.lt)
 replace Xk := Lib.hid (Xk.out.below hb Xk.out.lt)
 replace Sr := Lib.hid (Sr.out.mono hb)
 replace TT := Lib.hid (TT.out.mono hb)
 replace HB := Lib.hid (HB.out.trans (hb.mono HB.out.size))
 have Sa := Lib.hid ho
 have hla := hlo
 clear hb ho hlo
 obtain ⟨x4, x4f⟩ := Xp.out.at_ 0 (.bool ex) rfl
 obtain ⟨x5, x5f⟩ := Xp.out.at_ 1 (.int .i64 at') rfl
 obtain ⟨x6, x6f⟩ := Xp.out.at_ 2 (.slice vo L.length vc) rfl
 go_wp2_with fail
 refine (rnames_any ex at' _ L true _ TT.out).mono ?_
 try clear x4 x4f x5 x5f x6 x6f
 rintro e w2 ⟨o, rfl, ho, hb, hlo⟩
 obtain ⟨yao, yac, rfl⟩ := ho.shape
 have hzy : w.heap.size + 3 ≤ w1.heap.size := Xk.out.lt
 replace Xp := Lib.hid (Xp.out.below hb Xp.out.lt)
 replace Xs := Lib.hid (Xs.out.below hb Xs.out.lt)
 replace Xk := Lib.hid (Xk.out.below hb Xk.out.lt)
 replace Sr := Lib.hid (Sr.out.mono hb)
 replace Sa := Lib.hid (Sa.out.mono hb)
 replace TT := Lib.hid (TT.out.mono hb)
 replace HB := Lib.hid (HB.out.trans (hb.mono HB.out.size))
 have Sy := Lib.hid ho
 have hly := hlo
 clear hb ho hlo
 obtain ⟨x7, x7f⟩ := Xp.out.at_ 0 (.bool ex) rfl
 obtain ⟨x8, x8f⟩ := Xp.out.at_ 1 (.int .i64 at') rfl
 obtain ⟨x9, x9f⟩ := Xp.out.at_ 2 (.slice vo L.length vc) rfl
 have hSlo : w.heap.size ≤ w2.heap.size := by have := HB.out.size; omega
 have hS3 : w.heap.size + 3 ≤ w2.heap.size := by have := Xk.out.lt; omega
 have Np : w2.heap.size ≠ w.heap.size := by omega
 have Ns : w2.heap.size ≠ w.heap.size + 1 := by omega
 have Nk : w2.heap.size ≠ w.heap.size + 1 + 1 := by omega
 have Nr := Lib.hid (Sr.out.ne_ge (b := w2.heap.size) (by omega))
 have Na := Lib.hid (Sa.out.ne_ge (b := w2.heap.size) (by omega))
 have Ny := Lib.hid (Sy.out.ne_ge (b := w2.heap.size) (by omega))
 have Mr := Lib.hid (Sr.out.ne_ge (b := w2.heap.size + 1) (by omega))
 have Ma := Lib.hid (Sa.out.ne_ge (b := w2.heap.size + 1) (by omega))
 have My := Lib.hid (Sy.out.ne_ge (b := w2.heap.size + 1) (by omega))
 have NTT := Lib.hid (TT.out.ne_ge (b := w2.heap.size) (by omega))
 have hb0 : Below w2.heap.size w2 ((w2.alloc (.cells #[.bool true, .int .i64 at', .slice none 0 0] 71)).alloc (.cells #[.bool false, .slice none 0 0] 59)) := ((Below.refl _ _).alloc (Nat.le_refl _) _).alloc (by simp) _
 replace Xp := Lib.hid (Xp.out.below hb0 Xp.out.lt)
 replace Xs := Lib.hid (Xs.out.below hb0 Xs.out.lt)
 replace Xk := Lib.hid (Xk.out.below hb0 Xk.out.lt)
 replace Sr := Lib.hid (Sr.out.mono hb0)
 replace Sa := Lib.hid (Sa.out.mono hb0)
 replace Sy := Lib.hid (Sy.out.mono hb0)
 replace TT := Lib.hid (TT.out.mono hb0)
 replace HB := Lib.hid (HB.out.trans (hb0.mono HB.out.size))
 have OO := Lib.hid (show StBox ((w2.alloc (.cells #[.bool true, .int .i64 at', .slice none 0 0] 71)).alloc (.cells #[.bool false, .slice none 0 0] 59)) w2.heap.size (fun b => w2.heap.size + 2 ≤ b) true at' 0 (fun _ => none) from ⟨_, [], (CBox.new _ rfl).old _, Tms.nil _, asc_nil (fun _ => rfl), Nat.le_refl _, fun h => absurd rfl h⟩)
 have Xz := Lib.hid (show CBox ((w2.alloc (.cells #[.bool true, .int .i64 at', .slice none 0 0] 71)).alloc (.cells #[.bool false, .slice none 0 0] 59)) (w2.heap.size + 1) 59 #[.bool false, .slice none 0 0] from CBox.new _ (by simp))
 have Nz : w2.heap.size ≠ w2.heap.size + 1 := by omega
 clear hb0
 go_wp2_with fail
 refine (rjoin_any _ _ _ _ _ Sa.out Sy.out (by omega)).mono ?_
 try clear x7 x7f x8 x8f x9 x9f
 rintro e w3 ⟨o, rfl, ho, hb, hlo⟩
 obtain ⟨jao, jac, rfl⟩ := ho.shape
 have Nj := Lib.hid (show (sasc (nmL L false ++ nmL L true)) ≠ [] → (Value.slice jao (sasc (nmL L false ++ nmL L true)).length jac).ownBlock ≠ some w2.heap.size from fun _ => hlo.ne OO.out.lt)
 have hzj : w.heap.size + 3 ≤ ((w2.alloc (.cells #[.bool true, .int .i64 at', .slice none 0 0] 71)).alloc (.cells #[.bool false, .slice none 0 0] 59)).heap.size := Xk.out.lt
 have Mj := Lib.hid (show (sasc (nmL L false ++ nmL L true)) ≠ [] → (Value.slice jao (sasc (nmL L false ++ nmL L true)).length jac).ownBlock ≠ some (w2.heap.size + 1) from fun _ => hlo.ne Xz.out.lt)
 replace Xp := Lib.hid (Xp.out.below hb Xp.out.lt)
 replace Xs := Lib.hid (Xs.out.below hb Xs.out.lt)
 replace Xk := Lib.hid (Xk.out.below hb Xk.out.lt)
 replace Xz := Lib.hid (Xz.out.below hb Xz.out.lt)
 replace Sr := Lib.hid (Sr.out.mono hb)
 replace Sa := Lib.hid (Sa.out.mono hb)
 replace Sy := Lib.hid (Sy.out.mono hb)
 replace TT := Lib.hid (TT.out.mono hb)
 replace OO := Lib.hid (OO.out.mono hb)
 replace HB := Lib.hid (HB.out.trans (hb.mono HB.out.size))
 have Sj := Lib.hid ho
 have hlj := hlo
 clear hb ho hlo
 go_wp2_with fail
 refine (less_in _ _ _ _ _ Sr.out Sj.out).mono ?_
 rintro e w4 ⟨o, rfl, ho, hb, hlo⟩
 obtain ⟨eao, eac, rfl⟩ := ho.shape
 have Ne := Lib.hid (show (lessF C (sasc (nmL L false ++ nmL L true))) ≠ [] → (Value.slice eao (lessF C (sasc (nmL L false ++ nmL L true))).length eac).ownBlock ≠ some w2.heap.size from fun _ => hlo.ne OO.out.lt)
 have hze : w.heap.size + 3 ≤ w3.heap.size := Xk.out.lt
 have Me := Lib.hid (show (lessF C (sasc (nmL L false ++ nmL L true))) ≠ [] → (Value.slice eao (lessF C (sasc (nmL L false ++ nmL L true))).length eac).ownBlock ≠ some (w2.heap.size + 1) from fun _ => hlo.ne Xz.out.lt)
 replace Xp := Lib.hid (Xp.out.below hb Xp.out.lt)
 replace Xs := Lib.hid (Xs.out.below hb Xs.out.lt)
 replace Xk := Lib.hid (Xk.out.below hb Xk.out.lt)
 replace Xz := Lib.hid (Xz.out.below hb Xz.out.lt)
 replace Sr := Lib.hid (Sr.out.mono hb)
 replace Sa := Lib.hid (Sa.out.mono hb)
 replace Sy := Lib.hid (Sy.out.mono hb)
 replace Sj := Lib.hid (Sj.out.mono hb)
 replace TT := Lib.hid (TT.out.mono hb)
 replace OO := Lib.hid (OO.out.mono hb)
 replace HB := Lib.hid (HB.out.trans (hb.mono HB.out.size))
 have Se := Lib.hid ho
 have hle := hlo
 clear hb ho hlo
 obtain ⟨x10, x10f⟩ := Xp.out.at_ 0 (.bool ex) rfl
 obtain ⟨x11, x11f⟩ := Xp.out.at_ 1 (.int .i64 at') rfl
 obtain ⟨x12, x12f⟩ := Xp.out.at_ 2 (.slice vo L.length vc) rfl
 go_wp2_with fail
 refine (kept_any (fun b hb => Nat.le_trans Xz.out.lt hb) _ (nmL L false) ex at' _ L OO.out (by omega) Sa.out Na.out TT.out hA NTT.out).mono ?_
 try clear x10 x10f x11 x11f x12 x12f
 rintro e w5 ⟨rfl, hst, hg⟩
 replace Xp := Lib.hid (Xp.out.grown hg (ne_some Np))
 replace Xs := Lib.hid (Xs.out.grown hg (ne_some Ns))
 replace Xk := Lib.hid (Xk.out.grown hg (ne_some Nk))
 replace Xz := Lib.hid (Xz.out.grown hg (ne_some Nz))
 replace Sr := Lib.hid (Sr.out.grown' hg Nr.out)
 replace Sa := Lib.hid (Sa.out.grown' hg Na.out)
 replace Sy := Lib.hid (Sy.out.grown' hg Ny.out)
 replace Sj := Lib.hid (Sj.out.grown' hg Nj.out)
 replace Se := Lib.hid (Se.out.grown' hg Ne.out)
 replace TT := Lib.hid (TT.out.grown' hg NTT.out)
 replace HB := Lib.hid (HB.out.grown hg HB.out.size (fun j e => by injection e with e; subst e; exact hSlo))
 replace OO := Lib.hid hst
 clear hg hst
 go_wp2_with fail
 refine (less_in _ _ _ _ _ Sy.out Sr.out).mono ?_
 rintro e w6 ⟨o, rfl, ho, hb, hlo⟩
 obtain ⟨dao, dac, rfl⟩ := ho.shape
 have Nd := Lib.hid (show (lessF (nmL L true) C) ≠ [] → (Value.slice dao (lessF (nmL L true) C).length dac).ownBlock ≠ some w2.heap.size from fun _ => hlo.ne OO.out.lt)
 have hzd : w.heap.size + 3 ≤ w5.heap.size := Xk.out.lt
 have Md := Lib.hid (show (lessF (nmL L true) C) ≠ [] → (Value.slice dao (lessF (nmL L true) C).length dac).ownBlock ≠ some (w2.heap.size + 1) from fun _ => hlo.ne Xz.out.lt)
 replace Xp := Lib.hid (Xp.out.below hb Xp.out.lt)
 replace Xs := Lib.hid (Xs.out.below hb Xs.out.lt)
 replace Xk := Lib.hid (Xk.out.below hb Xk.out.lt)
 replace Xz := Lib.hid (Xz.out.below hb Xz.out.lt)
 replace Sr := Lib.hid (Sr.out.mono hb)
 replace Sa := Lib.hid (Sa.out.mono hb)
 replace Sy := Lib.hid (Sy.out.mono hb)
 replace Sj := Lib.hid (Sj.out.mono hb)
 replace Se := Lib.hid (Se.out.mono hb)
 replace TT := Lib.hid (TT.out.mono hb)
 replace OO := Lib.hid (OO.out.mono hb)
 replace HB := Lib.hid (HB.out.trans (hb.mono HB.out.size))
 have Sd := Lib.hid ho
 have hld := hlo
 clear hb ho hlo
 go_wp2_with fail
 refine (all_any _ (lessF (nmL L true) C) 0 (fun b hb => Nat.le_trans Xz.out.lt hb) OO.out (by omega) Sd.out Nd.out rfl).mono ?_
 rintro e w7 ⟨rfl, hst, hg⟩
 replace Xp := Lib.hid (Xp.out.grown hg (ne_some Np))
 replace Xs := Lib.hid (Xs.out.grown hg (ne_some Ns))
 replace Xk := Lib.hid (Xk.out.grown hg (ne_some Nk))
 replace Xz := Lib.hid (Xz.out.grown hg (ne_some Nz))
 replace Sr := Lib.hid (Sr.out.grown' hg Nr.out)
 replace Sa := Lib.hid (Sa.out.grown' hg Na.out)
 replace Sy := Lib.hid (Sy.out.grown' hg Ny.out)
 replace Sj := Lib.hid (Sj.out.grown' hg Nj.out)
 replace Se := Lib.hid (Se.out.grown' hg Ne.out)
 replace Sd := Lib.hid (Sd.out.grown' hg Nd.out)
 replace TT := Lib.hid (TT.out.grown' hg NTT.out)
 replace HB := Lib.hid (HB.out.grown hg HB.out.size (fun j e => by injection e with e; subst e; exact hSlo))
 replace OO := Lib.hid hst
 clear hg hst
 go_wp2_with fail
 refine (all_any _ (C) m (fun b hb => Nat.le_trans Xz.out.lt hb) OO.out (by omega) Sr.out Nr.out hm).mono ?_
 rintro e w8 ⟨rfl, hst, hg⟩
 replace Xp := Lib.hid (Xp.out.grown hg (ne_some Np))
 replace Xs := Lib.hid (Xs.out.grown hg (ne_some Ns))
 replace Xk := Lib.hid (Xk.out.grown hg (ne_some Nk))
 replace Xz := Lib.hid (Xz.out.grown hg (ne_some Nz))
 replace Sr := Lib.hid (Sr.out.grown' hg Nr.out)
 replace Sa := Lib.hid (Sa.out.grown' hg Na.out)
 replace Sy := Lib.hid (Sy.out.grown' hg Ny.out)
 replace Sj := Lib.hid (Sj.out.grown' hg Nj.out)
 replace Se := Lib.hid (Se.out.grown' hg Ne.out)
 replace Sd := Lib.hid (Sd.out.grown' hg Nd.out)
 replace TT := Lib.hid (TT.out.grown' hg NTT.out)
 replace HB := Lib.hid (HB.out.grown hg HB.out.size (fun j e => by injection e with e; subst e; exact hSlo))
 replace OO := Lib.hid hst
 clear hg hst
 obtain ⟨v9, L9, hc9, hT9, hA9, hl9, hk9⟩ := OO.out
 obtain ⟨v9o, v9c, rfl⟩ := hT9.shape
 have C9 := Lib.hid hc9; have T9 := Lib.hid hT9; have A9 := Lib.hid hA9; have L9' := Lib.hid hl9; have K9 := Lib.hid hk9
 obtain ⟨c0, c0f⟩ := hc9.at_ 0 (.bool true) rfl
 obtain ⟨c1, c1f⟩ := hc9.at_ 1 (.int .i64 at') rfl
 obtain ⟨c2, c2f⟩ := hc9.at_ 2 (.slice v9o L9.length v9c) rfl
 obtain ⟨d0, d0f⟩ := Xz.out.at_ 0 (.bool false) rfl
 obtain ⟨d1, d1f⟩ := Xz.out.at_ 1 (.slice none 0 0) rfl
 obtain ⟨e0, e0f⟩ := Xs.out.at_ 0 (.bool false) rfl
 obtain ⟨e1, e1f⟩ := Xs.out.at_ 1 (.int .i64 0) rfl
 obtain ⟨e2, e2f⟩ := Xs.out.at_ 2 (.slice none 0 0) rfl
 obtain ⟨f0, f0f⟩ := Xk.out.at_ 0 (.bool false) rfl
 obtain ⟨f1, f1f⟩ := Xk.out.at_ 1 (.slice none 0 0) rfl
 clear hc9 hT9 hA9 hl9 hk9
 go_wp2_with fail
 go_region
 all_goals
  go_wp2_with fail
  obtain ⟨r0, r1, r2, r3, r4⟩ := boxes_end5 Xs.out Xk.out (.bool true) (.int .i64 at') (.slice v9o L9.length v9c) (.bool false) (.slice none 0 0)
  have hT := T9.out.end5' (lo := w.heap.size + 1) (fun hL b hb => by have := K9.out hL b hb; omega) (.bool true) (.int .i64 at') (.slice v9o L9.length v9c) (.bool false) (.slice none 0 0)
  have hBB := below_end5' HB.out (lo := w.heap.size + 1) (by omega) (.bool true) (.int .i64 at') (.slice v9o L9.length v9c) (.bool false) (.slice none 0 0)
  refine bodyPost_ret (v := .tuple #[.agg #[.bool true, .int .i64 at', .slice v9o L9.length v9c], .agg #[.bool false, (.slice none 0 0)]]) (by simp [results, Tryz.results65, go_sem, r0, r1, r2, r3, r4]) rfl ⟨_, L9, _, rfl, ?_, A9.out, ?_, ?_⟩
  · first | with_reducible exact hT | with_reducible exact hT.drew
  · exact Strs.nil _
  · first | with_reducible exact hBB | with_reducible exact hBB.drew

set_option maxRecDepth 20000 in
set_option maxHeartbeats 2000000 in
theorem but_2 (ex : Bool) (at' : Int) (v : Value) (L : List Tmd) {F : Str → Option Int} (rv : Value) (C : List Str) (m : Int) (w : World) (h : Tms w v L) (hA : Asc F L) (hr : Strs w rv C) (hL : L.length ≤ 60) (hC : C.length ≤ 60) (hm : (Lit.int .i64 m).wf = true) (_ha : (Lit.int .i64 at').wf = true) :
 Calls Tryz.prog 65 #[.agg #[.bool ex, .int .i64 at', v], .int .i64 2, rv, .int .i64 m] w (RetSA w true m (setF (keepF (setF (fun _ => none) (bothL (nmL L true) C) 0) (bothL (nmL L false) C) F) (lessF C (sasc (nmL L false ++ nmL L true))) m) false ([])) := by
 obtain ⟨vo, vc, rfl⟩ := h.shape
 obtain ⟨ro, rc, rfl⟩ := hr.shape
 have q1 := nmL_len L false; have q2 := nmL_len L true
 have qbx := bothL_len (nmL L false) C; have qlx := lessF_len (nmL L false) C
 have qby := bothL_len (nmL L true) C; have qly := lessF_len (nmL L true) C
 have qr1 := lessF_len C (sasc (nmL L false ++ nmL L true)); have qr2 := lessF_len C (nmL L true)
 have qj : (sasc (nmL L false ++ nmL L true)).length ≤ (nmL L false).length + (nmL L true).length := Nat.le_trans (sasc_length _) (by simp)
 have HB := Lib.hid (Below.refl w.heap.size w)
 have TT := Lib.hid h
 have Sr := Lib.hid hr
 clear h hr
 have hb0 : Below w.heap.size w (((w.alloc (.cells #[.bool ex, .int .i64 at', .slice vo L.length vc] 71)).alloc (.cells #[.bool false, .int .i64 0, .slice none 0 0] 71)).alloc (.cells #[.bool false, .slice none 0 0] 59)) := (((Below.refl _ _).alloc (Nat.le_refl _) _).alloc (by simp) _).alloc (by simp <;> omega) _
 replace Sr := Lib.hid (Sr.out.mono hb0)
 replace TT := Lib.hid (TT.out.mono hb0)
 replace HB := Lib.hid (HB.out.trans (hb0.mono HB.out.size))
 have Xp := Lib.hid (show CBox (((w.alloc (.cells #[.bool ex, .int .i64 at', .slice vo L.length vc] 71)).alloc (.cells #[.bool false, .int .i64 0, .slice none 0 0] 71)).alloc (.cells #[.bool false, .slice none 0 0] 59)) w.heap.size 71 #[.bool ex, .int .i64 at', .slice vo L.length vc] from ((CBox.new _ rfl).old _).old _)
 have Xs := Lib.hid (show CBox (((w.alloc (.cells #[.bool ex, .int .i64 at', .slice vo L.length vc] 71)).alloc (.cells #[.bool false, .int .i64 0, .slice none 0 0] 71)).alloc (.cells #[.bool false, .slice none 0 0] 59)) (w.heap.size + 1) 71 #[.bool false, .int .i64 0, .slice none 0 0] from (CBox.new _ (by simp)).old _)
 have Xk := Lib.hid (show CBox (((w.alloc (.cells #[.bool ex, .int .i64 at', .slice vo L.length vc] 71)).alloc (.cells #[.bool false, .int .i64 0, .slice none 0 0] 71)).alloc (.cells #[.bool false, .slice none 0 0] 59)) (w.heap.size + 1 + 1) 59 #[.bool false, .slice none 0 0] from CBox.new _ (by simp))
 clear hb0
 obtain ⟨x1, x1f⟩ := Xp.out.at_ 0 (.bool ex) rfl
 obtain ⟨x2, x2f⟩ := Xp.out.at_ 1 (.int .i64 at') rfl
 obtain ⟨x3, x3f⟩ := Xp.out.at_ 2 (.slice vo L.length vc) rfl
 go_enter Tryz.func65, Tryz.ntmps65
 go_wp2_with fail
 refine (rnames_any ex at' _ L false _ TT.out).mono ?_
 try clear x1 x1f x2 x2f x3 x3f
 rintro e w1 ⟨o, rfl, ho, hb, hlo⟩
 obtain ⟨aao, aac, rfl⟩ := ho.shape
 have hza : w.heap.size + 3 ≤ (((w.alloc (.cells #[.bool ex, .int .i64 at', .slice vo L.length vc] 71)).alloc (.cells #[.bool false, .int .i64 0, .slice none 0 0] 71)).alloc (.cells #[.bool false, .slice none 0 0] 59)).heap.size := Xk.out.lt
 replace Xp := Lib.hid (Xp.out.below hb Xp.out.lt)
 replace Xs := Lib.hid (Xs.out.below hb Xs.out.lt)
 replace Xk := Lib.hid (Xk.out.below hb Xk.out.lt)
 replace Sr := Lib.hid (Sr.out.mono hb)
 replace TT := Lib.hid (TT.out.mono hb)
 replace HB := Lib.hid (HB.out.trans (hb.mono HB.out.size))
 have Sa := Lib.hid ho
 have hla := hlo
 clear hb ho hlo
 obtain ⟨x4, x4f⟩ := Xp.out.at_ 0 (.bool ex) rfl
 obtain ⟨x5, x5f⟩ := Xp.out.at_ 1 (.int .i64 at') rfl
 obtain ⟨x6, x6f⟩ := Xp.out.at_ 2 (.slice vo L.length vc) rfl
 go_wp2_with fail
 refine (rnames_any ex at' _ L true _ TT.out).mono ?_
 try clear x4 x4f x5 x5f x6 x6f
 rintro e w2 ⟨o, rfl, ho, hb, hlo⟩
 obtain ⟨yao, yac, rfl⟩ := ho.shape
 have hzy : w.heap.size + 3 ≤ w1.heap.size := Xk.out.lt
 replace Xp := Lib.hid (Xp.out.below hb Xp.out.lt)
 replace Xs := Lib.hid (Xs.out.below hb Xs.out.lt)
 replace Xk := Lib.hid (Xk.out.below hb Xk.out.lt)
 replace Sr := Lib.hid (Sr.out.mono hb)
 replace Sa := Lib.hid (Sa.out.mono hb)
 replace TT := Lib.hid (TT.out.mono hb)
 replace HB := Lib.hid (HB.out.trans (hb.mono HB.out.size))
 have Sy := Lib.hid ho
 have hly := hlo
 clear hb ho hlo
 obtain ⟨x7, x7f⟩ := Xp.out.at_ 0 (.bool ex) rfl
 obtain ⟨x8, x8f⟩ := Xp.out.at_ 1 (.int .i64 at') rfl
 obtain ⟨x9, x9f⟩ := Xp.out.at_ 2 (.slice vo L.length vc) rfl
 have hSlo : w.heap.size ≤ w2.heap.size := by have := HB.out.size; omega
 have hS3 : w.heap.size + 3 ≤ w2.heap.size := by have := Xk.out.lt; omega
 have Np : w2.heap.size ≠ w.heap.size := by omega
 have Ns : w2.heap.size ≠ w.heap.size + 1 := by omega
 have Nk : w2.heap.size ≠ w.heap.size + 1 + 1 := by omega
 have Nr := Lib.hid (Sr.out.ne_ge (b := w2.heap.size) (by omega))
 have Na := Lib.hid (Sa.out.ne_ge (b := w2.heap.size) (by omega))
 have Ny := Lib.hid (Sy.out.ne_ge (b := w2.heap.size) (by omega))
 have Mr := Lib.hid (Sr.out.ne_ge (b := w2.heap.size + 1) (by omega))
 have Ma := Lib.hid (Sa.out.ne_ge (b := w2.heap.size + 1) (by omega))
 have My := Lib.hid (Sy.out.ne_ge (b := w2.heap.size + 1) (by omega))
 have NTT := Lib.hid (TT.out.ne_ge (b := w2.heap.size) (by omega))
 have hb0 : Below w2.heap.size w2 ((w2.alloc (.cells #[.bool true, .int .i64 at', .slice none 0 0] 71)).alloc (.cells #[.bool false, .slice none 0 0] 59)) := ((Below.refl _ _).alloc (Nat.le_refl _) _).alloc (by simp) _
 replace Xp := Lib.hid (Xp.out.below hb0 Xp.out.lt)
 replace Xs := Lib.hid (Xs.out.below hb0 Xs.out.lt)
 replace Xk := Lib.hid (Xk.out.below hb0 Xk.out.lt)
 replace Sr := Lib.hid (Sr.out.mono hb0)
 replace Sa := Lib.hid (Sa.out.mono hb0)
 replace Sy := Lib.hid (Sy.out.mono hb0)
 replace TT := Lib.hid (TT.out.mono hb0)
 replace HB := Lib.hid (HB.out.trans (hb0.mono HB.out.size))
 have OO := Lib.hid (show StBox ((w2.alloc (.cells #[.bool true, .int .i64 at', .slice none 0 0] 71)).alloc (.cells #[.bool false, .slice none 0 0] 59)) w2.heap.size (fun b => w2.heap.size + 2 ≤ b) true at' 0 (fun _ => none) from ⟨_, [], (CBox.new _ rfl).old _, Tms.nil _, asc_nil (fun _ => rfl), Nat.le_refl _, fun h => absurd rfl h⟩)
 have Xz := Lib.hid (show CBox ((w2.alloc (.cells #[.bool true, .int .i64 at', .slice none 0 0] 71)).alloc (.cells #[.bool false, .slice none 0 0] 59)) (w2.heap.size + 1) 59 #[.bool false, .slice none 0 0] from CBox.new _ (by simp))
 have Nz : w2.heap.size ≠ w2.heap.size + 1 := by omega
 clear hb0
 go_wp2_with fail
 refine (rjoin_any _ _ _ _ _ Sa.out Sy.out (by omega)).mono ?_
 try clear x7 x7f x8 x8f x9 x9f
 rintro e w3 ⟨o, rfl, ho, hb, hlo⟩
 obtain ⟨jao, jac, rfl⟩ := ho.shape
 have Nj := Lib.hid (show (sasc (nmL L false ++ nmL L true)) ≠ [] → (Value.slice jao (sasc (nmL L false ++ nmL L true)).length jac).ownBlock ≠ some w2.heap.size from fun _ => hlo.ne OO.out.lt)
 have hzj : w.heap.size + 3 ≤ ((w2.alloc (.cells #[.bool true, .int .i64 at', .slice none 0 0] 71)).alloc (.cells #[.bool false, .slice none 0 0] 59)).heap.size := Xk.out.lt
 have Mj := Lib.hid (show (sasc (nmL L false ++ nmL L true)) ≠ [] → (Value.slice jao (sasc (nmL L false ++ nmL L true)).length jac).ownBlock ≠ some (w2.heap.size + 1) from fun _ => hlo.ne Xz.out.lt)
 replace Xp := Lib.hid (Xp.out.below hb Xp.out.lt)
 replace Xs := Lib.hid (Xs.out.below hb Xs.out.lt)
 replace Xk := Lib.hid (Xk.out.below hb Xk.out.lt)
 replace Xz := Lib.hid (Xz.out.below hb Xz.out.lt)
 replace Sr := Lib.hid (Sr.out.mono hb)
 replace Sa := Lib.hid (Sa.out.mono hb)
 replace Sy := Lib.hid (Sy.out.mono hb)
 replace TT := Lib.hid (TT.out.mono hb)
 replace OO := Lib.hid (OO.out.mono hb)
 replace HB := Lib.hid (HB.out.trans (hb.mono HB.out.size))
 have Sj := Lib.hid ho
 have hlj := hlo
 clear hb ho hlo
 go_wp2_with fail
 refine (less_in _ _ _ _ _ Sr.out Sj.out).mono ?_
 rintro e w4 ⟨o, rfl, ho, hb, hlo⟩
 obtain ⟨eao, eac, rfl⟩ := ho.shape
 have Ne := Lib.hid (show (lessF C (sasc (nmL L false ++ nmL L true))) ≠ [] → (Value.slice eao (lessF C (sasc (nmL L false ++ nmL L true))).length eac).ownBlock ≠ some w2.heap.size from fun _ => hlo.ne OO.out.lt)
 have hze : w.heap.size + 3 ≤ w3.heap.size := Xk.out.lt
 have Me := Lib.hid (show (lessF C (sasc (nmL L false ++ nmL L true))) ≠ [] → (Value.slice eao (lessF C (sasc (nmL L false ++ nmL L true))).length eac).ownBlock ≠ some (w2.heap.size + 1) from fun _ => hlo.ne Xz.out.lt)
 replace Xp := Lib.hid (Xp.out.below hb Xp.out.lt)
 replace Xs := Lib.hid (Xs.out.below hb Xs.out.lt)
 replace Xk := Lib.hid (Xk.out.below hb Xk.out.lt)
 replace Xz := Lib.hid (Xz.out.below hb Xz.out.lt)
 replace Sr := Lib.hid (Sr.out.mono hb)
 replace Sa := Lib.hid (Sa.out.mono hb)
 replace Sy := Lib.hid (Sy.out.mono hb)
 replace Sj := Lib.hid (Sj.out.mono hb)
 replace TT := Lib.hid (TT.out.mono hb)
 replace OO := Lib.hid (OO.out.mono hb)
 replace HB := Lib.hid (HB.out.trans (hb.mono HB.out.size))
 have Se := Lib.hid ho
 have hle := hlo
 clear hb ho hlo
 obtain ⟨x10, x10f⟩ := Xp.out.at_ 0 (.bool ex) rfl
 obtain ⟨x11, x11f⟩ := Xp.out.at_ 1 (.int .i64 at') rfl
 obtain ⟨x12, x12f⟩ := Xp.out.at_ 2 (.slice vo L.length vc) rfl
 go_wp2_with fail
 refine (both_in _ _ _ _ _ Sy.out Sr.out).mono ?_
 try clear x10 x10f x11 x11f x12 x12f
 rintro e w5 ⟨o, rfl, ho, hb, hlo⟩
 obtain ⟨dao, dac, rfl⟩ := ho.shape
 have Nd := Lib.hid (show (bothL (nmL L true) C) ≠ [] → (Value.slice dao (bothL (nmL L true) C).length dac).ownBlock ≠ some w2.heap.size from fun _ => hlo.ne OO.out.lt)
 have hzd : w.heap.size + 3 ≤ w4.heap.size := Xk.out.lt
 have Md := Lib.hid (show (bothL (nmL L true) C) ≠ [] → (Value.slice dao (bothL (nmL L true) C).length dac).ownBlock ≠ some (w2.heap.size + 1) from fun _ => hlo.ne Xz.out.lt)
 replace Xp := Lib.hid (Xp.out.below hb Xp.out.lt)
 replace Xs := Lib.hid (Xs.out.below hb Xs.out.lt)
 replace Xk := Lib.hid (Xk.out.below hb Xk.out.lt)
 replace Xz := Lib.hid (Xz.out.below hb Xz.out.lt)
 replace Sr := Lib.hid (Sr.out.mono hb)
 replace Sa := Lib.hid (Sa.out.mono hb)
 replace Sy := Lib.hid (Sy.out.mono hb)
 replace Sj := Lib.hid (Sj.out.mono hb)
 replace Se := Lib.hid (Se.out.mono hb)
 replace TT := Lib.hid (TT.out.mono hb)
 replace OO := Lib.hid (OO.out.mono hb)
 replace HB := Lib.hid (HB.out.trans (hb.mono HB.out.size))
 have Sd := Lib.hid ho
 have hld := hlo
 clear hb ho hlo
 go_wp2_with fail
 refine (all_any _ (bothL (nmL L true) C) 0 (fun b hb => Nat.le_trans Xz.out.lt hb) OO.out (by omega) Sd.out Nd.out rfl).mono ?_
 rintro e w6 ⟨rfl, hst, hg⟩
 replace Xp := Lib.hid (Xp.out.grown hg (ne_some Np))
 replace Xs := Lib.hid (Xs.out.grown hg (ne_some Ns))
 replace Xk := Lib.hid (Xk.out.grown hg (ne_some Nk))
 replace Xz := Lib.hid (Xz.out.grown hg (ne_some Nz))
 replace Sr := Lib.hid (Sr.out.grown' hg Nr.out)
 replace Sa := Lib.hid (Sa.out.grown' hg Na.out)
 replace Sy := Lib.hid (Sy.out.grown' hg Ny.out)
 replace Sj := Lib.hid (Sj.out.grown' hg Nj.out)
 replace Se := Lib.hid (Se.out.grown' hg Ne.out)
 replace Sd := Lib.hid (Sd.out.grown' hg Nd.out)
 replace TT := Lib.hid (TT.out.grown' hg NTT.out)
 replace HB := Lib.hid (HB.out.grown hg HB.out.size (fun j e => by injection e with e; subst e; exact hSlo))
 replace OO := Lib.hid hst
 clear hg hst
 have YB := Lib.hid (fun W (hW : Below w6.heap.size w6 W) => both_in _ _ _ _ W (Sa.out.mono hW) (Sr.out.mono hW))
 have YK := Lib.hid (fun W (lv : Value) (hW : Below w6.heap.size w6 W) (hs : Strs W lv (bothL (nmL L false) C)) (hl : Lies w6.heap.size lv) => kept_any (fun b hb => Nat.le_trans Xz.out.lt (Nat.le_trans hW.size hb)) lv (bothL (nmL L false) C) ex at' _ L (OO.out.mono hW) (by omega) hs (fun _ => hl.ne OO.out.lt) (TT.out.mono hW) hA NTT.out)
 have HK := Lib.hid (show ∀ w', w6.grownBy w' (some w2.heap.size) → w'.cell? ⟨w.heap.size, 0, none⟩ = some (.bool ex) ∧ w'.cell? ⟨w.heap.size, 1, none⟩ = some (.int .i64 at') ∧ w'.cell? ⟨w.heap.size, 2, none⟩ = some (.slice vo L.length vc) from fun w' hg => have t := Xp.out.grown hg (ne_some Np); ⟨(t.at_ 0 _ rfl).1, (t.at_ 1 _ rfl).1, (t.at_ 2 _ rfl).1⟩)
 have R0 := Lib.hid (Below.drew (Below.refl w6.heap.size w6))
 go_wp2_with fail
 go_cut [] (fun w' => StBox w' w2.heap.size (fun b => w2.heap.size + 2 ≤ b) true at' (0 + (bothL (nmL L true) C).length + (bothL (nmL L false) C).length) (keepF (setF (fun _ => none) (bothL (nmL L true) C) 0) (bothL (nmL L false) C) F) ∧ w6.grownBy w' (some w2.heap.size))
 case first =>
  go_wp2_with fail
  go_region_held3 (fun w' => w'.cell? ⟨w.heap.size, 0, none⟩ = some (.bool ex) ∧ w'.cell? ⟨w.heap.size, 1, none⟩ = some (.int .i64 at') ∧ w'.cell? ⟨w.heap.size, 2, none⟩ = some (.slice vo L.length vc)) (first | exact HK.out _ G2.out | exact HK.out _ (grown_below (World.grownBy.refl _ _) R1.out) | exact HK.out _ (grown_below (World.grownBy.refl _ _) R0.out))
   (first | ((with_reducible refine (YK.out _ _ R1.out HB1.out hlo2).mono ?_); rintro e u2 ⟨rfl, hst, hg⟩; have HS2 := Lib.hid hst; have G2 := Lib.hid ((grown_below (World.grownBy.refl _ (some w2.heap.size)) R1.out).trans hg); clear hst hg) | ((with_reducible refine (YB.out _ R0.out).mono ?_); rintro e u1 ⟨o, rfl, ho, hb, hlo1⟩; obtain ⟨bo, bc, rfl⟩ := ho.shape; have HB1 := Lib.hid ho; have hlo2 : Lies w6.heap.size (.slice bo (bothL (nmL L false) C).length bc) := hlo1; have R1 := Lib.hid (R0.out.trans (hb.mono R0.out.size)); clear ho hb))
  all_goals
   go_wp2_with fail
   go_meet
   case rel => exact ⟨HS2.out, G2.out⟩
 case rest =>
  obtain ⟨w7, rfl⟩ : ∃ x, x = wc := ⟨_, rfl⟩
  obtain ⟨hst, hg⟩ := hcut
  clear YB YK HK R0
  replace Xp := Lib.hid (Xp.out.grown hg (ne_some Np))
  replace Xs := Lib.hid (Xs.out.grown hg (ne_some Ns))
  replace Xk := Lib.hid (Xk.out.grown hg (ne_some Nk))
  replace Xz := Lib.hid (Xz.out.grown hg (ne_some Nz))
  replace Sr := Lib.hid (Sr.out.grown' hg Nr.out)
  replace Sa := Lib.hid (Sa.out.grown' hg Na.out)
  replace Sy := Lib.hid (Sy.out.grown' hg Ny.out)
  replace Sj := Lib.hid (Sj.out.grown' hg Nj.out)
  replace Se := Lib.hid (Se.out.grown' hg Ne.out)
  replace Sd := Lib.hid (Sd.out.grown' hg Nd.out)
  replace TT := Lib.hid (TT.out.grown' hg NTT.out)
  replace HB := Lib.hid (HB.out.grown hg HB.out.size (fun j e => by injection e with e; subst e; exact hSlo))
  replace OO := Lib.hid hst
  clear hg hst
  obtain ⟨vq13, Lq13, hq13, hT13, _⟩ := OO.out
  obtain ⟨vq13o, vq13c, rfl⟩ := hT13.shape
  obtain ⟨x13a, x13af⟩ := hq13.at_ 0 (.bool true) rfl
  obtain ⟨x13b, x13bf⟩ := hq13.at_ 1 (.int .i64 at') rfl
  obtain ⟨x13c, x13cf⟩ := hq13.at_ 2 (.slice vq13o Lq13.length vq13c) rfl
  replace Xp := Lib.hid (Xp.out.far (p := ⟨w2.heap.size, 1, none⟩) (by simp <;> omega) (.int .i64 m))
  replace Xs := Lib.hid (Xs.out.far (p := ⟨w2.heap.size, 1, none⟩) (by simp <;> omega) (.int .i64 m))
  replace Xk := Lib.hid (Xk.out.far (p := ⟨w2.heap.size, 1, none⟩) (by simp <;> omega) (.int .i64 m))
  replace Xz := Lib.hid (Xz.out.far (p := ⟨w2.heap.size, 1, none⟩) (by simp <;> omega) (.int .i64 m))
  replace Sr := Lib.hid (Sr.out.apart' (p := ⟨w2.heap.size, 1, none⟩) (fun hL b hb e => Nr.out hL (hb.trans (congrArg some e))) (.int .i64 m))
  replace Sa := Lib.hid (Sa.out.apart' (p := ⟨w2.heap.size, 1, none⟩) (fun hL b hb e => Na.out hL (hb.trans (congrArg some e))) (.int .i64 m))
  replace Sy := Lib.hid (Sy.out.apart' (p := ⟨w2.heap.size, 1, none⟩) (fun hL b hb e => Ny.out hL (hb.trans (congrArg some e))) (.int .i64 m))
  replace Sj := Lib.hid (Sj.out.apart' (p := ⟨w2.heap.size, 1, none⟩) (fun hL b hb e => Nj.out hL (hb.trans (congrArg some e))) (.int .i64 m))
  replace Se := Lib.hid (Se.out.apart' (p := ⟨w2.heap.size, 1, none⟩) (fun hL b hb e => Ne.out hL (hb.trans (congrArg some e))) (.int .i64 m))
  replace Sd := Lib.hid (Sd.out.apart' (p := ⟨w2.heap.size, 1, none⟩) (fun hL b hb e => Nd.out hL (hb.trans (congrArg some e))) (.int .i64 m))
  replace OO := Lib.hid (OO.out.setAt (fun b hb => by omega) (m))
  replace TT := Lib.hid (TT.out.apart (p := ⟨w2.heap.size, 1, none⟩) NTT.out (.int .i64 m))
  replace HB := Lib.hid (HB.out.setCell (p := ⟨w2.heap.size, 1, none⟩) (by simp <;> omega) (.int .i64 m))
  go_wp2_with fail
  refine (all_any _ (lessF C (sasc (nmL L false ++ nmL L true))) m (fun b hb => Nat.le_trans Xz.out.lt hb) OO.out (by omega) Se.out Ne.out hm).mono ?_
  try clear x13a x13af x13b x13bf x13c x13cf hq13 hT13
  rintro e w8 ⟨rfl, hst, hg⟩
  replace Xp := Lib.hid (Xp.out.grown hg (ne_some Np))
  replace Xs := Lib.hid (Xs.out.grown hg (ne_some Ns))
  replace Xk := Lib.hid (Xk.out.grown hg (ne_some Nk))
  replace Xz := Lib.hid (Xz.out.grown hg (ne_some Nz))
  replace Sr := Lib.hid (Sr.out.grown' hg Nr.out)
  replace Sa := Lib.hid (Sa.out.grown' hg Na.out)
  replace Sy := Lib.hid (Sy.out.grown' hg Ny.out)
  replace Sj := Lib.hid (Sj.out.grown' hg Nj.out)
  replace Se := Lib.hid (Se.out.grown' hg Ne.out)
  replace Sd := Lib.hid (Sd.out.grown' hg Nd.out)
  replace TT := Lib.hid (TT.out.grown' hg NTT.out)
  replace HB := Lib.hid (HB.out.grown hg HB.out.size (fun j e => by injection e with e; subst e; exact hSlo))
  replace OO := Lib.hid hst
  clear hg hst
  obtain ⟨v9, L9, hc9, hT9, hA9, hl9, hk9⟩ := OO.out
  obtain ⟨v9o, v9c, rfl⟩ := hT9.shape
  have C9 := Lib.hid hc9; have T9 := Lib.hid hT9; have A9 := Lib.hid hA9; have L9' := Lib.hid hl9; have K9 := Lib.hid hk9
  obtain ⟨c0, c0f⟩ := hc9.at_ 0 (.bool true) rfl
  obtain ⟨c1, c1f⟩ := hc9.at_ 1 (.int .i64 m) rfl
  obtain ⟨c2, c2f⟩ := hc9.at_ 2 (.slice v9o L9.length v9c) rfl
  obtain ⟨d0, d0f⟩ := Xz.out.at_ 0 (.bool false) rfl
  obtain ⟨d1, d1f⟩ := Xz.out.at_ 1 (.slice none 0 0) rfl
  obtain ⟨e0, e0f⟩ := Xs.out.at_ 0 (.bool false) rfl
  obtain ⟨e1, e1f⟩ := Xs.out.at_ 1 (.int .i64 0) rfl
  obtain ⟨e2, e2f⟩ := Xs.out.at_ 2 (.slice none 0 0) rfl
  obtain ⟨f0, f0f⟩ := Xk.out.at_ 0 (.bool false) rfl
  obtain ⟨f1, f1f⟩ := Xk.out.at_ 1 (.slice none 0 0) rfl
  clear hc9 hT9 hA9 hl9 hk9
  go_wp2_with fail
  go_region
  all_goals
   go_wp2_with fail
   obtain ⟨r0, r1, r2, r3, r4⟩ := boxes_end5 Xs.out Xk.out (.bool true) (.int .i64 m) (.slice v9o L9.length v9c) (.bool false) (.slice none 0 0)
   have hT := T9.out.end5' (lo := w.heap.size + 1) (fun hL b hb => by have := K9.out hL b hb; omega) (.bool true) (.int .i64 m) (.slice v9o L9.length v9c) (.bool false) (.slice none 0 0)
   have hBB := below_end5' HB.out (lo := w.heap.size + 1) (by omega) (.bool true) (.int .i64 m) (.slice v9o L9.length v9c) (.bool false) (.slice none 0 0)
   refine bodyPost_ret (v := .tuple #[.agg #[.bool true, .int .i64 m, .slice v9o L9.length v9c], .agg #[.bool false, (.slice none 0 0)]]) (by simp [results, Tryz.results65, go_sem, r0, r1, r2, r3, r4]) rfl ⟨_, L9, _, rfl, ?_, A9.out, ?_, ?_⟩
   · first | with_reducible exact hT | with_reducible exact hT.drew
   · exact Strs.nil _
   · first | with_reducible exact hBB | with_reducible exact hBB.drew

set_option maxRecDepth 20000 in
set_option maxHeartbeats 2000000 in
theorem but_3 (ex : Bool) (at' : Int) (v : Value) (L : List Tmd) {F : Str → Option Int} (rv : Value) (C : List Str) (m : Int) (w : World) (h : Tms w v L) (hA : Asc F L) (hr : Strs w rv C) (hL : L.length ≤ 60) (hC : C.length ≤ 60) (hm : (Lit.int .i64 m).wf = true) (_ha : (Lit.int .i64 at').wf = true) :
 Calls Tryz.prog 65 #[.agg #[.bool ex, .int .i64 at', v], .int .i64 3, rv, .int .i64 m] w (RetSA w true at' (setF (setF (keepF (fun _ => none) (nmL L false) F) (lessF (nmL L true) C) 0) C m) true (lessF (nmL L false) C)) := by
 obtain ⟨vo, vc, rfl⟩ := h.shape
 obtain ⟨ro, rc, rfl⟩ := hr.shape
 have q1 := nmL_len L false; have q2 := nmL_len L true
 have qbx := bothL_len (nmL L false) C; have qlx := lessF_len (nmL L false) C
 have qby := bothL_len (nmL L true) C; have qly := lessF_len (nmL L true) C
 have qr1 := lessF_len C (sasc (nmL L false ++ nmL L true)); have qr2 := lessF_len C (nmL L true)
 have qj : (sasc (nmL L false ++ nmL L true)).length ≤ (nmL L false).length + (nmL L true).length := Nat.le_trans (sasc_length _) (by simp)
 have HB := Lib.hid (Below.refl w.heap.size w)
 have TT := Lib.hid h
 have Sr := Lib.hid hr
 clear h hr
 have hb0 : Below w.heap.size w (((w.alloc (.cells #[.bool ex, .int .i64 at', .slice vo L.length vc] 71)).alloc (.cells #[.bool false, .int .i64 0, .slice none 0 0] 71)).alloc (.cells #[.bool false, .slice none 0 0] 59)) := (((Below.refl _ _).alloc (Nat.le_refl _) _).alloc (by simp) _).alloc (by simp <;> omega) _
 replace Sr := Lib.hid (Sr.out.mono hb0)
 replace TT := Lib.hid (TT.out.mono hb0)
 replace HB := Lib.hid (HB.out.trans (hb0.mono HB.out.size))
 have Xp := Lib.hid (show CBox (((w.alloc (.cells #[.bool ex, .int .i64 at', .slice vo L.length vc] 71)).alloc (.cells #[.bool false, .int .i64 0, .slice none 0 0] 71)).alloc (.cells #[.bool false, .slice none 0 0] 59)) w.heap.size 71 #[.bool ex, .int .i64 at', .slice vo L.length vc] from ((CBox.new _ rfl).old _).old _)
 have Xs := Lib.hid (show CBox (((w.alloc (.cells #[.bool ex, .int .i64 at', .slice vo L.length vc] 71)).alloc (.cells #[.bool false, .int .i64 0, .slice none 0 0] 71)).alloc (.cells #[.bool false, .slice none 0 0] 59)) (w.heap.size + 1) 71 #[.bool false, .int .i64 0, .slice none 0 0] from (CBox.new _ (by simp)).old _)
 have Xk := Lib.hid (show CBox (((w.alloc (.cells #[.bool ex, .int .i64 at', .slice vo L.length vc] 71)).alloc (.cells #[.bool false, .int .i64 0, .slice none 0 0] 71)).alloc (.cells #[.bool false, .slice none 0 0] 59)) (w.heap.size + 1 + 1) 59 #[.bool false, .slice none 0 0] from CBox.new _ (by simp))
 clear hb0
 obtain ⟨x1, x1f⟩ := Xp.out.at_ 0 (.bool ex) rfl
 obtain ⟨x2, x2f⟩ := Xp.out.at_ 1 (.int .i64 at') rfl
 obtain ⟨x3, x3f⟩ := Xp.out.at_ 2 (.slice vo L.length vc) rfl
 go_enter Tryz.func65, Tryz.ntmps65
 go_wp2_with fail
 refine (rnames_any ex at' _ L false _ TT.out).mono ?_
 try clear x1 x1f x2 x2f x3 x3f
 rintro e w1 ⟨o, rfl, ho, hb, hlo⟩
 obtain ⟨aao, aac, rfl⟩ := ho.shape
 have hza : w.heap.size + 3 ≤ (((w.alloc (.cells #[.bool ex, .int .i64 at', .slice vo L.length vc] 71)).alloc (.cells #[.bool false, .int .i64 0, .slice none 0 0] 71)).alloc (.cells #[.bool false, .slice none 0 0] 59)).heap.size := Xk.out.lt
 replace Xp := Lib.hid (Xp.out.below hb Xp.out.lt)
 replace Xs := Lib.hid (Xs.out.below hb Xs.out.lt)
 replace Xk := Lib.hid (Xk.out.below hb Xk.out.lt)
 replace Sr := Lib.hid (Sr.out.mono hb)
 replace TT := Lib.hid (TT.out.mono hb)
 replace HB := Lib.hid (HB.out.trans (hb.mono HB.out.size))
 have Sa := Lib.hid ho
 have hla := hlo
 clear hb ho hlo
 obtain ⟨x4, x4f⟩ := Xp.out.at_ 0 (.bool ex) rfl
 obtain ⟨x5, x5f⟩ := Xp.out.at_ 1 (.int .i64 at') rfl
 obtain ⟨x6, x6f⟩ := Xp.out.at_ 2 (.slice vo L.length vc) rfl
 go_wp2_with fail
 refine (rnames_any ex at' _ L true _ TT.out).mono ?_
 try clear x4 x4f x5 x5f x6 x6f
 rintro e w2 ⟨o, rfl, ho, hb, hlo⟩
 obtain ⟨yao, yac, rfl⟩ := ho.shape
 have hzy : w.heap.size + 3 ≤ w1.heap.size := Xk.out.lt
 replace Xp := Lib.hid (Xp.out.below hb Xp.out.lt)
 replace Xs := Lib.hid (Xs.out.below hb Xs.out.lt)
 replace Xk := Lib.hid (Xk.out.below hb Xk.out.lt)
 replace Sr := Lib.hid (Sr.out.mono hb)
 replace Sa := Lib.hid (Sa.out.mono hb)
 replace TT := Lib.hid (TT.out.mono hb)
 replace HB := Lib.hid (HB.out.trans (hb.mono HB.out.size))
 have Sy := Lib.hid ho
 have hly := hlo
 clear hb ho hlo
 obtain ⟨x7, x7f⟩ := Xp.out.at_ 0 (.bool ex) rfl
 obtain ⟨x8, x8f⟩ := Xp.out.at_ 1 (.int .i64 at') rfl
 obtain ⟨x9, x9f⟩ := Xp.out.at_ 2 (.slice vo L.length vc) rfl
 have hSlo : w.heap.size ≤ w2.heap.size := by have := HB.out.size; omega
 have hS3 : w.heap.size + 3 ≤ w2.heap.size := by have := Xk.out.lt; omega
 have Np : w2.heap.size ≠ w.heap.size := by omega
 have Ns : w2.heap.size ≠ w.heap.size + 1 := by omega
 have Nk : w2.heap.size ≠ w.heap.size + 1 + 1 := by omega
 have Nr := Lib.hid (Sr.out.ne_ge (b := w2.heap.size) (by omega))
 have Na := Lib.hid (Sa.out.ne_ge (b := w2.heap.size) (by omega))
 have Ny := Lib.hid (Sy.out.ne_ge (b := w2.heap.size) (by omega))
 have Mr := Lib.hid (Sr.out.ne_ge (b := w2.heap.size + 1) (by omega))
 have Ma := Lib.hid (Sa.out.ne_ge (b := w2.heap.size + 1) (by omega))
 have My := Lib.hid (Sy.out.ne_ge (b := w2.heap.size + 1) (by omega))
 have NTT := Lib.hid (TT.out.ne_ge (b := w2.heap.size) (by omega))
 have hb0 : Below w2.heap.size w2 ((w2.alloc (.cells #[.bool true, .int .i64 at', .slice none 0 0] 71)).alloc (.cells #[.bool false, .slice none 0 0] 59)) := ((Below.refl _ _).alloc (Nat.le_refl _) _).alloc (by simp) _
 replace Xp := Lib.hid (Xp.out.below hb0 Xp.out.lt)
 replace Xs := Lib.hid (Xs.out.below hb0 Xs.out.lt)
 replace Xk := Lib.hid (Xk.out.below hb0 Xk.out.lt)
 replace Sr := Lib.hid (Sr.out.mono hb0)
 replace Sa := Lib.hid (Sa.out.mono hb0)
 replace Sy := Lib.hid (Sy.out.mono hb0)
 replace TT := Lib.hid (TT.out.mono hb0)
 replace HB := Lib.hid (HB.out.trans (hb0.mono HB.out.size))
 have OO := Lib.hid (show StBox ((w2.alloc (.cells #[.bool true, .int .i64 at', .slice none 0 0] 71)).alloc (.cells #[.bool false, .slice none 0 0] 59)) w2.heap.size (fun b => w2.heap.size + 2 ≤ b) true at' 0 (fun _ => none) from ⟨_, [], (CBox.new _ rfl).old _, Tms.nil _, asc_nil (fun _ => rfl), Nat.le_refl _, fun h => absurd rfl h⟩)
 have Xz := Lib.hid (show CBox ((w2.alloc (.cells #[.bool true, .int .i64 at', .slice none 0 0] 71)).alloc (.cells #[.bool false, .slice none 0 0] 59)) (w2.heap.size + 1) 59 #[.bool false, .slice none 0 0] from CBox.new _ (by simp))
 have Nz : w2.heap.size ≠ w2.heap.size + 1 := by omega
 clear hb0
 go_wp2_with fail
 refine (rjoin_any _ _ _ _ _ Sa.out Sy.out (by omega)).mono ?_
 try clear x7 x7f x8 x8f x9 x9f
 rintro e w3 ⟨o, rfl, ho, hb, hlo⟩
 obtain ⟨jao, jac, rfl⟩ := ho.shape
 have Nj := Lib.hid (show (sasc (nmL L false ++ nmL L true)) ≠ [] → (Value.slice jao (sasc (nmL L false ++ nmL L true)).length jac).ownBlock ≠ some w2.heap.size from fun _ => hlo.ne OO.out.lt)
 have hzj : w.heap.size + 3 ≤ ((w2.alloc (.cells #[.bool true, .int .i64 at', .slice none 0 0] 71)).alloc (.cells #[.bool false, .slice none 0 0] 59)).heap.size := Xk.out.lt
 have Mj := Lib.hid (show (sasc (nmL L false ++ nmL L true)) ≠ [] → (Value.slice jao (sasc (nmL L false ++ nmL L true)).length jac).ownBlock ≠ some (w2.heap.size + 1) from fun _ => hlo.ne Xz.out.lt)
 replace Xp := Lib.hid (Xp.out.below hb Xp.out.lt)
 replace Xs := Lib.hid (Xs.out.below hb Xs.out.lt)
 replace Xk := Lib.hid (Xk.out.below hb Xk.out.lt)
 replace Xz := Lib.hid (Xz.out.below hb Xz.out.lt)
 replace Sr := Lib.hid (Sr.out.mono hb)
 replace Sa := Lib.hid (Sa.out.mono hb)
 replace Sy := Lib.hid (Sy.out.mono hb)
 replace TT := Lib.hid (TT.out.mono hb)
 replace OO := Lib.hid (OO.out.mono hb)
 replace HB := Lib.hid (HB.out.trans (hb.mono HB.out.size))
 have Sj := Lib.hid ho
 have hlj := hlo
 clear hb ho hlo
 go_wp2_with fail
 refine (less_in _ _ _ _ _ Sr.out Sj.out).mono ?_
 rintro e w4 ⟨o, rfl, ho, hb, hlo⟩
 obtain ⟨eao, eac, rfl⟩ := ho.shape
 have Ne := Lib.hid (show (lessF C (sasc (nmL L false ++ nmL L true))) ≠ [] → (Value.slice eao (lessF C (sasc (nmL L false ++ nmL L true))).length eac).ownBlock ≠ some w2.heap.size from fun _ => hlo.ne OO.out.lt)
 have hze : w.heap.size + 3 ≤ w3.heap.size := Xk.out.lt
 have Me := Lib.hid (show (lessF C (sasc (nmL L false ++ nmL L true))) ≠ [] → (Value.slice eao (lessF C (sasc (nmL L false ++ nmL L true))).length eac).ownBlock ≠ some (w2.heap.size + 1) from fun _ => hlo.ne Xz.out.lt)
 replace Xp := Lib.hid (Xp.out.below hb Xp.out.lt)
 replace Xs := Lib.hid (Xs.out.below hb Xs.out.lt)
 replace Xk := Lib.hid (Xk.out.below hb Xk.out.lt)
 replace Xz := Lib.hid (Xz.out.below hb Xz.out.lt)
 replace Sr := Lib.hid (Sr.out.mono hb)
 replace Sa := Lib.hid (Sa.out.mono hb)
 replace Sy := Lib.hid (Sy.out.mono hb)
 replace Sj := Lib.hid (Sj.out.mono hb)
 replace TT := Lib.hid (TT.out.mono hb)
 replace OO := Lib.hid (OO.out.mono hb)
 replace HB := Lib.hid (HB.out.trans (hb.mono HB.out.size))
 have Se := Lib.hid ho
 have hle := hlo
 clear hb ho hlo
 obtain ⟨x10, x10f⟩ := Xp.out.at_ 0 (.bool ex) rfl
 obtain ⟨x11, x11f⟩ := Xp.out.at_ 1 (.int .i64 at') rfl
 obtain ⟨x12, x12f⟩ := Xp.out.at_ 2 (.slice vo L.length vc) rfl
 go_wp2_with fail
 refine (kept_any (fun b hb => Nat.le_trans Xz.out.lt hb) _ (nmL L false) ex at' _ L OO.out (by omega) Sa.out Na.out TT.out hA NTT.out).mono ?_
 try clear x10 x10f x11 x11f x12 x12f
 rintro e w5 ⟨rfl, hst, hg⟩
 replace Xp := Lib.hid (Xp.out.grown hg (ne_some Np))
 replace Xs := Lib.hid (Xs.out.grown hg (ne_some Ns))
 replace Xk := Lib.hid (Xk.out.grown hg (ne_some Nk))
 replace Xz := Lib.hid (Xz.out.grown hg (ne_some Nz))
 replace Sr := Lib.hid (Sr.out.grown' hg Nr.out)
 replace Sa := Lib.hid (Sa.out.grown' hg Na.out)
 replace Sy := Lib.hid (Sy.out.grown' hg Ny.out)
 replace Sj := Lib.hid (Sj.out.grown' hg Nj.out)
 replace Se := Lib.hid (Se.out.grown' hg Ne.out)
 replace TT := Lib.hid (TT.out.grown' hg NTT.out)
 replace HB := Lib.hid (HB.out.grown hg HB.out.size (fun j e => by injection e with e; subst e; exact hSlo))
 replace OO := Lib.hid hst
 clear hg hst
 go_wp2_with fail
 refine (less_in _ _ _ _ _ Sy.out Sr.out).mono ?_
 rintro e w6 ⟨o, rfl, ho, hb, hlo⟩
 obtain ⟨dao, dac, rfl⟩ := ho.shape
 have Nd := Lib.hid (show (lessF (nmL L true) C) ≠ [] → (Value.slice dao (lessF (nmL L true) C).length dac).ownBlock ≠ some w2.heap.size from fun _ => hlo.ne OO.out.lt)
 have hzd : w.heap.size + 3 ≤ w5.heap.size := Xk.out.lt
 have Md := Lib.hid (show (lessF (nmL L true) C) ≠ [] → (Value.slice dao (lessF (nmL L true) C).length dac).ownBlock ≠ some (w2.heap.size + 1) from fun _ => hlo.ne Xz.out.lt)
 replace Xp := Lib.hid (Xp.out.below hb Xp.out.lt)
 replace Xs := Lib.hid (Xs.out.below hb Xs.out.lt)
 replace Xk := Lib.hid (Xk.out.below hb Xk.out.lt)
 replace Xz := Lib.hid (Xz.out.below hb Xz.out.lt)
 replace Sr := Lib.hid (Sr.out.mono hb)
 replace Sa := Lib.hid (Sa.out.mono hb)
 replace Sy := Lib.hid (Sy.out.mono hb)
 replace Sj := Lib.hid (Sj.out.mono hb)
 replace Se := Lib.hid (Se.out.mono hb)
 replace TT := Lib.hid (TT.out.mono hb)
 replace OO := Lib.hid (OO.out.mono hb)
 replace HB := Lib.hid (HB.out.trans (hb.mono HB.out.size))
 have Sd := Lib.hid ho
 have hld := hlo
 clear hb ho hlo
 go_wp2_with fail
 refine (all_any _ (lessF (nmL L true) C) 0 (fun b hb => Nat.le_trans Xz.out.lt hb) OO.out (by omega) Sd.out Nd.out rfl).mono ?_
 rintro e w7 ⟨rfl, hst, hg⟩
 replace Xp := Lib.hid (Xp.out.grown hg (ne_some Np))
 replace Xs := Lib.hid (Xs.out.grown hg (ne_some Ns))
 replace Xk := Lib.hid (Xk.out.grown hg (ne_some Nk))
 replace Xz := Lib.hid (Xz.out.grown hg (ne_some Nz))
 replace Sr := Lib.hid (Sr.out.grown' hg Nr.out)
 replace Sa := Lib.hid (Sa.out.grown' hg Na.out)
 replace Sy := Lib.hid (Sy.out.grown' hg Ny.out)
 replace Sj := Lib.hid (Sj.out.grown' hg Nj.out)
 replace Se := Lib.hid (Se.out.grown' hg Ne.out)
 replace Sd := Lib.hid (Sd.out.grown' hg Nd.out)
 replace TT := Lib.hid (TT.out.grown' hg NTT.out)
 replace HB := Lib.hid (HB.out.grown hg HB.out.size (fun j e => by injection e with e; subst e; exact hSlo))
 replace OO := Lib.hid hst
 clear hg hst
 go_wp2_with fail
 refine (all_any _ (C) m (fun b hb => Nat.le_trans Xz.out.lt hb) OO.out (by omega) Sr.out Nr.out hm).mono ?_
 rintro e w8 ⟨rfl, hst, hg⟩
 replace Xp := Lib.hid (Xp.out.grown hg (ne_some Np))
 replace Xs := Lib.hid (Xs.out.grown hg (ne_some Ns))
 replace Xk := Lib.hid (Xk.out.grown hg (ne_some Nk))
 replace Xz := Lib.hid (Xz.out.grown hg (ne_some Nz))
 replace Sr := Lib.hid (Sr.out.grown' hg Nr.out)
 replace Sa := Lib.hid (Sa.out.grown' hg Na.out)
 replace Sy := Lib.hid (Sy.out.grown' hg Ny.out)
 replace Sj := Lib.hid (Sj.out.grown' hg Nj.out)
 replace Se := Lib.hid (Se.out.grown' hg Ne.out)
 replace Sd := Lib.hid (Sd.out.grown' hg Nd.out)
 replace TT := Lib.hid (TT.out.grown' hg NTT.out)
 replace HB := Lib.hid (HB.out.grown hg HB.out.size (fun j e => by injection e with e; subst e; exact hSlo))
 replace OO := Lib.hid hst
 clear hg hst
 go_wp2_with fail
 refine (less_in _ _ _ _ _ Sa.out Sr.out).mono ?_
 rintro e w9 ⟨o, rfl, ho, hb, hlo⟩
 obtain ⟨bao, bac, rfl⟩ := ho.shape
 have Nb := Lib.hid (show (lessF (nmL L false) C) ≠ [] → (Value.slice bao (lessF (nmL L false) C).length bac).ownBlock ≠ some w2.heap.size from fun _ => hlo.ne OO.out.lt)
 have hzb : w.heap.size + 3 ≤ w8.heap.size := Xk.out.lt
 have Mb := Lib.hid (show (lessF (nmL L false) C) ≠ [] → (Value.slice bao (lessF (nmL L false) C).length bac).ownBlock ≠ some (w2.heap.size + 1) from fun _ => hlo.ne Xz.out.lt)
 replace Xp := Lib.hid (Xp.out.below hb Xp.out.lt)
 replace Xs := Lib.hid (Xs.out.below hb Xs.out.lt)
 replace Xk := Lib.hid (Xk.out.below hb Xk.out.lt)
 replace Xz := Lib.hid (Xz.out.below hb Xz.out.lt)
 replace Sr := Lib.hid (Sr.out.mono hb)
 replace Sa := Lib.hid (Sa.out.mono hb)
 replace Sy := Lib.hid (Sy.out.mono hb)
 replace Sj := Lib.hid (Sj.out.mono hb)
 replace Se := Lib.hid (Se.out.mono hb)
 replace Sd := Lib.hid (Sd.out.mono hb)
 replace TT := Lib.hid (TT.out.mono hb)
 replace OO := Lib.hid (OO.out.mono hb)
 replace HB := Lib.hid (HB.out.trans (hb.mono HB.out.size))
 have Sb := Lib.hid ho
 have hlb := hlo
 clear hb ho hlo
 obtain ⟨vq13, Lq13, hq13, hT13, _⟩ := OO.out
 obtain ⟨vq13o, vq13c, rfl⟩ := hT13.shape
 obtain ⟨x13a, x13af⟩ := hq13.at_ 0 (.bool true) rfl
 obtain ⟨x13b, x13bf⟩ := hq13.at_ 1 (.int .i64 at') rfl
 obtain ⟨x13c, x13cf⟩ := hq13.at_ 2 (.slice vq13o Lq13.length vq13c) rfl
 obtain ⟨x14, x14f⟩ := Xz.out.at_ 0 (.bool false) rfl
 obtain ⟨x15, x15f⟩ := Xz.out.at_ 1 (.slice none 0 0) rfl
 replace Xp := Lib.hid (Xp.out.far (p := ⟨w2.heap.size + 1, 1, none⟩) (by simp <;> omega) (.slice bao (lessF (nmL L false) C).length bac))
 replace Xs := Lib.hid (Xs.out.far (p := ⟨w2.heap.size + 1, 1, none⟩) (by simp <;> omega) (.slice bao (lessF (nmL L false) C).length bac))
 replace Xk := Lib.hid (Xk.out.far (p := ⟨w2.heap.size + 1, 1, none⟩) (by simp <;> omega) (.slice bao (lessF (nmL L false) C).length bac))
 replace Xz := Lib.hid (show CBox (w9.setCell ⟨w2.heap.size + 1, 1, none⟩ (.slice bao (lessF (nmL L false) C).length bac)) (w2.heap.size + 1) 59 #[.bool false, .slice bao (lessF (nmL L false) C).length bac] from by simpa using Xz.out.set 1 (.slice bao (lessF (nmL L false) C).length bac))
 clear Sr
 clear Sa
 clear Sy
 clear Sj
 clear Se
 clear Sd
 replace Sb := Lib.hid (Sb.out.apart' (p := ⟨w2.heap.size + 1, 1, none⟩) (fun hL b hb e => Mb.out hL (hb.trans (congrArg some e))) (.slice bao (lessF (nmL L false) C).length bac))
 replace OO := Lib.hid (OO.out.far (p := ⟨w2.heap.size + 1, 1, none⟩) (by simp) (fun b hb => by simp; omega) (.slice bao (lessF (nmL L false) C).length bac))
 replace HB := Lib.hid (HB.out.setCell (p := ⟨w2.heap.size + 1, 1, none⟩) (by simp <;> omega) (.slice bao (lessF (nmL L false) C).length bac))
 replace Xp := Lib.hid (Xp.out.far (p := ⟨w2.heap.size + 1, 0, none⟩) (by simp <;> omega) (.bool true))
 replace Xs := Lib.hid (Xs.out.far (p := ⟨w2.heap.size + 1, 0, none⟩) (by simp <;> omega) (.bool true))
 replace Xk := Lib.hid (Xk.out.far (p := ⟨w2.heap.size + 1, 0, none⟩) (by simp <;> omega) (.bool true))
 replace Xz := Lib.hid (show CBox ((w9.setCell ⟨w2.heap.size + 1, 1, none⟩ (.slice bao (lessF (nmL L false) C).length bac)).setCell ⟨w2.heap.size + 1, 0, none⟩ (.bool true)) (w2.heap.size + 1) 59 #[.bool true, .slice bao (lessF (nmL L false) C).length bac] from by simpa using Xz.out.set 0 (.bool true))
 replace Sb := Lib.hid (Sb.out.apart' (p := ⟨w2.heap.size + 1, 0, none⟩) (fun hL b hb e => Mb.out hL (hb.trans (congrArg some e))) (.bool true))
 replace OO := Lib.hid (OO.out.far (p := ⟨w2.heap.size + 1, 0, none⟩) (by simp) (fun b hb => by simp; omega) (.bool true))
 replace HB := Lib.hid (HB.out.setCell (p := ⟨w2.heap.size + 1, 0, none⟩) (by simp <;> omega) (.bool true))
 obtain ⟨v9, L9, hc9, hT9, hA9, hl9, hk9⟩ := OO.out
 obtain ⟨v9o, v9c, rfl⟩ := hT9.shape
 have C9 := Lib.hid hc9; have T9 := Lib.hid hT9; have A9 := Lib.hid hA9; have L9' := Lib.hid hl9; have K9 := Lib.hid hk9
 obtain ⟨c0, c0f⟩ := hc9.at_ 0 (.bool true) rfl
 obtain ⟨c1, c1f⟩ := hc9.at_ 1 (.int .i64 at') rfl
 obtain ⟨c2, c2f⟩ := hc9.at_ 2 (.slice v9o L9.length v9c) rfl
 obtain ⟨d0, d0f⟩ := Xz.out.at_ 0 (.bool true) rfl
 obtain ⟨d1, d1f⟩ := Xz.out.at_ 1 (.slice bao (lessF (nmL L false) C).length bac) rfl
 obtain ⟨e0, e0f⟩ := Xs.out.at_ 0 (.bool false) rfl
 obtain ⟨e1, e1f⟩ := Xs.out.at_ 1 (.int .i64 0) rfl
 obtain ⟨e2, e2f⟩ := Xs.out.at_ 2 (.slice none 0 0) rfl
 obtain ⟨f0, f0f⟩ := Xk.out.at_ 0 (.bool false) rfl
 obtain ⟨f1, f1f⟩ := Xk.out.at_ 1 (.slice none 0 0) rfl
 clear hc9 hT9 hA9 hl9 hk9
 go_wp2_with fail
 go_region
 all_goals
  go_wp2_with fail
  obtain ⟨r0, r1, r2, r3, r4⟩ := boxes_end5 Xs.out Xk.out (.bool true) (.int .i64 at') (.slice v9o L9.length v9c) (.bool true) (.slice bao (lessF (nmL L false) C).length bac)
  have hT := T9.out.end5' (lo := w.heap.size + 1) (fun hL b hb => by have := K9.out hL b hb; omega) (.bool true) (.int .i64 at') (.slice v9o L9.length v9c) (.bool true) (.slice bao (lessF (nmL L false) C).length bac)
  have hU := Sb.out.end5' (lo := w.heap.size + 1) (fun hL b hb => by have := hlb b hb; have := hzb; omega) (.bool true) (.int .i64 at') (.slice v9o L9.length v9c) (.bool true) (.slice bao (lessF (nmL L false) C).length bac)
  have hBB := below_end5' HB.out (lo := w.heap.size + 1) (by omega) (.bool true) (.int .i64 at') (.slice v9o L9.length v9c) (.bool true) (.slice bao (lessF (nmL L false) C).length bac)
  refine bodyPost_ret (v := .tuple #[.agg #[.bool true, .int .i64 at', .slice v9o L9.length v9c], .agg #[.bool true, (.slice bao (lessF (nmL L false) C).length bac)]]) (by simp [results, Tryz.results65, go_sem, r0, r1, r2, r3, r4]) rfl ⟨_, L9, _, rfl, ?_, A9.out, ?_, ?_⟩
  · first | with_reducible exact hT | with_reducible exact hT.drew
  · first | with_reducible exact hU | with_reducible exact hU.drew
  · first | with_reducible exact hBB | with_reducible exact hBB.drew

set_option maxRecDepth 20000 in
set_option maxHeartbeats 2000000 in
theorem but_4 (ex : Bool) (at' : Int) (v : Value) (L : List Tmd) {F : Str → Option Int} (rv : Value) (C : List Str) (m : Int) (w : World) (h : Tms w v L) (hA : Asc F L) (hr : Strs w rv C) (hL : L.length ≤ 60) (hC : C.length ≤ 60) (hm : (Lit.int .i64 m).wf = true) (ha : (Lit.int .i64 at').wf = true) :
 Calls Tryz.prog 65 #[.agg #[.bool ex, .int .i64 at', v], .int .i64 4, rv, .int .i64 m] w (RetSA w true m (setF (setF (keepF (setF (fun _ => none) (bothL (nmL L true) C) 0) (bothL (nmL L false) C) F) (lessF C (sasc (nmL L false ++ nmL L true))) m) (lessF C (sasc (nmL L false ++ nmL L true))) at') false (lessF C (nmL L true))) := by
 obtain ⟨vo, vc, rfl⟩ := h.shape
 obtain ⟨ro, rc, rfl⟩ := hr.shape
 have q1 := nmL_len L false; have q2 := nmL_len L true
 have qbx := bothL_len (nmL L false) C; have qlx := lessF_len (nmL L false) C
 have qby := bothL_len (nmL L true) C; have qly := lessF_len (nmL L true) C
 have qr1 := lessF_len C (sasc (nmL L false ++ nmL L true)); have qr2 := lessF_len C (nmL L true)
 have qj : (sasc (nmL L false ++ nmL L true)).length ≤ (nmL L false).length + (nmL L true).length := Nat.le_trans (sasc_length _) (by simp)
 have HB := Lib.hid (Below.refl w.heap.size w)
 have TT := Lib.hid h
 have Sr := Lib.hid hr
 clear h hr
 have hb0 : Below w.heap.size w (((w.alloc (.cells #[.bool ex, .int .i64 at', .slice vo L.length vc] 71)).alloc (.cells #[.bool false, .int .i64 0, .slice none 0 0] 71)).alloc (.cells #[.bool false, .slice none 0 0] 59)) := (((Below.refl _ _).alloc (Nat.le_refl _) _).alloc (by simp) _).alloc (by simp <;> omega) _
 replace Sr := Lib.hid (Sr.out.mono hb0)
 replace TT := Lib.hid (TT.out.mono hb0)
 replace HB := Lib.hid (HB.out.trans (hb0.mono HB.out.size))
 have Xp := Lib.hid (show CBox (((w.alloc (.cells #[.bool ex, .int .i64 at', .slice vo L.length vc] 71)).alloc (.cells #[.bool false, .int .i64 0, .slice none 0 0] 71)).alloc (.cells #[.bool false, .slice none 0 0] 59)) w.heap.size 71 #[.bool ex, .int .i64 at', .slice vo L.length vc] from ((CBox.new _ rfl).old _).old _)
 have Xs := Lib.hid (show CBox (((w.alloc (.cells #[.bool ex, .int .i64 at', .slice vo L.length vc] 71)).alloc (.cells #[.bool false, .int .i64 0, .slice none 0 0] 71)).alloc (.cells #[.bool false, .slice none 0 0] 59)) (w.heap.size + 1) 71 #[.bool false, .int .i64 0, .slice none 0 0] from (CBox.new _ (by simp)).old _)
 have Xk := Lib.hid (show CBox (((w.alloc (.cells #[.bool ex, .int .i64 at', .slice vo L.length vc] 71)).alloc (.cells #[.bool false, .int .i64 0, .slice none 0 0] 71)).alloc (.cells #[.bool false, .slice none 0 0] 59)) (w.heap.size + 1 + 1) 59 #[.bool false, .slice none 0 0] from CBox.new _ (by simp))
 clear hb0
 obtain ⟨x1, x1f⟩ := Xp.out.at_ 0 (.bool ex) rfl
 obtain ⟨x2, x2f⟩ := Xp.out.at_ 1 (.int .i64 at') rfl
 obtain ⟨x3, x3f⟩ := Xp.out.at_ 2 (.slice vo L.length vc) rfl
 go_enter Tryz.func65, Tryz.ntmps65
 go_wp2_with fail
 refine (rnames_any ex at' _ L false _ TT.out).mono ?_
 try clear x1 x1f x2 x2f x3 x3f
 rintro e w1 ⟨o, rfl, ho, hb, hlo⟩
 obtain ⟨aao, aac, rfl⟩ := ho.shape
 have hza : w.heap.size + 3 ≤ (((w.alloc (.cells #[.bool ex, .int .i64 at', .slice vo L.length vc] 71)).alloc (.cells #[.bool false, .int .i64 0, .slice none 0 0] 71)).alloc (.cells #[.bool false, .slice none 0 0] 59)).heap.size := Xk.out.lt
 replace Xp := Lib.hid (Xp.out.below hb Xp.out.lt)
 replace Xs := Lib.hid (Xs.out.below hb Xs.out.lt)
 replace Xk := Lib.hid (Xk.out.below hb Xk.out.lt)
 replace Sr := Lib.hid (Sr.out.mono hb)
 replace TT := Lib.hid (TT.out.mono hb)
 replace HB := Lib.hid (HB.out.trans (hb.mono HB.out.size))
 have Sa := Lib.hid ho
 have hla := hlo
 clear hb ho hlo
 obtain ⟨x4, x4f⟩ := Xp.out.at_ 0 (.bool ex) rfl
 obtain ⟨x5, x5f⟩ := Xp.out.at_ 1 (.int .i64 at') rfl
 obtain ⟨x6, x6f⟩ := Xp.out.at_ 2 (.slice vo L.length vc) rfl
 go_wp2_with fail
 refine (rnames_any ex at' _ L true _ TT.out).mono ?_
 try clear x4 x4f x5 x5f x6 x6f
 rintro e w2 ⟨o, rfl, ho, hb, hlo⟩
 obtain ⟨yao, yac, rfl⟩ := ho.shape
 have hzy : w.heap.size + 3 ≤ w1.heap.size := Xk.out.lt
 replace Xp := Lib.hid (Xp.out.below hb Xp.out.lt)
 replace Xs := Lib.hid (Xs.out.below hb Xs.out.lt)
 replace Xk := Lib.hid (Xk.out.below hb Xk.out.lt)
 replace Sr := Lib.hid (Sr.out.mono hb)
 replace Sa := Lib.hid (Sa.out.mono hb)
 replace TT := Lib.hid (TT.out.mono hb)
 replace HB := Lib.hid (HB.out.trans (hb.mono HB.out.size))
 have Sy := Lib.hid ho
 have hly := hlo
 clear hb ho hlo
 obtain ⟨x7, x7f⟩ := Xp.out.at_ 0 (.bool ex) rfl
 obtain ⟨x8, x8f⟩ := Xp.out.at_ 1 (.int .i64 at') rfl
 obtain ⟨x9, x9f⟩ := Xp.out.at_ 2 (.slice vo L.length vc) rfl
 have hSlo : w.heap.size ≤ w2.heap.size := by have := HB.out.size; omega
 have hS3 : w.heap.size + 3 ≤ w2.heap.size := by have := Xk.out.lt; omega
 have Np : w2.heap.size ≠ w.heap.size := by omega
 have Ns : w2.heap.size ≠ w.heap.size + 1 := by omega
 have Nk : w2.heap.size ≠ w.heap.size + 1 + 1 := by omega
 have Nr := Lib.hid (Sr.out.ne_ge (b := w2.heap.size) (by omega))
 have Na := Lib.hid (Sa.out.ne_ge (b := w2.heap.size) (by omega))
 have Ny := Lib.hid (Sy.out.ne_ge (b := w2.heap.size) (by omega))
 have Mr := Lib.hid (Sr.out.ne_ge (b := w2.heap.size + 1) (by omega))
 have Ma := Lib.hid (Sa.out.ne_ge (b := w2.heap.size + 1) (by omega))
 have My := Lib.hid (Sy.out.ne_ge (b := w2.heap.size + 1) (by omega))
 have NTT := Lib.hid (TT.out.ne_ge (b := w2.heap.size) (by omega))
 have hb0 : Below w2.heap.size w2 ((w2.alloc (.cells #[.bool true, .int .i64 at', .slice none 0 0] 71)).alloc (.cells #[.bool false, .slice none 0 0] 59)) := ((Below.refl _ _).alloc (Nat.le_refl _) _).alloc (by simp) _
 replace Xp := Lib.hid (Xp.out.below hb0 Xp.out.lt)
 replace Xs := Lib.hid (Xs.out.below hb0 Xs.out.lt)
 replace Xk := Lib.hid (Xk.out.below hb0 Xk.out.lt)
 replace Sr := Lib.hid (Sr.out.mono hb0)
 replace Sa := Lib.hid (Sa.out.mono hb0)
 replace Sy := Lib.hid (Sy.out.mono hb0)
 replace TT := Lib.hid (TT.out.mono hb0)
 replace HB := Lib.hid (HB.out.trans (hb0.mono HB.out.size))
 have OO := Lib.hid (show StBox ((w2.alloc (.cells #[.bool true, .int .i64 at', .slice none 0 0] 71)).alloc (.cells #[.bool false, .slice none 0 0] 59)) w2.heap.size (fun b => w2.heap.size + 2 ≤ b) true at' 0 (fun _ => none) from ⟨_, [], (CBox.new _ rfl).old _, Tms.nil _, asc_nil (fun _ => rfl), Nat.le_refl _, fun h => absurd rfl h⟩)
 have Xz := Lib.hid (show CBox ((w2.alloc (.cells #[.bool true, .int .i64 at', .slice none 0 0] 71)).alloc (.cells #[.bool false, .slice none 0 0] 59)) (w2.heap.size + 1) 59 #[.bool false, .slice none 0 0] from CBox.new _ (by simp))
 have Nz : w2.heap.size ≠ w2.heap.size + 1 := by omega
 clear hb0
 go_wp2_with fail
 refine (rjoin_any _ _ _ _ _ Sa.out Sy.out (by omega)).mono ?_
 try clear x7 x7f x8 x8f x9 x9f
 rintro e w3 ⟨o, rfl, ho, hb, hlo⟩
 obtain ⟨jao, jac, rfl⟩ := ho.shape
 have Nj := Lib.hid (show (sasc (nmL L false ++ nmL L true)) ≠ [] → (Value.slice jao (sasc (nmL L false ++ nmL L true)).length jac).ownBlock ≠ some w2.heap.size from fun _ => hlo.ne OO.out.lt)
 have hzj : w.heap.size + 3 ≤ ((w2.alloc (.cells #[.bool true, .int .i64 at', .slice none 0 0] 71)).alloc (.cells #[.bool false, .slice none 0 0] 59)).heap.size := Xk.out.lt
 have Mj := Lib.hid (show (sasc (nmL L false ++ nmL L true)) ≠ [] → (Value.slice jao (sasc (nmL L false ++ nmL L true)).length jac).ownBlock ≠ some (w2.heap.size + 1) from fun _ => hlo.ne Xz.out.lt)
 replace Xp := Lib.hid (Xp.out.below hb Xp.out.lt)
 replace Xs := Lib.hid (Xs.out.below hb Xs.out.lt)
 replace Xk := Lib.hid (Xk.out.below hb Xk.out.lt)
 replace Xz := Lib.hid (Xz.out.below hb Xz.out.lt)
 replace Sr := Lib.hid (Sr.out.mono hb)
 replace Sa := Lib.hid (Sa.out.mono hb)
 replace Sy := Lib.hid (Sy.out.mono hb)
 replace TT := Lib.hid (TT.out.mono hb)
 replace OO := Lib.hid (OO.out.mono hb)
 replace HB := Lib.hid (HB.out.trans (hb.mono HB.out.size))
 have Sj := Lib.hid ho
 have hlj := hlo
 clear hb ho hlo
 go_wp2_with fail
 refine (less_in _ _ _ _ _ Sr.out Sj.out).mono ?_
 rintro e w4 ⟨o, rfl, ho, hb, hlo⟩
 obtain ⟨eao, eac, rfl⟩ := ho.shape
 have Ne := Lib.hid (show (lessF C (sasc (nmL L false ++ nmL L true))) ≠ [] → (Value.slice eao (lessF C (sasc (nmL L false ++ nmL L true))).length eac).ownBlock ≠ some w2.heap.size from fun _ => hlo.ne OO.out.lt)
 have hze : w.heap.size + 3 ≤ w3.heap.size := Xk.out.lt
 have Me := Lib.hid (show (lessF C (sasc (nmL L false ++ nmL L true))) ≠ [] → (Value.slice eao (lessF C (sasc (nmL L false ++ nmL L true))).length eac).ownBlock ≠ some (w2.heap.size + 1) from fun _ => hlo.ne Xz.out.lt)
 replace Xp := Lib.hid (Xp.out.below hb Xp.out.lt)
 replace Xs := Lib.hid (Xs.out.below hb Xs.out.lt)
 replace Xk := Lib.hid (Xk.out.below hb Xk.out.lt)
 replace Xz := Lib.hid (Xz.out.below hb Xz.out.lt)
 replace Sr := Lib.hid (Sr.out.mono hb)
 replace Sa := Lib.hid (Sa.out.mono hb)
 replace Sy := Lib.hid (Sy.out.mono hb)
 replace Sj := Lib.hid (Sj.out.mono hb)
 replace TT := Lib.hid (TT.out.mono hb)
 replace OO := Lib.hid (OO.out.mono hb)
 replace HB := Lib.hid (HB.out.trans (hb.mono HB.out.size))
 have Se := Lib.hid ho
 have hle := hlo
 clear hb ho hlo
 obtain ⟨x10, x10f⟩ := Xp.out.at_ 0 (.bool ex) rfl
 obtain ⟨x11, x11f⟩ := Xp.out.at_ 1 (.int .i64 at') rfl
 obtain ⟨x12, x12f⟩ := Xp.out.at_ 2 (.slice vo L.length vc) rfl
 go_wp2_with fail
 refine (both_in _ _ _ _ _ Sy.out Sr.out).mono ?_
 try clear x10 x10f x11 x11f x12 x12f
 rintro e w5 ⟨o, rfl, ho, hb, hlo⟩
 obtain ⟨dao, dac, rfl⟩ := ho.shape
 have Nd := Lib.hid (show (bothL (nmL L true) C) ≠ [] → (Value.slice dao (bothL (nmL L true) C).length dac).ownBlock ≠ some w2.heap.size from fun _ => hlo.ne OO.out.lt)
 have hzd : w.heap.size + 3 ≤ w4.heap.size := Xk.out.lt
 have Md := Lib.hid (show (bothL (nmL L true) C) ≠ [] → (Value.slice dao (bothL (nmL L true) C).length dac).ownBlock ≠ some (w2.heap.size + 1) from fun _ => hlo.ne Xz.out.lt)
 replace Xp := Lib.hid (Xp.out.below hb Xp.out.lt)
 replace Xs := Lib.hid (Xs.out.below hb Xs.out.lt)
 replace Xk := Lib.hid (Xk.out.below hb Xk.out.lt)
 replace Xz := Lib.hid (Xz.out.below hb Xz.out.lt)
 replace Sr := Lib.hid (Sr.out.mono hb)
 replace Sa := Lib.hid (Sa.out.mono hb)
 replace Sy := Lib.hid (Sy.out.mono hb)
 replace Sj := Lib.hid (Sj.out.mono hb)
 replace Se := Lib.hid (Se.out.mono hb)
 replace TT := Lib.hid (TT.out.mono hb)
 replace OO := Lib.hid (OO.out.mono hb)
 replace HB := Lib.hid (HB.out.trans (hb.mono HB.out.size))
 have Sd := Lib.hid ho
 have hld := hlo
 clear hb ho hlo
 go_wp2_with fail
 refine (all_any _ (bothL (nmL L true) C) 0 (fun b hb => Nat.le_trans Xz.out.lt hb) OO.out (by omega) Sd.out Nd.out rfl).mono ?_
 rintro e w6 ⟨rfl, hst, hg⟩
 replace Xp := Lib.hid (Xp.out.grown hg (ne_some Np))
 replace Xs := Lib.hid (Xs.out.grown hg (ne_some Ns))
 replace Xk := Lib.hid (Xk.out.grown hg (ne_some Nk))
 replace Xz := Lib.hid (Xz.out.grown hg (ne_some Nz))
 replace Sr := Lib.hid (Sr.out.grown' hg Nr.out)
 replace Sa := Lib.hid (Sa.out.grown' hg Na.out)
 replace Sy := Lib.hid (Sy.out.grown' hg Ny.out)
 replace Sj := Lib.hid (Sj.out.grown' hg Nj.out)
 replace Se := Lib.hid (Se.out.grown' hg Ne.out)
 replace Sd := Lib.hid (Sd.out.grown' hg Nd.out)
 replace TT := Lib.hid (TT.out.grown' hg NTT.out)
 replace HB := Lib.hid (HB.out.grown hg HB.out.size (fun j e => by injection e with e; subst e; exact hSlo))
 replace OO := Lib.hid hst
 clear hg hst
 have YB := Lib.hid (fun W (hW : Below w6.heap.size w6 W) => both_in _ _ _ _ W (Sa.out.mono hW) (Sr.out.mono hW))
 have YK := Lib.hid (fun W (lv : Value) (hW : Below w6.heap.size w6 W) (hs : Strs W lv (bothL (nmL L false) C)) (hl : Lies w6.heap.size lv) => kept_any (fun b hb => Nat.le_trans Xz.out.lt (Nat.le_trans hW.size hb)) lv (bothL (nmL L false) C) ex at' _ L (OO.out.mono hW) (by omega) hs (fun _ => hl.ne OO.out.lt) (TT.out.mono hW) hA NTT.out)
 have HK := Lib.hid (show ∀ w', w6.grownBy w' (some w2.heap.size) → w'.cell? ⟨w.heap.size, 0, none⟩ = some (.bool ex) ∧ w'.cell? ⟨w.heap.size, 1, none⟩ = some (.int .i64 at') ∧ w'.cell? ⟨w.heap.size, 2, none⟩ = some (.slice vo L.length vc) from fun w' hg => have t := Xp.out.grown hg (ne_some Np); ⟨(t.at_ 0 _ rfl).1, (t.at_ 1 _ rfl).1, (t.at_ 2 _ rfl).1⟩)
 have R0 := Lib.hid (Below.drew (Below.refl w6.heap.size w6))
 go_wp2_with fail
 go_cut [] (fun w' => StBox w' w2.heap.size (fun b => w2.heap.size + 2 ≤ b) true at' (0 + (bothL (nmL L true) C).length + (bothL (nmL L false) C).length) (keepF (setF (fun _ => none) (bothL (nmL L true) C) 0) (bothL (nmL L false) C) F) ∧ w6.grownBy w' (some w2.heap.size))
 case first =>
  go_wp2_with fail
  go_region_held3 (fun w' => w'.cell? ⟨w.heap.size, 0, none⟩ = some (.bool ex) ∧ w'.cell? ⟨w.heap.size, 1, none⟩ = some (.int .i64 at') ∧ w'.cell? ⟨w.heap.size, 2, none⟩ = some (.slice vo L.length vc)) (first | exact HK.out _ G2.out | exact HK.out _ (grown_below (World.grownBy.refl _ _) R1.out) | exact HK.out _ (grown_below (World.grownBy.refl _ _) R0.out))
   (first | ((with_reducible refine (YK.out _ _ R1.out HB1.out hlo2).mono ?_); rintro e u2 ⟨rfl, hst, hg⟩; have HS2 := Lib.hid hst; have G2 := Lib.hid ((grown_below (World.grownBy.refl _ (some w2.heap.size)) R1.out).trans hg); clear hst hg) | ((with_reducible refine (YB.out _ R0.out).mono ?_); rintro e u1 ⟨o, rfl, ho, hb, hlo1⟩; obtain ⟨bo, bc, rfl⟩ := ho.shape; have HB1 := Lib.hid ho; have hlo2 : Lies w6.heap.size (.slice bo (bothL (nmL L false) C).length bc) := hlo1; have R1 := Lib.hid (R0.out.trans (hb.mono R0.out.size)); clear ho hb))
  all_goals
   go_wp2_with fail
   go_meet
   case rel => exact ⟨HS2.out, G2.out⟩
 case rest =>
  obtain ⟨w7, rfl⟩ : ∃ x, x = wc := ⟨_, rfl⟩
  obtain ⟨hst, hg⟩ := hcut
  clear YB YK HK R0
  replace Xp := Lib.hid (Xp.out.grown hg (ne_some Np))
  replace Xs := Lib.hid (Xs.out.grown hg (ne_some Ns))
  replace Xk := Lib.hid (Xk.out.grown hg (ne_some Nk))
  replace Xz := Lib.hid (Xz.out.grown hg (ne_some Nz))
  replace Sr := Lib.hid (Sr.out.grown' hg Nr.out)
  replace Sa := Lib.hid (Sa.out.grown' hg Na.out)
  replace Sy := Lib.hid (Sy.out.grown' hg Ny.out)
  replace Sj := Lib.hid (Sj.out.grown' hg Nj.out)
  replace Se := Lib.hid (Se.out.grown' hg Ne.out)
  replace Sd := Lib.hid (Sd.out.grown' hg Nd.out)
  replace TT := Lib.hid (TT.out.grown' hg NTT.out)
  replace HB := Lib.hid (HB.out.grown hg HB.out.size (fun j e => by injection e with e; subst e; exact hSlo))
  replace OO := Lib.hid hst
  clear hg hst
  obtain ⟨vq13, Lq13, hq13, hT13, _⟩ := OO.out
  obtain ⟨vq13o, vq13c, rfl⟩ := hT13.shape
  obtain ⟨x13a, x13af⟩ := hq13.at_ 0 (.bool true) rfl
  obtain ⟨x13b, x13bf⟩ := hq13.at_ 1 (.int .i64 at') rfl
  obtain ⟨x13c, x13cf⟩ := hq13.at_ 2 (.slice vq13o Lq13.length vq13c) rfl
  replace Xp := Lib.hid (Xp.out.far (p := ⟨w2.heap.size, 1, none⟩) (by simp <;> omega) (.int .i64 m))
  replace Xs := Lib.hid (Xs.out.far (p := ⟨w2.heap.size, 1, none⟩) (by simp <;> omega) (.int .i64 m))
  replace Xk := Lib.hid (Xk.out.far (p := ⟨w2.heap.size, 1, none⟩) (by simp <;> omega) (.int .i64 m))
  replace Xz := Lib.hid (Xz.out.far (p := ⟨w2.heap.size, 1, none⟩) (by simp <;> omega) (.int .i64 m))
  replace Sr := Lib.hid (Sr.out.apart' (p := ⟨w2.heap.size, 1, none⟩) (fun hL b hb e => Nr.out hL (hb.trans (congrArg some e))) (.int .i64 m))
  replace Sa := Lib.hid (Sa.out.apart' (p := ⟨w2.heap.size, 1, none⟩) (fun hL b hb e => Na.out hL (hb.trans (congrArg some e))) (.int .i64 m))
  replace Sy := Lib.hid (Sy.out.apart' (p := ⟨w2.heap.size, 1, none⟩) (fun hL b hb e => Ny.out hL (hb.trans (congrArg some e))) (.int .i64 m))
  replace Sj := Lib.hid (Sj.out.apart' (p := ⟨w2.heap.size, 1, none⟩) (fun hL b hb e => Nj.out hL (hb.trans (congrArg some e))) (.int .i64 m))
  replace Se := Lib.hid (Se.out.apart' (p := ⟨w2.heap.size, 1, none⟩) (fun hL b hb e => Ne.out hL (hb.trans (congrArg some e))) (.int .i64 m))
  replace Sd := Lib.hid (Sd.out.apart' (p := ⟨w2.heap.size, 1, none⟩) (fun hL b hb e => Nd.out hL (hb.trans (congrArg some e))) (.int .i64 m))
  replace OO := Lib.hid (OO.out.setAt (fun b hb => by omega) (m))
  replace TT := Lib.hid (TT.out.apart (p := ⟨w2.heap.size, 1, none⟩) NTT.out (.int .i64 m))
  replace HB := Lib.hid (HB.out.setCell (p := ⟨w2.heap.size, 1, none⟩) (by simp <;> omega) (.int .i64 m))
  go_wp2_with fail
  refine (all_any _ (lessF C (sasc (nmL L false ++ nmL L true))) m (fun b hb => Nat.le_trans Xz.out.lt hb) OO.out (by omega) Se.out Ne.out hm).mono ?_
  try clear x13a x13af x13b x13bf x13c x13cf hq13 hT13
  rintro e w8 ⟨rfl, hst, hg⟩
  replace Xp := Lib.hid (Xp.out.grown hg (ne_some Np))
  replace Xs := Lib.hid (Xs.out.grown hg (ne_some Ns))
  replace Xk := Lib.hid (Xk.out.grown hg (ne_some Nk))
  replace Xz := Lib.hid (Xz.out.grown hg (ne_some Nz))
  replace Sr := Lib.hid (Sr.out.grown' hg Nr.out)
  replace Sa := Lib.hid (Sa.out.grown' hg Na.out)
  replace Sy := Lib.hid (Sy.out.grown' hg Ny.out)
  replace Sj := Lib.hid (Sj.out.grown' hg Nj.out)
  replace Se := Lib.hid (Se.out.grown' hg Ne.out)
  replace Sd := Lib.hid (Sd.out.grown' hg Nd.out)
  replace TT := Lib.hid (TT.out.grown' hg NTT.out)
  replace HB := Lib.hid (HB.out.grown hg HB.out.size (fun j e => by injection e with e; subst e; exact hSlo))
  replace OO := Lib.hid hst
  clear hg hst
  obtain ⟨x14, x14f⟩ := Xp.out.at_ 0 (.bool ex) rfl
  obtain ⟨x15, x15f⟩ := Xp.out.at_ 1 (.int .i64 at') rfl
  obtain ⟨x16, x16f⟩ := Xp.out.at_ 2 (.slice vo L.length vc) rfl
  go_wp2_with fail
  refine (all_any _ (lessF C (sasc (nmL L false ++ nmL L true))) at' (fun b hb => Nat.le_trans Xz.out.lt hb) OO.out (by omega) Se.out Ne.out ha).mono ?_
  try clear x14 x14f x15 x15f x16 x16f
  rintro e w9 ⟨rfl, hst, hg⟩
  replace Xp := Lib.hid (Xp.out.grown hg (ne_some Np))
  replace Xs := Lib.hid (Xs.out.grown hg (ne_some Ns))
  replace Xk := Lib.hid (Xk.out.grown hg (ne_some Nk))
  replace Xz := Lib.hid (Xz.out.grown hg (ne_some Nz))
  replace Sr := Lib.hid (Sr.out.grown' hg Nr.out)
  replace Sa := Lib.hid (Sa.out.grown' hg Na.out)
  replace Sy := Lib.hid (Sy.out.grown' hg Ny.out)
  replace Sj := Lib.hid (Sj.out.grown' hg Nj.out)
  replace Se := Lib.hid (Se.out.grown' hg Ne.out)
  replace Sd := Lib.hid (Sd.out.grown' hg Nd.out)
  replace TT := Lib.hid (TT.out.grown' hg NTT.out)
  replace HB := Lib.hid (HB.out.grown hg HB.out.size (fun j e => by injection e with e; subst e; exact hSlo))
  replace OO := Lib.hid hst
  clear hg hst
  go_wp2_with fail
  refine (less_in _ _ _ _ _ Sr.out Sy.out).mono ?_
  rintro e w10 ⟨o, rfl, ho, hb, hlo⟩
  obtain ⟨bao, bac, rfl⟩ := ho.shape
  have Nb := Lib.hid (show (lessF C (nmL L true)) ≠ [] → (Value.slice bao (lessF C (nmL L true)).length bac).ownBlock ≠ some w2.heap.size from fun _ => hlo.ne OO.out.lt)
  have hzb : w.heap.size + 3 ≤ w9.heap.size := Xk.out.lt
  have Mb := Lib.hid (show (lessF C (nmL L true)) ≠ [] → (Value.slice bao (lessF C (nmL L true)).length bac).ownBlock ≠ some (w2.heap.size + 1) from fun _ => hlo.ne Xz.out.lt)
  replace Xp := Lib.hid (Xp.out.below hb Xp.out.lt)
  replace Xs := Lib.hid (Xs.out.below hb Xs.out.lt)
  replace Xk := Lib.hid (Xk.out.below hb Xk.out.lt)
  replace Xz := Lib.hid (Xz.out.below hb Xz.out.lt)
  replace Sr := Lib.hid (Sr.out.mono hb)
  replace Sa := Lib.hid (Sa.out.mono hb)
  replace Sy := Lib.hid (Sy.out.mono hb)
  replace Sj := Lib.hid (Sj.out.mono hb)
  replace Se := Lib.hid (Se.out.mono hb)
  replace Sd := Lib.hid (Sd.out.mono hb)
  replace TT := Lib.hid (TT.out.mono hb)
  replace OO := Lib.hid (OO.out.mono hb)
  replace HB := Lib.hid (HB.out.trans (hb.mono HB.out.size))
  have Sb := Lib.hid ho
  have hlb := hlo
  clear hb ho hlo
  obtain ⟨vq17, Lq17, hq17, hT17, _⟩ := OO.out
  obtain ⟨vq17o, vq17c, rfl⟩ := hT17.shape
  obtain ⟨x17a, x17af⟩ := hq17.at_ 0 (.bool true) rfl
  obtain ⟨x17b, x17bf⟩ := hq17.at_ 1 (.int .i64 m) rfl
  obtain ⟨x17c, x17cf⟩ := hq17.at_ 2 (.slice vq17o Lq17.length vq17c) rfl
  obtain ⟨x18, x18f⟩ := Xz.out.at_ 0 (.bool false) rfl
  obtain ⟨x19, x19f⟩ := Xz.out.at_ 1 (.slice none 0 0) rfl
  replace Xp := Lib.hid (Xp.out.far (p := ⟨w2.heap.size + 1, 1, none⟩) (by simp <;> omega) (.slice bao (lessF C (nmL L true)).length bac))
  replace Xs := Lib.hid (Xs.out.far (p := ⟨w2.heap.size + 1, 1, none⟩) (by simp <;> omega) (.slice bao (lessF C (nmL L true)).length bac))
  replace Xk := Lib.hid (Xk.out.far (p := ⟨w2.heap.size + 1, 1, none⟩) (by simp <;> omega) (.slice bao (lessF C (nmL L true)).length bac))
  replace Xz := Lib.hid (show CBox (w10.setCell ⟨w2.heap.size + 1, 1, none⟩ (.slice bao (lessF C (nmL L true)).length bac)) (w2.heap.size + 1) 59 #[.bool false, .slice bao (lessF C (nmL L true)).length bac] from by simpa using Xz.out.set 1 (.slice bao (lessF C (nmL L true)).length bac))
  clear Sr
  clear Sa
  clear Sy
  clear Sj
  clear Se
  clear Sd
  replace Sb := Lib.hid (Sb.out.apart' (p := ⟨w2.heap.size + 1, 1, none⟩) (fun hL b hb e => Mb.out hL (hb.trans (congrArg some e))) (.slice bao (lessF C (nmL L true)).length bac))
  replace OO := Lib.hid (OO.out.far (p := ⟨w2.heap.size + 1, 1, none⟩) (by simp) (fun b hb => by simp; omega) (.slice bao (lessF C (nmL L true)).length bac))
  replace HB := Lib.hid (HB.out.setCell (p := ⟨w2.heap.size + 1, 1, none⟩) (by simp <;> omega) (.slice bao (lessF C (nmL L true)).length bac))
  obtain ⟨v9, L9, hc9, hT9, hA9, hl9, hk9⟩ := OO.out
  obtain ⟨v9o, v9c, rfl⟩ := hT9.shape
  have C9 := Lib.hid hc9; have T9 := Lib.hid hT9; have A9 := Lib.hid hA9; have L9' := Lib.hid hl9; have K9 := Lib.hid hk9
  obtain ⟨c0, c0f⟩ := hc9.at_ 0 (.bool true) rfl
  obtain ⟨c1, c1f⟩ := hc9.at_ 1 (.int .i64 m) rfl
  obtain ⟨c2, c2f⟩ := hc9.at_ 2 (.slice v9o L9.length v9c) rfl
  obtain ⟨d0, d0f⟩ := Xz.out.at_ 0 (.bool false) rfl
  obtain ⟨d1, d1f⟩ := Xz.out.at_ 1 (.slice bao (lessF C (nmL L true)).length bac) rfl
  obtain ⟨e0, e0f⟩ := Xs.out.at_ 0 (.bool false) rfl
  obtain ⟨e1, e1f⟩ := Xs.out.at_ 1 (.int .i64 0) rfl
  obtain ⟨e2, e2f⟩ := Xs.out.at_ 2 (.slice none 0 0) rfl
  obtain ⟨f0, f0f⟩ := Xk.out.at_ 0 (.bool false) rfl
  obtain ⟨f1, f1f⟩ := Xk.out.at_ 1 (.slice none 0 0) rfl
  clear hc9 hT9 hA9 hl9 hk9
  go_wp2_with fail
  go_region
  all_goals
   go_wp2_with fail
   obtain ⟨r0, r1, r2, r3, r4⟩ := boxes_end5 Xs.out Xk.out (.bool true) (.int .i64 m) (.slice v9o L9.length v9c) (.bool false) (.slice bao (lessF C (nmL L true)).length bac)
   have hT := T9.out.end5' (lo := w.heap.size + 1) (fun hL b hb => by have := K9.out hL b hb; omega) (.bool true) (.int .i64 m) (.slice v9o L9.length v9c) (.bool false) (.slice bao (lessF C (nmL L true)).length bac)
   have hU := Sb.out.end5' (lo := w.heap.size + 1) (fun hL b hb => by have := hlb b hb; have := hzb; omega) (.bool true) (.int .i64 m) (.slice v9o L9.length v9c) (.bool false) (.slice bao (lessF C (nmL L true)).length bac)
   have hBB := below_end5' HB.out (lo := w.heap.size + 1) (by omega) (.bool true) (.int .i64 m) (.slice v9o L9.length v9c) (.bool false) (.slice bao (lessF C (nmL L true)).length bac)
   refine bodyPost_ret (v := .tuple #[.agg #[.bool true, .int .i64 m, .slice v9o L9.length v9c], .agg #[.bool false, (.slice bao (lessF C (nmL L true)).length bac)]]) (by simp [results, Tryz.results65, go_sem, r0, r1, r2, r3, r4]) rfl ⟨_, L9, _, rfl, ?_, A9.out, ?_, ?_⟩
   · first | with_reducible exact hT | with_reducible exact hT.drew
   · first | with_reducible exact hU | with_reducible exact hU.drew
   · first | with_reducible exact hBB | with_reducible exact hBB.drew

set_option maxRecDepth 20000 in
set_option maxHeartbeats 2000000 in
theorem but_5 (ex : Bool) (at' : Int) (v : Value) (L : List Tmd) {F : Str → Option Int} (rv : Value) (C : List Str) (m : Int) (w : World) (h : Tms w v L) (hA : Asc F L) (hr : Strs w rv C) (hL : L.length ≤ 60) (hC : C.length ≤ 60) (hm : (Lit.int .i64 m).wf = true) (_ha : (Lit.int .i64 at').wf = true) :
 Calls Tryz.prog 65 #[.agg #[.bool ex, .int .i64 at', v], .int .i64 5, rv, .int .i64 m] w (RetSA w true at' (setF (setF (keepF (fun _ => none) (nmL L false) F) (lessF (nmL L true) C) 0) C m) false ([])) := by
 obtain ⟨vo, vc, rfl⟩ := h.shape
 obtain ⟨ro, rc, rfl⟩ := hr.shape
 have q1 := nmL_len L false; have q2 := nmL_len L true
 have qbx := bothL_len (nmL L false) C; have qlx := lessF_len (nmL L false) C
 have qby := bothL_len (nmL L true) C; have qly := lessF_len (nmL L true) C
 have qr1 := lessF_len C (sasc (nmL L false ++ nmL L true)); have qr2 := lessF_len C (nmL L true)
 have qj : (sasc (nmL L false ++ nmL L true)).length ≤ (nmL L false).length + (nmL L true).length := Nat.le_trans (sasc_length _) (by simp)
 have HB := Lib.hid (Below.refl w.heap.size w)
 have TT := Lib.hid h
 have Sr := Lib.hid hr
 clear h hr
 have hb0 : Below w.heap.size w (((w.alloc (.cells #[.bool ex, .int .i64 at', .slice vo L.length vc] 71)).alloc (.cells #[.bool false, .int .i64 0, .slice none 0 0] 71)).alloc (.cells #[.bool false, .slice none 0 0] 59)) := (((Below.refl _ _).alloc (Nat.le_refl _) _).alloc (by simp) _).alloc (by simp <;> omega) _
 replace Sr := Lib.hid (Sr.out.mono hb0)
 replace TT := Lib.hid (TT.out.mono hb0)
 replace HB := Lib.hid (HB.out.trans (hb0.mono HB.out.size))
 have Xp := Lib.hid (show CBox (((w.alloc (.cells #[.bool ex, .int .i64 at', .slice vo L.length vc] 71)).alloc (.cells #[.bool false, .int .i64 0, .slice none 0 0] 71)).alloc (.cells #[.bool false, .slice none 0 0] 59)) w.heap.size 71 #[.bool ex, .int .i64 at', .slice vo L.length vc] from ((CBox.new _ rfl).old _).old _)
 have Xs := Lib.hid (show CBox (((w.alloc (.cells #[.bool ex, .int .i64 at', .slice vo L.length vc] 71)).alloc (.cells #[.bool false, .int .i64 0, .slice none 0 0] 71)).alloc (.cells #[.bool false, .slice none 0 0] 59)) (w.heap.size + 1) 71 #[.bool false, .int .i64 0, .slice none 0 0] from (CBox.new _ (by simp)).old _)
 have Xk := Lib.hid (show CBox (((w.alloc (.cells #[.bool ex, .int .i64 at', .slice vo L.length vc] 71)).alloc (.cells #[.bool false, .int .i64 0, .slice none 0 0] 71)).alloc (.cells #[.bool false, .slice none 0 0] 59)) (w.heap.size + 1 + 1) 59 #[.bool false, .slice none 0 0] from CBox.new _ (by simp))
 clear hb0
 obtain ⟨x1, x1f⟩ := Xp.out.at_ 0 (.bool ex) rfl
 obtain ⟨x2, x2f⟩ := Xp.out.at_ 1 (.int .i64 at') rfl
 obtain ⟨x3, x3f⟩ := Xp.out.at_ 2 (.slice vo L.length vc) rfl
 go_enter Tryz.func65, Tryz.ntmps65
 go_wp2_with fail
 refine (rnames_any ex at' _ L false _ TT.out).mono ?_
 try clear x1 x1f x2 x2f x3 x3f
 rintro e w1 ⟨o, rfl, ho, hb, hlo⟩
 obtain ⟨aao, aac, rfl⟩ := ho.shape
 have hza : w.heap.size + 3 ≤ (((w.alloc (.cells #[.bool ex, .int .i64 at', .slice vo L.length vc] 71)).alloc (.cells #[.bool false, .int .i64 0, .slice none 0 0] 71)).alloc (.cells #[.bool false, .slice none 0 0] 59)).heap.size := Xk.out.lt
 replace Xp := Lib.hid (Xp.out.below hb Xp.out.lt)
 replace Xs := Lib.hid (Xs.out.below hb Xs.out.lt)
 replace Xk := Lib.hid (Xk.out.below hb Xk.out.lt)
 replace Sr := Lib.hid (Sr.out.mono hb)
 replace TT := Lib.hid (TT.out.mono hb)
 replace HB := Lib.hid (HB.out.trans (hb.mono HB.out.size))
 have Sa := Lib.hid ho
 have hla := hlo
 clear hb ho hlo
 obtain ⟨x4, x4f⟩ := Xp.out.at_ 0 (.bool ex) rfl
 obtain ⟨x5, x5f⟩ := Xp.out.at_ 1 (.int .i64 at') rfl
 obtain ⟨x6, x6f⟩ := Xp.out.at_ 2 (.slice vo L.length vc) rfl
 go_wp2_with fail
 refine (rnames_any ex at' _ L true _ TT.out).mono ?_
 try clear x4 x4f x5 x5f x6 x6f
 rintro e w2 ⟨o, rfl, ho, hb, hlo⟩
 obtain ⟨yao, yac, rfl⟩ := ho.shape
 have hzy : w.heap.size + 3 ≤ w1.heap.size := Xk.out.lt
 replace Xp := Lib.hid (Xp.out.below hb Xp.out.lt)
 replace Xs := Lib.hid (Xs.out.below hb Xs.out.lt)
 replace Xk := Lib.hid (Xk.out.below hb Xk.out.lt)
 replace Sr := Lib.hid (Sr.out.mono hb)
 replace Sa := Lib.hid (Sa.out.mono hb)
 replace TT := Lib.hid (TT.out.mono hb)
 replace HB := Lib.hid (HB.out.trans (hb.mono HB.out.size))
 have Sy := Lib.hid ho
 have hly := hlo
 clear hb ho hlo
 obtain ⟨x7, x7f⟩ := Xp.out.at_ 0 (.bool ex) rfl
 obtain ⟨x8, x8f⟩ := Xp.out.at_ 1 (.int .i64 at') rfl
 obtain ⟨x9, x9f⟩ := Xp.out.at_ 2 (.slice vo L.length vc) rfl
 have hSlo : w.heap.size ≤ w2.heap.size := by have := HB.out.size; omega
 have hS3 : w.heap.size + 3 ≤ w2.heap.size := by have := Xk.out.lt; omega
 have Np : w2.heap.size ≠ w.heap.size := by omega
 have Ns : w2.heap.size ≠ w.heap.size + 1 := by omega
 have Nk : w2.heap.size ≠ w.heap.size + 1 + 1 := by omega
 have Nr := Lib.hid (Sr.out.ne_ge (b := w2.heap.size) (by omega))
 have Na := Lib.hid (Sa.out.ne_ge (b := w2.heap.size) (by omega))
 have Ny := Lib.hid (Sy.out.ne_ge (b := w2.heap.size) (by omega))
 have Mr := Lib.hid (Sr.out.ne_ge (b := w2.heap.size + 1) (by omega))
 have Ma := Lib.hid (Sa.out.ne_ge (b := w2.heap.size + 1) (by omega))
 have My := Lib.hid (Sy.out.ne_ge (b := w2.heap.size + 1) (by omega))
 have NTT := Lib.hid (TT.out.ne_ge (b := w2.heap.size) (by omega))
 have hb0 : Below w2.heap.size w2 ((w2.alloc (.cells #[.bool true, .int .i64 at', .slice none 0 0] 71)).alloc (.cells #[.bool false, .slice none 0 0] 59)) := ((Below.refl _ _).alloc (Nat.le_refl _) _).alloc (by simp) _
 replace Xp := Lib.hid (Xp.out.below hb0 Xp.out.lt)
 replace Xs := Lib.hid (Xs.out.below hb0 Xs.out.lt)
 replace Xk := Lib.hid (Xk.out.below hb0 Xk.out.lt)
 replace Sr := Lib.hid (Sr.out.mono hb0)
 replace Sa := Lib.hid (Sa.out.mono hb0)
 replace Sy := Lib.hid (Sy.out.mono hb0)
 replace TT := Lib.hid (TT.out.mono hb0)
 replace HB := Lib.hid (HB.out.trans (hb0.mono HB.out.size))
 have OO := Lib.hid (show StBox ((w2.alloc (.cells #[.bool true, .int .i64 at', .slice none 0 0] 71)).alloc (.cells #[.bool false, .slice none 0 0] 59)) w2.heap.size (fun b => w2.heap.size + 2 ≤ b) true at' 0 (fun _ => none) from ⟨_, [], (CBox.new _ rfl).old _, Tms.nil _, asc_nil (fun _ => rfl), Nat.le_refl _, fun h => absurd rfl h⟩)
 have Xz := Lib.hid (show CBox ((w2.alloc (.cells #[.bool true, .int .i64 at', .slice none 0 0] 71)).alloc (.cells #[.bool false, .slice none 0 0] 59)) (w2.heap.size + 1) 59 #[.bool false, .slice none 0 0] from CBox.new _ (by simp))
 have Nz : w2.heap.size ≠ w2.heap.size + 1 := by omega
 clear hb0
 go_wp2_with fail
 refine (rjoin_any _ _ _ _ _ Sa.out Sy.out (by omega)).mono ?_
 try clear x7 x7f x8 x8f x9 x9f
 rintro e w3 ⟨o, rfl, ho, hb, hlo⟩
 obtain ⟨jao, jac, rfl⟩ := ho.shape
 have Nj := Lib.hid (show (sasc (nmL L false ++ nmL L true)) ≠ [] → (Value.slice jao (sasc (nmL L false ++ nmL L true)).length jac).ownBlock ≠ some w2.heap.size from fun _ => hlo.ne OO.out.lt)
 have hzj : w.heap.size + 3 ≤ ((w2.alloc (.cells #[.bool true, .int .i64 at', .slice none 0 0] 71)).alloc (.cells #[.bool false, .slice none 0 0] 59)).heap.size := Xk.out.lt
 have Mj := Lib.hid (show (sasc (nmL L false ++ nmL L true)) ≠ [] → (Value.slice jao (sasc (nmL L false ++ nmL L true)).length jac).ownBlock ≠ some (w2.heap.size + 1) from fun _ => hlo.ne Xz.out.lt)
 replace Xp := Lib.hid (Xp.out.below hb Xp.out.lt)
 replace Xs := Lib.hid (Xs.out.below hb Xs.out.lt)
 replace Xk := Lib.hid (Xk.out.below hb Xk.out.lt)
 replace Xz := Lib.hid (Xz.out.below hb Xz.out.lt)
 replace Sr := Lib.hid (Sr.out.mono hb)
 replace Sa := Lib.hid (Sa.out.mono hb)
 replace Sy := Lib.hid (Sy.out.mono hb)
 replace TT := Lib.hid (TT.out.mono hb)
 replace OO := Lib.hid (OO.out.mono hb)
 replace HB := Lib.hid (HB.out.trans (hb.mono HB.out.size))
 have Sj := Lib.hid ho
 have hlj := hlo
 clear hb ho hlo
 go_wp2_with fail
 refine (less_in _ _ _ _ _ Sr.out Sj.out).mono ?_
 rintro e w4 ⟨o, rfl, ho, hb, hlo⟩
 obtain ⟨eao, eac, rfl⟩ := ho.shape
 have Ne := Lib.hid (show (lessF C (sasc (nmL L false ++ nmL L true))) ≠ [] → (Value.slice eao (lessF C (sasc (nmL L false ++ nmL L true))).length eac).ownBlock ≠ some w2.heap.size from fun _ => hlo.ne OO.out.lt)
 have hze : w.heap.size + 3 ≤ w3.heap.size := Xk.out.lt
 have Me := Lib.hid (show (lessF C (sasc (nmL L false ++ nmL L true))) ≠ [] → (Value.slice eao (lessF C (sasc (nmL L false ++ nmL L true))).length eac).ownBlock ≠ some (w2.heap.size + 1) from fun _ => hlo.ne Xz.out.lt)
 replace Xp := Lib.hid (Xp.out.below hb Xp.out.lt)
 replace Xs := Lib.hid (Xs.out.below hb Xs.out.lt)
 replace Xk := Lib.hid (Xk.out.below hb Xk.out.lt)
 replace Xz := Lib.hid (Xz.out.below hb Xz.out.lt)
 replace Sr := Lib.hid (Sr.out.mono hb)
 replace Sa := Lib.hid (Sa.out.mono hb)
 replace Sy := Lib.hid (Sy.out.mono hb)
 replace Sj := Lib.hid (Sj.out.mono hb)
 replace TT := Lib.hid (TT.out.mono hb)
 replace OO := Lib.hid (OO.out.mono hb)
 replace HB := Lib.hid (HB.out.trans (hb.mono HB.out.size))
 have Se := Lib.hid ho
 have hle := hlo
 clear hb ho hlo
 obtain ⟨x10, x10f⟩ := Xp.out.at_ 0 (.bool ex) rfl
 obtain ⟨x11, x11f⟩ := Xp.out.at_ 1 (.int .i64 at') rfl
 obtain ⟨x12, x12f⟩ := Xp.out.at_ 2 (.slice vo L.length vc) rfl
 go_wp2_with fail
 refine (kept_any (fun b hb => Nat.le_trans Xz.out.lt hb) _ (nmL L false) ex at' _ L OO.out (by omega) Sa.out Na.out TT.out hA NTT.out).mono ?_
 try clear x10 x10f x11 x11f x12 x12f
 rintro e w5 ⟨rfl, hst, hg⟩
 replace Xp := Lib.hid (Xp.out.grown hg (ne_some Np))
 replace Xs := Lib.hid (Xs.out.grown hg (ne_some Ns))
 replace Xk := Lib.hid (Xk.out.grown hg (ne_some Nk))
 replace Xz := Lib.hid (Xz.out.grown hg (ne_some Nz))
 replace Sr := Lib.hid (Sr.out.grown' hg Nr.out)
 replace Sa := Lib.hid (Sa.out.grown' hg Na.out)
 replace Sy := Lib.hid (Sy.out.grown' hg Ny.out)
 replace Sj := Lib.hid (Sj.out.grown' hg Nj.out)
 replace Se := Lib.hid (Se.out.grown' hg Ne.out)
 replace TT := Lib.hid (TT.out.grown' hg NTT.out)
 replace HB := Lib.hid (HB.out.grown hg HB.out.size (fun j e => by injection e with e; subst e; exact hSlo))
 replace OO := Lib.hid hst
 clear hg hst
 go_wp2_with fail
 refine (less_in _ _ _ _ _ Sy.out Sr.out).mono ?_
 rintro e w6 ⟨o, rfl, ho, hb, hlo⟩
 obtain ⟨dao, dac, rfl⟩ := ho.shape
 have Nd := Lib.hid (show (lessF (nmL L true) C) ≠ [] → (Value.slice dao (lessF (nmL L true) C).length dac).ownBlock ≠ some w2.heap.size from fun _ => hlo.ne OO.out.lt)
 have hzd : w.heap.size + 3 ≤ w5.heap.size := Xk.out.lt
 have Md := Lib.hid (show (lessF (nmL L true) C) ≠ [] → (Value.slice dao (lessF (nmL L true) C).length dac).ownBlock ≠ some (w2.heap.size + 1) from fun _ => hlo.ne Xz.out.lt)
 replace Xp := Lib.hid (Xp.out.below hb Xp.out.lt)
 replace Xs := Lib.hid (Xs.out.below hb Xs.out.lt)
 replace Xk := Lib.hid (Xk.out.below hb Xk.out.lt)
 replace Xz := Lib.hid (Xz.out.below hb Xz.out.lt)
 replace Sr := Lib.hid (Sr.out.mono hb)
 replace Sa := Lib.hid (Sa.out.mono hb)
 replace Sy := Lib.hid (Sy.out.mono hb)
 replace Sj := Lib.hid (Sj.out.mono hb)
 replace Se := Lib.hid (Se.out.mono hb)
 replace TT := Lib.hid (TT.out.mono hb)
 replace OO := Lib.hid (OO.out.mono hb)
 replace HB := Lib.hid (HB.out.trans (hb.mono HB.out.size))
 have Sd := Lib.hid ho
 have hld := hlo
 clear hb ho hlo
 go_wp2_with fail
 refine (all_any _ (lessF (nmL L true) C) 0 (fun b hb => Nat.le_trans Xz.out.lt hb) OO.out (by omega) Sd.out Nd.out rfl).mono ?_
 rintro e w7 ⟨rfl, hst, hg⟩
 replace Xp := Lib.hid (Xp.out.grown hg (ne_some Np))
 replace Xs := Lib.hid (Xs.out.grown hg (ne_some Ns))
 replace Xk := Lib.hid (Xk.out.grown hg (ne_some Nk))
 replace Xz := Lib.hid (Xz.out.grown hg (ne_some Nz))
 replace Sr := Lib.hid (Sr.out.grown' hg Nr.out)
 replace Sa := Lib.hid (Sa.out.grown' hg Na.out)
 replace Sy := Lib.hid (Sy.out.grown' hg Ny.out)
 replace Sj := Lib.hid (Sj.out.grown' hg Nj.out)
 replace Se := Lib.hid (Se.out.grown' hg Ne.out)
 replace Sd := Lib.hid (Sd.out.grown' hg Nd.out)
 replace TT := Lib.hid (TT.out.grown' hg NTT.out)
 replace HB := Lib.hid (HB.out.grown hg HB.out.size (fun j e => by injection e with e; subst e; exact hSlo))
 replace OO := Lib.hid hst
 clear hg hst
 go_wp2_with fail
 refine (all_any _ (C) m (fun b hb => Nat.le_trans Xz.out.lt hb) OO.out (by omega) Sr.out Nr.out hm).mono ?_
 rintro e w8 ⟨rfl, hst, hg⟩
 replace Xp := Lib.hid (Xp.out.grown hg (ne_some Np))
 replace Xs := Lib.hid (Xs.out.grown hg (ne_some Ns))
 replace Xk := Lib.hid (Xk.out.grown hg (ne_some Nk))
 replace Xz := Lib.hid (Xz.out.grown hg (ne_some Nz))
 replace Sr := Lib.hid (Sr.out.grown' hg Nr.out)
 replace Sa := Lib.hid (Sa.out.grown' hg Na.out)
 replace Sy := Lib.hid (Sy.out.grown' hg Ny.out)
 replace Sj := Lib.hid (Sj.out.grown' hg Nj.out)
 replace Se := Lib.hid (Se.out.grown' hg Ne.out)
 replace Sd := Lib.hid (Sd.out.grown' hg Nd.out)
 replace TT := Lib.hid (TT.out.grown' hg NTT.out)
 replace HB := Lib.hid (HB.out.grown hg HB.out.size (fun j e => by injection e with e; subst e; exact hSlo))
 replace OO := Lib.hid hst
 clear hg hst
 obtain ⟨v9, L9, hc9, hT9, hA9, hl9, hk9⟩ := OO.out
 obtain ⟨v9o, v9c, rfl⟩ := hT9.shape
 have C9 := Lib.hid hc9; have T9 := Lib.hid hT9; have A9 := Lib.hid hA9; have L9' := Lib.hid hl9; have K9 := Lib.hid hk9
 obtain ⟨c0, c0f⟩ := hc9.at_ 0 (.bool true) rfl
 obtain ⟨c1, c1f⟩ := hc9.at_ 1 (.int .i64 at') rfl
 obtain ⟨c2, c2f⟩ := hc9.at_ 2 (.slice v9o L9.length v9c) rfl
 obtain ⟨d0, d0f⟩ := Xz.out.at_ 0 (.bool false) rfl
 obtain ⟨d1, d1f⟩ := Xz.out.at_ 1 (.slice none 0 0) rfl
 obtain ⟨e0, e0f⟩ := Xs.out.at_ 0 (.bool false) rfl
 obtain ⟨e1, e1f⟩ := Xs.out.at_ 1 (.int .i64 0) rfl
 obtain ⟨e2, e2f⟩ := Xs.out.at_ 2 (.slice none 0 0) rfl
 obtain ⟨f0, f0f⟩ := Xk.out.at_ 0 (.bool false) rfl
 obtain ⟨f1, f1f⟩ := Xk.out.at_ 1 (.slice none 0 0) rfl
 clear hc9 hT9 hA9 hl9 hk9
 go_wp2_with fail
 go_region
 all_goals
  go_wp2_with fail
  obtain ⟨r0, r1, r2, r3, r4⟩ := boxes_end5 Xs.out Xk.out (.bool true) (.int .i64 at') (.slice v9o L9.length v9c) (.bool false) (.slice none 0 0)
  have hT := T9.out.end5' (lo := w.heap.size + 1) (fun hL b hb => by have := K9.out hL b hb; omega) (.bool true) (.int .i64 at') (.slice v9o L9.length v9c) (.bool false) (.slice none 0 0)
  have hBB := below_end5' HB.out (lo := w.heap.size + 1) (by omega) (.bool true) (.int .i64 at') (.slice v9o L9.length v9c) (.bool false) (.slice none 0 0)
  refine bodyPost_ret (v := .tuple #[.agg #[.bool true, .int .i64 at', .slice v9o L9.length v9c], .agg #[.bool false, (.slice none 0 0)]]) (by simp [results, Tryz.results65, go_sem, r0, r1, r2, r3, r4]) rfl ⟨_, L9, _, rfl, ?_, A9.out, ?_, ?_⟩
  · first | with_reducible exact hT | with_reducible exact hT.drew
  · exact Strs.nil _
  · first | with_reducible exact hBB | with_reducible exact hBB.drew

set_option maxRecDepth 20000 in
set_option maxHeartbeats 2000000 in
theorem but_6 (ex : Bool) (at' : Int) (v : Value) (L : List Tmd) {F : Str → Option Int} (rv : Value) (C : List Str) (m : Int) (w : World) (h : Tms w v L) (hA : Asc F L) (hr : Strs w rv C) (hL : L.length ≤ 60) (hC : C.length ≤ 60) (_hm : (Lit.int .i64 m).wf = true) (ha : (Lit.int .i64 at').wf = true) :
 Calls Tryz.prog 65 #[.agg #[.bool ex, .int .i64 at', v], .int .i64 6, rv, .int .i64 m] w (RetSA w true at' (setF (keepF (setF (fun _ => none) (nmL L true) 0) (nmL L false) F) (lessF C (sasc (nmL L false ++ nmL L true))) at') false (lessF C (nmL L true))) := by
 obtain ⟨vo, vc, rfl⟩ := h.shape
 obtain ⟨ro, rc, rfl⟩ := hr.shape
 have q1 := nmL_len L false; have q2 := nmL_len L true
 have qbx := bothL_len (nmL L false) C; have qlx := lessF_len (nmL L false) C
 have qby := bothL_len (nmL L true) C; have qly := lessF_len (nmL L true) C
 have qr1 := lessF_len C (sasc (nmL L false ++ nmL L true)); have qr2 := lessF_len C (nmL L true)
 have qj : (sasc (nmL L false ++ nmL L true)).length ≤ (nmL L false).length + (nmL L true).length := Nat.le_trans (sasc_length _) (by simp)
 have HB := Lib.hid (Below.refl w.heap.size w)
 have TT := Lib.hid h
 have Sr := Lib.hid hr
 clear h hr
 have hb0 : Below w.heap.size w (((w.alloc (.cells #[.bool ex, .int .i64 at', .slice vo L.length vc] 71)).alloc (.cells #[.bool false, .int .i64 0, .slice none 0 0] 71)).alloc (.cells #[.bool false, .slice none 0 0] 59)) := (((Below.refl _ _).alloc (Nat.le_refl _) _).alloc (by simp) _).alloc (by simp <;> omega) _
 replace Sr := Lib.hid (Sr.out.mono hb0)
 replace TT := Lib.hid (TT.out.mono hb0)
 replace HB := Lib.hid (HB.out.trans (hb0.mono HB.out.size))
 have Xp := Lib.hid (show CBox (((w.alloc (.cells #[.bool ex, .int .i64 at', .slice vo L.length vc] 71)).alloc (.cells #[.bool false, .int .i64 0, .slice none 0 0] 71)).alloc (.cells #[.bool false, .slice none 0 0] 59)) w.heap.size 71 #[.bool ex, .int .i64 at', .slice vo L.length vc] from ((CBox.new _ rfl).old _).old _)
 have Xs := Lib.hid (show CBox (((w.alloc (.cells #[.bool ex, .int .i64 at', .slice vo L.length vc] 71)).alloc (.cells #[.bool false, .int .i64 0, .slice none 0 0] 71)).alloc (.cells #[.bool false, .slice none 0 0] 59)) (w.heap.size + 1) 71 #[.bool false, .int .i64 0, .slice none 0 0] from (CBox.new _ (by simp)).old _)
 have Xk := Lib.hid (show CBox (((w.alloc (.cells #[.bool ex, .int .i64 at', .slice vo L.length vc] 71)).alloc (.cells #[.bool false, .int .i64 0, .slice none 0 0] 71)).alloc (.cells #[.bool false, .slice none 0 0] 59)) (w.heap.size + 1 + 1) 59 #[.bool false, .slice none 0 0] from CBox.new _ (by simp))
 clear hb0
 obtain ⟨x1, x1f⟩ := Xp.out.at_ 0 (.bool ex) rfl
 obtain ⟨x2, x2f⟩ := Xp.out.at_ 1 (.int .i64 at') rfl
 obtain ⟨x3, x3f⟩ := Xp.out.at_ 2 (.slice vo L.length vc) rfl
 go_enter Tryz.func65, Tryz.ntmps65
 go_wp2_with fail
 refine (rnames_any ex at' _ L false _ TT.out).mono ?_
 try clear x1 x1f x2 x2f x3 x3f
 rintro e w1 ⟨o, rfl, ho, hb, hlo⟩
 obtain ⟨aao, aac, rfl⟩ := ho.shape
 have hza : w.heap.size + 3 ≤ (((w.alloc (.cells #[.bool ex, .int .i64 at', .slice vo L.length vc] 71)).alloc (.cells #[.bool false, .int .i64 0, .slice none 0 0] 71)).alloc (.cells #[.bool false, .slice none 0 0] 59)).heap.size := Xk.out.lt
 replace Xp := Lib.hid (Xp.out.below hb Xp.out.lt)
 replace Xs := Lib.hid (Xs.out.below hb Xs.out.lt)
 replace Xk := Lib.hid (Xk.out.below hb Xk.out.lt)
 replace Sr := Lib.hid (Sr.out.mono hb)
 replace TT := Lib.hid (TT.out.mono hb)
 replace HB := Lib.hid (HB.out.trans (hb.mono HB.out.size))
 have Sa := Lib.hid ho
 have hla := hlo
 clear hb ho hlo
 obtain ⟨x4, x4f⟩ := Xp.out.at_ 0 (.bool ex) rfl
 obtain ⟨x5, x5f⟩ := Xp.out.at_ 1 (.int .i64 at') rfl
 obtain ⟨x6, x6f⟩ := Xp.out.at_ 2 (.slice vo L.length vc) rfl
 go_wp2_with fail
 refine (rnames_any ex at' _ L true _ TT.out).mono ?_
 try clear x4 x4f x5 x5f x6 x6f
 rintro e w2 ⟨o, rfl, ho, hb, hlo⟩
 obtain ⟨yao, yac, rfl⟩ := ho.shape
 have hzy : w.heap.size + 3 ≤ w1.heap.size := Xk.out.lt
 replace Xp := Lib.hid (Xp.out.below hb Xp.out.lt)
 replace Xs := Lib.hid (Xs.out.below hb Xs.out.lt)
 replace Xk := Lib.hid (Xk.out.below hb Xk.out.lt)
 replace Sr := Lib.hid (Sr.out.mono hb)
 replace Sa := Lib.hid (Sa.out.mono hb)
 replace TT := Lib.hid (TT.out.mono hb)
 replace HB := Lib.hid (HB.out.trans (hb.mono HB.out.size))
 have Sy := Lib.hid ho
 have hly := hlo
 clear hb ho hlo
 obtain ⟨x7, x7f⟩ := Xp.out.at_ 0 (.bool ex) rfl
 obtain ⟨x8, x8f⟩ := Xp.out.at_ 1 (.int .i64 at') rfl
 obtain ⟨x9, x9f⟩ := Xp.out.at_ 2 (.slice vo L.length vc) rfl
 have hSlo : w.heap.size ≤ w2.heap.size := by have := HB.out.size; omega
 have hS3 : w.heap.size + 3 ≤ w2.heap.size := by have := Xk.out.lt; omega
 have Np : w2.heap.size ≠ w.heap.size := by omega
 have Ns : w2.heap.size ≠ w.heap.size + 1 := by omega
 have Nk : w2.heap.size ≠ w.heap.size + 1 + 1 := by omega
 have Nr := Lib.hid (Sr.out.ne_ge (b := w2.heap.size) (by omega))
 have Na := Lib.hid (Sa.out.ne_ge (b := w2.heap.size) (by omega))
 have Ny := Lib.hid (Sy.out.ne_ge (b := w2.heap.size) (by omega))
 have Mr := Lib.hid (Sr.out.ne_ge (b := w2.heap.size + 1) (by omega))
 have Ma := Lib.hid (Sa.out.ne_ge (b := w2.heap.size + 1) (by omega))
 have My := Lib.hid (Sy.out.ne_ge (b := w2.heap.size + 1) (by omega))
 have NTT := Lib.hid (TT.out.ne_ge (b := w2.heap.size) (by omega))
 have hb0 : Below w2.heap.size w2 ((w2.alloc (.cells #[.bool true, .int .i64 at', .slice none 0 0] 71)).alloc (.cells #[.bool false, .slice none 0 0] 59)) := ((Below.refl _ _).alloc (Nat.le_refl _) _).alloc (by simp) _
 replace Xp := Lib.hid (Xp.out.below hb0 Xp.out.lt)
 replace Xs := Lib.hid (Xs.out.below hb0 Xs.out.lt)
 replace Xk := Lib.hid (Xk.out.below hb0 Xk.out.lt)
 replace Sr := Lib.hid (Sr.out.mono hb0)
 replace Sa := Lib.hid (Sa.out.mono hb0)
 replace Sy := Lib.hid (Sy.out.mono hb0)
 replace TT := Lib.hid (TT.out.mono hb0)
 replace HB := Lib.hid (HB.out.trans (hb0.mono HB.out.size))
 have OO := Lib.hid (show StBox ((w2.alloc (.cells #[.bool true, .int .i64 at', .slice none 0 0] 71)).alloc (.cells #[.bool false, .slice none 0 0] 59)) w2.heap.size (fun b => w2.heap.size + 2 ≤ b) true at' 0 (fun _ => none) from ⟨_, [], (CBox.new _ rfl).old _, Tms.nil _, asc_nil (fun _ => rfl), Nat.le_refl _, fun h => absurd rfl h⟩)
 have Xz := Lib.hid (show CBox ((w2.alloc (.cells #[.bool true, .int .i64 at', .slice none 0 0] 71)).alloc (.cells #[.bool false, .slice none 0 0] 59)) (w2.heap.size + 1) 59 #[.bool false, .slice none 0 0] from CBox.new _ (by simp))
 have Nz : w2.heap.size ≠ w2.heap.size + 1 := by omega
 clear hb0
 go_wp2_with fail
 refine (rjoin_any _ _ _ _ _ Sa.out Sy.out (by omega)).mono ?_
 try clear x7 x7f x8 x8f x9 x9f
 rintro e w3 ⟨o, rfl, ho, hb, hlo⟩
 obtain ⟨jao, jac, rfl⟩ := ho.shape
 have Nj := Lib.hid (show (sasc (nmL L false ++ nmL L true)) ≠ [] → (Value.slice jao (sasc (nmL L false ++ nmL L true)).length jac).ownBlock ≠ some w2.heap.size from fun _ => hlo.ne OO.out.lt)
 have hzj : w.heap.size + 3 ≤ ((w2.alloc (.cells #[.bool true, .int .i64 at', .slice none 0 0] 71)).alloc (.cells #[.bool false, .slice none 0 0] 59)).heap.size := Xk.out.lt
 have Mj := Lib.hid (show (sasc (nmL L false ++ nmL L true)) ≠ [] → (Value.slice jao (sasc (nmL L false ++ nmL L true)).length jac).ownBlock ≠ some (w2.heap.size + 1) from fun _ => hlo.ne Xz.out.lt)
 replace Xp := Lib.hid (Xp.out.below hb Xp.out.lt)
 replace Xs := Lib.hid (Xs.out.below hb Xs.out.lt)
 replace Xk := Lib.hid (Xk.out.below hb Xk.out.lt)
 replace Xz := Lib.hid (Xz.out.below hb Xz.out.lt)
 replace Sr := Lib.hid (Sr.out.mono hb)
 replace Sa := Lib.hid (Sa.out.mono hb)
 replace Sy := Lib.hid (Sy.out.mono hb)
 replace TT := Lib.hid (TT.out.mono hb)
 replace OO := Lib.hid (OO.out.mono hb)
 replace HB := Lib.hid (HB.out.trans (hb.mono HB.out.size))
 have Sj := Lib.hid ho
 have hlj := hlo
 clear hb ho hlo
 go_wp2_with fail
 refine (less_in _ _ _ _ _ Sr.out Sj.out).mono ?_
 rintro e w4 ⟨o, rfl, ho, hb, hlo⟩
 obtain ⟨eao, eac, rfl⟩ := ho.shape
 have Ne := Lib.hid (show (lessF C (sasc (nmL L false ++ nmL L true))) ≠ [] → (Value.slice eao (lessF C (sasc (nmL L false ++ nmL L true))).length eac).ownBlock ≠ some w2.heap.size from fun _ => hlo.ne OO.out.lt)
 have hze : w.heap.size + 3 ≤ w3.heap.size := Xk.out.lt
 have Me := Lib.hid (show (lessF C (sasc (nmL L false ++ nmL L true))) ≠ [] → (Value.slice eao (lessF C (sasc (nmL L false ++ nmL L true))).length eac).ownBlock ≠ some (w2.heap.size + 1) from fun _ => hlo.ne Xz.out.lt)
 replace Xp := Lib.hid (Xp.out.below hb Xp.out.lt)
 replace Xs := Lib.hid (Xs.out.below hb Xs.out.lt)
 replace Xk := Lib.hid (Xk.out.below hb Xk.out.lt)
 replace Xz := Lib.hid (Xz.out.below hb Xz.out.lt)
 replace Sr := Lib.hid (Sr.out.mono hb)
 replace Sa := Lib.hid (Sa.out.mono hb)
 replace Sy := Lib.hid (Sy.out.mono hb)
 replace Sj := Lib.hid (Sj.out.mono hb)
 replace TT := Lib.hid (TT.out.mono hb)
 replace OO := Lib.hid (OO.out.mono hb)
 replace HB := Lib.hid (HB.out.trans (hb.mono HB.out.size))
 have Se := Lib.hid ho
 have hle := hlo
 clear hb ho hlo
 obtain ⟨x10, x10f⟩ := Xp.out.at_ 0 (.bool ex) rfl
 obtain ⟨x11, x11f⟩ := Xp.out.at_ 1 (.int .i64 at') rfl
 obtain ⟨x12, x12f⟩ := Xp.out.at_ 2 (.slice vo L.length vc) rfl
 go_wp2_with fail
 refine (all_any _ (nmL L true) 0 (fun b hb => Nat.le_trans Xz.out.lt hb) OO.out (by omega) Sy.out Ny.out rfl).mono ?_
 try clear x10 x10f x11 x11f x12 x12f
 rintro e w5 ⟨rfl, hst, hg⟩
 replace Xp := Lib.hid (Xp.out.grown hg (ne_some Np))
 replace Xs := Lib.hid (Xs.out.grown hg (ne_some Ns))
 replace Xk := Lib.hid (Xk.out.grown hg (ne_some Nk))
 replace Xz := Lib.hid (Xz.out.grown hg (ne_some Nz))
 replace Sr := Lib.hid (Sr.out.grown' hg Nr.out)
 replace Sa := Lib.hid (Sa.out.grown' hg Na.out)
 replace Sy := Lib.hid (Sy.out.grown' hg Ny.out)
 replace Sj := Lib.hid (Sj.out.grown' hg Nj.out)
 replace Se := Lib.hid (Se.out.grown' hg Ne.out)
 replace TT := Lib.hid (TT.out.grown' hg NTT.out)
 replace HB := Lib.hid (HB.out.grown hg HB.out.size (fun j e => by injection e with e; subst e; exact hSlo))
 replace OO := Lib.hid hst
 clear hg hst
 obtain ⟨x13, x13f⟩ := Xp.out.at_ 0 (.bool ex) rfl
 obtain ⟨x14, x14f⟩ := Xp.out.at_ 1 (.int .i64 at') rfl
 obtain ⟨x15, x15f⟩ := Xp.out.at_ 2 (.slice vo L.length vc) rfl
 go_wp2_with fail
 refine (kept_any (fun b hb => Nat.le_trans Xz.out.lt hb) _ (nmL L false) ex at' _ L OO.out (by omega) Sa.out Na.out TT.out hA NTT.out).mono ?_
 try clear x13 x13f x14 x14f x15 x15f
 rintro e w6 ⟨rfl, hst, hg⟩
 replace Xp := Lib.hid (Xp.out.grown hg (ne_some Np))
 replace Xs := Lib.hid (Xs.out.grown hg (ne_some Ns))
 replace Xk := Lib.hid (Xk.out.grown hg (ne_some Nk))
 replace Xz := Lib.hid (Xz.out.grown hg (ne_some Nz))
 replace Sr := Lib.hid (Sr.out.grown' hg Nr.out)
 replace Sa := Lib.hid (Sa.out.grown' hg Na.out)
 replace Sy := Lib.hid (Sy.out.grown' hg Ny.out)
 replace Sj := Lib.hid (Sj.out.grown' hg Nj.out)
 replace Se := Lib.hid (Se.out.grown' hg Ne.out)
 replace TT := Lib.hid (TT.out.grown' hg NTT.out)
 replace HB := Lib.hid (HB.out.grown hg HB.out.size (fun j e => by injection e with e; subst e; exact hSlo))
 replace OO := Lib.hid hst
 clear hg hst
 obtain ⟨x16, x16f⟩ := Xp.out.at_ 0 (.bool ex) rfl
 obtain ⟨x17, x17f⟩ := Xp.out.at_ 1 (.int .i64 at') rfl
 obtain ⟨x18, x18f⟩ := Xp.out.at_ 2 (.slice vo L.length vc) rfl
 go_wp2_with fail
 refine (all_any _ (lessF C (sasc (nmL L false ++ nmL L true))) at' (fun b hb => Nat.le_trans Xz.out.lt hb) OO.out (by omega) Se.out Ne.out ha).mono ?_
 try clear x16 x16f x17 x17f x18 x18f
 rintro e w7 ⟨rfl, hst, hg⟩
 replace Xp := Lib.hid (Xp.out.grown hg (ne_some Np))
 replace Xs := Lib.hid (Xs.out.grown hg (ne_some Ns))
 replace Xk := Lib.hid (Xk.out.grown hg (ne_some Nk))
 replace Xz := Lib.hid (Xz.out.grown hg (ne_some Nz))
 replace Sr := Lib.hid (Sr.out.grown' hg Nr.out)
 replace Sa := Lib.hid (Sa.out.grown' hg Na.out)
 replace Sy := Lib.hid (Sy.out.grown' hg Ny.out)
 replace Sj := Lib.hid (Sj.out.grown' hg Nj.out)
 replace Se := Lib.hid (Se.out.grown' hg Ne.out)
 replace TT := Lib.hid (TT.out.grown' hg NTT.out)
 replace HB := Lib.hid (HB.out.grown hg HB.out.size (fun j e => by injection e with e; subst e; exact hSlo))
 replace OO := Lib.hid hst
 clear hg hst
 go_wp2_with fail
 refine (less_in _ _ _ _ _ Sr.out Sy.out).mono ?_
 rintro e w8 ⟨o, rfl, ho, hb, hlo⟩
 obtain ⟨bao, bac, rfl⟩ := ho.shape
 have Nb := Lib.hid (show (lessF C (nmL L true)) ≠ [] → (Value.slice bao (lessF C (nmL L true)).length bac).ownBlock ≠ some w2.heap.size from fun _ => hlo.ne OO.out.lt)
 have hzb : w.heap.size + 3 ≤ w7.heap.size := Xk.out.lt
 have Mb := Lib.hid (show (lessF C (nmL L true)) ≠ [] → (Value.slice bao (lessF C (nmL L true)).length bac).ownBlock ≠ some (w2.heap.size + 1) from fun _ => hlo.ne Xz.out.lt)
 replace Xp := Lib.hid (Xp.out.below hb Xp.out.lt)
 replace Xs := Lib.hid (Xs.out.below hb Xs.out.lt)
 replace Xk := Lib.hid (Xk.out.below hb Xk.out.lt)
 replace Xz := Lib.hid (Xz.out.below hb Xz.out.lt)
 replace Sr := Lib.hid (Sr.out.mono hb)
 replace Sa := Lib.hid (Sa.out.mono hb)
 replace Sy := Lib.hid (Sy.out.mono hb)
 replace Sj := Lib.hid (Sj.out.mono hb)
 replace Se := Lib.hid (Se.out.mono hb)
 replace TT := Lib.hid (TT.out.mono hb)
 replace OO := Lib.hid (OO.out.mono hb)
 replace HB := Lib.hid (HB.out.trans (hb.mono HB.out.size))
 have Sb := Lib.hid ho
 have hlb := hlo
 clear hb ho hlo
 obtain ⟨vq19, Lq19, hq19, hT19, _⟩ := OO.out
 obtain ⟨vq19o, vq19c, rfl⟩ := hT19.shape
 obtain ⟨x19a, x19af⟩ := hq19.at_ 0 (.bool true) rfl
 obtain ⟨x19b, x19bf⟩ := hq19.at_ 1 (.int .i64 at') rfl
 obtain ⟨x19c, x19cf⟩ := hq19.at_ 2 (.slice vq19o Lq19.length vq19c) rfl
 obtain ⟨x20, x20f⟩ := Xz.out.at_ 0 (.bool false) rfl
 obtain ⟨x21, x21f⟩ := Xz.out.at_ 1 (.slice none 0 0) rfl
 replace Xp := Lib.hid (Xp.out.far (p := ⟨w2.heap.size + 1, 1, none⟩) (by simp <;> omega) (.slice bao (lessF C (nmL L true)).length bac))
 replace Xs := Lib.hid (Xs.out.far (p := ⟨w2.heap.size + 1, 1, none⟩) (by simp <;> omega) (.slice bao (lessF C (nmL L true)).length bac))
 replace Xk := Lib.hid (Xk.out.far (p := ⟨w2.heap.size + 1, 1, none⟩) (by simp <;> omega) (.slice bao (lessF C (nmL L true)).length bac))
 replace Xz := Lib.hid (show CBox (w8.setCell ⟨w2.heap.size + 1, 1, none⟩ (.slice bao (lessF C (nmL L true)).length bac)) (w2.heap.size + 1) 59 #[.bool false, .slice bao (lessF C (nmL L true)).length bac] from by simpa using Xz.out.set 1 (.slice bao (lessF C (nmL L true)).length bac))
 clear Sr
 clear Sa
 clear Sy
 clear Sj
 clear Se
 replace Sb := Lib.hid (Sb.out.apart' (p := ⟨w2.heap.size + 1, 1, none⟩) (fun hL b hb e => Mb.out hL (hb.trans (congrArg some e))) (.slice bao (lessF C (nmL L true)).length bac))
 replace OO := Lib.hid (OO.out.far (p := ⟨w2.heap.size + 1, 1, none⟩) (by simp) (fun b hb => by simp; omega) (.slice bao (lessF C (nmL L true)).length bac))
 replace HB := Lib.hid (HB.out.setCell (p := ⟨w2.heap.size + 1, 1, none⟩) (by simp <;> omega) (.slice bao (lessF C (nmL L true)).length bac))
 obtain ⟨v9, L9, hc9, hT9, hA9, hl9, hk9⟩ := OO.out
 obtain ⟨v9o, v9c, rfl⟩ := hT9.shape
 have C9 := Lib.hid hc9; have T9 := Lib.hid hT9; have A9 := Lib.hid hA9; have L9' := Lib.hid hl9; have K9 := Lib.hid hk9
 obtain ⟨c0, c0f⟩ := hc9.at_ 0 (.bool true) rfl
 obtain ⟨c1, c1f⟩ := hc9.at_ 1 (.int .i64 at') rfl
 obtain ⟨c2, c2f⟩ := hc9.at_ 2 (.slice v9o L9.length v9c) rfl
 obtain ⟨d0, d0f⟩ := Xz.out.at_ 0 (.bool false) rfl
 obtain ⟨d1, d1f⟩ := Xz.out.at_ 1 (.slice bao (lessF C (nmL L true)).length bac) rfl
 obtain ⟨e0, e0f⟩ := Xs.out.at_ 0 (.bool false) rfl
 obtain ⟨e1, e1f⟩ := Xs.out.at_ 1 (.int .i64 0) rfl
 obtain ⟨e2, e2f⟩ := Xs.out.at_ 2 (.slice none 0 0) rfl
 obtain ⟨f0, f0f⟩ := Xk.out.at_ 0 (.bool false) rfl
 obtain ⟨f1, f1f⟩ := Xk.out.at_ 1 (.slice none 0 0) rfl
 clear hc9 hT9 hA9 hl9 hk9
 go_wp2_with fail
 go_region
 all_goals
  go_wp2_with fail
  obtain ⟨r0, r1, r2, r3, r4⟩ := boxes_end5 Xs.out Xk.out (.bool true) (.int .i64 at') (.slice v9o L9.length v9c) (.bool false) (.slice bao (lessF C (nmL L true)).length bac)
  have hT := T9.out.end5' (lo := w.heap.size + 1) (fun hL b hb => by have := K9.out hL b hb; omega) (.bool true) (.int .i64 at') (.slice v9o L9.length v9c) (.bool false) (.slice bao (lessF C (nmL L true)).length bac)
  have hU := Sb.out.end5' (lo := w.heap.size + 1) (fun hL b hb => by have := hlb b hb; have := hzb; omega) (.bool true) (.int .i64 at') (.slice v9o L9.length v9c) (.bool false) (.slice bao (lessF C (nmL L true)).length bac)
  have hBB := below_end5' HB.out (lo := w.heap.size + 1) (by omega) (.bool true) (.int .i64 at') (.slice v9o L9.length v9c) (.bool false) (.slice bao (lessF C (nmL L true)).length bac)
  refine bodyPost_ret (v := .tuple #[.agg #[.bool true, .int .i64 at', .slice v9o L9.length v9c], .agg #[.bool false, (.slice bao (lessF C (nmL L true)).length bac)]]) (by simp [results, Tryz.results65, go_sem, r0, r1, r2, r3, r4]) rfl ⟨_, L9, _, rfl, ?_, A9.out, ?_, ?_⟩
  · first | with_reducible exact hT | with_reducible exact hT.drew
  · first | with_reducible exact hU | with_reducible exact hU.drew
  · first | with_reducible exact hBB | with_reducible exact hBB.drew

end Go.Proofs.YtpibmjkbebkilaaGreat
