/- Texts joined into one file: TState, TSmall, PGrp. -/
import Derived.Test.YtpibmjkbebkilaaGreatW22
import Derived.Test.YtpibmjkbebkilaaGreatW16
import Derived.Test.YtpibmjkbebkilaaGreatW24
import Derived.Test.YtpibmjkbebkilaaGreatW03
import Derived.Test.YtpibmjkbebkilaaGreatW04
import Derived.LoopN
import Derived.Deep.RegionHeld3
import Derived.Deep.DrawnRows
import Derived.Deep.RegionLaw
import Derived.Lib.QuietBelow
import Derived.Deep.DeepCutAuto
import Derived.Test.YtpibmjkbebkilaaGreatW18
import Derived.Test.YtpibmjkbebkilaaGreatW06
import Derived.DeepKeys4
import Derived.Laws.IdiomStrings

namespace Go.Proofs.YtpibmjkbebkilaaGreat
open Go.RowKit Go.Lib Go.Maps Go.Sort
set_option maxRecDepth 20000
set_option maxRecDepth 20000

def RetTm (w : World) (L : List Tmd) (e : Ending) (w' : World) : Prop := ∃ u, e = .returned u ∧ Tms w' u L ∧ Below w.heap.size w w'
set_option maxHeartbeats 2000000 in
theorem tclone_any (v : Value) (L : List Tmd) (w : World) (h : Tms w v L) : Calls Tryz.prog 75 #[v] w (RetTm w L) := by
 obtain ⟨i0, hi, hz0, hz1, hz2⟩ := info_parts infoTmd
 have hm := h.few
 have q22 : ∀ (w : World) (a : Option Addr) (n c n' c' : Nat), (binOp .eql 69 (.slice a n c) (.slice none n' c')).run Tryz.prog w = .ok (.bool a.isNone) w := fun w a n c n' c' => Lib.run_eql_slice_nil w _ _ a n c n' c' Tryz.underlying69
 have HWF := Lib.hid h.wfs
 obtain ⟨ao, cap, rfl⟩ := h.shape
 cases ao with
 | none =>
   have hL : L = [] := by
    obtain ⟨_, _, _, _, e, h0, _⟩ := h
    injection e with e1 e2 e3
    rcases h0 with h0 | h0
    · exact h0
    · rw [h0] at e1; cases e1
   subst hL
   clear h HWF
   go_enter Tryz.func75, Tryz.ntmps75
   go_wp2_with fail
   go_ret
   exact ⟨_, rfl, Tms.nil _, Below.refl _ _⟩
 | some a =>
   have hb0 : Below w.heap.size w (w.alloc (.cells #[] 103)) := (Below.refl _ _).alloc (Nat.le_refl _) _
   have HS := Lib.hid (h.mono hb0).sliceOf
   have HN := Lib.hid (World.ownsRow_made (base := w.heap.size) (e := 103) (size := 2) w #[] 0 (Nat.le_refl _) (by decide) rfl)
   have HB := Lib.hid hb0
   clear h hb0
   go_enter Tryz.func75, Tryz.ntmps75
   go_wp2_with (at_builtin; refine wpList_append_vals _ rfl _ _ 69 rfl w.heap.size 103 i0 (.agg #[.string ⟨#[]⟩, .int .i64 0]) 2 24 Tryz.underlying69 hi hz0 hz1 hz2 rfl (by decide) (.slice (some ⟨w.heap.size, 0, none⟩) 0 0) 0 [] rfl HN.out (.slice (some a) L.length cap) L.length _ rfl HS.out (by unfold maxLen; omega) (by omega) (by simp) ?_; intro v' w1 hown hg _; obtain ⟨ao', c', rfl⟩ := own_form hown; have HG := Lib.hid hg; have HO := Lib.hid hown; clear hg hown)
   go_ret
   have ho : w1.ownsRow w.heap.size 103 2 (.slice ao' L.length c') L.length (L.flatMap tcells) := by simpa using HO.out
   exact ⟨_, rfl, by simpa using Tms.own ho hm HWF.out, HB.out.grown HG.out (by simp) (fun k e => by simp [Value.ownBlock] at e; omega)⟩

def RetSt' (w : World) (s : Stt) (e : Ending) (w' : World) : Prop := ∃ v, e = .returned (encS s v) ∧ Tms w' v s.2.2 ∧ Below w.heap.size w w'
set_option maxHeartbeats 2000000 in
theorem tcopied_any (s : Stt) (v : Value) (w : World) (h : Tms w v s.2.2) : Calls Tryz.prog 46 #[encS s v] w (RetSt' w s) := by
 obtain ⟨ex, at', L⟩ := s
 dsimp only at h
 obtain ⟨ao, cap, rfl⟩ := h.shape
 obtain ⟨W0, hW0⟩ : ∃ W0, W0 = (w.alloc (.cells #[.bool ex, .int .i64 at', .slice ao L.length cap] 71)).alloc (.cells #[.bool false, .int .i64 0, .slice none 0 0] 71) := ⟨_, rfl⟩
 have hb0 : Below w.heap.size w W0 := by rw [hW0]; exact ((Below.refl _ _).alloc (Nat.le_refl _) _).alloc (by simp) _
 have b1 : CBox W0 w.heap.size 71 #[.bool ex, .int .i64 at', .slice ao L.length cap] := by rw [hW0]; exact (CBox.new _ rfl).old _
 have b2 : CBox W0 (w.heap.size + 1) 71 #[.bool false, .int .i64 0, .slice none 0 0] := by rw [hW0]; exact CBox.new _ (by simp)
 have HC := Lib.hid (tclone_any _ L W0 (h.mono hb0))
 have HB := Lib.hid hb0; have B1 := Lib.hid b1; have B2 := Lib.hid b2; have HW := Lib.hid hW0
 obtain ⟨x2, _⟩ := b1.at_ 2 _ rfl
 clear h hb0 b1 b2 hW0
 unfold encS
 go_enter Tryz.func46, Tryz.ntmps46
 go_upto_region 1 with fail
 rw [← HW.out]
 clear HW
 go_wp2_with ((with_reducible refine HC.out.mono ?_); rintro e w1 ⟨u, rfl, hT, hb1⟩; obtain ⟨uo, uc, rfl⟩ := hT.shape; have C1 := Lib.hid (B1.out.below hb1 B1.out.lt); have C2 := Lib.hid (B2.out.below hb1 B2.out.lt); obtain ⟨y0, _⟩ := C1.out.at_ 0 _ rfl; obtain ⟨y1, _⟩ := C1.out.at_ 1 _ rfl; obtain ⟨y2, _⟩ := C1.out.at_ 2 _ rfl; obtain ⟨z0, _⟩ := C2.out.at_ 0 _ rfl; obtain ⟨z1, _⟩ := C2.out.at_ 1 _ rfl; obtain ⟨z2, _⟩ := C2.out.at_ 2 _ rfl; have HT := Lib.hid hT; have HBB := Lib.hid (HB.out.trans (hb1.mono HB.out.size)); clear hT hb1 HC x2 HB)
 have R := fun u0 u1 u2 u3 => (((C2.out.far (p := ⟨w.heap.size, 2, none⟩) (by simp) u0).set 0 u1).set 1 u2).set 2 u3
 have r0 := fun u0 u1 u2 u3 => ((R u0 u1 u2 u3).at_ 0 _ rfl).1
 have r1 := fun u0 u1 u2 u3 => ((R u0 u1 u2 u3).at_ 1 _ rfl).1
 have r2 := fun u0 u1 u2 u3 => ((R u0 u1 u2 u3).at_ 2 _ rfl).1
 have a1 : L ≠ [] → ∀ c, (Value.slice uo L.length uc).ownBlock = some c → c ≠ w.heap.size := fun hL c hc => HT.out.ne_box C1.out (fun i s => ns3 _ _ _ _ _ i s) hL c hc
 have a2 : L ≠ [] → ∀ c, (Value.slice uo L.length uc).ownBlock = some c → c ≠ w.heap.size + 1 := fun hL c hc => HT.out.ne_box C2.out (fun i s => ns3 _ _ _ _ _ i s) hL c hc
 refine bodyPost_ret (v := .agg #[.bool ex, .int .i64 at', .slice uo L.length uc]) (by simp [results, Tryz.results46, go_sem, r0, r1, r2]) rfl ⟨_, rfl, ?_, ?_⟩
 · exact (((HT.out.apart (p := ⟨w.heap.size, 2, none⟩) a1 _).apart (p := ⟨w.heap.size + 1, 0, none⟩) a2 _).apart (p := ⟨w.heap.size + 1, 1, none⟩) a2 _).apart (p := ⟨w.heap.size + 1, 2, none⟩) a2 _
 · exact (((HBB.out.setCell (by simp) _).setCell (by simp) _).setCell (by simp) _).setCell (by simp) _

def RetStB (w : World) (s : Stt) (is : Bool) (e : Ending) (w' : World) : Prop := ∃ v, e = .returned (.tuple #[encS s v, .bool is]) ∧ Tms w' v s.2.2 ∧ Below w.heap.size w w'
set_option maxHeartbeats 4000000 in
theorem tstate_any (p b o n m : Nat) (room M L : Int) (F : Tst) (O : Int → Option Int) (x : TK) (w : World) (h : Tb w p b o n m room M L F O) (hx : okT x) :
 Calls Tryz.prog 27 #[.pointer (some ⟨p, 0, none⟩), encT x] w (RetStB w (oldS F x) (F x).isSome) := by
 have hz : ∀ w, (zeroValue 71).run Tryz.prog w = .ok noState w := fun w => Tryz.zeroValue71 w
 obtain ⟨xv, xg, xp⟩ := x
 obtain ⟨V, hV, hH⟩ := h.states
 obtain ⟨sv, he, hT, hi, hw⟩ := hH.at_ (xv, xg, xp)
 obtain ⟨⟨ya, yt, yl⟩, hy⟩ : ∃ y, oldS F (xv, xg, xp) = y := ⟨_, rfl⟩
 rw [hy] at he hT hw ⊢
 dsimp only at hT hw
 obtain ⟨ao, cap, rfl⟩ := hT.shape
 obtain ⟨is, his⟩ : ∃ is, (F (xv, xg, xp)).isSome = is := ⟨_, rfl⟩
 rw [his] at hi ⊢
 obtain ⟨W0, hW0⟩ : ∃ W0, W0 = (w.alloc (.cells #[.int .i64 xv, .string (bstr xg), .int .i64 xp] 65)).alloc (.cells #[.bool false, .int .i64 0, .slice none 0 0] 71) := ⟨_, rfl⟩
 have hb0 : Below w.heap.size w W0 := by rw [hW0]; exact ((Below.refl _ _).alloc (Nat.le_refl _) _).alloc (by simp) _
 have b1 : CBox W0 w.heap.size 65 #[.int .i64 xv, .string (bstr xg), .int .i64 xp] := by rw [hW0]; exact (CBox.new _ rfl).old _
 have b2 : CBox W0 (w.heap.size + 1) 71 #[.bool false, .int .i64 0, .slice none 0 0] := by rw [hW0]; exact CBox.new _ (by simp)
 have hbp := h.box.below hb0 h.box.lt
 have hd : Below W0.heap.size W0 W0.drew := Below.drew (Below.refl _ _)
 have HF := Lib.hid (show ∀ wq, Below W0.heap.size W0 wq → wq.cell? ⟨w.heap.size, 0, none⟩ = some (.int .i64 xv) ∧ wq.cell? ⟨w.heap.size, 1, none⟩ = some (.string (bstr xg)) ∧ wq.cell? ⟨w.heap.size, 2, none⟩ = some (.int .i64 xp) ∧ wq.cell? ⟨p, 3, none⟩ = some (.map (some b)) ∧
  (Instr.lookup 46 (.map (some b)) (.agg #[.int .i64 xv, .string (bstr xg), .int .i64 xp]) true).run Tryz.prog wq = .ok (.tuple #[.agg #[.bool ya, .int .i64 yt, .slice ao yl.length cap], .bool is]) wq from fun wq hb =>
  ⟨(hb.cell (p := ⟨w.heap.size, 0, none⟩) b1.lt).trans (b1.at_ 0 _ rfl).1, (hb.cell (p := ⟨w.heap.size, 1, none⟩) b1.lt).trans (b1.at_ 1 _ rfl).1, (hb.cell (p := ⟨w.heap.size, 2, none⟩) b1.lt).trans (b1.at_ 2 _ rfl).1, (hb.cell (p := ⟨p, 3, none⟩) hbp.lt).trans (hbp.at_ 3 _ rfl).1, by
    have hVq := (hV.below hb0 hV.lt).below hb (hV.below hb0 hV.lt).lt
    have := hVq.getOk Tryz.underlying46 (hz wq) (xv, xg, xp) hx
    rw [he, hi] at this
    exact this⟩)
 have HB := Lib.hid hb0; have B2 := Lib.hid b2; have HW := Lib.hid hW0
 have HT := Lib.hid (hT.mono hb0)
 clear h hV hH he hT hi hw hy his hb0 b1 b2 hbp hx hz
 unfold encT
 dsimp only
 go_enter Tryz.func27, Tryz.ntmps27
 go_upto_region 3 with fail
 rw [← HW.out]
 clear HW hW0
 refine wp_region_held_drew (S := fun W' => Below W0.heap.size W0 W') (by kernel_rfl) hd (fun hHeld => ?_)
 refine tkL 0 (v := ?_) rfl (by kernel_rfl) (fun _ _ _ => id) (Or.inl ⟨by rfl, ?_⟩) (by assumption) ?_; rotate_left; (focus (intro wq hSq; have f := HF.out wq hSq; go_simp <;> with_reducible rfl)); simp only [Act.put, pA, pB, pC]
 refine tkL 1 (v := ?_) rfl (by kernel_rfl) (fun _ _ _ => id) (Or.inl ⟨by rfl, ?_⟩) (by assumption) ?_; rotate_left; (focus (intro wq hSq; have f := HF.out wq hSq; go_simp <;> with_reducible rfl)); simp only [Act.put, pA, pB, pC]
 refine tkL 2 (v := ?_) rfl (by kernel_rfl) (fun _ _ _ => id) (Or.inl ⟨by rfl, ?_⟩) (by assumption) ?_; rotate_left; (focus (intro wq hSq; have f := HF.out wq hSq; go_simp <;> with_reducible rfl)); simp only [Act.put, pA, pB, pC]
 refine tkL 3 (v := ?_) rfl (by kernel_rfl) (fun _ _ _ => id) (Or.inl ⟨by rfl, ?_⟩) (by assumption) ?_; rotate_left; (focus (intro wq hSq; have f := HF.out wq hSq; go_simp <;> with_reducible rfl)); simp only [Act.put, pA, pB, pC]
 refine tkL 4 (v := ?_) rfl (by kernel_rfl) (fun _ _ _ => id) (Or.inl ⟨by rfl, ?_⟩) (by assumption) ?_; rotate_left; (focus (intro wq hSq; have f := HF.out wq hSq; go_simp <;> with_reducible rfl)); simp only [Act.put, pA, pB, pC]
 refine tkL 5 (v := ?_) rfl (by kernel_rfl) (fun _ _ _ => id) (Or.inl ⟨by rfl, ?_⟩) (by assumption) ?_; rotate_left; (focus (intro wq hSq; have f := HF.out wq hSq; go_simp <;> with_reducible rfl)); simp only [Act.put, pA, pB, pC]
 refine tkL 6 (v := ?_) rfl (by kernel_rfl) (fun _ _ _ => id) (Or.inl ⟨by rfl, ?_⟩) (by assumption) ?_; rotate_left; (focus (intro wq hSq; have f := HF.out wq hSq; go_simp <;> with_reducible rfl)); simp only [Act.put, pA, pB, pC]
 refine tkL 7 (v := ?_) rfl (by kernel_rfl) (fun _ _ _ => id) (Or.inl ⟨by rfl, ?_⟩) (by assumption) ?_; rotate_left; (focus (intro wq hSq; have f := HF.out wq hSq; go_simp <;> with_reducible rfl)); simp only [Act.put, pA, pB, pC]
 refine tkL 8 (v := ?_) rfl (by kernel_rfl) (fun _ _ _ => id) (Or.inl ⟨by rfl, ?_⟩) (by assumption) ?_; rotate_left; (focus (intro wq hSq; have f := HF.out wq hSq; go_simp <;> with_reducible rfl)); simp only [Act.put, pA, pB, pC]
 refine wpAnyH_ready (rs := [9]) (by kernel_rfl) (by simp) (nextL 9 rfl (fun Kr hKr => ?_) AllReadyH.nil)
 go_simp
 refine hKr.out _ _ (hd.alloc hd.size _) (fun hHeld2 => ?_)
 clear hKr hHeld
 refine wpAnyH_ready (rs := [10]) (by kernel_rfl) (by simp) (nextL 10 rfl (fun Kr hKr => ?_) AllReadyH.nil)
 go_simp
 refine hKr.out _ _ (hd.alloc hd.size _) (fun hEnd => ?_)
 clear hKr hHeld2
 refine tkL 11 (v := ?_) rfl (by kernel_rfl) (fun _ _ _ => id) (Or.inl ⟨by rfl, ?_⟩) (by assumption) ?_; rotate_left; (focus (intro wq hSq; have f := HF.out wq hSq; go_simp <;> with_reducible rfl)); simp only [Act.put, pA, pB, pC]
 refine wpAnyH_done (by kernel_rfl) ?_ _
 obtain ⟨W1, hW1⟩ : ∃ W1, W1 = (W0.alloc (.cells #[.bool ya, .int .i64 yt, .slice ao yl.length cap] 71)).drew := ⟨_, rfl⟩
 have HE := Lib.hid hEnd
 have b3 : CBox W1 W0.heap.size 71 #[.bool ya, .int .i64 yt, .slice ao yl.length cap] := by rw [hW1]; exact (show CBox (W0.alloc _) _ _ _ from CBox.new _ rfl)
 rw [← hW1] at HE ⊢
 obtain ⟨s0, _⟩ := b3.at_ 0 _ rfl
 obtain ⟨s1, _⟩ := b3.at_ 1 _ rfl
 obtain ⟨s2, _⟩ := b3.at_ 2 _ rfl
 have HC := Lib.hid (tcopied_any (ya, yt, yl) _ W1 (HT.out.mono HE.out))
 have HBE := Lib.hid (HB.out.trans (HE.out.mono HB.out.size))
 have B2' := Lib.hid (B2.out.below HE.out B2.out.lt)
 clear hEnd b3 hd hW1 HF HT HB HE B2
 go_wp2_with fail
 refine HC.out.mono ?_
 rintro e w2 ⟨u, rfl, hT2, hb2⟩
 obtain ⟨uo, uc, rfl⟩ := hT2.shape
 have B3 := Lib.hid (B2'.out.below hb2 B2'.out.lt)
 obtain ⟨z0, _⟩ := B3.out.at_ 0 _ rfl
 obtain ⟨z1, _⟩ := B3.out.at_ 1 _ rfl
 obtain ⟨z2, _⟩ := B3.out.at_ 2 _ rfl
 have HT2 := Lib.hid hT2
 have HB2 := Lib.hid (HBE.out.trans (hb2.mono HBE.out.size))
 clear hT2 hb2 HC s0 s1 s2 B2' HBE
 unfold encS
 go_wp2
 have R := fun u1 u2 u3 => ((B3.out.set 0 u1).set 1 u2).set 2 u3
 have r0 := fun u1 u2 u3 => ((R u1 u2 u3).at_ 0 _ rfl).1
 have r1 := fun u1 u2 u3 => ((R u1 u2 u3).at_ 1 _ rfl).1
 have r2 := fun u1 u2 u3 => ((R u1 u2 u3).at_ 2 _ rfl).1
 have a2 : yl ≠ [] → ∀ c, (Value.slice uo yl.length uc).ownBlock = some c → c ≠ w.heap.size + 1 := fun hL c hc => HT2.out.ne_box B3.out (fun i s => ns3 _ _ _ _ _ i s) hL c hc
 refine bodyPost_ret (v := .tuple #[.agg #[.bool ya, .int .i64 yt, .slice uo yl.length uc], .bool is]) (by simp [results, Tryz.results27, go_sem, r0, r1, r2]) rfl ⟨_, rfl, ?_, ?_⟩
 · exact ((HT2.out.apart (p := ⟨w.heap.size + 1, 0, none⟩) a2 _).apart (p := ⟨w.heap.size + 1, 1, none⟩) a2 _).apart (p := ⟨w.heap.size + 1, 2, none⟩) a2 _
 · exact ((HB2.out.setCell (by simp) _).setCell (by simp) _).setCell (by simp) _

theorem delS_none {F : Tst} {x : TK} (h : F x = none) : delS F x = F := by
 funext y
 unfold delS
 split
 · rename_i e; rw [e, h]
 · rfl

set_option maxHeartbeats 4000000 in
theorem remove_any (p b o n m : Nat) (room M L : Int) (F : Tst) (O : Int → Option Int) (x : TK) (w : World) (h : Tb w p b o n m room M L F O) (hx : okT x) :
 Calls Tryz.prog 20 #[.pointer (some ⟨p, 0, none⟩), encT x] w fun e w' => e = .returned (.bool (F x).isSome) ∧ Tb w' p b o n m room M L (delS F x) O ∧ MTurn b o w w' := by
 have hx' := hx
 have HOK := Lib.hid hx'
 obtain ⟨xv, xg, xp⟩ := x
 obtain ⟨W0, hW0⟩ : ∃ W0, W0 = w.alloc (.cells #[.int .i64 xv, .string (bstr xg), .int .i64 xp] 65) := ⟨_, rfl⟩
 have hb0 : Below w.heap.size w W0 := by rw [hW0]; exact (Below.refl _ _).alloc (Nat.le_refl _) _
 have b1 : CBox W0 w.heap.size 65 #[.int .i64 xv, .string (bstr xg), .int .i64 xp] := by rw [hW0]; exact CBox.new _ rfl
 have HS := Lib.hid (tstate_any p b o n m room M L F O (xv, xg, xp) W0 (h.mono hb0) hx)
 have HT0 := Lib.hid (h.mono hb0)
 have HB0 := Lib.hid hb0; have B1 := Lib.hid b1; have HW0 := Lib.hid hW0
 obtain ⟨k0, _⟩ := b1.at_ 0 _ rfl
 obtain ⟨k1, _⟩ := b1.at_ 1 _ rfl
 obtain ⟨k2, _⟩ := b1.at_ 2 _ rfl
 clear h hb0 b1 hW0 hx hx'
 unfold encT at HS ⊢
 dsimp only at HS ⊢
 go_enter Tryz.func20, Tryz.ntmps20
 go_upto_region 1 with fail
 rw [← HW0.out]
 clear HW0
 go_wp2_with fail
 refine HS.out.mono ?_
 rintro e w1 ⟨u, rfl, hT1, hb1⟩
 obtain ⟨⟨ya, yt, yl⟩, hy⟩ : ∃ y, oldS F (xv, xg, xp) = y := ⟨_, rfl⟩
 rw [hy] at hT1 ⊢
 obtain ⟨uo, uc, rfl⟩ := hT1.shape
 have HT1 := Lib.hid (HT0.out.mono hb1)
 have HB1 := Lib.hid (HB0.out.trans (hb1.mono HB0.out.size))
 have B2 := Lib.hid (B1.out.below hb1 B1.out.lt)
 unfold encS
 dsimp only
 obtain ⟨is, his⟩ : ∃ is, (F (xv, xg, xp)).isSome = is := ⟨_, rfl⟩
 have HI := Lib.hid his
 rw [his]
 clear hT1 hb1 HS HT0 HB0 B1 k0 k1 k2 hy his
 cases is
 · go_wp2
   go_ret
   have hbn : Below w1.heap.size w1 (w1.alloc (.cells #[.bool ya, .int .i64 yt, .slice uo yl.length uc] 71)) := (Below.refl _ _).alloc (Nat.le_refl _) _
   refine ⟨by rw [HI.out]; rfl, ?_, MTurn.of_below (HB1.out.trans (hbn.mono HB1.out.size))⟩
   rw [delS_none (by cases hF : F (xv, xg, xp) with
    | none => rfl
    | some s => have := HI.out; rw [hF] at this; cases this)]
   exact HT1.out.mono hbn
 · obtain ⟨W2, hW2⟩ : ∃ W2, W2 = w1.alloc (.cells #[.bool ya, .int .i64 yt, .slice uo yl.length uc] 71) := ⟨_, rfl⟩
   have hb2 : Below w1.heap.size w1 W2 := by rw [hW2]; exact (Below.refl _ _).alloc (Nat.le_refl _) _
   have hT2 := HT1.out.mono hb2
   have b3 := B2.out.below hb2 B2.out.lt
   obtain ⟨V, hV, hH⟩ := hT2.states
   have hd : Below W2.heap.size W2 W2.drew := Below.drew (Below.refl _ _)
   have hdc : CKeep W2 W2.drew := CKeep.drew W2
   have hbp := hT2.box
   have HF := Lib.hid (show ∀ wq, CKeep W2 wq → wq.cell? ⟨w.heap.size, 0, none⟩ = some (.int .i64 xv) ∧ wq.cell? ⟨w.heap.size, 1, none⟩ = some (.string (bstr xg)) ∧ wq.cell? ⟨w.heap.size, 2, none⟩ = some (.int .i64 xp) ∧ wq.cell? ⟨p, 3, none⟩ = some (.map (some b)) from fun wq hb =>
    ⟨hb.cell (b3.at_ 0 _ rfl).1, hb.cell (b3.at_ 1 _ rfl).1, hb.cell (b3.at_ 2 _ rfl).1, hb.cell (hbp.at_ 3 _ rfl).1⟩)
   obtain ⟨w3, hrun3, hV3, hmt3⟩ := (hV.below hd hV.lt).drop Tryz.underlying46 (xv, xg, xp) HOK.out 0
   have hrun' : (Builtin.delete_ #[46, 65] 0 #[.map (some b), .agg #[.int .i64 xv, .string (bstr xg), .int .i64 xp]]).run Tryz.prog W2.drew = .ok (.tuple #[]) w3 := hrun3
   have HCK := Lib.hid (CKeep.of_map (hV.below hd hV.lt) hmt3.grown)
   have HT3 := Lib.hid ((hT2.mono hd).turned hmt3.grown hV3 ((hH.keep hdc).del (xv, xg, xp)))
   have HM3 := Lib.hid (show MTurn b o w w3 from (MTurn.of_below (HB1.out.trans (hb2.mono HB1.out.size))).trans ((MTurn.of_below hd).trans (MTurn.of_grown hmt3.grown fun r e => by injection e with e; exact .inl e.symm)))
   have HW2 := Lib.hid hW2
   clear hb2 hT2 b3 hV hH hd hbp hrun3 hV3 hmt3 hW2 HT1 HB1 B2
   go_upto_region 3 with fail
   rw [← HW2.out]
   refine wp_region_held_drew (S := fun W' => CKeep W2 W') (by kernel_rfl) hdc (fun hHeld => ?_)
   refine tkL 0 (v := ?_) rfl (by kernel_rfl) (fun _ _ _ => id) (Or.inl ⟨by rfl, ?_⟩) (by assumption) ?_; rotate_left; (focus (intro wq hSq; have f := HF.out wq hSq; go_simp <;> with_reducible rfl)); simp only [Act.put, pA, pB, pC]
   refine tkL 1 (v := ?_) rfl (by kernel_rfl) (fun _ _ _ => id) (Or.inl ⟨by rfl, ?_⟩) (by assumption) ?_; rotate_left; (focus (intro wq hSq; have f := HF.out wq hSq; go_simp <;> with_reducible rfl)); simp only [Act.put, pA, pB, pC]
   refine tkL 2 (v := ?_) rfl (by kernel_rfl) (fun _ _ _ => id) (Or.inl ⟨by rfl, ?_⟩) (by assumption) ?_; rotate_left; (focus (intro wq hSq; have f := HF.out wq hSq; go_simp <;> with_reducible rfl)); simp only [Act.put, pA, pB, pC]
   refine tkL 3 (v := ?_) rfl (by kernel_rfl) (fun _ _ _ => id) (Or.inl ⟨by rfl, ?_⟩) (by assumption) ?_; rotate_left; (focus (intro wq hSq; have f := HF.out wq hSq; go_simp <;> with_reducible rfl)); simp only [Act.put, pA, pB, pC]
   refine tkL 4 (v := ?_) rfl (by kernel_rfl) (fun _ _ _ => id) (Or.inl ⟨by rfl, ?_⟩) (by assumption) ?_; rotate_left; (focus (intro wq hSq; have f := HF.out wq hSq; go_simp <;> with_reducible rfl)); simp only [Act.put, pA, pB, pC]
   refine wpAnyH_ready (rs := [5]) (by kernel_rfl) (by simp) (nextL 5 rfl (fun Kr hKr => ?_) AllReadyH.nil)
   go_simp
   refine hKr.out _ _ (hdc.trans HCK.out) (fun hEnd => ?_)
   clear hKr hHeld hrun' hEnd hdc HF HCK
   refine wpAnyH_done (by kernel_rfl) ?_ _
   go_wp2
   go_ret
   exact ⟨by rw [HI.out]; rfl, HT3.out, HM3.out⟩

def isOver (O : Int → Option Int) (M v now : Int) : Bool := match O v with | none => false | some s => decide (now < s + M)
theorem over_any (p b o n m : Nat) (room M L v now : Int) (F : Tst) (O : Int → Option Int) (w : World) (h : Tb w p b o n m room M L F O) (hv : (Lit.int .i64 v).wf = true) (hM : 0 ≤ M ∧ M ≤ 1000000) (hO : ∀ v s, O v = some s → 1 ≤ s ∧ s ≤ 1099511627776) :
 Calls Tryz.prog 13 #[.pointer (some ⟨p, 0, none⟩), .int .i64 v, .int .i64 now] w fun e w' => e = .returned (.bool (isOver O M v now)) ∧ w' = w := by
 have hz : ∀ w, (zeroValue 3).run Tryz.prog w = .ok (.int .i64 0) w := fun w => Tryz.zeroValue3 w
 obtain ⟨U, hU, hOU⟩ := h.overs
 have hl := hU.getOk Tryz.underlying47 (hz w) v hv
 obtain ⟨x3, _⟩ := h.box.at_ 4 _ rfl
 obtain ⟨x1, _⟩ := h.box.at_ 1 _ rfl
 rw [hOU v] at hl
 have hM0 := hM.1; have hM1 := hM.2
 cases hq : O v with
 | none =>
   rw [hq] at hl
   have hl' : (Instr.lookup 47 (.map (some o)) (.int .i64 v) true).run Tryz.prog w = .ok (.tuple #[.int .i64 0, .bool false]) w := hl
   have HQ := Lib.hid (show isOver O M v now = false from by unfold isOver; rw [hq])
   clear h hU hOU hl hz hq hO hM
   go_enter Tryz.func13, Tryz.ntmps13
   go_wp2
   go_ret
   exact ⟨by rw [HQ.out]; rfl, rfl⟩
 | some s =>
   rw [hq] at hl
   have hl' : (Instr.lookup 47 (.map (some o)) (.int .i64 v) true).run Tryz.prog w = .ok (.tuple #[.int .i64 s, .bool true]) w := hl
   have HQ := Lib.hid (show isOver O M v now = decide (now < s + M) from by unfold isOver; rw [hq])
   have hs0 := (hO v s hq).1
   have hs1 := (hO v s hq).2
   clear h hU hOU hl hz hq hO hM
   go_enter Tryz.func13, Tryz.ntmps13
   go_wp2
   go_ret
   exact ⟨by rw [HQ.out]; rfl, rfl⟩

def fitsT (room M L : Int) : Prop := (1 ≤ room ∧ room ≤ 4096) ∧ (1 ≤ M ∧ M ≤ 1000000) ∧ (1 ≤ L ∧ L ≤ 1000000)

set_option maxHeartbeats 2000000 in
theorem tnew_yes (room M L : Int) (w : World) (h : fitsT room M L) :
 Calls Tryz.prog 4 #[.int .i64 room, .agg #[.int .i64 M, .int .i64 L]] w fun e w' => ∃ p b o, e = .returned (.tuple #[.pointer (some ⟨p, 0, none⟩), .int .i64 0]) ∧ Tb w' p b o 0 0 room M L (fun _ => none) (fun _ => none) ∧ w.heap.size ≤ b ∧ w.heap.size ≤ o ∧ Below w.heap.size w w' := by
 obtain ⟨⟨r1, r2⟩, ⟨m1, m2⟩, ⟨l1, l2⟩⟩ := h
 have H1 := Lib.hid (fun W => twithin_any room 1 4096 W)
 have H2 := Lib.hid (fun W => twithin_any M 1 1000000 W)
 have H3 := Lib.hid (fun W => twithin_any L 1 1000000 W)
 have e1 : (decide (1 ≤ room) && decide (room ≤ 4096)) = true := by simp [r1, r2]
 have e2 : (decide (1 ≤ M) && decide (M ≤ 1000000)) = true := by simp [m1, m2]
 have e3 : (decide (1 ≤ L) && decide (L ≤ 1000000)) = true := by simp [l1, l2]
 rw [e1] at H1
 rw [e2] at H2
 rw [e3] at H3
 obtain ⟨W0, hW0⟩ : ∃ W0, W0 = w.alloc (.cells #[.int .i64 M, .int .i64 L] 23) := ⟨_, rfl⟩
 have hb0 : Below w.heap.size w W0 := by rw [hW0]; exact (Below.refl _ _).alloc (Nat.le_refl _) _
 have b0 : CBox W0 w.heap.size 23 #[.int .i64 M, .int .i64 L] := by rw [hW0]; exact CBox.new _ rfl
 obtain ⟨x0, _⟩ := b0.at_ 0 _ rfl
 obtain ⟨x1, _⟩ := b0.at_ 1 _ rfl
 have hs0 : W0.heap.size = w.heap.size + 1 := by rw [hW0]; simp
 obtain ⟨W1, hW1⟩ : ∃ W1, W1 = W0.alloc (.map #[] 0) := ⟨_, rfl⟩
 have hb1 : Below W0.heap.size W0 W1 := by rw [hW1]; exact (Below.refl _ _).alloc (Nat.le_refl _) _
 have hV1 : VMap KT W1 W0.heap.size 0 (fun _ => none) := by rw [hW1]; exact VMap.made KT W0
 have hs1 : W1.heap.size = W0.heap.size + 1 := by rw [hW1]; simp
 obtain ⟨W2, hW2⟩ : ∃ W2, W2 = W1.alloc (.map #[] 0) := ⟨_, rfl⟩
 have hb2 : Below W1.heap.size W1 W2 := by rw [hW2]; exact (Below.refl _ _).alloc (Nat.le_refl _) _
 have hU2 : VMap KI W2 (W0.heap.size + 1) 0 (fun _ => none) := by rw [hW2, ← hs1]; exact VMap.made KI W1
 have hs2 : W2.heap.size = W1.heap.size + 1 := by rw [hW2]; simp
 obtain ⟨W3, hW3⟩ : ∃ W3, W3 = W2.alloc (.cells #[.int .i64 room, .int .i64 M, .int .i64 L, .map (some W0.heap.size), .map (some (W0.heap.size + 1))] 49) := ⟨_, rfl⟩
 have hb3 : Below W2.heap.size W2 W3 := by rw [hW3]; exact (Below.refl _ _).alloc (Nat.le_refl _) _
 have b3 : CBox W3 (W0.heap.size + 1 + 1) 49 #[.int .i64 room, .int .i64 M, .int .i64 L, .map (some W0.heap.size), .map (some (W0.heap.size + 1))] := by rw [hW3]; exact CBox.new _ (by omega)
 have HT := Lib.hid (show Tb W3 (W0.heap.size + 1 + 1) W0.heap.size (W0.heap.size + 1) 0 0 room M L (fun _ => none) (fun _ => none) from ⟨b3, ⟨_, (hV1.below hb2 hV1.lt).below hb3 (hV1.below hb2 hV1.lt).lt, fun k => rfl⟩, ⟨_, hU2.below hb3 hU2.lt, fun x => rfl⟩, by omega⟩)
 have HB := Lib.hid (hb0.trans ((hb1.trans ((hb2.trans (hb3.mono (by omega))).mono (by omega))).mono (by omega)))
 have HZ := Lib.hid (show w.heap.size ≤ W0.heap.size ∧ w.heap.size ≤ W0.heap.size + 1 from by omega)
 have HW0 := Lib.hid hW0; have HW1 := Lib.hid hW1; have HW2 := Lib.hid hW2; have HW3 := Lib.hid hW3
 have hmm := @run_makeMap Tryz.prog
 clear hb0 b0 hb1 hV1 hb2 hU2 hb3 b3 hW1 hW2 hW3 hW0 r1 r2 m1 m2 l1 l2 e1 e2 e3 hs0 hs1 hs2
 go_enter Tryz.func4, Tryz.ntmps4
 go_upto_region 1 with fail
 rw [← HW0.out]
 go_wp2_with (first
  | ((with_reducible refine (H1.out _).mono ?_); rintro e w' ⟨rfl, hw'⟩; subst w')
  | ((with_reducible refine (H2.out _).mono ?_); rintro e w' ⟨rfl, hw'⟩; subst w')
  | ((with_reducible refine (H3.out _).mono ?_); rintro e w' ⟨rfl, hw'⟩; subst w'))
 rw [← HW1.out, ← HW2.out]
 refine bodyPost_ret (v := .tuple #[.pointer (some ⟨W0.heap.size + 1 + 1, 0, none⟩), .int .i64 0]) (by simp [results, Tryz.results4, go_sem]) rfl ?_
 rw [← HW3.out]
 exact ⟨W0.heap.size + 1 + 1, W0.heap.size, W0.heap.size + 1, rfl, HT.out, HZ.out.1, HZ.out.2, HB.out⟩
end Go.Proofs.YtpibmjkbebkilaaGreat

namespace Go.Proofs.YtpibmjkbebkilaaGreat
open Go.RowKit Go.Lib Go.Sort
set_option maxRecDepth 20000
set_option maxRecDepth 20000

def isGrp (g : Str) : Bool := if g.length = 4 then decide (224 ≤ (g.getD 0 0).toNat) && decide ((g.getD 0 0).toNat ≤ 239) else decide (g.length = 16) && decide ((g.getD 0 0).toNat = 255)

theorem bstr_at0 (g : Str) (h : 0 < (bstr g).size) : (bstr g)[0] = g.getD 0 0 := by
 have h' : 0 < g.length := by rw [bstr_size] at h; exact h
 have e : (bstr g)[0] = (bstr g).data[0] := rfl
 rw [e]
 simp [bstr, List.getD_eq_getElem?_getD, h']

theorem isgroup_any (g : Str) (w : World) : Calls Tryz.prog 35 #[.string (bstr g)] w fun e w' => e = .returned (.bool (isGrp g)) ∧ w' = w := by
 have hs := bstr_size g
 by_cases h4 : g.length = 4
 · have e4 : ((g.length : Int) == 4) = true := by rw [h4]; rfl
   have h0 : 0 < (bstr g).size := by omega
   have HG := Lib.hid (show isGrp g = (decide ((224 : Int) ≤ ((bstr g)[0].toNat : Int)) && decide (((bstr g)[0].toNat : Int) ≤ 239)) from by
    rw [bstr_at0 g h0]; unfold isGrp; rw [if_pos h4]; congr 1 <;> exact decide_eq_decide.2 (by omega))
   rw [HG.out]
   cases d1 : decide ((224 : Int) ≤ ((bstr g)[0].toNat : Int)) <;> cases d2 : decide (((bstr g)[0].toNat : Int) ≤ 239)
   all_goals
    go_enter Tryz.func35, Tryz.ntmps35
    go_wp2_with fail
    go_ret
    exact ⟨ret_bool (by simp), rfl⟩
 · have e4 : ((g.length : Int) == 4) = false := by rw [beq_eq_false_iff_ne]; omega
   by_cases h6 : g.length = 16
   · have e6 : ((g.length : Int) == 16) = true := by rw [h6]; rfl
     have h0 : 0 < (bstr g).size := by omega
     have HG := Lib.hid (show isGrp g = (((bstr g)[0].toNat : Int) == 255) from by
      rw [bstr_at0 g h0]; unfold isGrp; rw [if_neg h4, Bool.eq_iff_iff]; simp [h6]; omega)
     rw [HG.out]
     go_enter Tryz.func35, Tryz.ntmps35
     go_wp2_with fail
     go_ret
     exact ⟨ret_bool (by simp), rfl⟩
   · have e6 : ((g.length : Int) == 16) = false := by rw [beq_eq_false_iff_ne]; omega
     have HG := Lib.hid (show isGrp g = false from by unfold isGrp; rw [if_neg h4]; simp [h6])
     rw [HG.out]
     go_enter Tryz.func35, Tryz.ntmps35
     go_wp2_with fail
     go_ret
     exact ⟨rfl, rfl⟩

theorem and127 : ∀ n : Nat, n < 256 → bits .and .u8 (n : Int) 127 = ((n % 128 : Nat) : Int) := by decide +kernel
theorem conv1 (w : World) (b c : Nat) (y : UInt8) (hc : w.cell? ⟨b, 0, none⟩ = some (.int .u8 (y.toNat : Int))) : (convert 105 9 (.slice (some ⟨b, 0, none⟩) 1 c)).run Tryz.prog w = .ok (.string ⟨#[y]⟩) w := by
 have := run_convert_bytes_back (P := Tryz.prog) w 105 9 5 ⟨b, 0, none⟩ c [y] Tryz.underlying105 (by kernel_rfl) Tryz.underlying9 (fun j hj => by
  obtain rfl : j = 0 := by simp at hj; omega
  rw [add_lit]; simpa using hc)
 simpa using this

theorem egroup_any (g : Str) (w : World) : Calls Tryz.prog 29 #[.string (bstr g)] w fun e w' => ∃ m, e = .returned (.tuple #[.string m, .int .i64 (if isGrp g then 0 else 1)]) ∧ Below w.heap.size w w' := by
 have hs := bstr_size g
 by_cases h4 : g.length = 4
 · have e4 : ((g.length : Int) == 4) = true := by rw [h4]; rfl
   have h0 : 0 < (bstr g).size := by omega
   have h1 : 1 < (bstr g).size := by omega
   have HG := Lib.hid (show isGrp g = (((bstr g)[0].toNat : Int) / 16 == 14) from by
    have h256 : (g.getD 0 0).toNat < 256 := (g.getD 0 0).toNat_lt
    rw [bstr_at0 g h0]; unfold isGrp; rw [if_pos h4, Bool.eq_iff_iff]; simp; omega)
   rw [HG.out]
   cases d : (((bstr g)[0].toNat : Int) / 16 == 14) <;> simp only [Bool.false_eq_true, if_false, if_true]
   · clear HG
     go_enter Tryz.func29, Tryz.ntmps29
     go_wp2
     exact bodyPost_ret (v := .tuple #[.string ⟨#[]⟩, .int .i64 1]) (by simp [results, Tryz.results29, go_sem]) rfl (by first | exact ⟨_, rfl, Below.refl _ _⟩ | exact ⟨⟨_, rfl⟩, Below.refl _ _⟩)
   · clear HG
     have hx := and127 (bstr g)[1].toNat (bstr g)[1].toNat_lt
     obtain ⟨y, hy⟩ : ∃ y : UInt8, (((bstr g)[1].toNat % 128 : Nat) : Int) = (y.toNat : Int) := ⟨UInt8.ofNat ((bstr g)[1].toNat % 128), by simp; omega⟩
     rw [hy] at hx
     have hcv := conv1 ((w.alloc (.cells #[.int .u8 (y.toNat : Int)] 5)).drew) w.heap.size 1 y (by show (w.alloc _).cell? _ = _; exact ((CBox.new (w := w) (T := 5) #[.int .u8 (y.toNat : Int)] rfl).at_ 0 _ rfl).1)
     have hcv2 := conv1 (w.alloc (.cells #[.int .u8 (y.toNat : Int)] 5)) w.heap.size 1 y ((CBox.new (w := w) (T := 5) #[.int .u8 (y.toNat : Int)] rfl).at_ 0 _ rfl).1
     have B0 := Lib.hid (show Below w.heap.size w (w.alloc (.cells #[.int .u8 (y.toNat : Int)] 5)) from (Below.refl _ _).alloc (Nat.le_refl _) _)
     clear hy
     go_enter Tryz.func29, Tryz.ntmps29
     go_wp2_with fail
     go_region
     all_goals
      go_wp2
      exact bodyPost_ret (v := .tuple #[.string (⟨#[1, 0, 94]⟩ ++ ⟨#[y]⟩ ++ (bstr g).extract 2 4), .int .i64 0]) (by simp [results, Tryz.results29, go_sem]) rfl (by first | exact ⟨_, rfl, B0.out⟩ | exact ⟨⟨_, rfl⟩, B0.out⟩ | exact ⟨_, rfl, B0.out.drew⟩ | exact ⟨⟨_, rfl⟩, B0.out.drew⟩)
 · have e4 : ((g.length : Int) == 4) = false := by rw [beq_eq_false_iff_ne]; omega
   by_cases h6 : g.length = 16
   · have e6 : ((g.length : Int) == 16) = true := by rw [h6]; rfl
     have h0 : 0 < (bstr g).size := by omega
     have HG := Lib.hid (show isGrp g = (((bstr g)[0].toNat : Int) == 255) from by
      rw [bstr_at0 g h0]; unfold isGrp; rw [if_neg h4, Bool.eq_iff_iff]; simp [h6]; omega)
     rw [HG.out]
     cases d : (((bstr g)[0].toNat : Int) == 255) <;> simp only [Bool.false_eq_true, if_false, if_true]
     · clear HG
       go_enter Tryz.func29, Tryz.ntmps29
       go_wp2
       exact bodyPost_ret (v := .tuple #[.string ⟨#[]⟩, .int .i64 1]) (by simp [results, Tryz.results29, go_sem]) rfl (by first | exact ⟨_, rfl, Below.refl _ _⟩ | exact ⟨⟨_, rfl⟩, Below.refl _ _⟩)
     · clear HG
       go_enter Tryz.func29, Tryz.ntmps29
       go_wp2
       exact bodyPost_ret (v := .tuple #[.string (⟨#[51, 51]⟩ ++ (bstr g).extract 12 16), .int .i64 0]) (by simp [results, Tryz.results29, go_sem]) rfl (by first | exact ⟨_, rfl, Below.refl _ _⟩ | exact ⟨⟨_, rfl⟩, Below.refl _ _⟩)
   · have e6 : ((g.length : Int) == 16) = false := by rw [beq_eq_false_iff_ne]; omega
     have HG := Lib.hid (show isGrp g = false from by unfold isGrp; rw [if_neg h4]; simp [h6])
     rw [HG.out]
     clear HG
     go_enter Tryz.func29, Tryz.ntmps29
     go_wp2
     exact bodyPost_ret (v := .tuple #[.string ⟨#[]⟩, .int .i64 1]) (by simp [results, Tryz.results29, go_sem]) rfl (by first | exact ⟨_, rfl, Below.refl _ _⟩ | exact ⟨⟨_, rfl⟩, Below.refl _ _⟩)
end Go.Proofs.YtpibmjkbebkilaaGreat
