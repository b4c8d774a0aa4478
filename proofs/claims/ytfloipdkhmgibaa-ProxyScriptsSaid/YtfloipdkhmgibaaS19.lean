/- Texts joined into one file: PMerge, PSmall, PGrp. -/
import Derived.Test.YtfloipdkhmgibaaS18
import Derived.Laws.IdiomStrings

/- proxy.Merge, siphonref21.Merge: what states let through together. -/
namespace Go.Proofs.Ytfloipdkhmgibaa
open Go.RowKit Go.Lib Go.Sort
set_option maxRecDepth 20000
set_option maxRecDepth 20000

set_option maxHeartbeats 8000000 in
theorem merge_any (v : Value) (R : List Stt) (now : Int) (w : World) (h : Sts w v R) (hn : R.length ≤ 1000) (hs : ∀ s ∈ R, s.2.2.length ≤ 60) :
    Calls Try.prog 14 #[v, .int .i64 now] w (RetFil w (pmerge now R).1 (pmerge now R).2) := by
  obtain ⟨vo, vc, rfl⟩ := h.shape
  obtain ⟨W0, hW0⟩ : ∃ W0, W0 = (w.alloc (.cells #[.bool false, .slice none 0 0] 28)) := ⟨_, rfl⟩
  have hb0 : Below w.heap.size w W0 := by rw [hW0]; exact (Below.refl _ _).alloc (Nat.le_refl _) _
  have s1 : CBox W0 (w.heap.size) 28 #[.bool false, .slice none 0 0] := by rw [hW0]; exact CBox.new _ rfl
  obtain ⟨b, off, src, hm, hlen, hidx, hc⟩ := h.facts
  have HLEN := Lib.hid (pmerge_len now R hs)
  have HSN := Lib.hid hs
  have HB0 := Lib.hid hb0; have S1 := Lib.hid s1; have HW0 := Lib.hid hW0; have HF0 := Lib.hid s1
  clear hb0 s1 hW0 h hs
  go_enter Try.func14, Try.ntmps14
  go_wp2_with fail
  rw [← HW0.out]
  clear HW0
  go_loopw [9] (fun i wr => ∃ k v', k ≤ R.length ∧ i = .int .i64 (k : Nat) ∧ CBox wr (w.heap.size) 28 #[.bool (pmerge now (R.take k)).1, v'] ∧ Strs wr v' (pmerge now (R.take k)).2 ∧ Lies (w.heap.size + 1) v' ∧ Below w.heap.size w wr) (fun i _ => R.length - (intOf i).toNat)
  case atStart => exact ⟨0, _, Nat.zero_le _, rfl, HF0.out, Strs.nil _, fun b hb => by simp [Value.ownBlock] at hb, HB0.out⟩
  case round =>
    obtain ⟨k, v', hk, rfl, hbox, hstr, hlies, hbel⟩ := hrel
    obtain ⟨fo, fc, rfl⟩ := hstr.shape
    obtain ⟨z0, zf0⟩ := hbox.at_ 0 _ rfl
    obtain ⟨z1, zf1⟩ := hbox.at_ 1 _ rfl
    have hfl := HLEN.out k hk
    have FB := Lib.hid hbox; have FS := Lib.hid hstr; have FL := Lib.hid hlies; have HB := Lib.hid hbel
    have hbs := hbel.size
    have hbx := hbox.lt
    by_cases hlt : k < R.length
    · obtain ⟨⟨e, a, L⟩, hst⟩ : ∃ t : Stt, t = R.getD k default := ⟨_, rfl⟩
      have HSNOC := Lib.hid (pmerge_snoc now R k hlt)
      obtain ⟨hlb, c0, c1, c2, hT, _⟩ := hc k hlt
      rw [← hst] at c0 c1 hT HSNOC
      have hL60 : L.length ≤ 60 := by
        have := HSN.out (R.getD k default) (by simp [List.getD_eq_getElem?_getD, hlt])
        rw [← hst] at this
        exact this
      obtain ⟨so, sc, hso⟩ := hT.shape
      rw [hso] at c2 hT
      dsimp only at c0 c1 hT HSNOC
      have d0 := (hbel.cell (p := ⟨b, off + k * 3, none⟩) hlb).trans c0
      have d1 := (hbel.cell (p := ⟨b, off + k * 3 + 1, none⟩) hlb).trans c1
      have d2 := (hbel.cell (p := ⟨b, off + k * 3 + 2, none⟩) hlb).trans c2
      have hp := hidx k hlt
      have hgl := pfil_len e a L now
      obtain ⟨g, hg⟩ : ∃ g, pfil e a L now = g := ⟨_, rfl⟩
      rw [hg] at HSNOC hgl
      generalize pmerge now (R.take k) = f at *
      obtain ⟨W1, hW1⟩ : ∃ W1, W1 = wr.alloc (.cells #[.bool e, .int .i64 a, .slice so L.length sc] 32) := ⟨_, rfl⟩
      have hb1 : Below wr.heap.size wr W1 := by rw [hW1]; exact (Below.refl _ _).alloc (Nat.le_refl _) _
      have t1 : CBox W1 wr.heap.size 32 #[.bool e, .int .i64 a, .slice so L.length sc] := by rw [hW1]; exact CBox.new _ rfl
      have hFT := hT.mono (hbel.trans (hb1.mono hbs))
      have HFI := Lib.hid (fun W (hW : Below W1.heap.size W1 W) => filter_any e a _ L now W (hFT.mono hW))
      rw [hg] at HFI
      have HOR := Lib.hid (fun u W (hW : Below W1.heap.size W1 W) (hu : Strs W u g.2) => orF f g _ u W ((FS.out.mono hb1).mono hW) hu (by omega))
      have FB1 := Lib.hid (FB.out.below hb1 hbx)
      have HBW := Lib.hid (hbel.trans (hb1.mono hbs))
      have HB1 := Lib.hid hb1
      clear hc hidx hst c0 c1 c2 hT hso hFT hbel hbox hstr hlies hb1
      go_upto_region 4 with fail
      rw [← hW1]
      clear hW1 d0 d1 d2
      obtain ⟨y0, yf0⟩ := t1.at_ 0 _ rfl
      obtain ⟨y1, yf1⟩ := t1.at_ 1 _ rfl
      obtain ⟨y2, yf2⟩ := t1.at_ 2 _ rfl
      clear z0 zf0 z1 zf1
      obtain ⟨z0, zf0⟩ := FB1.out.at_ 0 _ rfl
      obtain ⟨z1, zf1⟩ := FB1.out.at_ 1 _ rfl
      have T1 := Lib.hid t1
      clear t1
      go_region_with (first | (go_at_call 32; refine (HOR.out _ _ HB2.out S2.out).mono ?_; rintro e w3 ⟨v3, rfl, hS3, hb3, hl3⟩; obtain ⟨o3, c3, rfl⟩ := hS3.shape; have FB3 := Lib.hid (FB2.out.below hb3 FB2.out.lt); obtain ⟨p0, pf0⟩ := FB3.out.at_ 0 _ rfl; obtain ⟨p1, pf1⟩ := FB3.out.at_ 1 _ rfl; have S3 := Lib.hid hS3; have HB3 := Lib.hid hb3; have HL3 := Lib.hid hl3; clear hS3 hb3 hl3) | (go_at_call 12; refine (HFI.out _ (by first | exact Below.refl _ _ | exact Below.drew (Below.refl _ _))).mono ?_; rintro e w2 ⟨u2, rfl, hS2, hb2', hl2'⟩; have hb2 : Below W1.heap.size W1 w2 := (by first | exact hb2' | exact (Below.drew (Below.refl _ _)).trans hb2'); obtain ⟨o2, c2, rfl⟩ := hS2.shape; have S2 := Lib.hid hS2; have HB2 := Lib.hid hb2; have FB2 := Lib.hid (FB1.out.below hb2 FB1.out.lt); obtain ⟨q0, qf0⟩ := FB2.out.at_ 0 _ rfl; obtain ⟨q1, qf1⟩ := FB2.out.at_ 1 _ rfl; clear hS2 hb2 hb2' hl2'))
      all_goals
        go_wp2_with fail
        go_roundw
        case rel =>
          have h1 := HBW.out.size
          have h2 := HB2.out.size
          have h3 := FB2.out.lt
          have h4 := FB1.out.lt
          refine ⟨k + 1, _, by omega, by go_num, ?_, ?_, HL3.out.mono (by omega), ?_⟩
          · rw [HSNOC.out]; simpa using (FB3.out.set 0 (.bool (pOrF f g).1)).set 1 (.slice o3 (pOrF f g).2.length c3)
          · rw [HSNOC.out]; exact (S3.out.far HL3.out (p := ⟨w.heap.size, 0, none⟩) (by simp; omega) _).far HL3.out (p := ⟨w.heap.size, 1, none⟩) (by simp; omega) _
          · exact (((HBW.out.trans (HB2.out.mono h1)).trans (HB3.out.mono (by omega))).setCell (by simp) _).setCell (by simp) _
        case measure => simp [intOf]; omega
    · have HL := Lib.hid (show R.take k = R from List.take_of_length_le (by omega))
      rw [HL.out] at z0 z1 FB FS FL
      clear hc hidx hbel hbox hstr hlies
      go_wp2
      have q := FB.out
      have R2 := fun u1 u2 => ((FB.out.set 0 u1).set 1 u2)
      have r0 := fun u1 u2 => ((R2 u1 u2).at_ 0 _ rfl).1
      have r1 := fun u1 u2 => ((R2 u1 u2).at_ 1 _ rfl).1
      refine bodyPost_ret (v := .agg #[.bool (pmerge now R).1, .slice fo (pmerge now R).2.length fc]) (by simp [results, Try.results14, go_sem, r0, r1]) rfl ⟨_, rfl, ?_, (HB.out.setCell (by simp) _).setCell (by simp) _, FL.out.mono (lo' := w.heap.size) (by omega)⟩
      exact (FS.out.far FL.out (p := ⟨w.heap.size, 0, none⟩) (show w.heap.size < _ from by omega) _).far FL.out (p := ⟨w.heap.size, 1, none⟩) (show w.heap.size < _ from by omega) _

set_option maxHeartbeats 8000000 in
theorem rmerge_any (v : Value) (R : List Stt) (now : Int) (w : World) (h : Sts w v R) (hn : R.length ≤ 1000) (hs : ∀ s ∈ R, s.2.2.length ≤ 60) :
    Calls Try.prog 15 #[v, .int .i64 now] w (RetFil w (pmerge now R).1 (pmerge now R).2) := by
  obtain ⟨vo, vc, rfl⟩ := h.shape
  obtain ⟨W0, hW0⟩ : ∃ W0, W0 = ((w.alloc (.cells #[.bool false, .slice none 0 0] 28)).alloc (.cells #[.bool false, .slice none 0 0] 28)) := ⟨_, rfl⟩
  have hb0 : Below w.heap.size w W0 := by rw [hW0]; exact ((Below.refl _ _).alloc (Nat.le_refl _) _).alloc (by simp) _
  have s1 : CBox W0 (w.heap.size) 28 #[.bool false, .slice none 0 0] := by rw [hW0]; exact (CBox.new _ rfl).old _
  have s2 : CBox W0 (w.heap.size + 1) 28 #[.bool false, .slice none 0 0] := by rw [hW0]; exact CBox.new _ (by simp)
  obtain ⟨b, off, src, hm, hlen, hidx, hc⟩ := h.facts
  have HLEN := Lib.hid (pmerge_len now R hs)
  have HSN := Lib.hid hs
  have HB0 := Lib.hid hb0; have S1 := Lib.hid s1; have HW0 := Lib.hid hW0; have HF0 := Lib.hid s2
  clear hb0 s1 hW0 h hs s2
  go_enter Try.func15, Try.ntmps15
  go_wp2_with fail
  rw [← HW0.out]
  clear HW0
  go_loopw [6] (fun i wr => ∃ k v', k ≤ R.length ∧ i = .int .i64 (k : Nat) ∧ CBox wr (w.heap.size + 1) 28 #[.bool (pmerge now (R.take k)).1, v'] ∧ Strs wr v' (pmerge now (R.take k)).2 ∧ Lies (w.heap.size + 1 + 1) v' ∧ CBox wr w.heap.size 28 #[.bool false, .slice none 0 0] ∧ Below w.heap.size w wr) (fun i _ => R.length - (intOf i).toNat)
  case atStart => exact ⟨0, _, Nat.zero_le _, rfl, HF0.out, Strs.nil _, fun b hb => by simp [Value.ownBlock] at hb, S1.out, HB0.out⟩
  case round =>
    obtain ⟨k, v', hk, rfl, hbox, hstr, hlies, hres, hbel⟩ := hrel
    obtain ⟨fo, fc, rfl⟩ := hstr.shape
    obtain ⟨z0, zf0⟩ := hbox.at_ 0 _ rfl
    obtain ⟨z1, zf1⟩ := hbox.at_ 1 _ rfl
    have hfl := HLEN.out k hk
    have FB := Lib.hid hbox; have FS := Lib.hid hstr; have FL := Lib.hid hlies; have HB := Lib.hid hbel; have RB := Lib.hid hres
    have hbs := hbel.size
    have hbx := hbox.lt
    by_cases hlt : k < R.length
    · obtain ⟨⟨e, a, L⟩, hst⟩ : ∃ t : Stt, t = R.getD k default := ⟨_, rfl⟩
      have HSNOC := Lib.hid (pmerge_snoc now R k hlt)
      obtain ⟨hlb, c0, c1, c2, hT, _⟩ := hc k hlt
      rw [← hst] at c0 c1 hT HSNOC
      have hL60 : L.length ≤ 60 := by
        have := HSN.out (R.getD k default) (by simp [List.getD_eq_getElem?_getD, hlt])
        rw [← hst] at this
        exact this
      obtain ⟨so, sc, hso⟩ := hT.shape
      rw [hso] at c2 hT
      dsimp only at c0 c1 hT HSNOC
      have d0 := (hbel.cell (p := ⟨b, off + k * 3, none⟩) hlb).trans c0
      have d1 := (hbel.cell (p := ⟨b, off + k * 3 + 1, none⟩) hlb).trans c1
      have d2 := (hbel.cell (p := ⟨b, off + k * 3 + 2, none⟩) hlb).trans c2
      have hp := hidx k hlt
      have hgl := pfil_len e a L now
      obtain ⟨g, hg⟩ : ∃ g, pfil e a L now = g := ⟨_, rfl⟩
      rw [hg] at HSNOC hgl
      generalize pmerge now (R.take k) = f at *
      obtain ⟨W1, hW1⟩ : ∃ W1, W1 = wr := ⟨_, rfl⟩
      have hb1 : Below wr.heap.size wr W1 := by rw [hW1]; exact Below.refl _ _
      have hFT := hT.mono (hbel.trans (hb1.mono hbs))
      have HFI := Lib.hid (fun W (hW : Below W1.heap.size W1 W) => rfilter_any e a _ L now W (hFT.mono hW))
      rw [hg] at HFI
      have HOR := Lib.hid (fun u W (hW : Below W1.heap.size W1 W) (hu : Strs W u g.2) => rorF f g _ u W ((FS.out.mono hb1).mono hW) hu (by omega))
      have FB1 := Lib.hid (FB.out.below hb1 hbx)
      have HBW := Lib.hid (hbel.trans (hb1.mono hbs))
      have HB1 := Lib.hid hb1
      have RB1 := Lib.hid (RB.out.below hb1 RB.out.lt)
      clear hc hidx hst c0 c1 c2 hT hso hFT hbel hbox hstr hlies hb1 hres
      subst hW1
      have HLB := Lib.hid (Nat.lt_of_lt_of_le hlb hbs)
      have D := Lib.hid (And.intro d0 (And.intro d1 d2))
      go_wp2_with fail
      go_region_with (first | (go_at_call 33; refine (HOR.out _ _ HB2.out S2.out).mono ?_; rintro e w3 ⟨v3, rfl, hS3, hb3, hl3⟩; obtain ⟨o3, c3, rfl⟩ := hS3.shape; have FB3 := Lib.hid (FB2.out.below hb3 FB2.out.lt); obtain ⟨p0, pf0⟩ := FB3.out.at_ 0 _ rfl; obtain ⟨p1, pf1⟩ := FB3.out.at_ 1 _ rfl; have S3 := Lib.hid hS3; have HB3 := Lib.hid hb3; have HL3 := Lib.hid hl3; clear hS3 hb3 hl3) | (go_at_call 13; refine (HFI.out _ (by first | exact Below.refl _ _ | exact Below.drew (Below.refl _ _))).mono ?_; rintro e w2 ⟨u2, rfl, hS2, hb2', hl2'⟩; have hb2 : Below W1.heap.size W1 w2 := (by first | exact hb2' | exact (Below.drew (Below.refl _ _)).trans hb2'); obtain ⟨o2, c2, rfl⟩ := hS2.shape; have S2 := Lib.hid hS2; have HB2 := Lib.hid hb2; have FB2 := Lib.hid (FB1.out.below hb2 FB1.out.lt); obtain ⟨q0, qf0⟩ := FB2.out.at_ 0 _ rfl; obtain ⟨q1, qf1⟩ := FB2.out.at_ 1 _ rfl; have d0 := (hb2.cell (p := ⟨b, off + k * 3, none⟩) (HLB.out)).trans D.out.1; have d1 := (hb2.cell (p := ⟨b, off + k * 3 + 1, none⟩) (HLB.out)).trans D.out.2.1; have d2 := (hb2.cell (p := ⟨b, off + k * 3 + 2, none⟩) (HLB.out)).trans D.out.2.2; clear hS2 hb2 hb2' hl2'))
      all_goals
        go_wp2_with fail
        go_roundw
        case rel =>
          have h1 := HBW.out.size
          have h2 := HB2.out.size
          have h3 := FB2.out.lt
          have h4 := FB1.out.lt
          refine ⟨k + 1, _, by omega, by go_num, ?_, ?_, HL3.out.mono (by omega), ?_, ?_⟩
          · rw [HSNOC.out]; simpa using (FB3.out.set 0 (.bool (pOrF f g).1)).set 1 (.slice o3 (pOrF f g).2.length c3)
          · rw [HSNOC.out]; exact (S3.out.far HL3.out (p := ⟨w.heap.size + 1, 0, none⟩) (by simp; omega) _).far HL3.out (p := ⟨w.heap.size + 1, 1, none⟩) (by simp; omega) _
          · exact ((((RB1.out.below HB2.out RB1.out.lt).below HB3.out (RB1.out.below HB2.out RB1.out.lt).lt).far (p := ⟨w.heap.size + 1, 0, none⟩) (by simp) _).far (p := ⟨w.heap.size + 1, 1, none⟩) (by simp) _)
          · exact (((HBW.out.trans (HB2.out.mono h1)).trans (HB3.out.mono (by omega))).setCell (by simp) _).setCell (by simp) _
        case measure => simp [intOf]; omega
    · have HL := Lib.hid (show R.take k = R from List.take_of_length_le (by omega))
      rw [HL.out] at z0 z1 FB FS FL
      clear hc hidx hbel hbox hstr hlies hres
      obtain ⟨r0, rf0⟩ := RB.out.at_ 0 _ rfl
      obtain ⟨r1, rf1⟩ := RB.out.at_ 1 _ rfl
      go_wp2
      have R2 := fun u1 u2 => ((RB.out.set 0 u1).set 1 u2)
      have r0 := fun u1 u2 => ((R2 u1 u2).at_ 0 _ rfl).1
      have r1 := fun u1 u2 => ((R2 u1 u2).at_ 1 _ rfl).1
      refine bodyPost_ret (v := .agg #[.bool (pmerge now R).1, .slice fo (pmerge now R).2.length fc]) (by simp [results, Try.results15, go_sem, r0, r1]) rfl ⟨_, rfl, ?_, (HB.out.setCell (by simp) _).setCell (by simp) _, FL.out.mono (lo' := w.heap.size) (by omega)⟩
      exact (FS.out.far FL.out (p := ⟨w.heap.size, 0, none⟩) (show w.heap.size < _ from by omega) _).far FL.out (p := ⟨w.heap.size, 1, none⟩) (show w.heap.size < _ from by omega) _
end Go.Proofs.Ytfloipdkhmgibaa

/- The small functions of layer 21: same, few, empty, none, New. -/
namespace Go.Proofs.Ytfloipdkhmgibaa
open Go.RowKit Go.Lib Go.Sort
set_option maxRecDepth 20000
set_option maxRecDepth 20000

set_option maxHeartbeats 1000000 in
theorem psame_any (e1 e2 : Bool) (v u : Value) (A B : List Str) (w : World) (hv : Strs w v A) (hu : Strs w u B) :
    Calls Try.prog 11 #[.agg #[.bool e1, v], .agg #[.bool e2, u]] w fun e w' => e = .returned (.bool ((e1 == e2) && (A == B))) ∧ Below w.heap.size w w' := by
  obtain ⟨ao, cap, rfl⟩ := hv.shape
  obtain ⟨bo, bcap, rfl⟩ := hu.shape
  have hb0 : Below w.heap.size w ((w.alloc (.cells #[.bool e1, .slice ao A.length cap] 28)).alloc (.cells #[.bool e2, .slice bo B.length bcap] 28)) := ((Below.refl _ _).alloc (Nat.le_refl _) _).alloc (by simp) _
  have HC := Lib.hid (ssame_any _ _ A B _ (hv.mono hb0) (hu.mono hb0))
  have HB0 := Lib.hid hb0
  generalize (A == B) = r at HC ⊢
  clear hv hu hb0
  cases e1 <;> cases e2
  all_goals
    go_enter Try.func11, Try.ntmps11
    go_wp2_with ((with_reducible refine HC.out.mono ?_); rintro e w' ⟨rfl, nd, rfl⟩)
    go_ret
    first
    | exact ⟨ret_bool (by simp), below_draws _ HB0.out _⟩
    | exact ⟨ret_bool (by simp), HB0.out⟩
theorem psame_yes (e1 e2 : Bool) (v u : Value) (A B : List Str) (w : World) (hv : Strs w v A) (hu : Strs w u B) (h1 : e1 = e2) (h2 : A = B) :
    Calls Try.prog 11 #[.agg #[.bool e1, v], .agg #[.bool e2, u]] w fun e w' => e = .returned (.bool true) ∧ Below w.heap.size w w' := by
  subst h1 h2
  exact (psame_any e1 e1 v u A A w hv hu).mono fun e w' h => ⟨h.1.trans (ret_bool (by simp)), h.2⟩

def pfew (R : List Stt) : Bool := decide (R.length ≤ 10) && R.all fun s => decide (s.2.2.length ≤ 60)

set_option maxHeartbeats 2000000 in
theorem pfew_any (v : Value) (R : List Stt) (w : World) (h : Sts w v R) :
    Calls Try.prog 9 #[v] w fun e w' => e = .returned (.bool (pfew R)) ∧ w' = w := by
  obtain ⟨vo, vc, rfl⟩ := h.shape
  obtain ⟨b, off, src, hm, hlen, hidx, hc⟩ := h.facts
  clear h
  cases d1 : decide ((10 : Int) < (R.length : Int))
  · have h10 : R.length ≤ 10 := by have := of_decide_eq_false d1; omega
    go_enter Try.func9, Try.ntmps9
    go_wp2_with fail
    go_loop [3] (fun i => ∃ k : Nat, k ≤ R.length ∧ i = .int .i64 k ∧ (R.take k).all (fun s => decide (s.2.2.length ≤ 60)) = true) (fun i => R.length - (intOf i).toNat)
    case atStart => exact ⟨0, Nat.zero_le _, rfl, by simp⟩
    case round =>
      obtain ⟨k, hk, rfl, hall⟩ := hrel
      by_cases hlt : k < R.length
      · obtain ⟨_, _, _, c2, hT, _⟩ := hc k hlt
        obtain ⟨so, sc, hso⟩ := hT.shape
        rw [hso] at c2
        have hp := hidx k hlt
        obtain ⟨n, hn⟩ : ∃ n, (R.getD k default).2.2.length = n := ⟨_, rfl⟩
        rw [hn] at c2
        have hg : R[k] = R.getD k default := by simp [List.getD_eq_getElem?_getD, hlt]
        have HT := Lib.hid (show (R.take (k + 1)).all (fun s => decide (s.2.2.length ≤ 60)) = ((R.take k).all (fun s => decide (s.2.2.length ≤ 60)) && decide (n ≤ 60)) from by rw [take_snoc R k hlt, List.all_append, hg]; simp only [List.all_cons, List.all_nil, Bool.and_true, hn])
        have HF := Lib.hid (show ¬ n ≤ 60 → pfew R = false from fun h => by
          unfold pfew
          rw [Bool.and_eq_false_iff]
          refine .inr ?_
          rw [List.all_eq_false]
          exact ⟨R[k], List.getElem_mem hlt, by rw [hg, hn]; simpa using h⟩)
        clear hidx hc hT hso hn hg
        cases d2 : decide ((60 : Int) < (n : Int))
        · have hn : n ≤ 60 := by have := of_decide_eq_false d2; omega
          go_wp2_with fail
          go_round
          case rel => exact ⟨k + 1, by omega, by go_num, by rw [HT.out, hall]; simpa using hn⟩
          case measure => simp [intOf]; omega
        · have hn := HF.out (by have := of_decide_eq_true d2; omega)
          have HN := Lib.hid hn
          clear hn HF
          go_wp2_with fail
          go_ret
          exact ⟨ret_bool HN.out.symm, rfl⟩
      · have HT := Lib.hid (show pfew R = true from by
          have : R.take k = R := List.take_of_length_le (by omega)
          rw [this] at hall
          unfold pfew
          rw [hall]; simpa using h10)
        clear hidx hc
        go_wp2_with fail
        go_ret
        exact ⟨ret_bool HT.out.symm, rfl⟩
  · have HN := Lib.hid (show pfew R = false from by have := of_decide_eq_true d1; unfold pfew; rw [Bool.and_eq_false_iff]; exact .inl (by simp; omega))
    clear hidx hc
    go_enter Try.func9, Try.ntmps9
    go_wp2_with fail
    go_ret
    exact ⟨ret_bool HN.out.symm, rfl⟩

/-- does a filter admit nothing? -/
theorem empty_any (e : Bool) (v : Value) (A : List Str) (w : World) (hv : Strs w v A) :
    Calls Try.prog 35 #[.agg #[.bool e, v]] w fun x w' => x = .returned (.bool (!e && decide (A = []))) ∧ Below w.heap.size w w' := by
  obtain ⟨ao, cap, rfl⟩ := hv.shape
  have hb0 : Below w.heap.size w (w.alloc (.cells #[.bool e, .slice ao A.length cap] 28)) := (Below.refl _ _).alloc (Nat.le_refl _) _
  have HB0 := Lib.hid hb0
  have HN := Lib.hid (show (decide (A = [])) = ((A.length : Int) == 0) from by cases A <;> simp <;> omega)
  clear hb0 hv
  rw [HN.out]
  cases e
  all_goals
    go_enter Try.func35, Try.ntmps35
    go_wp2_with fail
    go_ret
    exact ⟨ret_bool (by simp), HB0.out⟩
theorem none_any (e : Bool) (v : Value) (A : List Str) (w : World) (hv : Strs w v A) :
    Calls Try.prog 39 #[.agg #[.bool e, v]] w fun x w' => x = .returned (.bool (!e && decide (A = []))) ∧ Below w.heap.size w w' := by
  obtain ⟨ao, cap, rfl⟩ := hv.shape
  have hb0 : Below w.heap.size w (w.alloc (.cells #[.bool e, .slice ao A.length cap] 28)) := (Below.refl _ _).alloc (Nat.le_refl _) _
  have HB0 := Lib.hid hb0
  have HN := Lib.hid (show (decide (A = [])) = ((A.length : Int) == 0) from by cases A <;> simp <;> omega)
  clear hb0 hv
  rw [HN.out]
  cases e
  all_goals
    go_enter Try.func39, Try.ntmps39
    go_wp2_with fail
    go_ret
    exact ⟨ret_bool (by simp), HB0.out⟩

/-- a proxy in memory: block p holds its room and its map, block b; G: what is told of which group -/
def Px (w : World) (p b n : Nat) (room : Int) (G : Int × Str → Option (Bool × List Str)) : Prop :=
  CBox w p 73 #[.int .i64 room, .map (some b)] ∧ ∃ V, VMap KP w b n V ∧ ∀ k, match G k with | none => V k = none | some f => ∃ v, V k = some (.agg #[.bool f.1, v]) ∧ Strs w v f.2

theorem new_yes (room : Int) (w : World) (h1 : 1 ≤ room) (h2 : room ≤ 4096) :
    Calls Try.prog 16 #[.int .i64 room] w fun e w' => ∃ p b, e = .returned (.tuple #[.pointer (some ⟨p, 0, none⟩), .int .i64 0]) ∧ Px w' p b 0 room (fun _ => none) ∧ w.heap.size ≤ p ∧ w.heap.size ≤ b ∧ p ≠ b ∧ Below w.heap.size w w' := by
  have d1 : decide (room < 1) = false := decide_eq_false (by omega)
  have d2 : decide (4096 < room) = false := decide_eq_false (by omega)
  have hm := VMap.made KP w
  have hb1 : Below w.heap.size w (w.alloc (.map #[] 0)) := (Below.refl _ _).alloc (Nat.le_refl _) _
  have HM := Lib.hid (hm.below ((Below.refl _ (w.alloc (.map #[] 0))).alloc (Nat.le_refl _) (.cells #[.int .i64 room, .map (some w.heap.size)] 73)) hm.lt)
  have HC := Lib.hid (show CBox ((w.alloc (.map #[] 0)).alloc (.cells #[.int .i64 room, .map (some w.heap.size)] 73)) (w.heap.size + 1) 73 #[.int .i64 room, .map (some w.heap.size)] from CBox.new _ (by simp))
  have HB := Lib.hid (hb1.alloc (by simp) (.cells #[.int .i64 room, .map (some w.heap.size)] 73))
  have hmm := @run_makeMap Try.prog
  clear h1 h2 hm hb1
  go_enter Try.func16, Try.ntmps16
  go_wp2
  refine bodyPost_ret (v := .tuple #[.pointer (some ⟨w.heap.size + 1, 0, none⟩), .int .i64 0]) (by simp [results, Try.results16, go_sem]) rfl ?_
  exact ⟨w.heap.size + 1, w.heap.size, rfl, ⟨HC.out, _, HM.out, fun k => rfl⟩, by omega, by omega, by omega, HB.out⟩
theorem new_no (room : Int) (w : World) (h : ¬ (1 ≤ room ∧ room ≤ 4096)) :
    Calls Try.prog 16 #[.int .i64 room] w fun e w' => e = .returned (.tuple #[.pointer none, .int .i64 1]) ∧ w' = w := by
  cases d1 : decide (room < 1)
  · have d2 : decide (4096 < room) = true := decide_eq_true (by have := of_decide_eq_false d1; omega)
    clear h
    go_enter Try.func16, Try.ntmps16
    go_wp2
    exact bodyPost_ret (v := .tuple #[.pointer none, .int .i64 1]) (by simp [results, Try.results16, go_sem]) rfl ⟨rfl, rfl⟩
  · clear h
    go_enter Try.func16, Try.ntmps16
    go_wp2
    exact bodyPost_ret (v := .tuple #[.pointer none, .int .i64 1]) (by simp [results, Try.results16, go_sem]) rfl ⟨rfl, rfl⟩
end Go.Proofs.Ytfloipdkhmgibaa

/- Is an address a group? siphonref03.IsGroup, ether.Group. -/
namespace Go.Proofs.Ytfloipdkhmgibaa
open Go.RowKit Go.Lib Go.Sort
set_option maxRecDepth 20000
set_option maxRecDepth 20000

def isGrp (g : Str) : Bool := if g.length = 4 then decide (224 ≤ (g.getD 0 0).toNat) && decide ((g.getD 0 0).toNat ≤ 239) else decide (g.length = 16) && decide ((g.getD 0 0).toNat = 255)

theorem bstr_at0 (g : Str) (h : 0 < (bstr g).size) : (bstr g)[0] = g.getD 0 0 := by
  have h' : 0 < g.length := by rw [bstr_size] at h; exact h
  have e : (bstr g)[0] = (bstr g).data[0] := rfl
  rw [e]
  simp [bstr, List.getD_eq_getElem?_getD, h']

theorem isgroup_any (g : Str) (w : World) : Calls Try.prog 37 #[.string (bstr g)] w fun e w' => e = .returned (.bool (isGrp g)) ∧ w' = w := by
  have hs := bstr_size g
  by_cases h4 : g.length = 4
  · have e4 : ((g.length : Int) == 4) = true := by rw [h4]; rfl
    have h0 : 0 < (bstr g).size := by omega
    have HG := Lib.hid (show isGrp g = (decide ((224 : Int) ≤ ((bstr g)[0].toNat : Int)) && decide (((bstr g)[0].toNat : Int) ≤ 239)) from by
      rw [bstr_at0 g h0]; unfold isGrp; rw [if_pos h4]; congr 1 <;> exact decide_eq_decide.2 (by omega))
    rw [HG.out]
    cases d1 : decide ((224 : Int) ≤ ((bstr g)[0].toNat : Int)) <;> cases d2 : decide (((bstr g)[0].toNat : Int) ≤ 239)
    all_goals
      go_enter Try.func37, Try.ntmps37
      go_wp2_with fail
      go_ret
      exact ⟨ret_bool (by simp), rfl⟩
  · have e4 : ((g.length : Int) == 4) = false := by rw [beq_eq_false_iff_ne]; omega
    by_cases h6 : g.length = 16
    · have e6 : ((g.length : Int) == 16) = true := by rw [h6]; rfl
      have h0 : 0 < (bstr g).size := by omega
      have HG := Lib.hid (show isGrp g = (((bstr g)[0].toNat : Int) == 255) from by
        rw [bstr_at0 g h0]; unfold isGrp; rw [if_neg h4, Bool.eq_iff_iff]; simp [h6]; omega)
      rw [HG.out]
      go_enter Try.func37, Try.ntmps37
      go_wp2_with fail
      go_ret
      exact ⟨ret_bool (by simp), rfl⟩
    · have e6 : ((g.length : Int) == 16) = false := by rw [beq_eq_false_iff_ne]; omega
      have HG := Lib.hid (show isGrp g = false from by unfold isGrp; rw [if_neg h4]; simp [h6])
      rw [HG.out]
      go_enter Try.func37, Try.ntmps37
      go_wp2_with fail
      go_ret
      exact ⟨rfl, rfl⟩

theorem and127 : ∀ n : Nat, n < 256 → bits .and .u8 (n : Int) 127 = ((n % 128 : Nat) : Int) := by decide +kernel
theorem conv1 (w : World) (b c : Nat) (y : UInt8) (hc : w.cell? ⟨b, 0, none⟩ = some (.int .u8 (y.toNat : Int))) : (convert 100 9 (.slice (some ⟨b, 0, none⟩) 1 c)).run Try.prog w = .ok (.string ⟨#[y]⟩) w := by
  have := run_convert_bytes_back (P := Try.prog) w 100 9 5 ⟨b, 0, none⟩ c [y] Try.underlying100 (by kernel_rfl) Try.underlying9 (fun j hj => by
    obtain rfl : j = 0 := by simp at hj; omega
    rw [add_lit]; simpa using hc)
  simpa using this

theorem egroup_any (g : Str) (w : World) : Calls Try.prog 34 #[.string (bstr g)] w fun e w' => ∃ m, e = .returned (.tuple #[.string m, .int .i64 (if isGrp g then 0 else 1)]) ∧ Below w.heap.size w w' := by
  have hs := bstr_size g
  by_cases h4 : g.length = 4
  · have e4 : ((g.length : Int) == 4) = true := by rw [h4]; rfl
    have h0 : 0 < (bstr g).size := by omega
    have h1 : 1 < (bstr g).size := by omega
    have HG := Lib.hid (show isGrp g = (((bstr g)[0].toNat : Int) / 16 == 14) from by
      have h256 : (g.getD 0 0).toNat < 256 := (g.getD 0 0).toNat_lt
      rw [bstr_at0 g h0]; unfold isGrp; rw [if_pos h4, Bool.eq_iff_iff]; simp; omega)
    rw [HG.out]
    cases d : (((bstr g)[0].toNat : Int) / 16 == 14) <;> simp only [Bool.false_eq_true, if_false, if_true]
    · clear HG
      go_enter Try.func34, Try.ntmps34
      go_wp2
      exact bodyPost_ret (v := .tuple #[.string ⟨#[]⟩, .int .i64 1]) (by simp [results, Try.results34, go_sem]) rfl (by first | exact ⟨_, rfl, Below.refl _ _⟩ | exact ⟨⟨_, rfl⟩, Below.refl _ _⟩)
    · clear HG
      have hx := and127 (bstr g)[1].toNat (bstr g)[1].toNat_lt
      obtain ⟨y, hy⟩ : ∃ y : UInt8, (((bstr g)[1].toNat % 128 : Nat) : Int) = (y.toNat : Int) := ⟨UInt8.ofNat ((bstr g)[1].toNat % 128), by simp; omega⟩
      rw [hy] at hx
      have hcv := conv1 ((w.alloc (.cells #[.int .u8 (y.toNat : Int)] 5)).drew) w.heap.size 1 y (by show (w.alloc _).cell? _ = _; exact ((CBox.new (w := w) (T := 5) #[.int .u8 (y.toNat : Int)] rfl).at_ 0 _ rfl).1)
      have hcv2 := conv1 (w.alloc (.cells #[.int .u8 (y.toNat : Int)] 5)) w.heap.size 1 y ((CBox.new (w := w) (T := 5) #[.int .u8 (y.toNat : Int)] rfl).at_ 0 _ rfl).1
      have B0 := Lib.hid (show Below w.heap.size w (w.alloc (.cells #[.int .u8 (y.toNat : Int)] 5)) from (Below.refl _ _).alloc (Nat.le_refl _) _)
      clear hy
      go_enter Try.func34, Try.ntmps34
      go_wp2_with fail
      go_region
      all_goals
        go_wp2
        exact bodyPost_ret (v := .tuple #[.string (⟨#[1, 0, 94]⟩ ++ ⟨#[y]⟩ ++ (bstr g).extract 2 4), .int .i64 0]) (by simp [results, Try.results34, go_sem]) rfl (by first | exact ⟨_, rfl, B0.out⟩ | exact ⟨⟨_, rfl⟩, B0.out⟩ | exact ⟨_, rfl, B0.out.drew⟩ | exact ⟨⟨_, rfl⟩, B0.out.drew⟩)
  · have e4 : ((g.length : Int) == 4) = false := by rw [beq_eq_false_iff_ne]; omega
    by_cases h6 : g.length = 16
    · have e6 : ((g.length : Int) == 16) = true := by rw [h6]; rfl
      have h0 : 0 < (bstr g).size := by omega
      have HG := Lib.hid (show isGrp g = (((bstr g)[0].toNat : Int) == 255) from by
        rw [bstr_at0 g h0]; unfold isGrp; rw [if_neg h4, Bool.eq_iff_iff]; simp [h6]; omega)
      rw [HG.out]
      cases d : (((bstr g)[0].toNat : Int) == 255) <;> simp only [Bool.false_eq_true, if_false, if_true]
      · clear HG
        go_enter Try.func34, Try.ntmps34
        go_wp2
        exact bodyPost_ret (v := .tuple #[.string ⟨#[]⟩, .int .i64 1]) (by simp [results, Try.results34, go_sem]) rfl (by first | exact ⟨_, rfl, Below.refl _ _⟩ | exact ⟨⟨_, rfl⟩, Below.refl _ _⟩)
      · clear HG
        go_enter Try.func34, Try.ntmps34
        go_wp2
        exact bodyPost_ret (v := .tuple #[.string (⟨#[51, 51]⟩ ++ (bstr g).extract 12 16), .int .i64 0]) (by simp [results, Try.results34, go_sem]) rfl (by first | exact ⟨_, rfl, Below.refl _ _⟩ | exact ⟨⟨_, rfl⟩, Below.refl _ _⟩)
    · have e6 : ((g.length : Int) == 16) = false := by rw [beq_eq_false_iff_ne]; omega
      have HG := Lib.hid (show isGrp g = false from by unfold isGrp; rw [if_neg h4]; simp [h6])
      rw [HG.out]
      clear HG
      go_enter Try.func34, Try.ntmps34
      go_wp2
      exact bodyPost_ret (v := .tuple #[.string ⟨#[]⟩, .int .i64 1]) (by simp [results, Try.results34, go_sem]) rfl (by first | exact ⟨_, rfl, Below.refl _ _⟩ | exact ⟨⟨_, rfl⟩, Below.refl _ _⟩)
end Go.Proofs.Ytfloipdkhmgibaa
