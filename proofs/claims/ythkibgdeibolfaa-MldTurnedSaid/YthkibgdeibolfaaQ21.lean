/- Texts joined into one file: MAsk. -/
import Derived.Test.YthkibgdeibolfaaQ20

/- (*mld.writer).ask. -/
namespace Go.Proofs.Ythkibgdeibolfaa
open Go.RowKit Go.Sort
set_option maxRecDepth 20000
set_option maxRecDepth 20000
attribute [local go_sem] bstr_size bstr_extract bstr_toList bstr_get

/-- a message on its way into a writer -/
def MS (w W : World) (b mb : Nat) (S : Str) (z : Bool) (cs : Array Value) : Prop := MW W b S z ∧ CBox W mb 29 cs ∧ w.grownBy W (some b) ∧ b < w.heap.size ∧ w.heap.size ≤ mb
theorem MS.wr {w W W' : World} {b mb : Nat} {S S' : Str} {z z' : Bool} {cs : Array Value} (h : MS w W b mb S z cs) (hr : MW W' b S' z') (hg : W.grownBy W' (some b)) : MS w W' b mb S' z' cs := by
  obtain ⟨h1, h2, h3, h4, h5⟩ := h
  exact ⟨hr, h2.grown hg (fun e => by injection e with e; omega), gb_trans h3 hg, h4, h5⟩
theorem MS.to {w W W' : World} {b mb : Nat} {S : Str} {z : Bool} {cs : Array Value} (h : MS w W b mb S z cs) (hb : Below W.heap.size W W') : MS w W' b mb S z cs := by
  obtain ⟨h1, h2, h3, h4, h5⟩ := h
  exact ⟨h1.to hb, h2.below hb h2.lt, gb_to h3 hb, h4, h5⟩
theorem MS.text {w W : World} {b mb : Nat} {S : Str} {z : Bool} {cs : Array Value} (h : MS w W b mb S z cs) (T : Str) : MS w (W.setCell ⟨b, 0, none⟩ (.string (bstr T))) b mb T z cs := by
  obtain ⟨h1, h2, h3, h4, h5⟩ := h
  exact ⟨CBox.set h1 0 _, h2.far (p := ⟨b, 0, none⟩) (show mb ≠ b by omega) _, gb_trans h3 (gb_set _ _ _ _), h4, h5⟩
theorem MS.bad {w W : World} {b mb : Nat} {S : Str} {z : Bool} {cs : Array Value} (h : MS w W b mb S z cs) (c : Bool) : MS w (W.setCell ⟨b, 1, none⟩ (.bool c)) b mb S c cs := by
  obtain ⟨h1, h2, h3, h4, h5⟩ := h
  exact ⟨CBox.set h1 1 _, h2.far (p := ⟨b, 1, none⟩) (show mb ≠ b by omega) _, gb_trans h3 (gb_set _ _ _ _), h4, h5⟩
theorem gb_over {w W : World} {b mb : Nat} (h : w.grownBy W (some b)) (hm : w.heap.size ≤ mb) (i : Nat) (u : Value) : w.grownBy (W.setCell ⟨mb, i, none⟩ u) (some b) :=
  ⟨h.os, h.tape, h.output, Nat.le_trans h.size (by simp [World.setCell]), fun k hk hne => (Below.heap_setCell W ⟨mb, i, none⟩ u k (show k ≠ mb by omega)).trans (h.block k hk hne)⟩
theorem MS.msg {w W : World} {b mb : Nat} {S : Str} {z : Bool} {cs : Array Value} (h : MS w W b mb S z cs) (i : Nat) (u : Value) : MS w (W.setCell ⟨mb, i, none⟩ u) b mb S z (cs.setIfInBounds i u) := by
  obtain ⟨h1, h2, h3, h4, h5⟩ := h
  exact ⟨CBox.far h1 (p := ⟨mb, i, none⟩) (show b ≠ mb by omega) u, h2.set i u, gb_over h3 h5 i u, h4, h5⟩
theorem MS.cast {w W : World} {b mb : Nat} {S : Str} {z : Bool} {cs : Array Value} (h : MS w W b mb S (z || false) cs) : MS w W b mb S z cs := by rw [Bool.or_false] at h; exact h
theorem MS.strs {w W : World} {b mb : Nat} {S : Str} {z : Bool} {cs : Array Value} {v : Value} {L : List Str} (h : MS w W b mb S z cs) (hs : Strs w v L) (hne : L ≠ [] → v.ownBlock ≠ some b) : Strs W v L := hs.grown' h.2.2.1 hne

def askC1 (g : Str) (ns nr : Nat) : Bool := decide (nr = 0) && ((decide (g = []) && decide (ns = 0)) || grp g 16)
def askC2 (v r : Int) (ns : Nat) : Bool := decide (v = 2) && decide (0 ≤ r) && decide (r ≤ 7) && decide (ns ≤ 60)
def gOr16 (g : Str) : Str := if g = [] then nobody16 else g
def RetAsk9 (w : World) (b : Nat) (m : Msg) (e : Ending) (w' : World) : Prop :=
  e = .returned (.tuple #[]) ∧ ∃ S z, MW w' b S z ∧ z = !mayM9 m ∧ (z = false → S = bytes9 m) ∧ w.grownBy w' (some b)

theorem grp_nil16 : grp [] 16 = false := rfl
theorem askC1_eq (g : Str) (L : List Str) (R : List Rec) : askC1 g L.length R.length = ((decide (g = []) || grp g 16) && decide (R = []) && (decide (g ≠ []) || decide (L = []))) := by
  unfold askC1
  have e1 : decide (R.length = 0) = decide (R = []) := by cases R <;> simp
  have e2 : decide (L.length = 0) = decide (L = []) := by cases L <;> simp
  rw [e1, e2]
  by_cases hg : g = []
  · subst hg
    rw [decide_eq_true (show ([] : Str) = [] from rfl), grp_nil16]
    cases decide (R = []) <;> cases decide (L = []) <;> rfl
  · rw [decide_eq_false hg, show decide (g ≠ []) = true from decide_eq_true hg]
    cases decide (R = []) <;> cases grp g 16 <;> rfl
theorem may9_short (g : Str) (mx : Int) (q : Bool) (r ev : Int) (L : List Str) (R : List Rec) : mayM9 ⟨1, 1, g, mx, q, r, ev, L, R⟩ = (askC1 g L.length R.length && okPut mx 2 && bareB 0 q r ev L.length R.length) := by
  rw [askC1_eq, bareB_bare 1 1 g 0 q r ev L R]
  have e : okPut mx 2 = (decide (0 ≤ mx) && decide (mx ≤ 65535)) := by
    unfold okPut
    congr 1
    exact decide_eq_decide.2 (by constructor <;> intro h <;> simp at h ⊢ <;> omega)
  rw [e]
  unfold mayM9
  rw [if_pos rfl, if_neg (show ¬ ((1 : Int) = 2) by decide)]
  dsimp only
  have hL : bare ⟨1, 1, g, 0, q, r, ev, L, R⟩ = true → L = [] := fun h => by unfold bare at h; simp at h; exact h.1.2
  cases hb : bare ⟨1, 1, g, 0, q, r, ev, L, R⟩
  · simp
  · rw [hL hb]
    simp [Bool.and_assoc]
theorem bytes9_short (g : Str) (mx : Int) (q : Bool) (r ev : Int) (L : List Str) (R : List Rec) (h : okPut mx 2 = true) : bytes9 ⟨1, 1, g, mx, q, r, ev, L, R⟩ = hdS 130 mx 0 ++ gOr16 g := by
  have e : putS mx 2 = ofN mx.toNat 2 := if_pos h
  have e0 : putS 0 2 = [0, 0] := by decide +kernel
  have h1 : bytes9 ⟨1, 1, g, mx, q, r, ev, L, R⟩ = [130, 0, 0, 0] ++ ofN mx.toNat 2 ++ [0, 0] ++ gOr16 g := rfl
  rw [h1]
  unfold hdS
  rw [e, e0]
def flV (r : Int) (q : Bool) : Int := min (if q then wrap64 (max r 0 + 8) else max r 0) 255
theorem flV_ok (r : Int) (q : Bool) (h0 : 0 ≤ r) (h7 : r ≤ 7) : okPut (flV r q) 1 = true ∧ putS (flV r q) 1 = ofN (r.toNat + if q then 8 else 0) 1 := by
  have e : flV r q = ((r.toNat + if q then 8 else 0 : Nat) : Int) := by
    unfold flV wrap64
    cases q <;> simp <;> omega
  have hk : okPut (flV r q) 1 = true := by
    rw [e]; unfold okPut
    rw [decide_eq_true (by omega), decide_eq_true (by cases q <;> simp <;> omega)]; rfl
  refine ⟨hk, ?_⟩
  unfold putS
  rw [if_pos hk, e, Int.toNat_natCast]
theorem encV12_put (n : Int) : putS (encV_12 n) 2 = ofN (encV_12 n) 2 ∧ okPut (encV_12 n) 2 = true := by
  have h := encV12_lt n
  have h1 : okPut (encV_12 n) 2 = true := by unfold okPut; rw [decide_eq_true (by omega), decide_eq_true (by omega)]; rfl
  unfold putS
  rw [if_pos h1, Int.toNat_natCast]
  exact ⟨rfl, h1⟩
theorem hdS_enc (n : Int) : hdS 130 (encV_12 n) 0 = [130, 0, 0, 0] ++ ofN (encV_12 n) 2 ++ [0, 0] ∧ hdZ (encV_12 n) 0 = false := by
  have h := encV12_put n
  have e0 : putS 0 2 = [0, 0] := by decide +kernel
  have z0 : okPut 0 2 = true := by decide +kernel
  unfold hdS hdZ
  rw [h.1, h.2, e0, z0]
  exact ⟨rfl, rfl⟩
theorem ex16 (n : Int) : ((encE n == 0) && (((pdecode (encV_12 n) 12 : Nat) : Int) == n)) = exact16 n := by
  unfold exact16 encE
  by_cases h0 : 0 ≤ n
  · have hcn : encV_12 n = pencode n.toNat 12 := by unfold encV_12; rw [if_pos h0]
    rw [if_pos h0, decide_eq_true h0, hcn]
    have e : (pdecode (pencode n.toNat 12) 12 = n.toNat) ↔ (((pdecode (pencode n.toNat 12) 12 : Nat) : Int) = n) := by omega
    by_cases h9 : pdecode (pencode n.toNat 12) 12 = n.toNat
    · rw [decide_eq_true h9, beq_iff_eq.2 (e.1 h9)]; rfl
    · rw [decide_eq_false h9, beq_eq_false_iff_ne.2 (fun h => h9 (e.2 h))]; rfl
  · rw [if_neg h0, decide_eq_false h0]; rfl
theorem ex8 (n : Int) : ((encE n == 0) && (((pdecode (encV_4 n) 4 : Nat) : Int) == n)) = exact8 n := by
  unfold exact8 encE
  by_cases h0 : 0 ≤ n
  · have hcn : encV_4 n = pencode n.toNat 4 := by unfold encV_4; rw [if_pos h0]
    rw [if_pos h0, decide_eq_true h0, hcn]
    have e : (pdecode (pencode n.toNat 4) 4 = n.toNat) ↔ (((pdecode (pencode n.toNat 4) 4 : Nat) : Int) = n) := by omega
    by_cases h9 : pdecode (pencode n.toNat 4) 4 = n.toNat
    · rw [decide_eq_true h9, beq_iff_eq.2 (e.1 h9)]; rfl
    · rw [decide_eq_false h9, beq_eq_false_iff_ne.2 (fun h => h9 (e.2 h))]; rfl
  · rw [if_neg h0, decide_eq_false h0]; rfl
theorem len16_int (x : Str) : ((x.length : Int) == 16) = decide (x.length = 16) := by rw [Bool.eq_iff_iff, beq_iff_eq, decide_eq_true_eq]; omega
theorem wrap_up (k n : Nat) (h : k < n) (hn : n ≤ 100) : wrap64 ((k : Int) + 1) = (k : Int) + 1 := w64 _ (by omega) (by omega)
def Lk (i : Nat) : Nat := 140737488351500 + 4 * i
theorem Lk_start (S G : Str) (h1 : S.length ≤ 100) (hG : G.length ≤ 140737488351232) : (S ++ G).length ≤ Lk 0 ∧ ¬ 9223372036854775807 < S.length + G.length := by
  unfold Lk; rw [List.length_append]; exact ⟨by omega, by omega⟩
theorem Lk_put (S P : Str) (i : Nat) (h : S.length ≤ Lk i) (hP : P.length ≤ 4) : (S ++ P).length ≤ Lk (i + 1) := by
  unfold Lk at *; rw [List.length_append]; omega
theorem Lk_le (S : Str) (i : Nat) (h : S.length ≤ Lk i) (hi : i ≤ 20) : S.length ≤ 36028797018963968 := by unfold Lk at h; omega
def Bk (k : Nat) : Nat := 140737488351600 + k * 140737488351232
theorem Bk_start (S : Str) (i : Nat) (h : S.length ≤ Lk i) (hi : i ≤ 20) : S.length ≤ Bk 0 := by unfold Lk at h; unfold Bk; omega
theorem Bk_step (T x : Str) (k n : Nat) (h : T.length ≤ Bk k) (hx : x.length ≤ 140737488351232) (hk : k < n) (hn : n ≤ 100) : (T ++ x).length ≤ Bk (k + 1) ∧ ¬ 9223372036854775807 < T.length + x.length := by
  unfold Bk at *; rw [List.length_append]; exact ⟨by omega, by omega⟩
attribute [irreducible] Lk Bk
def all16 (L : List Str) : Bool := L.all fun a => decide (a.length = 16)
theorem all16_snoc (L : List Str) (k : Nat) (h : k < L.length) : all16 (L.take (k + 1)) = (all16 (L.take k) && decide (L[k].length = 16)) := by
  unfold all16
  rw [take_snoc L k h, List.all_append]
  simp
theorem may9_long (v : Int) (g : Str) (mx : Int) (q : Bool) (r ev : Int) (L : List Str) (R : List Rec) (hv : v ≠ 1) : mayM9 ⟨1, v, g, mx, q, r, ev, L, R⟩ = (askC1 g L.length R.length && askC2 v r L.length && exact16 mx && exact8 ev && all16 L) := by
  rw [askC1_eq]
  unfold mayM9 askC2
  rw [if_pos rfl]
  dsimp only
  by_cases h2 : v = 2
  · rw [if_pos h2, decide_eq_true h2]
    unfold sized all16
    simp only [Bool.true_and]
    generalize (decide (g = []) || grp g 16) = a1
    generalize decide (R = []) = a2
    generalize (decide (g ≠ []) || decide (L = [])) = a3
    generalize exact16 mx = a4
    generalize exact8 ev = a5
    generalize decide (0 ≤ r) = a6
    generalize decide (r ≤ 7) = a7
    generalize decide (L.length ≤ 60) = a8
    generalize (L.all fun a => decide (a.length = 16)) = a9
    revert a1 a2 a3 a4 a5 a6 a7 a8 a9
    decide
  · rw [if_neg h2, decide_eq_false h2, decide_eq_false hv]
    simp
theorem exact16_nn (n : Int) (h : exact16 n = true) : encV_12 n = pencode n.toNat 12 := by
  unfold exact16 at h
  simp only [Bool.and_eq_true, decide_eq_true_eq] at h
  unfold encV_12
  rw [if_pos h.1]
theorem bytes9_long (v : Int) (g : Str) (mx : Int) (q : Bool) (r ev : Int) (L : List Str) (R : List Rec) (hv : v ≠ 1) (hm : mayM9 ⟨1, v, g, mx, q, r, ev, L, R⟩ = true) :
    bytes9 ⟨1, v, g, mx, q, r, ev, L, R⟩ = hdS 130 (encV_12 mx) 0 ++ gOr16 g ++ putS (flV r q) 1 ++ ofN (encV_4 ev) 1 ++ putS (min (L.length : Int) 60) 2 ++ L.flatten ∧ okPut (flV r q) 1 = true ∧ okPut (min (L.length : Int) 60) 2 = true := by
  rw [may9_long v g mx q r ev L R hv] at hm
  simp only [Bool.and_eq_true] at hm
  obtain ⟨⟨⟨⟨h1, h2⟩, h3⟩, h4⟩, h5⟩ := hm
  unfold askC2 at h2
  simp only [Bool.and_eq_true, decide_eq_true_eq] at h2
  have hf := flV_ok r q h2.1.1.2 h2.1.2
  have hn : min (L.length : Int) 60 = (L.length : Int) := by omega
  have hk : okPut (L.length : Int) 2 = true := by unfold okPut; rw [decide_eq_true (by omega), decide_eq_true (by omega)]; rfl
  have hp : putS (L.length : Int) 2 = ofN L.length 2 := by unfold putS; rw [if_pos hk, Int.toNat_natCast]
  rw [hn, hk, hf.1, hf.2, hp, (hdS_enc mx).1, exact16_nn mx h3, encV_nat ev (exact8_nn h4)]
  refine ⟨?_, rfl, rfl⟩
  have hb : bytes9 ⟨1, v, g, mx, q, r, ev, L, R⟩ = [130, 0, 0, 0] ++ ofN (pencode mx.toNat 12) 2 ++ [0, 0] ++ gOr16 g ++ ofN (r.toNat + if q then 8 else 0) 1 ++ ofN (pencode ev.toNat 4) 1 ++ ofN L.length 2 ++ L.flatten := by
    unfold bytes9
    rw [if_pos rfl, if_neg (show ¬ v = 1 from hv)]
    rfl
  rw [hb]

set_option maxHeartbeats 4000000 in
theorem mask_one (v mx r ev : Int) (g : Str) (q : Bool) (so : Option Addr) (L : List Str) (sc : Nat) (ro : Option Addr) (R : List Rec) (rc : Nat) (b : Nat) (w : World) (hw : MW w b [] false)
    (hs : Strs w (.slice so L.length sc) L) (hne : L ≠ [] → (Value.slice so L.length sc).ownBlock ≠ some b) (hg : g.length ≤ 140737488351232) (hL : L.length ≤ 100) (hLx : ∀ x ∈ L, x.length ≤ 140737488351232) (hv : v = 1) (hmx : mx < 2 ^ 63) (hev : ev < 2 ^ 63) :
    Calls Try.prog 29 #[.pointer (some ⟨b, 0, none⟩), .agg (msgCells 1 v g mx q r ev so L.length sc ro R.length rc)] w (RetAsk9 w b ⟨1, v, g, mx, q, r, ev, L, R⟩) := by
  have l1 := run_len_any (P := Try.prog) Try.underlying26 so L.length sc
  have l2 := run_len_any (P := Try.prog) Try.underlying27 ro R.length rc
  have b0 : (⟨#[]⟩ : ByteArray) = bstr [] := bstr_nil.symm
  have b16 : (⟨#[0, 0, 0, 0, 0, 0, 0, 0, 0, 0, 0, 0, 0, 0, 0, 0]⟩ : ByteArray) = bstr nobody16 := by rw [bstr_eq]; rfl
  obtain ⟨ns, hns⟩ : ∃ ns, L.length = ns := ⟨_, rfl⟩
  obtain ⟨nr, hnr⟩ : ∃ nr, R.length = nr := ⟨_, rfl⟩
  rw [hns] at l1 hs hne ⊢
  rw [hnr] at l2 ⊢
  obtain ⟨mb, hmb⟩ : ∃ mb, w.heap.size = mb := ⟨_, rfl⟩
  obtain ⟨W1, hW1⟩ : ∃ W1, w.alloc (.cells (msgCells 1 v g mx q r ev so ns sc ro nr rc) 29) = W1 := ⟨_, rfl⟩
  have HA1 := Lib.hid (show MS w W1 b mb [] false #[.int .i64 1, .int .i64 v, .string (bstr g), .int .i64 mx, .bool q, .int .i64 r, .int .i64 ev, .slice so ns sc, .slice ro nr rc] from by
    have k1 : Below w.heap.size w W1 := by rw [← hW1]; exact (Below.refl _ _).alloc (Nat.le_refl _) _
    exact ⟨hw.to k1, by rw [← hW1]; exact CBox.new _ hmb.symm, gb_below k1 _, CBox.lt hw, Nat.le_of_eq hmb⟩)
  have HW1 := Lib.hid hW1; have HMB := Lib.hid hmb
  have HSL := Lib.hid (And.intro hs hne)
  have HNN := Lib.hid (And.intro hns hnr)
  have HGL := Lib.hid hg
  have HLX := Lib.hid (And.intro (hns ▸ hL) hLx)
  have HGM := Lib.hid (show g.length ≤ maxLen from Nat.le_trans hg (by decide))
  have HGR := Lib.hid (fun W => mgroup_any g W HGM.out)
  obtain ⟨c1, hc1⟩ : ∃ c, askC1 g ns nr = c := ⟨_, rfl⟩
  have HC1 := Lib.hid hc1
  have HE := Lib.hid (And.intro hmx hev)
  have HVV := Lib.hid hv
  clear hv hw hs hne hg hL hLx hmx hev hns hnr hmb hW1 hc1
  go_enter Try.func29, Try.ntmps29
  go_upto_region 1 with fail
  rw [HMB.out, HW1.out]
  go_cut [] (fun w' => MS w w' b mb [] (!c1) #[.int .i64 1, .int .i64 v, .string (bstr g), .int .i64 mx, .bool q, .int .i64 r, .int .i64 ev, .slice so ns sc, .slice ro nr rc])
  case first =>
    have x8 := (HA1.out.2.1.at_ 8 _ rfl).1
    have x2 := (HA1.out.2.1.at_ 2 _ rfl).1
    have x7 := (HA1.out.2.1.at_ 7 _ rfl).1
    have HWT := Lib.hid (fun W c (h : MS w W b mb [] false #[.int .i64 1, .int .i64 v, .string (bstr g), .int .i64 mx, .bool q, .int .i64 r, .int .i64 ev, .slice so ns sc, .slice ro nr rc]) => mwant_any b [] false c W h.1)
    unfold RetMW at HWT
    by_cases h1 : nr = 0
    · have q1 : ((nr : Int) == 0) = true := beq_iff_eq.2 (by omega)
      have q1' : (nr == 0) = true := beq_iff_eq.2 h1
      by_cases h2 : g = []
      · by_cases h3 : ns = 0
        · have q3 : ((ns : Int) == 0) = true := beq_iff_eq.2 (by omega)
          have q3' : (ns == 0) = true := beq_iff_eq.2 h3
          have hc : c1 = true := by rw [← HC1.out]; unfold askC1; rw [decide_eq_true h1, decide_eq_true h2, decide_eq_true h3]; rfl
          subst hc h2
          clear h1 h3
          go_wp2_with ((with_reducible refine (HWT.out _ _ HA1.out).mono ?_); rintro e w3 ⟨rfl, hm, hg⟩; have HA3 := Lib.hid (HA1.out.wr hm hg); clear hm hg)
          go_meet
          case rel => exact HA3.out
        · have q3 : ((ns : Int) == 0) = false := beq_eq_false_iff_ne.2 (by omega)
          have q3' : (ns == 0) = false := beq_eq_false_iff_ne.2 h3
          have hc : c1 = false := by rw [← HC1.out]; unfold askC1; rw [decide_eq_true h1, decide_eq_true h2, decide_eq_false h3, h2, grp_nil16]; rfl
          subst hc h2
          rw [grp_nil16] at HGR
          clear h1 h3
          go_wp2_with (first | ((with_reducible refine (HGR.out _).mono ?_); rintro e w2 ⟨rfl, hb2⟩; have HA2 := Lib.hid (HA1.out.to hb2); clear hb2) | ((with_reducible refine (HWT.out _ _ HA2.out).mono ?_); rintro e w3 ⟨rfl, hm, hg⟩; have HA3 := Lib.hid (HA2.out.wr hm hg); clear hm hg))
          go_meet
          case rel => exact HA3.out
      · have q2 : (g == []) = false := beq_eq_false_iff_ne.2 h2
        have q2' : g.isEmpty = false := isEmpty_ne h2
        have hc : c1 = grp g 16 := by rw [← HC1.out]; unfold askC1; rw [decide_eq_true h1, decide_eq_false h2]; rfl
        rw [← hc] at HGR
        clear h1 h2 hc
        go_wp2_with (first | ((with_reducible refine (HGR.out _).mono ?_); rintro e w2 ⟨rfl, hb2⟩; have HA2 := Lib.hid (HA1.out.to hb2); clear hb2) | ((with_reducible refine (HWT.out _ _ HA2.out).mono ?_); rintro e w3 ⟨rfl, hm, hg⟩; have HA3 := Lib.hid (HA2.out.wr hm hg); clear hm hg))
        go_meet
        case rel => exact HA3.out
    · have q1 : ((nr : Int) == 0) = false := beq_eq_false_iff_ne.2 (by omega)
      have q1' : (nr == 0) = false := beq_eq_false_iff_ne.2 h1
      have hc : c1 = false := by rw [← HC1.out]; unfold askC1; rw [decide_eq_false h1]; rfl
      subst hc
      clear h1
      go_wp2_with ((with_reducible refine (HWT.out _ _ HA1.out).mono ?_); rintro e w3 ⟨rfl, hm, hg⟩; have HA3 := Lib.hid (HA1.out.wr hm hg); clear hm hg)
      go_meet
      case rel => exact HA3.out
  case rest =>
    have HA2 := Lib.hid hcut
    clear hcut HA1
    obtain ⟨z0, hz0⟩ : ∃ z, (!c1) = z := ⟨_, rfl⟩
    rw [hz0] at HA2
    have HZ0 := Lib.hid hz0
    clear hz0
    obtain ⟨G, hG⟩ : ∃ G, gOr16 g = G := ⟨_, rfl⟩
    have HG := Lib.hid hG
    have x2 := (HA2.out.2.1.at_ 2 _ rfl).1
    go_upto_if 38 with fail
    obtain ⟨t, ht⟩ : ∃ t, List.isEmpty g = t := ⟨_, rfl⟩
    rw [ht]
    go_cut [4] (fun s4 w' => s4 = .string (bstr G) ∧ MS w w' b mb [] z0 #[.int .i64 1, .int .i64 v, .string (bstr g), .int .i64 mx, .bool q, .int .i64 r, .int .i64 ev, .slice so ns sc, .slice ro nr rc])
    case first =>
      cases t
      rotate_left
      · have hG1 : G = nobody16 := by rw [← hG]; exact if_pos (List.isEmpty_iff.1 ht)
        clear hG ht
        go_wp2_with fail
        go_meet
        case rel => exact ⟨by rw [hG1, ← b16], HA2.out⟩
      · have hG1 : G = g := by rw [← hG]; exact if_neg (fun h => by rw [h] at ht; cases ht)
        clear hG ht
        go_wp2_with fail
        go_meet
        case rel => exact ⟨by rw [hG1], HA2.out⟩
    case rest =>
      obtain ⟨rfl, hcc⟩ := hcut
      have HA3 := Lib.hid hcc
      clear hcc hG x2 HA2 ht
      have HGG := Lib.hid (show G.length ≤ 140737488351232 from by
        rw [← HG.out]
        unfold gOr16
        split
        · decide
        · exact HGL.out)
      have x1 := (HA3.out.2.1.at_ 1 _ rfl).1
      have hv := HVV.out
      subst hv
      have x3 := (HA3.out.2.1.at_ 3 _ rfl).1
      have HHD := Lib.hid (show Calls Try.prog 58 #[.pointer (some ⟨b, 0, none⟩), .int .i64 130, .int .i64 mx, .int .i64 0] wc _ from mhead_any b z0 130 130 mx 0 wc HA3.out.1 rfl)
      obtain ⟨S1, hS1⟩ : ∃ S, hdS 130 mx 0 = S := ⟨_, rfl⟩
      obtain ⟨z1, hz1⟩ : ∃ z, (z0 || hdZ mx 0) = z := ⟨_, rfl⟩
      rw [hS1, hz1] at HHD
      unfold RetMW at HHD
      have HZ1 := Lib.hid (And.intro hS1 hz1)
      have hl1 : S1.length ≤ 100 := by rw [← hS1]; unfold hdS; have := putS_le mx 2; have := putS_le 0 2; simp; omega
      have n1 := (Lk_start S1 G hl1 HGG.out).2
      have a1 : bstr S1 ++ bstr G = bstr (S1 ++ G) := bstr_append _ _
      clear hS1 hz1 hl1
      go_upto_region 7 with ((with_reducible refine HHD.out.mono ?_); rintro e w4 ⟨rfl, hm, hg⟩; have HA4 := Lib.hid (HA3.out.wr hm hg); clear hm hg x1 x3)
      obtain ⟨y0, yf0⟩ := CBox.at_ HA4.out.1 0 _ rfl
      go_upto_region 8 with fail
      have HA5 := Lib.hid (HA4.out.text (S1 ++ G))
      obtain ⟨W5, hW5⟩ : ∃ W, w4.setCell ⟨b, 0, none⟩ (.string (bstr (S1 ++ G))) = W := ⟨_, rfl⟩
      rw [hW5] at HA5 ⊢
      clear hW5 y0 yf0 n1 a1
      obtain ⟨x3, xf3⟩ := HA5.out.2.1.at_ 3 _ rfl
      go_upto_region 9 with fail
      have HA6 := Lib.hid (show MS w (W5.setCell ⟨mb, 3, none⟩ (.int .i64 0)) b mb (S1 ++ G) z1 #[.int .i64 1, .int .i64 1, .string (bstr g), .int .i64 0, .bool q, .int .i64 r, .int .i64 ev, .slice so ns sc, .slice ro nr rc] from HA5.out.msg 3 _)
      obtain ⟨W6, hW6⟩ : ∃ W, W5.setCell ⟨mb, 3, none⟩ (.int .i64 0) = W := ⟨_, rfl⟩
      rw [hW6] at HA6 ⊢
      clear hW6 x3 xf3
      obtain ⟨x0, xf0⟩ := CBox.at_ HA6.out.2.1 0 _ rfl
      obtain ⟨x1, xf1⟩ := CBox.at_ HA6.out.2.1 1 _ rfl
      obtain ⟨x2, xf2⟩ := CBox.at_ HA6.out.2.1 2 _ rfl
      obtain ⟨x3, xf3⟩ := CBox.at_ HA6.out.2.1 3 _ rfl
      obtain ⟨x4, xf4⟩ := CBox.at_ HA6.out.2.1 4 _ rfl
      obtain ⟨x5, xf5⟩ := CBox.at_ HA6.out.2.1 5 _ rfl
      obtain ⟨x6, xf6⟩ := CBox.at_ HA6.out.2.1 6 _ rfl
      obtain ⟨x7, xf7⟩ := CBox.at_ HA6.out.2.1 7 _ rfl
      obtain ⟨x8, xf8⟩ := CBox.at_ HA6.out.2.1 8 _ rfl
      have HBR := Lib.hid (mbare_any 1 1 0 r ev g q so ns sc ro nr rc W6)
      obtain ⟨c9, hc9⟩ : ∃ c, bareB 0 q r ev ns nr = c := ⟨_, rfl⟩
      rw [hc9] at HBR
      have HC9 := Lib.hid hc9
      clear hc9
      have HWT := Lib.hid (fun W (h : MS w W b mb (S1 ++ G) z1 #[.int .i64 1, .int .i64 1, .string (bstr g), .int .i64 0, .bool q, .int .i64 r, .int .i64 ev, .slice so ns sc, .slice ro nr rc]) => mwant_any b (S1 ++ G) z1 c9 W h.1)
      unfold RetMW at HWT
      go_wp2_with (first | ((with_reducible refine HBR.out.mono ?_); rintro e w7 ⟨rfl, hb7⟩; have HA7 := Lib.hid (HA6.out.to hb7); clear hb7) | ((with_reducible refine (HWT.out w7 HA7.out).mono ?_); rintro e w8 ⟨rfl, hm, hg⟩; have HA8 := Lib.hid (HA7.out.wr hm hg); clear hm hg))
      go_end0
      have hmm := may9_short g mx q r ev L R
      rw [HNN.out.1, HNN.out.2, HC1.out, HC9.out] at hmm
      have hzz : (z1 || !c9) = !mayM9 ⟨1, 1, g, mx, q, r, ev, L, R⟩ := by
        rw [hmm, ← HZ1.out.2, ← HZ0.out]
        unfold hdZ
        rw [show okPut 0 2 = true from by decide +kernel]
        cases c1 <;> cases okPut mx 2 <;> cases c9 <;> rfl
      refine ⟨rfl, _, _, HA8.out.1, hzz, fun h => ?_, HA8.out.2.2.1⟩
      rw [hzz, hmm] at h
      have hk : okPut mx 2 = true := by revert h; cases c1 <;> cases okPut mx 2 <;> cases c9 <;> decide
      rw [bytes9_short g mx q r ev L R hk, HZ1.out.1, HG.out]
end Go.Proofs.Ythkibgdeibolfaa
