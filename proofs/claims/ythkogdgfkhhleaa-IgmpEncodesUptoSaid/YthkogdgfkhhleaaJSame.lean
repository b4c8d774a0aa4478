/- siphonref08.Same where both are the same; live. -/
import Derived.Test.YthkogdgfkhhleaaJEncode
import Derived.Test.YthkogdgfkhhleaaJDecode2
import Derived.Test.YthkogdgfkhhleaaRecs
namespace Go.Proofs.Ythkogdgfkhhleaa
open Go.RowKit Go.Sort
set_option maxRecDepth 20000
set_option maxRecDepth 20000
attribute [local go_sem] bstr_size bstr_extract bstr_toList bstr_get

theorem ssame_yes (v u : Value) (A : List Str) (w : World) (h : Strs w v A) (h' : Strs w u A) :
    Calls Try.prog 32 #[v, u] w fun e w' => e = .returned (.bool true) ∧ Below w.heap.size w w' :=
  (ssame_any v u A A w h h').mono fun e w' ⟨he, n, hw⟩ => ⟨by rw [he, beq_self_eq_true], hw ▸ below_draws _ (Below.refl _ _) n⟩
theorem srecs_yes (v u : Value) (A : List Rec) (w : World) (h : Recs w v A) (h' : Recs w u A) :
    Calls Try.prog 22 #[v, u] w fun e w' => e = .returned (.bool true) ∧ Below w.heap.size w w' :=
  (samerecs_any v u A A w h h').mono fun e w' ⟨he, n, hw⟩ => ⟨by rw [he, decide_eq_true rfl], hw ▸ below_draws _ (Below.refl _ _) n⟩

set_option maxHeartbeats 4000000 in
theorem same_yes (k v mx r ev : Int) (g : Str) (q : Bool) (so : Option Addr) (L : List Str) (sc : Nat) (ro : Option Addr) (R : List Rec) (rc : Nat) (so' : Option Addr) (sc' : Nat) (ro' : Option Addr) (rc' : Nat) (w : World)
    (hs : Strs w (.slice so L.length sc) L) (hr : Recs w (.slice ro R.length rc) R) (hs' : Strs w (.slice so' L.length sc') L) (hr' : Recs w (.slice ro' R.length rc') R) :
    Calls Try.prog 13 #[.agg (msgCells k v g mx q r ev so L.length sc ro R.length rc), .agg (msgCells k v g mx q r ev so' L.length sc' ro' R.length rc')] w fun e w' => e = .returned (.bool true) ∧ Below w.heap.size w w' := by
  obtain ⟨ns, hns⟩ : ∃ ns, L.length = ns := ⟨_, rfl⟩
  obtain ⟨nr, hnr⟩ : ∃ nr, R.length = nr := ⟨_, rfl⟩
  rw [hns] at hs hs' ⊢
  rw [hnr] at hr hr' ⊢
  obtain ⟨b1, hb1⟩ : ∃ b, w.heap.size = b := ⟨_, rfl⟩
  obtain ⟨W1, hW1⟩ : ∃ W1, w.alloc (.cells (msgCells k v g mx q r ev so ns sc ro nr rc) 27) = W1 := ⟨_, rfl⟩
  obtain ⟨W2, hW2⟩ : ∃ W2, W1.alloc (.cells (msgCells k v g mx q r ev so' ns sc' ro' nr rc') 27) = W2 := ⟨_, rfl⟩
  have hz1 : W1.heap.size = b1 + 1 := by rw [← hW1, World.size_alloc, hb1]
  have k1 : Below w.heap.size w W1 := by rw [← hW1]; exact (Below.refl _ _).alloc (Nat.le_refl _) _
  have k2 : Below W1.heap.size W1 W2 := by rw [← hW2]; exact (Below.refl _ _).alloc (Nat.le_refl _) _
  have X1 : CBox W2 b1 27 (msgCells k v g mx q r ev so ns sc ro nr rc) := (show CBox W1 b1 _ _ from by rw [← hW1]; exact CBox.new _ hb1.symm).below k2 (by omega)
  have X2 : CBox W2 (b1 + 1) 27 (msgCells k v g mx q r ev so' ns sc' ro' nr rc') := by rw [← hW2]; exact CBox.new _ hz1.symm
  have HX1 := Lib.hid X1; have HX2 := Lib.hid X2
  have HB := Lib.hid (show Below b1 w W2 from by rw [← hb1]; exact k1.trans (k2.mono k1.size))
  have HS := Lib.hid (fun W (hb : Below W2.heap.size W2 W) => ssame_yes _ _ L W (((hs.mono k1).mono k2).mono hb) (((hs'.mono k1).mono k2).mono hb))
  have HR := Lib.hid (fun W (hb : Below W2.heap.size W2 W) => srecs_yes _ _ R W (((hr.mono k1).mono k2).mono hb) (((hr'.mono k1).mono k2).mono hb))
  have HB1 := Lib.hid hb1; have HW1 := Lib.hid hW1; have HW2 := Lib.hid hW2; have HZ1 := Lib.hid hz1
  clear hs hr hs' hr' hns hnr hb1 hW1 hW2 hz1 k1 k2 X1 X2
  go_enter Try.func13, Try.ntmps13
  go_upto_region 1 with fail
  rw [HB1.out, HW1.out, HW2.out]
  obtain ⟨x0, xf0⟩ := CBox.at_ HX1.out 0 _ rfl
  obtain ⟨x1, xf1⟩ := CBox.at_ HX1.out 1 _ rfl
  obtain ⟨x2, xf2⟩ := CBox.at_ HX1.out 2 _ rfl
  obtain ⟨x3, xf3⟩ := CBox.at_ HX1.out 3 _ rfl
  obtain ⟨x4, xf4⟩ := CBox.at_ HX1.out 4 _ rfl
  obtain ⟨x5, xf5⟩ := CBox.at_ HX1.out 5 _ rfl
  obtain ⟨x6, xf6⟩ := CBox.at_ HX1.out 6 _ rfl
  obtain ⟨x7, xf7⟩ := CBox.at_ HX1.out 7 _ rfl
  obtain ⟨x8, xf8⟩ := CBox.at_ HX1.out 8 _ rfl
  obtain ⟨y0, yf0⟩ := CBox.at_ HX2.out 0 _ rfl
  obtain ⟨y1, yf1⟩ := CBox.at_ HX2.out 1 _ rfl
  obtain ⟨y2, yf2⟩ := CBox.at_ HX2.out 2 _ rfl
  obtain ⟨y3, yf3⟩ := CBox.at_ HX2.out 3 _ rfl
  obtain ⟨y4, yf4⟩ := CBox.at_ HX2.out 4 _ rfl
  obtain ⟨y5, yf5⟩ := CBox.at_ HX2.out 5 _ rfl
  obtain ⟨y6, yf6⟩ := CBox.at_ HX2.out 6 _ rfl
  obtain ⟨y7, yf7⟩ := CBox.at_ HX2.out 7 _ rfl
  obtain ⟨y8, yf8⟩ := CBox.at_ HX2.out 8 _ rfl
  have RF := Lib.hid (Below.refl W2.heap.size W2)
  go_wp2_with (first | ((with_reducible refine (HS.out _ RF.out).mono ?_); rintro e w3 ⟨rfl, hb3⟩; have HB3 := Lib.hid hb3; have HX3 := Lib.hid (HX1.out.below hb3 HX1.out.lt); have HX4 := Lib.hid (HX2.out.below hb3 HX2.out.lt); clear hb3 x0 xf0 x1 xf1 x2 xf2 x3 xf3 x4 xf4 x5 xf5 x6 xf6 x7 xf7 x8 xf8 y0 yf0 y1 yf1 y2 yf2 y3 yf3 y4 yf4 y5 yf5 y6 yf6 y7 yf7 y8 yf8; obtain ⟨x8, xf8⟩ := HX3.out.at_ 8 _ rfl; obtain ⟨y8, yf8⟩ := HX4.out.at_ 8 _ rfl) | ((with_reducible refine (HR.out _ HB3.out).mono ?_); rintro e w4 ⟨rfl, hb4⟩; have HB4 := Lib.hid (HB.out.trans ((HB3.out.mono (Nat.le_of_lt HX1.out.lt)).trans (hb4.mono (Nat.le_trans (Nat.le_of_lt HX1.out.lt) HB3.out.size)))); clear hb4))
  go_ret
  exact ⟨rfl, HB1.out ▸ HB4.out⟩

def liveM : Msg := ⟨3, 2, [224, 1, 2, 3], 0, false, 0, 0, [], []⟩
theorem live_enc : penc liveM = ([23, 0, 6, 251, 224, 1, 2, 3], 0) := by decide +kernel
theorem live_dec : pdec [23, 0, 6, 251, 224, 1, 2, 3] = (0, liveM) := by decide +kernel
theorem live_bad : pdec [23, 0, 6, 251, 224, 1, 2, 4] = (4, Msg.zero) := by decide +kernel
theorem live_not : penc Msg.zero = ([], 1) := by decide +kernel
theorem live_c1 (w : World) : Calls Try.prog 16 #[.agg #[.int .i64 3, .int .i64 2, .string (bstr [224, 1, 2, 3]), .int .i64 0, .bool false, .int .i64 0, .int .i64 0, .slice none 0 0, .slice none 0 0]] w (RetBody w [23, 0, 6, 251, 224, 1, 2, 3] 0) := by
  have h := encode_any 3 2 0 0 0 [224, 1, 2, 3] false none [] 0 none [] 0 w (Strs.nil _) (Recs.nil _) (by decide) (by decide) (by decide) (by decide) (by decide)
  rw [show penc ⟨3, 2, [224, 1, 2, 3], 0, false, 0, 0, [], []⟩ = ([23, 0, 6, 251, 224, 1, 2, 3], 0) from live_enc] at h
  exact h
theorem live_c2 (w : World) : Calls Try.prog 16 #[.agg #[.int .i64 0, .int .i64 0, .string (bstr []), .int .i64 0, .bool false, .int .i64 0, .int .i64 0, .slice none 0 0, .slice none 0 0]] w (RetBody w [] 1) := by
  have h := encode_any 0 0 0 0 0 [] false none [] 0 none [] 0 w (Strs.nil _) (Recs.nil _) (by decide) (by decide) (by decide) (by decide) (by decide)
  rw [show penc ⟨0, 0, [], 0, false, 0, 0, [], []⟩ = ([], 1) from live_not] at h
  exact h
def RetDec (w : World) (k v : Int) (g : Str) (er : Int) (e : Ending) (w' : World) : Prop := ∃ so sc ro rc, e = .returned (.tuple #[.agg #[.int .i64 k, .int .i64 v, .string (bstr g), .int .i64 0, .bool false, .int .i64 0, .int .i64 0, .slice so 0 sc, .slice ro 0 rc], .int .i64 er]) ∧ Below w.heap.size w w'
theorem ret_dec (w w' : World) (e : Ending) (k v : Int) (g : Str) (er : Int) (h : RetMsg w er ⟨k, v, g, 0, false, 0, 0, [], []⟩ e w') : RetDec w k v g er e w' := by
  obtain ⟨vs, vr, he, hs, _, hr, hb⟩ := h
  obtain ⟨so, sc, rfl⟩ := hs.shape
  obtain ⟨ro, rc, rfl⟩ := hr.shape
  exact ⟨so, sc, ro, rc, he, hb⟩
theorem live_c3 (w : World) : Calls Try.prog 11 #[.string (bstr [23, 0, 6, 251, 224, 1, 2, 3])] w (RetDec w 3 2 [224, 1, 2, 3] 0) := by
  have h := decode_any [23, 0, 6, 251, 224, 1, 2, 3] w (by decide)
  rw [live_dec] at h
  exact h.mono fun e w' hh => ret_dec w w' e _ _ _ _ hh
theorem live_c4 (w : World) : Calls Try.prog 11 #[.string (bstr [23, 0, 6, 251, 224, 1, 2, 4])] w (RetDec w 0 0 [] 4) := by
  have h := decode_any [23, 0, 6, 251, 224, 1, 2, 4] w (by decide)
  rw [live_bad] at h
  exact h.mono fun e w' hh => ret_dec w w' e _ _ _ _ hh
set_option maxHeartbeats 4000000 in
theorem live_yes (w : World) : Calls Try.prog 10 #[] w fun e w' => e = .returned (.bool true) ∧ Below w.heap.size w w' := by
  have b0 : (⟨#[]⟩ : ByteArray) = bstr [] := bstr_nil.symm
  have b3 : (⟨#[224, 1, 2, 3]⟩ : ByteArray) = bstr [224, 1, 2, 3] := by rw [bstr_eq]
  have b7 : (⟨#[23, 0, 6, 251, 224, 1, 2, 3]⟩ : ByteArray) = bstr [23, 0, 6, 251, 224, 1, 2, 3] := by rw [bstr_eq]
  have b8 : (⟨#[23, 0, 6, 251, 224, 1, 2, 4]⟩ : ByteArray) = bstr [23, 0, 6, 251, 224, 1, 2, 4] := by rw [bstr_eq]
  have H1 := Lib.hid (live_c1 w)
  unfold RetBody at H1
  go_enter Try.func10, Try.ntmps10
  have H2 := Lib.hid live_c3
  have H3 := Lib.hid live_c4
  have H4 := Lib.hid live_c2
  unfold RetBody at H4
  go_upto_region 3 with (first | ((with_reducible refine H1.out.mono ?_); rintro e w1 ⟨rfl, hb1⟩; have HB1 := Lib.hid hb1; clear hb1) | ((with_reducible refine (H2.out _).mono ?_); rintro e w2 ⟨so, sc, ro, rc, rfl, hb2⟩; have HB2 := Lib.hid (HB1.out.trans (hb2.mono HB1.out.size)); clear hb2))
  obtain ⟨W3, hW3⟩ : ∃ W3, w2.alloc (.cells (msgCells 3 2 [224, 1, 2, 3] 0 false 0 0 so 0 sc ro 0 rc) 27) = W3 := ⟨_, rfl⟩
  obtain ⟨mb, hmb⟩ : ∃ mb, w2.heap.size = mb := ⟨_, rfl⟩
  have hb3 : Below w2.heap.size w2 W3 := by rw [← hW3]; exact (Below.refl _ _).alloc (Nat.le_refl _) _
  have HX3 := Lib.hid (show CBox W3 mb 27 (msgCells 3 2 [224, 1, 2, 3] 0 false 0 0 so 0 sc ro 0 rc) from by rw [← hW3]; exact CBox.new _ hmb.symm)
  have HB3 := Lib.hid (HB2.out.trans (hb3.mono HB2.out.size))
  rw [hW3, hmb]
  clear hW3 hmb hb3 H1 H2
  go_upto_region 4 with ((with_reducible refine (H3.out _).mono ?_); rintro e w4 ⟨so', sc', ro', rc', rfl, hb4⟩; have HX4 := Lib.hid (HX3.out.below hb4 HX3.out.lt); have HB4 := Lib.hid (HB3.out.trans (hb4.mono HB3.out.size)); clear hb4)
  obtain ⟨W5, hW5⟩ : ∃ W5, w4.alloc (.cells (msgCells 0 0 [] 0 false 0 0 so' 0 sc' ro' 0 rc') 27) = W5 := ⟨_, rfl⟩
  have hb5 : Below w4.heap.size w4 W5 := by rw [← hW5]; exact (Below.refl _ _).alloc (Nat.le_refl _) _
  have HX5 := Lib.hid (HX4.out.below hb5 HX4.out.lt)
  have HB5 := Lib.hid (HB4.out.trans (hb5.mono HB4.out.size))
  rw [hW5]
  clear hW5 hb5 H3
  go_wp2_with ((with_reducible refine (H4.out _).mono ?_); rintro e w6 ⟨rfl, hb6⟩; have HX6 := Lib.hid (HX5.out.below hb6 HX5.out.lt); have HB6 := Lib.hid (HB5.out.trans (hb6.mono HB5.out.size)); obtain ⟨x0, xf0⟩ := HX6.out.at_ 0 _ rfl; obtain ⟨x2, xf2⟩ := HX6.out.at_ 2 _ rfl; clear hb6)
  go_ret
  exact ⟨rfl, HB6.out⟩
end Go.Proofs.Ythkogdgfkhhleaa
