/- Texts joined into one file: MWr. -/
import Derived.Test.YthkibgdeibolfaaQ17
import Derived.Test.YthkibgdeibolfaaQ13

/- mld.writer: put, want, head; mld.bare. -/
namespace Go.Proofs.Ythkibgdeibolfaa
open Go.RowKit Go.Sort
set_option maxRecDepth 20000
set_option maxRecDepth 20000
attribute [local go_sem] bstr_size bstr_extract bstr_toList bstr_get

/-- a writer at block b: its text, and whether something does not fit -/
def MW (w : World) (b : Nat) (S : Str) (bad : Bool) : Prop := CBox w b 59 #[.string (bstr S), .bool bad]
def RetMW (w : World) (b : Nat) (S : Str) (bad : Bool) (e : Ending) (w' : World) : Prop := e = .returned (.tuple #[]) ∧ MW w' b S bad ∧ w.grownBy w' (some b)
theorem putS_le (n : Int) (k : Nat) : (putS n k).length ≤ k := by
  unfold putS
  split
  · rw [ofN_length]; exact Nat.le_refl _
  · exact Nat.zero_le _
set_option maxHeartbeats 1000000 in
theorem mput_any (b : Nat) (S : Str) (z : Bool) (n : Int) (k : Nat) (w : World) (h : MW w b S z) (h1 : 1 ≤ k) (h4 : k ≤ 4) (hS : S.length ≤ 36028797018963968) :
    Calls Try.prog 61 #[.pointer (some ⟨b, 0, none⟩), .int .i64 n, .int .i64 k] w (RetMW w b (S ++ putS n k) (z || !okPut n k)) := by
  have HP := Lib.hid (put_any n k w h1 h4)
  have HX := Lib.hid (show CBox w b 59 #[.string (bstr S), .bool z] from h)
  obtain ⟨T, hT⟩ : ∃ T, putS n k = T := ⟨_, rfl⟩
  have hTl : T.length ≤ 4 := by rw [← hT]; exact Nat.le_trans (putS_le n k) h4
  have n1 : ¬ 9223372036854775807 < S.length + T.length := by omega
  have a1 : bstr S ++ bstr T = bstr (S ++ T) := bstr_append _ _
  obtain ⟨o, ho⟩ : ∃ o, okPut n k = o := ⟨_, rfl⟩
  rw [hT, ho] at HP
  rw [hT, ho]
  clear h h1 h4 hS hT hTl ho
  unfold RetMW
  cases o
  · rw [if_neg (show ¬ (false = true) by decide)] at HP
    cases z
    all_goals
      go_enter Try.func61, Try.ntmps61
      go_wp2_with ((with_reducible refine HP.out.mono ?_); rintro e w2 ⟨rfl, hb2⟩; have HX2 := Lib.hid (HX.out.below hb2 HX.out.lt); have HG2 := Lib.hid (gb_below hb2 (some b)); obtain ⟨x0, xf0⟩ := HX2.out.at_ 0 _ rfl; obtain ⟨x1, xf1⟩ := HX2.out.at_ 1 _ rfl; clear hb2)
      go_end0
      exact ⟨rfl, (HX2.out.set 1 _).set 0 _, gb_trans HG2.out (gb_trans (gb_set _ _ _ _) (gb_set _ _ _ _))⟩
  · have HP := Lib.hid (show Calls Try.prog 35 #[.int .i64 n, .int .i64 k] w fun e w' => e = .returned (.tuple #[.string (bstr T), .int .i64 0]) ∧ Below w.heap.size w w' from HP.out)
    cases z
    all_goals
      go_enter Try.func61, Try.ntmps61
      go_wp2_with ((with_reducible refine HP.out.mono ?_); rintro e w2 ⟨rfl, hb2⟩; have HX2 := Lib.hid (HX.out.below hb2 HX.out.lt); have HG2 := Lib.hid (gb_below hb2 (some b)); obtain ⟨x0, xf0⟩ := HX2.out.at_ 0 _ rfl; obtain ⟨x1, xf1⟩ := HX2.out.at_ 1 _ rfl; clear hb2)
      go_end0
      exact ⟨rfl, (HX2.out.set 1 _).set 0 _, gb_trans HG2.out (gb_trans (gb_set _ _ _ _) (gb_set _ _ _ _))⟩
theorem mwant_any (b : Nat) (S : Str) (z c : Bool) (w : World) (h : MW w b S z) :
    Calls Try.prog 57 #[.pointer (some ⟨b, 0, none⟩), .bool c] w (RetMW w b S (z || !c)) := by
  have HX := Lib.hid (show CBox w b 59 #[.string (bstr S), .bool z] from h)
  obtain ⟨x1, xf1⟩ := HX.out.at_ 1 _ rfl
  clear h
  unfold RetMW
  cases z <;> cases c
  all_goals
    go_enter Try.func57, Try.ntmps57
    go_wp2_with fail
    go_end0
    exact ⟨rfl, HX.out.set 1 _, gb_set _ _ _ _⟩
set_option maxHeartbeats 4000000 in
theorem mbare_any (k v mx r ev : Int) (g : Str) (q : Bool) (so : Option Addr) (ns sc : Nat) (ro : Option Addr) (nr rc : Nat) (w : World) :
    Calls Try.prog 59 #[.agg #[.int .i64 k, .int .i64 v, .string (bstr g), .int .i64 mx, .bool q, .int .i64 r, .int .i64 ev, .slice so ns sc, .slice ro nr rc]] w fun e w' => e = .returned (.bool (bareB mx q r ev ns nr)) ∧ Below w.heap.size w w' := by
  unfold bareB
  have l1 := run_len_any (P := Try.prog) Try.underlying26 so ns sc
  have l2 := run_len_any (P := Try.prog) Try.underlying27 ro nr rc
  obtain ⟨b1, h1⟩ : ∃ b1, (mx == 0) = b1 := ⟨_, rfl⟩
  obtain ⟨b3, h3⟩ : ∃ b3, (r == 0) = b3 := ⟨_, rfl⟩
  obtain ⟨b4, h4⟩ : ∃ b4, (ev == 0) = b4 := ⟨_, rfl⟩
  obtain ⟨b5, h5⟩ : ∃ b5, ((ns : Int) == 0) = b5 := ⟨_, rfl⟩
  obtain ⟨b6, h6⟩ : ∃ b6, ((nr : Int) == 0) = b6 := ⟨_, rfl⟩
  rw [h1, h3, h4, h5, h6]
  have HB := Lib.hid (show ∀ o, Below w.heap.size w (w.alloc o) from fun o => (Below.refl _ _).alloc (Nat.le_refl _) o)
  cases b1
  · go_enter Try.func59, Try.ntmps59
    go_wp2_with fail
    go_ret
    exact ⟨rfl, HB.out _⟩
  · cases q
    rotate_left
    · go_enter Try.func59, Try.ntmps59
      go_wp2_with fail
      go_ret
      exact ⟨rfl, HB.out _⟩
    · cases b3
      · go_enter Try.func59, Try.ntmps59
        go_wp2_with fail
        go_ret
        exact ⟨rfl, HB.out _⟩
      · cases b4
        · go_enter Try.func59, Try.ntmps59
          go_wp2_with fail
          go_ret
          exact ⟨rfl, HB.out _⟩
        · cases b5
          · go_enter Try.func59, Try.ntmps59
            go_wp2_with fail
            go_ret
            exact ⟨rfl, HB.out _⟩
          · go_enter Try.func59, Try.ntmps59
            go_wp2_with fail
            go_ret
            exact ⟨rfl, HB.out _⟩

theorem mput1 (b : Nat) (S : Str) (z : Bool) (n : Int) (w : World) (h : MW w b S z) (hS : S.length ≤ 36028797018963968) :
    Calls Try.prog 61 #[.pointer (some ⟨b, 0, none⟩), .int .i64 n, .int .i64 1] w (RetMW w b (S ++ putS n 1) (z || !okPut n 1)) := mput_any b S z n 1 w h (by decide) (by decide) hS
theorem mput2 (b : Nat) (S : Str) (z : Bool) (n : Int) (w : World) (h : MW w b S z) (hS : S.length ≤ 36028797018963968) :
    Calls Try.prog 61 #[.pointer (some ⟨b, 0, none⟩), .int .i64 n, .int .i64 2] w (RetMW w b (S ++ putS n 2) (z || !okPut n 2)) := mput_any b S z n 2 w h (by decide) (by decide) hS
theorem mput3 (b : Nat) (S : Str) (z : Bool) (w : World) (h : MW w b S z) (hS : S.length ≤ 36028797018963968) :
    Calls Try.prog 61 #[.pointer (some ⟨b, 0, none⟩), .int .i64 0, .int .i64 3] w (RetMW w b (S ++ [0, 0, 0]) (z || !true)) := mput_any b S z 0 3 w h (by decide) (by decide) hS
theorem MW.to {w w' : World} {b : Nat} {S : Str} {z : Bool} (h : MW w b S z) (hb : Below w.heap.size w w') : MW w' b S z := CBox.below h hb (CBox.lt h)
/-- the head of a text: its kind, three bytes, two numbers -/
def hdS (kind : UInt8) (a c : Int) : Str := [kind, 0, 0, 0] ++ putS a 2 ++ putS c 2
def hdZ (a c : Int) : Bool := !okPut a 2 || !okPut c 2
set_option maxHeartbeats 1000000 in
theorem mhead_any (b : Nat) (z : Bool) (kind : UInt8) (kn : Int) (a c : Int) (w : World) (h : MW w b [] z) (hk : kn = (kind.toNat : Int)) :
    Calls Try.prog 58 #[.pointer (some ⟨b, 0, none⟩), .int .i64 kn, .int .i64 a, .int .i64 c] w (RetMW w b (hdS kind a c) (z || hdZ a c)) := by
  have hpk : putS kn 1 = [kind] ∧ okPut kn 1 = true := by
    have h1 := kind.toNat_lt
    have h2 : okPut kn 1 = true := by unfold okPut; rw [hk, decide_eq_true (by omega), decide_eq_true (by omega)]; rfl
    refine ⟨?_, h2⟩
    unfold putS
    rw [if_pos h2, hk, Int.toNat_natCast]
    simp [ofN]
  have H1 := Lib.hid (mput1 b [] z kn w h (by decide))
  rw [hpk.1, hpk.2, List.nil_append] at H1
  have H2 := Lib.hid (fun W (hw : MW W b [kind] (z || !true)) => mput3 b [kind] (z || !true) W hw (by simp))
  have H3 := Lib.hid (fun W (hw : MW W b ([kind] ++ [0, 0, 0]) ((z || !true) || !true)) => mput2 b ([kind] ++ [0, 0, 0]) ((z || !true) || !true) a W hw (by simp))
  have H4 := Lib.hid (fun W (hw : MW W b ([kind] ++ [0, 0, 0] ++ putS a 2) (((z || !true) || !true) || !okPut a 2)) => mput2 b ([kind] ++ [0, 0, 0] ++ putS a 2) (((z || !true) || !true) || !okPut a 2) c W hw (by have := putS_le a 2; simp; omega))
  have HS := Lib.hid (show [kind] ++ [0, 0, 0] ++ putS a 2 ++ putS c 2 = hdS kind a c from rfl)
  have HZ := Lib.hid (show ((((z || !true) || !true) || !okPut a 2) || !okPut c 2) = (z || hdZ a c) from by unfold hdZ; cases z <;> cases okPut a 2 <;> cases okPut c 2 <;> rfl)
  rw [HS.out, HZ.out] at H4
  unfold RetMW at H1 H2 H3 H4 ⊢
  clear h hk hpk
  go_enter Try.func58, Try.ntmps58
  go_wp2_with (first
    | ((with_reducible refine H1.out.mono ?_); rintro e w2 ⟨rfl, h2, g2⟩; have K2 := Lib.hid (And.intro h2 g2); clear h2 g2)
    | ((with_reducible refine (H2.out w2 K2.out.1).mono ?_); rintro e w3 ⟨rfl, h3, g3⟩; have K3 := Lib.hid (And.intro h3 (gb_trans K2.out.2 g3)); clear h3 g3)
    | ((with_reducible refine (H3.out w3 K3.out.1).mono ?_); rintro e w4 ⟨rfl, h4, g4⟩; have K4 := Lib.hid (And.intro h4 (gb_trans K3.out.2 g4)); clear h4 g4)
    | ((with_reducible refine (H4.out w4 K4.out.1).mono ?_); rintro e w5 ⟨rfl, h5, g5⟩; have K5 := Lib.hid (And.intro h5 (gb_trans K4.out.2 g5)); clear h5 g5))
  go_end0
  exact ⟨rfl, K5.out.1, K5.out.2⟩
end Go.Proofs.Ythkibgdeibolfaa
