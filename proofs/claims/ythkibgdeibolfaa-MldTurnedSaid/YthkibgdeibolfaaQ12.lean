/- Texts joined into one file: JLong, JDecode, JDecode2, JDecode3. -/
import Derived.Test.YthkibgdeibolfaaQ10
import Derived.Test.YthkibgdeibolfaaQ08
import Derived.Test.YthkibgdeibolfaaQ09

/- igmp.long. -/
namespace Go.Proofs.Ythkibgdeibolfaa
open Go.RowKit Go.Sort
set_option maxRecDepth 20000
set_option maxRecDepth 20000
attribute [local go_sem] bstr_size bstr_extract bstr_toList bstr_get

def longE (s : Str) : Int := if s.length < 12 then 3 else if 60 < numAt s 10 2 then 3 else if s.length < 12 + numAt s 10 2 * 4 then 2 else 0
def flagQ (s : Str) : Bool := decide ((s.getD 8 0).toNat / 8 % 2 = 1)
def flagR (s : Str) : Nat := (s.getD 8 0).toNat % 8
/-- a message at block b, its slices as they are -/
def MBox (w : World) (b : Nat) (k v : Int) (g : Str) (mx : Int) (q : Bool) (r ev : Int) (vs vr : Value) : Prop :=
  CBox w b 29 #[.int .i64 k, .int .i64 v, .string (bstr g), .int .i64 mx, .bool q, .int .i64 r, .int .i64 ev, vs, vr]
theorem GB.refl (w : World) (b : Nat) : w.grownBy w (some b) := ⟨rfl, rfl, rfl, Nat.le_refl _, fun _ _ _ => rfl⟩
theorem GB.set {w w' : World} {b : Nat} (h : w.grownBy w' (some b)) (i : Nat) (v : Value) : w.grownBy (w'.setCell ⟨b, i, none⟩ v) (some b) :=
  ⟨h.os, h.tape, h.output, by simpa using h.size, fun k hk hne => (Below.heap_setCell w' ⟨b, i, none⟩ v k (fun e => hne (by rw [e]))).trans (h.block k hk hne)⟩
theorem GB.below {w w' w'' : World} {row : Option Nat} (h : w.grownBy w' row) (hb : Below w'.heap.size w' w'') : w.grownBy w'' row := grown_below h hb
def RetLong (w : World) (b : Nat) (s g : Str) (e : Ending) (w' : World) : Prop :=
  e = .returned (.int .i64 (longE s)) ∧ w.grownBy w' (some b) ∧
    (longE s = 0 → ∃ ao c, MBox w' b 1 3 g (pdecode (s.getD 1 0).toNat 4) (flagQ s) (flagR s) (pdecode (s.getD 9 0).toNat 4) (.slice ao (numAt s 10 2) c) (.slice none 0 0) ∧
      Strs w' (.slice ao (numAt s 10 2) c) (srcs s 12 (numAt s 10 2) 4) ∧ Lies w.heap.size (.slice ao (numAt s 10 2) c))

theorem byte_quiet (x : UInt8) : (bits .and .u8 (x.toNat : Int) 8 != 0) = decide (x.toNat / 8 % 2 = 1) := by
  have h : ∀ y : Fin 256, (bits .and .u8 (y.val : Int) 8 != 0) = decide (y.val / 8 % 2 = 1) := by decide +kernel
  exact h ⟨x.toNat, x.toNat_lt⟩
theorem byte_robust (x : UInt8) : bits .and .u8 (x.toNat : Int) 7 = ((x.toNat % 8 : Nat) : Int) := by
  have h : ∀ y : Fin 256, bits .and .u8 (y.val : Int) 7 = ((y.val % 8 : Nat) : Int) := by decide +kernel
  exact h ⟨x.toNat, x.toNat_lt⟩
theorem numB_any (s : Str) (N : Nat) (w : World) (hl : 12 ≤ s.length) (hm : s.length ≤ maxLen) (hN : numAt s 10 2 = N) :
    Calls Try.prog 19 #[.string (bstr s), .int .i64 10, .int .i64 2] w fun e w' => e = .returned (.tuple #[.int .i64 N, .int .i64 0]) ∧ Below w.heap.size w w' := by
  have h := get_any s 10 2 w hm (by decide) (by decide) (by decide)
  rw [if_pos (by omega), if_pos (by omega), hN] at h
  exact h
theorem addrs12 (s : Str) (N : Nat) (w : World) (hs : s.length ≤ 1000000) (hn : N ≤ 65535) :
    Calls Try.prog 79 #[.string (bstr s), .int .i64 12, .int .i64 N, .int .i64 4] w (RetAddrs w (if 12 + N * 4 ≤ s.length then srcs s 12 N 4 else []) (if 12 + N * 4 ≤ s.length then 0 else 2)) := addrs_any s 12 N 4 w hs (by decide) hn (by decide) (by decide)
theorem wrap_small (r : Nat) (h : r < 1000000000) : IntKind.i64.wrap (r : Int) = (r : Int) := wraps_i64 _ (Int.natCast_nonneg _) (by omega)
end Go.Proofs.Ythkibgdeibolfaa

/- igmp.asks, igmp.Decode. -/
namespace Go.Proofs.Ythkibgdeibolfaa
open Go.RowKit Go.Sort
set_option maxRecDepth 20000
set_option maxRecDepth 20000
attribute [local go_sem] bstr_size bstr_extract bstr_toList bstr_get

def msgV (m : Msg) (vs vr : Value) : Value := .agg #[.int .i64 m.kind, .int .i64 m.version, .string (bstr m.group), .int .i64 m.max, .bool m.quiet, .int .i64 m.robust, .int .i64 m.every, vs, vr]
def RetMsg (w : World) (er : Int) (m : Msg) (e : Ending) (w' : World) : Prop :=
  ∃ vs vr, e = .returned (.tuple #[msgV m vs vr, .int .i64 er]) ∧ Strs w' vs m.sources ∧ Lies w.heap.size vs ∧ Row w' w.heap.size vr m.records ∧ Below w.heap.size w w'
theorem cells9 {w : World} {b : Nat} {T : TypeId} {x0 x1 x2 x3 x4 x5 x6 x7 x8 : Value} (h : CBox w b T #[x0, x1, x2, x3, x4, x5, x6, x7, x8]) (v0 v1 v2 v3 v4 v5 v6 v7 v8 : Value) :
    CBox (((((((((w.setCell ⟨b, 0, none⟩ v0).setCell ⟨b, 1, none⟩ v1).setCell ⟨b, 2, none⟩ v2).setCell ⟨b, 3, none⟩ v3).setCell ⟨b, 4, none⟩ v4).setCell ⟨b, 5, none⟩ v5).setCell ⟨b, 6, none⟩ v6).setCell ⟨b, 7, none⟩ v7).setCell ⟨b, 8, none⟩ v8) b T #[v0, v1, v2, v3, v4, v5, v6, v7, v8] :=
  have h0 : CBox _ b T #[v0, x1, x2, x3, x4, x5, x6, x7, x8] := h.set 0 v0
  have h1 : CBox _ b T #[v0, v1, x2, x3, x4, x5, x6, x7, x8] := h0.set 1 v1
  have h2 : CBox _ b T #[v0, v1, v2, x3, x4, x5, x6, x7, x8] := h1.set 2 v2
  have h3 : CBox _ b T #[v0, v1, v2, v3, x4, x5, x6, x7, x8] := h2.set 3 v3
  have h4 : CBox _ b T #[v0, v1, v2, v3, v4, x5, x6, x7, x8] := h3.set 4 v4
  have h5 : CBox _ b T #[v0, v1, v2, v3, v4, v5, x6, x7, x8] := h4.set 5 v5
  have h6 : CBox _ b T #[v0, v1, v2, v3, v4, v5, v6, x7, x8] := h5.set 6 v6
  have h7 : CBox _ b T #[v0, v1, v2, v3, v4, v5, v6, v7, x8] := h6.set 7 v7
  have h8 : CBox _ b T #[v0, v1, v2, v3, v4, v5, v6, v7, v8] := h7.set 8 v8
  h8
theorem below9 {w w0 : World} {B b : Nat} (h : Below B w0 w) (hb : B ≤ b) (v0 v1 v2 v3 v4 v5 v6 v7 v8 : Value) :
    Below B w0 (((((((((w.setCell ⟨b, 0, none⟩ v0).setCell ⟨b, 1, none⟩ v1).setCell ⟨b, 2, none⟩ v2).setCell ⟨b, 3, none⟩ v3).setCell ⟨b, 4, none⟩ v4).setCell ⟨b, 5, none⟩ v5).setCell ⟨b, 6, none⟩ v6).setCell ⟨b, 7, none⟩ v7).setCell ⟨b, 8, none⟩ v8) :=
  ((((((((h.setCell (p := ⟨b, 0, none⟩) hb v0).setCell (p := ⟨b, 1, none⟩) hb v1).setCell (p := ⟨b, 2, none⟩) hb v2).setCell (p := ⟨b, 3, none⟩) hb v3).setCell (p := ⟨b, 4, none⟩) hb v4).setCell (p := ⟨b, 5, none⟩) hb v5).setCell (p := ⟨b, 6, none⟩) hb v6).setCell (p := ⟨b, 7, none⟩) hb v7).setCell (p := ⟨b, 8, none⟩) hb v8
abbrev mz : Array Value := #[.int .i64 0, .int .i64 0, .string (bstr []), .int .i64 0, .bool false, .int .i64 0, .int .i64 0, .slice none 0 0, .slice none 0 0]
theorem retMsg_bad (w w' : World) (er : Int) (hb : Below w.heap.size w w') : RetMsg w er Msg.zero (.returned (.tuple #[.agg #[.int .i64 0, .int .i64 0, .string (bstr []), .int .i64 0, .bool false, .int .i64 0, .int .i64 0, .slice none 0 0, .slice none 0 0], .int .i64 er])) w' :=
  ⟨_, _, rfl, Strs.nil _, fun j hj => by simp [Value.ownBlock] at hj, Row.nil _ _, hb⟩

theorem isGroup4 (g : Str) (w : World) (hg : g.length ≤ maxLen) : Calls Try.prog 78 #[.string (bstr g), .int .i64 4] w fun e w' => e = .returned (.bool (grp g 4)) ∧ Below w.heap.size w w' := isGroup_any g 4 w hg
theorem pquery_short (s G g' : Str) (X : Nat) (h : ¬ 8 < s.length) (hG : (s.drop 4).take 4 = G) (hg' : g' = if G = nobody4 then [] else G) (hX : (s[1]?.getD 0).toNat = X) :
    pquery s = if g' ≠ [] ∧ grp g' 4 = false then (3, .zero) else (0, ⟨1, if X = 0 then 1 else 2, g', X, false, 0, 0, [], []⟩) := by
  have hX' : (s.getD 1 0).toNat = X := by rw [List.getD_eq_getElem?_getD, hX]
  unfold pquery
  simp only [hG, hX', ← hg', if_neg h]
theorem pquery_long (s G g' : Str) (h : 8 < s.length) (hG : (s.drop 4).take 4 = G) (hg' : g' = if G = nobody4 then [] else G) :
    pquery s = if longE s ≠ 0 then (longE s, .zero) else if (g' ≠ [] ∧ grp g' 4 = false) ∨ (g' = [] ∧ 0 < numAt s 10 2) then (3, .zero) else
      (0, ⟨1, 3, g', pdecode (s.getD 1 0).toNat 4, flagQ s, flagR s, pdecode (s.getD 9 0).toNat 4, srcs s 12 (numAt s 10 2) 4, []⟩) := by
  unfold pquery longE
  simp only [hG, ← hg', if_pos h]
  by_cases h1 : s.length < 12
  · rw [if_pos h1, if_pos h1, if_pos (by decide)]
  · rw [if_neg h1, if_neg h1]
    by_cases h2 : 60 < numAt s 10 2
    · rw [if_pos h2, if_pos h2, if_pos (by decide)]
    · rw [if_neg h2, if_neg h2]
      by_cases h3 : s.length < 12 + numAt s 10 2 * 4
      · rw [if_pos h3, if_pos h3, if_pos (by decide)]
      · rw [if_neg h3, if_neg h3, if_neg (show ¬ ((0 : Int) ≠ 0) from fun h => h rfl)]
        rfl
theorem strs9 {w : World} {v : Value} {L : List Str} {lo b : Nat} (h : Strs w v L) (hl : Lies lo v) (hb : b < lo) (v0 v1 v2 v3 v4 v5 v6 v7 v8 : Value) :
    Strs (((((((((w.setCell ⟨b, 0, none⟩ v0).setCell ⟨b, 1, none⟩ v1).setCell ⟨b, 2, none⟩ v2).setCell ⟨b, 3, none⟩ v3).setCell ⟨b, 4, none⟩ v4).setCell ⟨b, 5, none⟩ v5).setCell ⟨b, 6, none⟩ v6).setCell ⟨b, 7, none⟩ v7).setCell ⟨b, 8, none⟩ v8) v L :=
  ((((((((h.far hl (p := ⟨b, 0, none⟩) hb v0).far hl (p := ⟨b, 1, none⟩) hb v1).far hl (p := ⟨b, 2, none⟩) hb v2).far hl (p := ⟨b, 3, none⟩) hb v3).far hl (p := ⟨b, 4, none⟩) hb v4).far hl (p := ⟨b, 5, none⟩) hb v5).far hl (p := ⟨b, 6, none⟩) hb v6).far hl (p := ⟨b, 7, none⟩) hb v7).far hl (p := ⟨b, 8, none⟩) hb v8
theorem ret9 {w : World} {b : Nat} {T : TypeId} {x0 x1 x2 x3 x4 x5 x6 x7 x8 : Value} (h : CBox w b T #[x0, x1, x2, x3, x4, x5, x6, x7, x8]) :
    w.cell? ⟨b, 0, none⟩ = some x0 ∧ w.cell? ⟨b, 1, none⟩ = some x1 ∧ w.cell? ⟨b, 2, none⟩ = some x2 ∧ w.cell? ⟨b, 3, none⟩ = some x3 ∧ w.cell? ⟨b, 4, none⟩ = some x4 ∧ w.cell? ⟨b, 5, none⟩ = some x5 ∧ w.cell? ⟨b, 6, none⟩ = some x6 ∧ w.cell? ⟨b, 7, none⟩ = some x7 ∧ w.cell? ⟨b, 8, none⟩ = some x8 :=
  ⟨(h.at_ 0 _ rfl).1, (h.at_ 1 _ rfl).1, (h.at_ 2 _ rfl).1, (h.at_ 3 _ rfl).1, (h.at_ 4 _ rfl).1, (h.at_ 5 _ rfl).1, (h.at_ 6 _ rfl).1, (h.at_ 7 _ rfl).1, (h.at_ 8 _ rfl).1⟩

end Go.Proofs.Ythkibgdeibolfaa

/- igmp.Decode. -/
namespace Go.Proofs.Ythkibgdeibolfaa
open Go.RowKit Go.Sort
set_option maxRecDepth 20000
set_option maxRecDepth 20000
attribute [local go_sem] bstr_size bstr_extract bstr_toList bstr_get

theorem Row.far9 {w : World} {v : Value} {R : List Rec} {lo b : Nat} (h : Row w lo v R) (hb : b < lo) (v0 v1 v2 v3 v4 v5 v6 v7 v8 : Value) :
    Row (((((((((w.setCell ⟨b, 0, none⟩ v0).setCell ⟨b, 1, none⟩ v1).setCell ⟨b, 2, none⟩ v2).setCell ⟨b, 3, none⟩ v3).setCell ⟨b, 4, none⟩ v4).setCell ⟨b, 5, none⟩ v5).setCell ⟨b, 6, none⟩ v6).setCell ⟨b, 7, none⟩ v7).setCell ⟨b, 8, none⟩ v8) lo v R :=
  ((((((((h.far (p := ⟨b, 0, none⟩) hb v0).far (p := ⟨b, 1, none⟩) hb v1).far (p := ⟨b, 2, none⟩) hb v2).far (p := ⟨b, 3, none⟩) hb v3).far (p := ⟨b, 4, none⟩) hb v4).far (p := ⟨b, 5, none⟩) hb v5).far (p := ⟨b, 6, none⟩) hb v6).far (p := ⟨b, 7, none⟩) hb v7).far (p := ⟨b, 8, none⟩) hb v8
theorem one_eq (x c : UInt8) : ([x] == [c]) = decide (x.toNat = c.toNat) := by
  rw [Bool.eq_iff_iff, beq_iff_eq, decide_eq_true_eq]
  constructor
  · intro h; injection h with h; rw [h]
  · intro h; rw [UInt8.toNat_inj.1 h]
theorem take_one {s : Str} (h : 0 < s.length) : s.take 1 = [s.getD 0 0] := by
  cases s with
  | nil => simp at h
  | cons a s => simp
theorem num6_any (s : Str) (N : Nat) (w : World) (hl : 8 ≤ s.length) (hm : s.length ≤ maxLen) (hN : numAt s 6 2 = N) :
    Calls Try.prog 19 #[.string (bstr s), .int .i64 6, .int .i64 2] w fun e w' => e = .returned (.tuple #[.int .i64 N, .int .i64 0]) ∧ Below w.heap.size w w' := by
  have h := get_any s 6 2 w hm (by decide) (by decide) (by decide)
  rw [if_pos (by omega), if_pos (by omega), hN] at h
  exact h
theorem pdec_kind (s : Str) (k : Nat) (h8 : ¬ s.length < 8) (hp : psum s = 0) (hk : (s.getD 0 0).toNat = k) : pdec s =
    if k = 17 then pquery s else
    if k = 34 then (if (precs (s.drop 8) (numAt s 6 2) 4).1 = 0 then (0, ⟨2, 3, [], 0, false, 0, 0, [], (precs (s.drop 8) (numAt s 6 2) 4).2⟩) else ((precs (s.drop 8) (numAt s 6 2) 4).1, .zero)) else
    if k ≠ 18 ∧ k ≠ 22 ∧ k ≠ 23 then (3, .zero) else
    if grp ((s.drop 4).take 4) 4 = false then (3, .zero) else
    (0, ⟨if k = 23 then 3 else 2, if k = 18 then 1 else 2, (s.drop 4).take 4, 0, false, 0, 0, [], []⟩) := by
  unfold pdec
  rw [if_neg h8, if_neg (fun h => h hp)]
  simp only [hk]

end Go.Proofs.Ythkibgdeibolfaa

/- siphonref08.query, siphonref08.Decode. -/
namespace Go.Proofs.Ythkibgdeibolfaa
open Go.RowKit Go.Sort
set_option maxRecDepth 20000
set_option maxRecDepth 20000
attribute [local go_sem] bstr_size bstr_extract bstr_toList bstr_get

theorem rgroup4 (g : Str) (w : World) (hg : g.length ≤ maxLen) : Calls Try.prog 53 #[.string (bstr g), .int .i64 4] w fun e w' => e = .returned (.bool (grp g 4)) ∧ w = w' := rgroup_any g 4 w hg

theorem rdec8_1 (s : Str) (A : Nat) (w : World) (h : (s[1]?.getD 0).toNat = A) : Calls Try.prog 51 #[.int .i64 A] w fun e w' => e = .returned (.tuple #[.int .i64 (pdecode A 4 : Nat), .int .i64 0]) ∧ w = w' :=
  rdec8_any A w (by rw [← h]; exact (s[1]?.getD 0).toNat_lt)
theorem rdec8_9 (s : Str) (A : Nat) (w : World) (h : (s[9]?.getD 0).toNat = A) : Calls Try.prog 51 #[.int .i64 A] w fun e w' => e = .returned (.tuple #[.int .i64 (pdecode A 4 : Nat), .int .i64 0]) ∧ w = w' :=
  rdec8_any A w (by rw [← h]; exact (s[9]?.getD 0).toNat_lt)
theorem rnumB_any (s : Str) (N : Nat) (w : World) (hl : 12 ≤ s.length) (hm : s.length ≤ maxLen) (hN : numAt s 10 2 = N) :
    Calls Try.prog 25 #[.string (bstr s), .int .i64 10, .int .i64 2] w fun e w' => e = .returned (.int .i64 N) ∧ w = w' := by
  have h := rat_any1 s 10 2 w hm (by decide) (by decide) (by decide)
  unfold getV at h
  rw [if_pos (by omega), hN] at h
  exact h
theorem rsrc12 (s : Str) (N : Nat) (w : World) (hs : s.length ≤ 1000000) (h12 : 12 ≤ s.length) (hn : N ≤ 65535) :
    Calls Try.prog 54 #[.string (bstr s), .int .i64 12, .int .i64 N, .int .i64 4] w fun e w' => ∃ v, e = .returned (.tuple #[v, .bool (decide (12 + N * 4 ≤ s.length))]) ∧ Strs w' v (if 12 + N * 4 ≤ s.length then srcs s 12 N 4 else []) ∧ Lies w.heap.size v ∧ Below w.heap.size w w' :=
  sources_any s 12 N 4 w hs h12 hn (by decide)
theorem byte_q8 (B : Nat) : ((B : Int) / 8 % 2 == 1) = decide (B / 8 % 2 = 1) := by
  by_cases h : B / 8 % 2 = 1
  · rw [decide_eq_true h, beq_iff_eq]; omega
  · rw [decide_eq_false h, beq_eq_false_iff_ne]; omega
end Go.Proofs.Ythkibgdeibolfaa
