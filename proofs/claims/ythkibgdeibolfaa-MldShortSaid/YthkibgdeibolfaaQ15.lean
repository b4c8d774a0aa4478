/- Texts joined into one file: MPlain, MRead, MPse, MCode. -/
import Derived.Test.YthkibgdeibolfaaQ01
import Derived.Test.YthkibgdeibolfaaQ08
import Derived.Test.YthkibgdeibolfaaQ12
import Derived.Test.YthkibgdeibolfaaQ04
import Derived.Test.YthkibgdeibolfaaQ06
import Derived.Test.YthkibgdeibolfaaQ07

/- Plain words of layer 9: messages of IPv6. No program in sight. -/
namespace Go.Proofs.Ythkibgdeibolfaa
def nobody16 : Str := [0, 0, 0, 0, 0, 0, 0, 0, 0, 0, 0, 0, 0, 0, 0, 0]
/-- what stands ahead of a text of n bytes, in its sum -/
def pseS (src dst : Str) (n : Nat) : Str := src ++ dst ++ [0, 0] ++ ofN n 2 ++ [0, 0, 0] ++ [58]
def mquery (s : Str) : Int × Msg :=
  if s.length < 24 then (2, .zero) else
  let g := (s.drop 8).take 16
  let g := if g = nobody16 then [] else g
  if 24 < s.length then
    if s.length < 28 then (3, .zero) else
    if 60 < numAt s 26 2 then (3, .zero) else
    if s.length < 28 + numAt s 26 2 * 16 then (2, .zero) else
    if (g ≠ [] ∧ grp g 16 = false) ∨ (g = [] ∧ 0 < numAt s 26 2) then (3, .zero) else
    (0, ⟨1, 2, g, pdecode (numAt s 4 2) 12, decide ((s.getD 24 0).toNat / 8 % 2 = 1), ((s.getD 24 0).toNat % 8 : Nat), pdecode (s.getD 25 0).toNat 4, srcs s 28 (numAt s 26 2) 16, []⟩)
  else
    if g ≠ [] ∧ grp g 16 = false then (3, .zero) else (0, ⟨1, 1, g, numAt s 4 2, false, 0, 0, [], []⟩)
def mtells (s : Str) (kind : Int) : Int × Msg :=
  if s.length < 24 then (2, .zero) else
  if grp ((s.drop 8).take 16) 16 = false then (3, .zero) else (0, ⟨kind, 1, (s.drop 8).take 16, 0, false, 0, 0, [], []⟩)
/-- of a text whose sum is right -/
def mkind (s : Str) : Int × Msg :=
  let k := (s.getD 0 0).toNat
  if k = 130 then mquery s else
  if k = 131 then mtells s 2 else
  if k = 132 then mtells s 3 else
  if k = 143 then (if (precs (s.drop 8) (numAt s 6 2) 16).1 = 0 then (0, ⟨2, 2, [], 0, false, 0, 0, [], (precs (s.drop 8) (numAt s 6 2) 16).2⟩) else ((precs (s.drop 8) (numAt s 6 2) 16).1, .zero)) else
  (3, .zero)
def mdec (src dst s : Str) : Int × Msg :=
  if src.length ≠ 16 ∨ dst.length ≠ 16 ∨ 65535 < s.length then (1, .zero) else
  if s.length < 8 then (2, .zero) else
  if psum (pseS src dst s.length ++ s) ≠ 0 then (4, .zero) else mkind s

def exact16 (n : Int) : Bool := decide (0 ≤ n) && decide (pdecode (pencode n.toNat 12) 12 = n.toNat)
def mayM9 (m : Msg) : Bool :=
  if m.kind = 1 then
    (decide (m.group = []) || grp m.group 16) && decide (m.records = []) &&
    (if m.version = 2 then exact16 m.max && exact8 m.every && decide (0 ≤ m.robust) && decide (m.robust ≤ 7) && sized m.sources 16 && (decide (m.group ≠ []) || decide (m.sources = []))
     else decide (m.version = 1) && bare { m with max := 0 } && decide (0 ≤ m.max) && decide (m.max ≤ 65535))
  else if m.kind = 2 ∧ m.version = 2 then decide (m.group = []) && bodyOk m.records 16 && bare { m with records := [] }
  else (decide (m.kind = 2) || decide (m.kind = 3)) && decide (m.version = 1) && grp m.group 16 && bare m
def grpB16 (m : Msg) : Str := if m.group = [] then nobody16 else m.group
def bytes9 (m : Msg) : Str :=
  if m.kind = 1 then
    if m.version = 1 then [130, 0, 0, 0] ++ ofN m.max.toNat 2 ++ [0, 0] ++ grpB16 m
    else [130, 0, 0, 0] ++ ofN (pencode m.max.toNat 12) 2 ++ [0, 0] ++ grpB16 m ++ ofN (m.robust.toNat + if m.quiet then 8 else 0) 1 ++ ofN (pencode m.every.toNat 4) 1 ++ ofN m.sources.length 2 ++ m.sources.flatten
  else if m.kind = 2 ∧ m.version = 2 then [143, 0, 0, 0, 0, 0] ++ ofN m.records.length 2 ++ bodyB m.records
  else if m.kind = 3 then [132, 0, 0, 0, 0, 0, 0, 0] ++ grpB16 m
  else [131, 0, 0, 0, 0, 0, 0, 0] ++ grpB16 m
def ways (src dst : Str) : Bool := decide (src.length = 16) && decide (dst.length = 16)
def penc9 (src dst : Str) (m : Msg) : Str × Int := if (ways src dst && mayM9 m) = true then (fillS (pseS src dst (bytes9 m).length) (bytes9 m) 2, 0) else ([], 1)
theorem pse_length (src dst : Str) (n : Nat) (h1 : src.length = 16) (h2 : dst.length = 16) : (pseS src dst n).length = 40 := by simp [pseS, ofN_length, h1, h2]
end Go.Proofs.Ythkibgdeibolfaa

/- mld.reader: take, number, addr. -/
namespace Go.Proofs.Ythkibgdeibolfaa
open Go.RowKit Go.Sort
set_option maxRecDepth 20000
set_option maxRecDepth 20000
attribute [local go_sem] bstr_size bstr_extract bstr_toList bstr_get

theorem gb_set (w : World) (b i : Nat) (v : Value) : w.grownBy (w.setCell ⟨b, i, none⟩ v) (some b) :=
  ⟨rfl, rfl, rfl, by simp [World.setCell], fun k _ hk => Below.heap_setCell _ _ _ _ (fun e => hk (by simp [e]))⟩
theorem gb_below {w w' : World} (h : Below w.heap.size w w') (row : Option Nat) : w.grownBy w' row := ⟨h.os, h.tape, h.output, h.size, fun k hk _ => h.block k hk⟩
theorem gb_trans {a b c : World} {row : Option Nat} (h : a.grownBy b row) (k : b.grownBy c row) : a.grownBy c row :=
  ⟨k.os.trans h.os, k.tape.trans h.tape, k.output.trans h.output, Nat.le_trans h.size k.size, fun j hj hne => (k.block j (Nat.lt_of_lt_of_le hj h.size) hne).trans (h.block j hj hne)⟩
theorem gb_to {a b c : World} {row : Option Nat} (h : a.grownBy b row) (k : Below b.heap.size b c) : a.grownBy c row := gb_trans h (gb_below k row)
theorem gb_under {B x : Nat} {a b c : World} (h : Below B a b) (k : b.grownBy c (some x)) (hx : B ≤ x) (hB : B ≤ b.heap.size) : Below B a c :=
  h.grown k hB (fun j hj => by cases hj; exact hx)

def RdB (w : World) (b : Nat) (l : Str) (er : Int) : Prop := CBox w b 66 #[.string (bstr l), .int .i64 er]
def tkS (l : Str) (n : Nat) : Str := if n ≤ l.length then l.take n else List.replicate n 0
def tkL (l : Str) (n : Nat) : Str := if n ≤ l.length then l.drop n else l
def tkE (l : Str) (er : Int) (n : Nat) : Int := if n ≤ l.length then er else 2
def RetTk (w : World) (b : Nat) (l : Str) (er : Int) (n : Nat) (e : Ending) (w' : World) : Prop :=
  e = .returned (.string (bstr (tkS l n))) ∧ RdB w' b (tkL l n) (tkE l er n) ∧ w.grownBy w' (some b)
theorem cut0_yes (l : Str) (n : Nat) (w : World) (hl : l.length ≤ 1000000) (h : n ≤ l.length) :
    Calls Try.prog 42 #[.string (bstr l), .int .i64 0, .int .i64 n] w fun e w' => e = .returned (.tuple #[.string (bstr (l.take n)), .int .i64 0]) ∧ w = w' := by
  have h1 := cut_any l 0 n w (Nat.le_trans hl (by decide)) (by decide)
  rw [Nat.zero_add, if_pos h, if_pos h, List.drop_zero] at h1
  exact h1
theorem cut0_no (l : Str) (n : Nat) (w : World) (hl : l.length ≤ 1000000) (h : ¬ n ≤ l.length) :
    Calls Try.prog 42 #[.string (bstr l), .int .i64 0, .int .i64 n] w fun e w' => e = .returned (.tuple #[.string (bstr []), .int .i64 2]) ∧ w = w' := by
  have h1 := cut_any l 0 n w (Nat.le_trans hl (by decide)) (by decide)
  rw [Nat.zero_add, if_neg h, if_neg h] at h1
  exact h1
theorem zeros_bytes (W : World) (b n : Nat) (h : CBox W b 5 (madeCells #[Value.int .u8 0] n)) : Bytes W b (List.replicate n 0) := by
  intro j hj
  rw [List.length_replicate] at hj
  refine ⟨h.lt, ?_⟩
  rw [(h.at_ j (.int .u8 0) (by simp [madeCells, Nat.mod_one, hj])).1]
  simp [List.getD_eq_getElem?_getD, hj]
set_option maxHeartbeats 2000000 in
theorem take_any (b : Nat) (l : Str) (er : Int) (n : Nat) (w : World) (h : RdB w b l er) (hl : l.length ≤ 1000000) (hn : n = 1 ∨ n = 2 ∨ n = 16) :
    Calls Try.prog 75 #[.pointer (some ⟨b, 0, none⟩), .int .i64 n] w (RetTk w b l er n) := by
  have b0 : (⟨#[]⟩ : ByteArray) = bstr [] := bstr_nil.symm
  have HX := Lib.hid (show CBox w b 66 #[.string (bstr l), .int .i64 er] from h)
  obtain ⟨x0, xf0⟩ := HX.out.at_ 0 _ rfl
  obtain ⟨x1, xf1⟩ := HX.out.at_ 1 _ rfl
  unfold RetTk tkS tkL tkE
  by_cases hc : n ≤ l.length
  · rw [if_pos hc, if_pos hc, if_pos hc]
    have HC := Lib.hid (cut0_yes l n w hl hc)
    have hcI : (n : Int) ≤ l.length := Int.ofNat_le.2 hc
    have htS : List.take (l.length - n) (l.drop n) = l.drop n := List.take_of_length_le (by rw [List.length_drop]; exact Nat.le_refl _)
    clear hc hl h hn
    go_enter Try.func75, Try.ntmps75
    go_wp2_with ((with_reducible refine HC.out.mono ?_); rintro e w2 ⟨rfl, hw2⟩; subst w2)
    go_ret
    exact ⟨rfl, HX.out.set 0 _, gb_set _ _ _ _⟩
  · rw [if_neg hc, if_neg hc, if_neg hc]
    have HC := Lib.hid (cut0_no l n w hl hc)
    obtain ⟨i0, hi, hz0, hz1, hz2⟩ := info_parts infoByte8
    have hmk := fun w => run_make (P := Try.prog) w 39 5 i0 _ Try.underlying39 hi hz0 .i64 .i64 (n : Int) n (by omega) (by omega) (by rw [hz2]; omega) (by omega)
    simp only [hz1, Nat.mul_one, Int.toNat_natCast] at hmk
    have hmin : min (n : Int) 16 = n := by omega
    clear hc hl h
    go_enter Try.func75, Try.ntmps75
    go_upto_region 4 with ((with_reducible refine HC.out.mono ?_); rintro e w2 ⟨rfl, hw2⟩; subst w2)
    have hst : ∀ W : World, (convert 39 9 (.slice (some ⟨W.heap.size, 0, none⟩) n n)).run Try.prog (W.alloc (.cells (madeCells #[Value.int .u8 0] n) 5)) = .ok (.string (bstr (List.replicate n 0))) (W.alloc (.cells (madeCells #[Value.int .u8 0] n) 5)) := fun W => by
      have h := run_string_b (P := Try.prog) (W.alloc (.cells (madeCells #[Value.int .u8 0] n) 5)) 39 9 5 W.heap.size n (List.replicate n 0) Try.underlying39 Try.underlying5 Try.underlying9 (zeros_bytes _ _ n (CBox.new _ rfl))
      rw [List.length_replicate] at h
      exact h
    have HX2 := Lib.hid (show CBox (w.setCell ⟨b, 1, none⟩ (.int .i64 2)) b 66 #[.string (bstr l), .int .i64 2] from HX.out.set 1 _)
    have HG2 := Lib.hid (gb_set w b 1 (.int .i64 2))
    obtain ⟨W2, hW2⟩ : ∃ W2, w.setCell ⟨b, 1, none⟩ (.int .i64 2) = W2 := ⟨_, rfl⟩
    rw [hW2] at HX2 HG2 ⊢
    clear hW2 x0 xf0 x1 xf1
    have hst2 := hst W2
    clear hst
    go_wp2_with fail
    go_ret
    exact ⟨rfl, HX2.out.old _, gb_to HG2.out ((Below.refl _ _).alloc (Nat.le_refl _) _)⟩
def nbR (l : Str) (n : Nat) : Nat := if n ≤ l.length then numAt l 0 n else 0
theorem tkS_len (l : Str) (n : Nat) : (tkS l n).length = n := by
  unfold tkS
  split
  · rw [List.length_take]; omega
  · exact List.length_replicate
theorem big_zeros (n : Nat) : big (List.replicate n 0) = 0 := by
  induction n with
  | zero => rfl
  | succ n ih => rw [List.replicate_succ', big_snoc, ih]; rfl
theorem numAt_tkS (l : Str) (n : Nat) : numAt (tkS l n) 0 n = nbR l n := by
  unfold numAt nbR
  rw [List.drop_zero, List.take_of_length_le (by rw [tkS_len]; exact Nat.le_refl _)]
  unfold tkS
  by_cases h : n ≤ l.length
  · rw [if_pos h, if_pos h]; rfl
  · rw [if_neg h, if_neg h, big_zeros]
def RetNb (w : World) (b : Nat) (l : Str) (er : Int) (n : Nat) (e : Ending) (w' : World) : Prop :=
  e = .returned (.int .i64 (nbR l n : Nat)) ∧ RdB w' b (tkL l n) (tkE l er n) ∧ w.grownBy w' (some b)
theorem number9_any (b : Nat) (l : Str) (er : Int) (n : Nat) (w : World) (h : RdB w b l er) (hl : l.length ≤ 1000000) (hn : n = 1 ∨ n = 2) :
    Calls Try.prog 37 #[.pointer (some ⟨b, 0, none⟩), .int .i64 n] w (RetNb w b l er n) := by
  have HT := Lib.hid (take_any b l er n w h hl (by omega))
  have HG := Lib.hid (fun W => show Calls Try.prog 19 #[.string (bstr (tkS l n)), .int .i64 0, .int .i64 n] W fun e w' => e = .returned (.tuple #[.int .i64 (nbR l n : Nat), .int .i64 0]) ∧ Below W.heap.size W w' from by
    have h1 := get_any (tkS l n) 0 n W (by rw [tkS_len]; exact Nat.le_trans (show n ≤ 2 by omega) (by decide)) (by decide) (by omega) (by omega)
    rw [tkS_len, Nat.zero_add, if_pos (Nat.le_refl _), if_pos (Nat.le_refl _), numAt_tkS] at h1
    exact h1)
  unfold RetTk at HT
  unfold RetNb
  obtain ⟨S, hS⟩ : ∃ S, tkS l n = S := ⟨_, rfl⟩
  obtain ⟨V, hV⟩ : ∃ V, nbR l n = V := ⟨_, rfl⟩
  rw [hS] at HT HG
  rw [hV] at HG ⊢
  clear h hl hn hS hV
  go_enter Try.func37, Try.ntmps37
  go_wp2_with (first | ((with_reducible refine HT.out.mono ?_); rintro e w2 ⟨rfl, hr, hg⟩; have H2 := Lib.hid (And.intro hr hg); clear hr hg) | ((with_reducible refine (HG.out w2).mono ?_); rintro e w3 ⟨rfl, hb3⟩; have H3 := Lib.hid hb3; clear hb3))
  go_ret
  exact ⟨rfl, CBox.below H2.out.1 H3.out (CBox.lt H2.out.1), gb_to H2.out.2 H3.out⟩
theorem addr9_any (b : Nat) (l : Str) (er : Int) (w : World) (h : RdB w b l er) (hl : l.length ≤ 1000000) :
    Calls Try.prog 38 #[.pointer (some ⟨b, 0, none⟩)] w (RetTk w b l er 16) := by
  have HT := Lib.hid (show Calls Try.prog 75 #[.pointer (some ⟨b, 0, none⟩), .int .i64 16] w (RetTk w b l er 16) from take_any b l er 16 w h hl (by omega))
  unfold RetTk at HT ⊢
  clear h hl
  go_enter Try.func38, Try.ntmps38
  go_wp2_with ((with_reducible refine HT.out.mono ?_); rintro e w2 ⟨rfl, hr, hg⟩; have H2 := Lib.hid (And.intro hr hg); clear hr hg)
  go_ret
  exact ⟨rfl, H2.out.1, H2.out.2⟩
end Go.Proofs.Ythkibgdeibolfaa

/- csum.Pseudo, siphonref02.Pseudo at 16 bytes; mld.isGroup, siphonref09.group. -/
namespace Go.Proofs.Ythkibgdeibolfaa
open Go.RowKit Go.Sort
set_option maxRecDepth 20000
set_option maxRecDepth 20000
attribute [local go_sem] bstr_size bstr_extract bstr_toList bstr_get

theorem put58 (w : World) : Calls Try.prog 35 #[.int .i64 58, .int .i64 1] w fun e w' => e = .returned (.tuple #[.string (bstr [58]), .int .i64 0]) ∧ Below w.heap.size w w' := put_any 58 1 w (by decide) (by decide)
theorem putn (n : Nat) (w : World) (h : n ≤ 65535) : Calls Try.prog 35 #[.int .i64 n, .int .i64 2] w fun e w' => e = .returned (.tuple #[.string (bstr (ofN n 2)), .int .i64 0]) ∧ Below w.heap.size w w' := by
  have h1 := put_any n 2 w (by decide) (by decide)
  have hk : okPut (n : Int) 2 = true := by unfold okPut; rw [decide_eq_true (by omega), decide_eq_true (by omega)]; rfl
  unfold putS at h1
  rw [hk, if_pos rfl, if_pos rfl, Int.toNat_natCast] at h1
  exact h1
set_option maxHeartbeats 1000000 in
theorem pse_any (src dst : Str) (n : Nat) (w : World) (h1 : src.length = 16) (h2 : dst.length = 16) (hn : n ≤ 65535) :
    Calls Try.prog 15 #[.string (bstr src), .string (bstr dst), .int .i64 n, .int .i64 58] w fun e w' => e = .returned (.tuple #[.string (bstr (pseS src dst n)), .int .i64 0]) ∧ Below w.heap.size w w' := by
  have HP := Lib.hid (put58)
  have HN := Lib.hid (fun W => putn n W hn)
  have b0 : (⟨#[]⟩ : ByteArray) = bstr [] := bstr_nil.symm
  have b2 : (⟨#[0, 0]⟩ : ByteArray) = bstr [0, 0] := by rw [bstr_eq]
  have b3 : (⟨#[0, 0, 0]⟩ : ByteArray) = bstr [0, 0, 0] := by rw [bstr_eq]
  obtain ⟨T1, hT1⟩ : ∃ T, src ++ dst = T := ⟨_, rfl⟩
  obtain ⟨N, hN⟩ : ∃ N, ofN n 2 = N := ⟨_, rfl⟩
  obtain ⟨T2, hT2⟩ : ∃ T, T1 ++ [0, 0] = T := ⟨_, rfl⟩
  obtain ⟨T3, hT3⟩ : ∃ T, T2 ++ N = T := ⟨_, rfl⟩
  obtain ⟨T4, hT4⟩ : ∃ T, T3 ++ [0, 0, 0] = T := ⟨_, rfl⟩
  have hp : pseS src dst n = T4 ++ [58] := by unfold pseS; rw [hT1, hN, hT2, hT3, hT4]
  have l1 : T1.length = 32 := by rw [← hT1, List.length_append, h1, h2]
  have l2 : T2.length = 34 := by rw [← hT2, List.length_append, l1]; rfl
  have l3 : T3.length = 36 := by rw [← hT3, List.length_append, l2, ← hN, ofN_length]
  have lN : N.length = 2 := by rw [← hN, ofN_length]
  have l4 : T4.length = 39 := by rw [← hT4, List.length_append, l3]; rfl
  have a1 : bstr src ++ bstr dst = bstr T1 := by rw [bstr_append, hT1]
  have a2 : bstr T1 ++ bstr [0, 0] = bstr T2 := by rw [bstr_append, hT2]
  have a3 : bstr T2 ++ bstr N = bstr T3 := by rw [bstr_append, hT3]
  have a4 : bstr T3 ++ bstr [0, 0, 0] = bstr T4 := by rw [bstr_append, hT4]
  have a5 : bstr T4 ++ bstr [58] = bstr (T4 ++ [58]) := bstr_append _ _
  have e1 : ((src.length : Int) == 4) = false := by rw [h1]; rfl
  rw [hp]
  rw [hN] at HN
  clear hn hT1 hT2 hT3 hT4 hN hp
  go_enter Try.func15, Try.ntmps15
  go_wp2_with (first | ((with_reducible refine (HP.out w).mono ?_); rintro e w2 ⟨rfl, hb2⟩; have H2 := Lib.hid hb2; clear hb2) | ((with_reducible refine (HN.out w2).mono ?_); rintro e w3 ⟨rfl, hb3⟩; have H3 := Lib.hid (H2.out.trans (hb3.mono H2.out.size)); clear hb3))
  go_ret2
  exact ⟨rfl, H3.out⟩
set_option maxHeartbeats 1000000 in
theorem rpse_any (src dst : Str) (n : Nat) (w : World) (h1 : src.length = 16) (h2 : dst.length = 16) (hn : n ≤ 65535) :
    Calls Try.prog 21 #[.string (bstr src), .string (bstr dst), .int .i64 n, .int .i64 58] w fun e w' => e = .returned (.tuple #[.string (bstr (pseS src dst n)), .int .i64 0]) ∧ Below w.heap.size w w' := by
  have HP := Lib.hid (fun W => show Calls Try.prog 48 #[.int .i64 58, .int .i64 1] W fun e w' => e = .returned (.string (bstr [58])) ∧ Below W.heap.size W w' from of_any 58 1 W (by decide) (by decide) (by decide))
  have HN := Lib.hid (fun W => show Calls Try.prog 48 #[.int .i64 n, .int .i64 4] W fun e w' => e = .returned (.string (bstr (ofN n 4))) ∧ Below W.heap.size W w' from of_any n 4 W (by decide) (by decide) (by omega))
  have b0 : (⟨#[]⟩ : ByteArray) = bstr [] := bstr_nil.symm
  have b3 : (⟨#[0, 0, 0]⟩ : ByteArray) = bstr [0, 0, 0] := by rw [bstr_eq]
  obtain ⟨T1, hT1⟩ : ∃ T, src ++ dst = T := ⟨_, rfl⟩
  obtain ⟨N, hN⟩ : ∃ N, ofN n 4 = N := ⟨_, rfl⟩
  obtain ⟨T3, hT3⟩ : ∃ T, T1 ++ N = T := ⟨_, rfl⟩
  obtain ⟨T4, hT4⟩ : ∃ T, T3 ++ [0, 0, 0] = T := ⟨_, rfl⟩
  have hN4 : N = [0, 0] ++ ofN n 2 := by
    rw [← hN]
    have e1 : n / 256 / 256 = 0 := by omega
    simp [ofN, e1]
  have hp : pseS src dst n = T4 ++ [58] := by unfold pseS; rw [← hT4, ← hT3, ← hT1, hN4, ← List.append_assoc]
  have l1 : T1.length = 32 := by rw [← hT1, List.length_append, h1, h2]
  have lN : N.length = 4 := by rw [← hN, ofN_length]
  have l3 : T3.length = 36 := by rw [← hT3, List.length_append, l1, lN]
  have l4 : T4.length = 39 := by rw [← hT4, List.length_append, l3]; rfl
  have a1 : bstr src ++ bstr dst = bstr T1 := by rw [bstr_append, hT1]
  have a3 : bstr T1 ++ bstr N = bstr T3 := by rw [bstr_append, hT3]
  have a4 : bstr T3 ++ bstr [0, 0, 0] = bstr T4 := by rw [bstr_append, hT4]
  have a5 : bstr T4 ++ bstr [58] = bstr (T4 ++ [58]) := bstr_append _ _
  have d1 : decide ((n : Int) < 0) = false := decide_eq_false (by omega)
  have d2 : decide ((65535 : Int) < n) = false := decide_eq_false (by omega)
  have d2' : decide (65535 < n) = false := decide_eq_false (by omega)
  rw [hp]
  rw [hN] at HN
  clear hn hT1 hT3 hT4 hN hp hN4
  go_enter Try.func21, Try.ntmps21
  go_wp2_with (first | ((with_reducible refine (HN.out w).mono ?_); rintro e w2 ⟨rfl, hb2⟩; have H2 := Lib.hid hb2; clear hb2) | ((with_reducible refine (HP.out w2).mono ?_); rintro e w3 ⟨rfl, hb3⟩; have H3 := Lib.hid (H2.out.trans (hb3.mono H2.out.size)); clear hb3))
  go_ret2
  exact ⟨rfl, H3.out⟩
end Go.Proofs.Ythkibgdeibolfaa

/- Groups of sixteen bytes; codes of sixteen bits. -/
namespace Go.Proofs.Ythkibgdeibolfaa
open Go.RowKit Go.Sort
set_option maxRecDepth 20000
set_option maxRecDepth 20000
attribute [local go_sem] bstr_size bstr_extract bstr_toList bstr_get

theorem mgroup_any (a : Str) (w : World) (ha : a.length ≤ maxLen) :
    Calls Try.prog 41 #[.string (bstr a)] w fun e w' => e = .returned (.bool (grp a 16)) ∧ Below w.heap.size w w' := by
  have HG := Lib.hid (egroup_any a w ha)
  have he : ((a.length : Int) == 16) = decide (a.length = 16) := by
    by_cases h : a.length = 16
    · rw [decide_eq_true h]; exact beq_iff_eq.2 (by omega)
    · rw [decide_eq_false h]; exact beq_eq_false_iff_ne.2 (by omega)
  unfold grp
  unfold grpE at HG
  obtain ⟨B, hB⟩ : ∃ B, B = isG a := ⟨_, rfl⟩
  rw [← hB] at HG ⊢
  obtain ⟨C, hC⟩ : ∃ C, C = decide (a.length = 16) := ⟨_, rfl⟩
  rw [← hC] at he ⊢
  clear hB hC ha
  cases B
  · rw [if_neg (by simp)] at HG
    go_enter Try.func41, Try.ntmps41
    go_wp2_with ((with_reducible refine HG.out.mono ?_); rintro e w2 ⟨⟨m, rfl⟩, hb2⟩; have HB2 := Lib.hid hb2; clear hb2)
    go_ret
    exact ⟨ret_bool (by simp), HB2.out⟩
  · rw [if_pos rfl] at HG
    go_enter Try.func41, Try.ntmps41
    go_wp2_with ((with_reducible refine HG.out.mono ?_); rintro e w2 ⟨⟨m, rfl⟩, hb2⟩; have HB2 := Lib.hid hb2; clear hb2)
    go_ret
    exact ⟨ret_bool (by simp), HB2.out⟩

theorem rgroup9_any (a : Str) (w : World) (ha : a.length ≤ maxLen) :
    Calls Try.prog 26 #[.string (bstr a)] w fun e w' => e = .returned (.bool (grp a 16)) ∧ w = w' := by
  have HG := Lib.hid (rgrp_any a w ha)
  have he : ((a.length : Int) == 16) = decide (a.length = 16) := by
    by_cases h : a.length = 16
    · rw [decide_eq_true h]; exact beq_iff_eq.2 (by omega)
    · rw [decide_eq_false h]; exact beq_eq_false_iff_ne.2 (by omega)
  unfold grp
  obtain ⟨B, hB⟩ : ∃ B, B = isG a := ⟨_, rfl⟩
  rw [← hB] at HG ⊢
  obtain ⟨C, hC⟩ : ∃ C, C = decide (a.length = 16) := ⟨_, rfl⟩
  rw [← hC] at he ⊢
  clear hB hC ha
  cases C
  all_goals
    go_enter Try.func26, Try.ntmps26
    go_wp2_with ((with_reducible refine HG.out.mono ?_); rintro e w2 ⟨rfl, hw2⟩; subst w2)
    go_ret
    exact ⟨ret_bool (by simp), rfl⟩

theorem dec16_any (c : Nat) (w : World) (hc : c < 65536) :
    Calls Try.prog 39 #[.int .i64 c] w fun e w' => e = .returned (.tuple #[.int .i64 (pdecode c 12 : Nat), .int .i64 0]) ∧ Below w.heap.size w w' := by
  have HD := Lib.hid (fdecode_12 c w hc)
  clear hc
  go_enter Try.func39, Try.ntmps39
  go_wp2_with ((with_reducible refine HD.out.mono ?_); rintro e w2 ⟨rfl, hb2⟩; have HB2 := Lib.hid hb2; clear hb2)
  go_ret2
  exact ⟨rfl, HB2.out⟩
theorem enc16_any (n : Int) (w : World) (hn : n < 2 ^ 63) :
    Calls Try.prog 60 #[.int .i64 n] w fun e w' => e = .returned (.tuple #[.int .i64 (encV_12 n), .int .i64 (encE n)]) ∧ Below w.heap.size w w' := by
  have HD := Lib.hid (fencode_12 n w hn)
  clear hn
  go_enter Try.func60, Try.ntmps60
  go_wp2_with ((with_reducible refine HD.out.mono ?_); rintro e w2 ⟨rfl, hb2⟩; have HB2 := Lib.hid hb2; clear hb2)
  go_ret2
  exact ⟨rfl, HB2.out⟩
theorem rdec16_any (c : Nat) (w : World) (hc : c < 65536) :
    Calls Try.prog 50 #[.int .i64 c] w fun e w' => e = .returned (.tuple #[.int .i64 (pdecode c 12 : Nat), .int .i64 0]) ∧ w = w' := by
  have HD := Lib.hid (rdec_12 c w hc)
  have d1 : decide ((65535 : Int) < c) = false := decide_eq_false (by omega)
  clear hc
  go_enter Try.func50, Try.ntmps50
  go_wp2_with ((with_reducible refine HD.out.mono ?_); rintro e w2 ⟨rfl, hw2⟩; subst w2)
  go_ret2
  exact ⟨rfl, rfl⟩


theorem bs_start (m : Nat) : pdecode 0 12 ≤ m := by
  unfold pdecode
  rw [if_pos (by decide)]
  exact Nat.zero_le _
theorem bs_end (m a b : Nat) (hab : a < b) (hb : b ≤ 65536) (hd : ¬ 1 < b - a) (h1 : pdecode a 12 ≤ m) (h2 : b = 65536 ∨ m < pdecode b 12) : pencode m 12 = a := by
  obtain rfl : b = a + 1 := by omega
  refine pencode_unique 12 (.inr rfl) m a (show a < 65536 by omega) h1 (fun d hd1 hd2 => ?_)
  have hd3 : d < 65536 := hd2
  rcases h2 with h2 | h2
  · omega
  · by_cases e : d = a + 1
    · subst e; exact h2
    · obtain ⟨k, rfl⟩ : ∃ k, d = a + 1 + k + 1 := ⟨d - a - 2, by omega⟩
      exact Nat.lt_trans h2 (pdecode_lt 12 (.inr rfl) (a + 1) k hd2)
theorem bs_mid (a b c : Nat) (hc : c = (a + b) / 2) (hab : a < b) (hb : b ≤ 65536) (hd : 1 < b - a) : a < c ∧ c < b ∧ c < 65536 ∧ wrap64 ((a : Int) + b) = (a : Int) + b ∧ ((a : Int) + b).tdiv 2 = (c : Int) ∧ ((a : Int) + b) / 2 = (c : Int) ∧ wrap64 (c : Int) = (c : Int) ∧ wrap64 ((b : Int) - a) = (b : Int) - a := by
  have h0 : (0 : Int) ≤ (a : Int) + b := by omega
  rw [Int.tdiv_eq_ediv_of_nonneg h0]
  unfold wrap64
  refine ⟨by omega, by omega, by omega, by omega, by omega, by omega, by omega, by omega⟩
theorem bs_sub (a b : Nat) (hab : a < b) (hb : b ≤ 65536) : wrap64 ((b : Int) - a) = ((b - a : Nat) : Int) := by unfold wrap64; omega
set_option maxHeartbeats 2000000 in
theorem renc16_any (n : Int) (w : World) :
    Calls Try.prog 69 #[.int .i64 n] w fun e w' => e = .returned (.tuple #[.int .i64 (encV_12 n), .int .i64 (encE n)]) ∧ w = w' := by
  unfold encV_12 encE
  by_cases h : 0 ≤ n
  · obtain ⟨m, rfl⟩ := Int.eq_ofNat_of_zero_le h
    have d1 : decide ((m : Int) < 0) = false := decide_eq_false (by omega)
    rw [if_pos h, if_pos h, Int.toNat_natCast]
    clear h
    go_enter Try.func69, Try.ntmps69
    go_wp2_with fail
    go_loop [4, 5] (fun lo hi => ∃ a b : Nat, a < b ∧ b ≤ 65536 ∧ lo = .int .i64 a ∧ hi = .int .i64 b ∧ pdecode a 12 ≤ m ∧ (b = 65536 ∨ m < pdecode b 12)) (fun lo hi => (intOf hi).toNat - (intOf lo).toNat)
    case atStart => exact ⟨0, 65536, by decide, Nat.le_refl _, rfl, rfl, bs_start m, .inl rfl⟩
    case round =>
      obtain ⟨a, b, hab, hb, rfl, rfl, h1, h2⟩ := hrel
      obtain ⟨D, hD⟩ : ∃ D, b - a = D := ⟨_, rfl⟩
      have e0 : wrap64 ((b : Int) - a) = (D : Int) := by rw [← hD]; exact bs_sub a b hab hb
      by_cases hd : 1 < D
      · have d2 : decide ((1 : Int) < D) = true := decide_eq_true (by omega)
        have d2' : decide (1 < D) = true := decide_eq_true hd
        obtain ⟨c, hc⟩ : ∃ c, c = (a + b) / 2 := ⟨_, rfl⟩
        obtain ⟨c1, c2, c3, c4, c5, c6, c7, _⟩ := bs_mid a b c hc hab hb (by rw [hD]; exact hd)
        have HD := Lib.hid (rdec_12 c w c3)
        obtain ⟨V, hV⟩ : ∃ V, V = pdecode c 12 := ⟨_, rfl⟩
        rw [← hV] at HD
        have HB := Lib.hid (And.intro hab (And.intro hb (And.intro h1 (And.intro h2 (And.intro c1 (And.intro c2 hV))))))
        clear hab hb h1 h2 hc c1 c2 c3 hV hD hd
        by_cases hle : V ≤ m
        · have d3 : decide ((V : Int) ≤ m) = true := decide_eq_true (by omega)
          have d3' : decide (V ≤ m) = true := decide_eq_true hle
          have HL := Lib.hid hle
          clear hle
          go_wp2_with ((with_reducible refine HD.out.mono ?_); rintro e w2 ⟨rfl, hw2⟩; subst w2)
          obtain ⟨g1, g2, g3, g4, g5, g6, g7⟩ := HB.out
          exact ⟨⟨c, b, g6, g2, rfl, rfl, g7 ▸ HL.out, g4⟩, by simp only [intOf, Int.toNat_natCast]; clear d1 e0 d2 d2' c4 c5 c6 c7 d3 d3'; omega⟩
        · have d3 : decide ((V : Int) ≤ m) = false := decide_eq_false (by omega)
          have d3' : decide (V ≤ m) = false := decide_eq_false hle
          have HL := Lib.hid (Nat.lt_of_not_le hle)
          clear hle
          go_wp2_with ((with_reducible refine HD.out.mono ?_); rintro e w2 ⟨rfl, hw2⟩; subst w2)
          obtain ⟨g1, g2, g3, g4, g5, g6, g7⟩ := HB.out
          exact ⟨⟨a, c, g5, Nat.le_trans (Nat.le_of_lt g6) g2, rfl, rfl, g3, .inr (g7 ▸ HL.out)⟩, by simp only [intOf, Int.toNat_natCast]; clear d1 e0 d2 d2' c4 c5 c6 c7 d3 d3'; omega⟩
      · have d2 : decide ((1 : Int) < D) = false := decide_eq_false (by omega)
        have d2' : decide (1 < D) = false := decide_eq_false hd
        have HE := Lib.hid (bs_end m a b hab hb (by rw [hD]; exact hd) h1 h2)
        clear hab hb h1 h2 hD hd
        go_wp2_with fail
        go_ret2
        exact ⟨by rw [HE.out]; rfl, rfl⟩
  · have d1 : decide (n < 0) = true := decide_eq_true (by omega)
    rw [if_neg h, if_neg h]
    clear h
    go_enter Try.func69, Try.ntmps69
    go_wp2_with fail
    go_ret2
    exact ⟨rfl, rfl⟩
theorem encV12_lt (n : Int) : encV_12 n < 65536 := by
  unfold encV_12
  split
  · exact (pencode_spec 12 (.inr rfl) _).1
  · decide
theorem exact16_any (n : Int) (w : World) :
    Calls Try.prog 66 #[.int .i64 n] w fun e w' => e = .returned (.bool (exact16 n)) ∧ w = w' := by
  have HE := Lib.hid (renc16_any n w)
  have HD := Lib.hid (rdec_12 (encV_12 n) w (encV12_lt n))
  unfold exact16
  unfold encE at HE
  by_cases h : 0 ≤ n
  · obtain ⟨m, rfl⟩ := Int.eq_ofNat_of_zero_le h
    rw [if_pos h] at HE
    have hv : encV_12 (m : Int) = pencode m 12 := by unfold encV_12; rw [if_pos h, Int.toNat_natCast]
    rw [hv] at HE HD
    rw [decide_eq_true h, Int.toNat_natCast]
    obtain ⟨E, hE⟩ : ∃ E, E = pencode m 12 := ⟨_, rfl⟩
    rw [← hE] at HE HD ⊢
    obtain ⟨D, hD⟩ : ∃ D, D = pdecode E 12 := ⟨_, rfl⟩
    rw [← hD] at HD ⊢
    have HB := Lib.hid (show ((D : Int) == m) = decide (D = m) from by
      by_cases e : D = m
      · rw [decide_eq_true e]; exact beq_iff_eq.2 (by omega)
      · rw [decide_eq_false e]; exact beq_eq_false_iff_ne.2 (by omega))
    have HB2 := Lib.hid (show (D == m) = decide (D = m) from by
      by_cases e : D = m
      · rw [decide_eq_true e]; exact beq_iff_eq.2 e
      · rw [decide_eq_false e]; exact beq_eq_false_iff_ne.2 e)
    clear hE hD hv h
    go_enter Try.func66, Try.ntmps66
    go_wp2_with (first | ((with_reducible refine HE.out.mono ?_); rintro e w2 ⟨rfl, hw2⟩; subst w2) | ((with_reducible refine HD.out.mono ?_); rintro e w2 ⟨rfl, hw2⟩; subst w2))
    go_ret
    first
      | exact ⟨by rw [← HB.out]; rfl, rfl⟩
      | exact ⟨by rw [← HB2.out]; rfl, rfl⟩
  · rw [if_neg h] at HE
    rw [decide_eq_false h]
    clear h
    go_enter Try.func66, Try.ntmps66
    go_wp2_with ((with_reducible refine HE.out.mono ?_); rintro e w2 ⟨rfl, hw2⟩; subst w2)
    go_ret
    exact ⟨by rw [Bool.false_and]; rfl, rfl⟩
end Go.Proofs.Ythkibgdeibolfaa
