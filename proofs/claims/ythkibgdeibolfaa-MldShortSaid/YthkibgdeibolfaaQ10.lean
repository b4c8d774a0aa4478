/- Texts joined into one file: JWr, JBody. -/
import Derived.Test.YthkibgdeibolfaaQ08
import Derived.Test.YthkibgdeibolfaaQ03
import Derived.Lib.Strings
import Derived.Lib.Builder
import Derived.Lib.AppendStr
import Derived.Lib.UnsafeStr
import Derived.Laws.Externs

/- igmp.writer: a strings.Builder that is embedded: what it holds ('Wr'), and its methods. -/
namespace Go.Proofs.Ythkibgdeibolfaa
open Go.RowKit Go.Sort
set_option maxRecDepth 20000
set_option maxRecDepth 20000
attribute [local go_sem] bstr_size bstr_extract bstr_toList bstr_get

/-- blocks of bytes -/
def U8 (w : World) (j : Nat) : Prop := ∃ cs fr, w.heap[j]? = some (.cells cs 5 fr)
/-- what turned: block b, rows of bytes from b on, and new memory -/
def Tur (w w' : World) (b : Nat) : Prop := Below b w w' ∧ ∀ j, j < w.heap.size → j ≠ b → ¬ U8 w j → w'.heap[j]? = w.heap[j]?
theorem Tur.refl (w : World) (b : Nat) : Tur w w b := ⟨Below.refl _ _, fun _ _ _ _ => rfl⟩
theorem Tur.trans {w w' w'' : World} {b : Nat} (h : Tur w w' b) (k : Tur w' w'' b) : Tur w w'' b := by
  refine ⟨h.1.trans k.1, fun j hj hb hu => ?_⟩
  have e := h.2 j hj hb hu
  exact (k.2 j (Nat.lt_of_lt_of_le hj h.1.size) hb (fun ⟨cs, fr, hc⟩ => hu ⟨cs, fr, e ▸ hc⟩)).trans e
theorem Tur.of_below {w w' : World} (h : Below w.heap.size w w') {b : Nat} (hb : b ≤ w.heap.size) : Tur w w' b := ⟨h.mono hb, fun j hj _ _ => h.block j hj⟩
theorem Tur.box {w w' : World} {b j : Nat} {T : TypeId} {cs : Array Value} (h : Tur w w' b) (hc : CBox w j T cs) (hj : j ≠ b) (hT : T ≠ 5) : CBox w' j T cs :=
  (h.2 j hc.lt hj (fun ⟨cs', fr, e⟩ => by rw [hc] at e; injection e with e; injection e with e1 e2; exact hT e2)).trans hc
theorem Tur.set {w w' : World} {b : Nat} (h : Tur w w' b) (i : Nat) (v : Value) : Tur w (w'.setCell ⟨b, i, none⟩ v) b :=
  ⟨h.1.setCell (p := ⟨b, i, none⟩) (Nat.le_refl _) v, fun j hj hb hu => (Below.heap_setCell w' ⟨b, i, none⟩ v j hb).trans (h.2 j hj hb hu)⟩

/-- a writer at block b: its text, and whether something does not fit -/
def WrP (w : World) (b : Nat) (p : Value) (S : Str) (bad : Bool) : Prop :=
  ∃ v, CBox w b 104 #[p, v, .bool bad] ∧ w.ownsRow b 5 1 v S.length (Lib.byteCells S)
def Wr (w : World) (b : Nat) (S : Str) (bad : Bool) : Prop := WrP w b (.pointer none) S bad ∨ WrP w b (.pointer (some ⟨b, 0, none⟩)) S bad
theorem WrP.lt {w : World} {b : Nat} {p : Value} {S : Str} {bad : Bool} (h : WrP w b p S bad) : b < w.heap.size := by obtain ⟨v, h, _⟩ := h; exact h.lt
theorem Wr.lt {w : World} {b : Nat} {S : Str} {bad : Bool} (h : Wr w b S bad) : b < w.heap.size := by rcases h with h | h <;> exact h.lt
theorem WrP.kept {w w' : World} {b : Nat} {p : Value} {S : Str} {bad : Bool} (h : WrP w b p S bad) (hb : Below w.heap.size w w') : WrP w' b p S bad := by
  obtain ⟨v, h1, h2⟩ := h
  exact ⟨v, h1.below hb h1.lt, h2.kept (row := none) ⟨hb.os, hb.tape, hb.output, hb.size, fun k hk _ => hb.block k hk⟩ (by cases v.ownBlock <;> simp)⟩
theorem Wr.kept {w w' : World} {b : Nat} {S : Str} {bad : Bool} (h : Wr w b S bad) (hb : Below w.heap.size w w') : Wr w' b S bad := h.imp (·.kept hb) (·.kept hb)
theorem Wr.p {w : World} {b : Nat} {S : Str} {bad : Bool} (h : Wr w b S bad) : ∃ p, WrP w b p S bad := by rcases h with h | h <;> exact ⟨_, h⟩
theorem WrP.set {w : World} {b : Nat} {p v : Value} {S : Str} {bad : Bool} (h1 : CBox w b 104 #[p, v, .bool bad]) (h2 : w.ownsRow b 5 1 v S.length (Lib.byteCells S)) (i : Nat) (u : Value) :
    (w.setCell ⟨b, i, none⟩ u).ownsRow b 5 1 v S.length (Lib.byteCells S) := by
  have hne : v.ownBlock ≠ some b := own_box h2 h1 (by decide)
  exact h2.kept (row := some b) ⟨rfl, rfl, rfl, by simp [World.setCell], fun k _ hk => Below.heap_setCell _ _ _ _ (fun e => hk (by simp [e]))⟩ (.inr hne)
theorem WrP.bad {w : World} {b : Nat} {p : Value} {S : Str} {bad : Bool} (h : WrP w b p S bad) (c : Bool) : WrP (w.setCell ⟨b, 2, none⟩ (.bool c)) b p S c := by
  obtain ⟨v, h1, h2⟩ := h
  exact ⟨v, h1.set 2 _, WrP.set h1 h2 2 _⟩
theorem Wr.bad {w : World} {b : Nat} {S : Str} {bad : Bool} (h : Wr w b S bad) (c : Bool) : Wr (w.setCell ⟨b, 2, none⟩ (.bool c)) b S c := h.imp (·.bad c) (·.bad c)
theorem WrP.used {w : World} {b : Nat} {p : Value} {S : Str} {bad : Bool} (h : WrP w b p S bad) (q : Value) : WrP (w.setCell ⟨b, 0, none⟩ q) b q S bad := by
  obtain ⟨v, h1, h2⟩ := h
  exact ⟨v, h1.set 0 _, WrP.set h1 h2 0 _⟩
theorem Wr.new {w : World} {b : Nat} (h : b = w.heap.size) : Wr (w.alloc (.cells #[.pointer none, .slice none 0 0, .bool false] 104)) b [] false :=
  .inl ⟨_, CBox.new _ h, World.ownsRow_nil _ _ _ _⟩
theorem byteCells_len (S : Str) : (Lib.byteCells S).length = S.length := by simp [Lib.byteCells]

theorem infoBuilder : (Try.prog.info? 102).map (·.size) = some 2 := by kernel_rfl
theorem liesWriter : liesAt Try.prog Try.prog.depth 104 (3 / Try.prog.cellsOf 104) 0 102 1 = true := by kernel_rfl

set_option maxHeartbeats 1000000 in
theorem copy_used (b : Nat) (S : Str) (bad : Bool) (w : World) (h : WrP w b (.pointer (some ⟨b, 0, none⟩)) S bad) :
    Calls Try.prog 99 #[.pointer (some ⟨b, 0, none⟩)] w fun e w' => e = .returned (.tuple #[]) ∧ w = w' := by
  obtain ⟨j, hj, _⟩ := Option.map_eq_some_iff.1 infoBuilder
  obtain ⟨v, h1, h2⟩ := h
  obtain ⟨c0, f0⟩ := h1.at_ 0 _ rfl
  clear h1 h2
  go_enter Try.func99, Try.ntmps99
  go_wp2_with fail
  rw [Lib.run_neq_ptr_same w _ Try.underlying100 hj]
  go_wp2_with fail
  go_end0
  exact ⟨rfl, rfl⟩

set_option maxHeartbeats 1000000 in
theorem copy_fresh (b : Nat) (S : Str) (bad : Bool) (w : World) (h : WrP w b (.pointer none) S bad) :
    Calls Try.prog 99 #[.pointer (some ⟨b, 0, none⟩)] w fun e w' => e = .returned (.tuple #[]) ∧ w' = w.setCell ⟨b, 0, none⟩ (.pointer (some ⟨b, 0, none⟩)) := by
  obtain ⟨j, hj, hjs⟩ := Option.map_eq_some_iff.1 infoBuilder
  obtain ⟨v, h1, h2⟩ := h
  obtain ⟨c0, f0⟩ := h1.at_ 0 _ rfl
  have hsh : w.shape? b = some (104, 3) := by have h' : w.heap[b]? = _ := h1; simp [World.shape?, h']
  clear h1 h2
  go_enter Try.func99, Try.ntmps99
  go_wp2_with fail
  rw [Lib.run_to_unsafe w ⟨b, 0, none⟩ Try.underlying100 Try.underlying119 hj (by rw [hjs]; decide) hsh (Nat.zero_lt_succ 2)]
  simp only [Result.andThen]
  rw [Oper.upon_value]
  go_wp2_with fail
  rw [run_callFunc_extern Try.func102 (by kernel_rfl) (by kernel_rfl) (by kernel_rfl) (e := Extern.AbiNoEscape.same) (by kernel_rfl)]
  rw [Lib.run_noEscape]
  simp only [Result.andThen]
  rw [Oper.upon_value]
  go_wp2_with fail
  rw [Lib.run_from_unsafe w ⟨b, 0, none⟩ Try.underlying119 Try.underlying100 hj hsh liesWriter]
  simp only [Result.andThen]
  rw [Oper.upon_value]
  go_wp2_with fail
  go_end0
  exact ⟨rfl, rfl⟩

def RetUsed (w : World) (b : Nat) (S : Str) (bad : Bool) (e : Ending) (w' : World) : Prop := e = .returned (.tuple #[]) ∧ WrP w' b (.pointer (some ⟨b, 0, none⟩)) S bad ∧ Tur w w' b
theorem copy_any (b : Nat) (S : Str) (bad : Bool) (w : World) (h : Wr w b S bad) :
    Calls Try.prog 99 #[.pointer (some ⟨b, 0, none⟩)] w (RetUsed w b S bad) := by
  rcases h with h | h
  · refine (copy_fresh b S bad w h).mono ?_
    rintro e w' ⟨rfl, rfl⟩
    exact ⟨rfl, h.used _, (Tur.refl w b).set 0 _⟩
  · refine (copy_used b S bad w h).mono ?_
    rintro e w' ⟨rfl, rfl⟩
    exact ⟨rfl, h, Tur.refl w b⟩

theorem infoByteW : (Try.prog.info? 5).map (fun i => (i.zero, i.size, i.bytes)) = some (some (.int .u8 0), 1, 1) := by kernel_rfl
theorem Tur.grown {w w1 : World} {b : Nat} {v : Value} {S : Str} {w' : World} (h : Tur w w1 b) (ho : w1.ownsRow b 5 1 v S.length (Lib.byteCells S)) (hb : b ≤ w1.heap.size) (hg : w1.grownBy w' v.ownBlock) : Tur w w' b := by
  refine ⟨h.1.grown hg hb (fun k hk => (ho.lt k hk).1), fun j hj hb' hu => ?_⟩
  refine (hg.block j (Nat.lt_of_lt_of_le hj h.1.size) (fun e => ?_)).trans (h.2 j hj hb' hu)
  rcases ho.2 with ⟨rfl, _⟩ | ⟨g, cap, cur, rfl, _, hg', _⟩
  · simp [Value.ownBlock] at e
  · have e' : j = g := by simpa [Value.ownBlock] using e
    subst e'
    exact hu ⟨cur, _, (h.2 j hj hb' hu).symm.trans hg'⟩
def RetWs (w : World) (b : Nat) (S : Str) (bad : Bool) (e : Ending) (w' : World) : Prop := (∃ n, e = .returned (.tuple #[.int .i64 n, .nilIface])) ∧ Wr w' b S bad ∧ Tur w w' b
set_option maxHeartbeats 2000000 in
theorem wstring_any (b : Nat) (S x : Str) (bad : Bool) (w : World) (h : Wr w b S bad) (hlen : S.length + x.length ≤ 140737488355328) :
    Calls Try.prog 96 #[.pointer (some ⟨b, 0, none⟩), .string (bstr x)] w (RetWs w b (S ++ x) bad) := by
  obtain ⟨i0, hi, hz0, hz1, hz2⟩ := info_parts infoByteW
  have HC := Lib.hid (copy_any b S bad w h)
  have HL := Lib.hid hlen
  clear h hlen
  go_enter Try.func96, Try.ntmps96
  have hc3 : S.length + (bstr x).size ≤ maxLen := by have := HL.out; rw [bstr_size]; unfold maxLen; omega
  have hc4 : S.length + (bstr x).size ≤ 140737488355328 := by have := HL.out; rw [bstr_size]; omega
  have HC3 := Lib.hid hc3; have HC4 := Lib.hid hc4
  clear hc3 hc4
  go_wp2_with (first | ((with_reducible refine HC.out.mono ?_); rintro e w1 ⟨rfl, hp, ht⟩; obtain ⟨v, hbk, hown⟩ := hp; obtain ⟨c1, f1⟩ := hbk.at_ 1 _ rfl; have HT := Lib.hid ht; have HB := Lib.hid hbk; have HO := Lib.hid hown; clear ht hbk hown) | (at_builtin; refine Lib.wpList_append_own_string _ rfl _ _ 39 9 rfl b 5 i0 Try.underlying39 Try.underlying9 hi hz0 hz1 hz2 _ _ _ rfl HO.out (bstr x) rfl HC3.out HC4.out (Nat.le_of_lt HB.out.lt) ?_; intro v' w2 hown' hgrow _; have HX := Lib.hid (HB.out.grown hgrow (fun e => own_box HO.out HB.out (by decide) e.symm)); have HT2 := Lib.hid (HT.out.grown HO.out (Nat.le_of_lt HB.out.lt) hgrow); rw [bstr_size] at hown'; have HO2 := Lib.hid hown'; obtain ⟨ao, cc, rfl⟩ := own_form hown'; clear c1 f1; obtain ⟨d1, g1⟩ := HX.out.at_ 1 _ rfl; clear hown' hgrow))
  go_ret2
  have hx : CBox (w2.setCell ⟨b, 1, none⟩ (.slice ao (S.length + x.length) cc)) b 104 #[.pointer (some ⟨b, 0, none⟩), (.slice ao (S.length + x.length) cc), .bool bad] := HX.out.set 1 _
  have hne2 := own_box HO2.out HX.out (by decide)
  refine ⟨⟨_, rfl⟩, .inr ⟨_, hx, ?_⟩, HT2.out.set 1 _⟩
  have e1 : Lib.byteCells (S ++ x) = Lib.byteCells S ++ Lib.strCells (bstr x) := by
    unfold Lib.byteCells Lib.strCells
    rw [List.map_append, bstr_data]
  rw [e1, List.length_append]
  exact HO2.out.kept (row := some b) ⟨rfl, rfl, rfl, by simp [World.setCell], fun k _ hk => Below.heap_setCell _ _ _ _ (fun e => hk (by simp [e]))⟩ (.inr hne2)

def RetW (w : World) (b : Nat) (S : Str) (bad : Bool) (e : Ending) (w' : World) : Prop := e = .returned (.tuple #[]) ∧ Wr w' b S bad ∧ Tur w w' b
theorem putS_len (n : Int) (width : Nat) : (putS n width).length ≤ width := by
  unfold putS
  split
  · rw [ofN_length]; exact Nat.le_refl _
  · simp
set_option maxHeartbeats 2000000 in
theorem wput_any (b : Nat) (S : Str) (bad : Bool) (n : Int) (width : Nat) (w : World) (h : Wr w b S bad) (h1 : 1 ≤ width) (h4 : width ≤ 4) (hl : S.length ≤ 100000000) :
    Calls Try.prog 86 #[.pointer (some ⟨b, 0, none⟩), .int .i64 n, .int .i64 width] w (RetW w b (S ++ putS n width) (bad || !okPut n width)) := by
  have hp := put_any n width w h1 h4
  obtain ⟨er, her⟩ : ∃ er : Int, er = if okPut n width then 0 else 1 := ⟨_, rfl⟩
  obtain ⟨q, hq⟩ : ∃ q, q = !okPut n width := ⟨_, rfl⟩
  have hne : (er != 0) = q := by rw [her, hq]; cases okPut n width <;> rfl
  obtain ⟨x, hx⟩ : ∃ x, x = putS n width := ⟨_, rfl⟩
  have hxl : x.length ≤ 4 := by rw [hx]; exact Nat.le_trans (putS_len n width) h4
  rw [← her, ← hx] at hp
  rw [← hq, ← hx]
  have HP := Lib.hid hp
  have HW := Lib.hid h
  have HL := Lib.hid (show S.length + x.length ≤ 140737488355328 by omega)
  clear hp h her hq hx hxl hl h1 h4
  cases bad
  all_goals
    go_enter Try.func86, Try.ntmps86
    go_wp2_with (first | ((with_reducible refine HP.out.mono ?_); rintro e w1 ⟨rfl, hb1⟩; have HW1 := Lib.hid (HW.out.kept hb1); have HT1 := Lib.hid (Tur.of_below hb1 (Nat.le_of_lt HW.out.lt)); obtain ⟨p, hp⟩ := HW1.out.p; obtain ⟨v, hbk, hown⟩ := hp; obtain ⟨c2, f2⟩ := hbk.at_ 2 _ rfl; clear hb1 hbk hown) | ((with_reducible refine (wstring_any b S x _ _ (HW1.out.bad _) HL.out).mono ?_); rintro e w2 ⟨⟨m, rfl⟩, hw2, ht2⟩; have HW2 := Lib.hid hw2; have HT2 := Lib.hid ((HT1.out.set 2 _).trans ht2); clear hw2 ht2))
    go_end0
    exact ⟨rfl, HW2.out, HT2.out⟩

/-- what a writer leaves of a slice of strings -/
def Apart (w : World) (v : Value) (L : List Str) (b : Nat) : Prop := L ≠ [] → ∀ j, v.ownBlock = some j → j ≠ b ∧ (j < b ∨ ¬ U8 w j)
theorem Apart.of_below {w w0 : World} {v : Value} {L : List Str} {b : Nat} (h : Strs w0 v L) (hb : w0.heap.size ≤ b) : Apart w v L b := fun hL j hj => by
  obtain ⟨j', hj', hlt⟩ := h.block hL
  rw [hj] at hj'
  injection hj' with e
  subst e
  exact ⟨by omega, .inl (by omega)⟩
theorem Strs.tur {w w' : World} {v : Value} {L : List Str} {b : Nat} (h : Strs w v L) (ha : Apart w v L b) (ht : Tur w w' b) : Strs w' v L ∧ Apart w' v L b := by
  have key : L ≠ [] → ∀ j, v.ownBlock = some j → j < w.heap.size → w'.heap[j]? = w.heap[j]? := fun hL j hj hlt => by
    obtain ⟨h1, h2⟩ := ha hL j hj
    rcases h2 with h2 | h2
    · exact ht.1.block j h2
    · exact ht.2 j hlt h1 h2
  have hbl := fun hL => h.block hL
  obtain ⟨ao, cap, bb, off, rfl, h0, h1, h2, h3⟩ := h
  refine ⟨⟨ao, cap, bb, off, rfl, h0, h1, h2, fun k hk => ?_⟩, ?_⟩
  · obtain ⟨hlt, hc⟩ := h3 k hk
    have hL : L ≠ [] := by intro e; subst e; simp at hk
    rcases h0 with h0 | rfl
    · exact absurd h0 hL
    · refine ⟨Nat.lt_of_lt_of_le hlt ht.1.size, ?_⟩
      rw [World.cell?_of_block (w := w) (key hL bb rfl hlt)]
      exact hc
  · intro hL j hj
    obtain ⟨k1, k2⟩ := ha hL j hj
    refine ⟨k1, k2.imp id fun hu => ?_⟩
    obtain ⟨j', hj', hlt⟩ := hbl hL
    rw [hj] at hj'
    injection hj' with e
    subst e
    rintro ⟨cs, fr, e⟩
    exact hu ⟨cs, fr, (key hL j hj hlt) ▸ e⟩
theorem flat_take (L : List Str) (k : Nat) (h : k < L.length) : (L.take (k + 1)).flatten = (L.take k).flatten ++ L[k] := by
  rw [take_snoc L k h, List.flatten_append]
  simp
theorem flat_take_le (L : List Str) (k : Nat) : (L.take k).flatten.length ≤ L.flatten.length := by
  conv => rhs; rw [← List.take_append_drop k L, List.flatten_append, List.length_append]
  omega
set_option maxHeartbeats 2000000 in
theorem waddrs_any (b : Nat) (S : Str) (bad : Bool) (v : Value) (L : List Str) (w : World) (h : Wr w b S bad) (hv : Strs w v L) (ha : Apart w v L b) (hl : S.length + L.flatten.length ≤ 140737488355328) :
    Calls Try.prog 87 #[.pointer (some ⟨b, 0, none⟩), v] w (RetW w b (S ++ L.flatten) bad) := by
  obtain ⟨_, _, hm, hlen, h9, h8⟩ := hv.facts
  clear h9 h8
  have HV := Lib.hid (And.intro h (And.intro hv ha))
  have HLN := Lib.hid hl
  clear h hv ha hl
  go_enter Try.func87, Try.ntmps87
  go_wp2_with fail
  have HM := Lib.hid hm
  clear hm
  go_loopw [5, 8, 9, 10, 11, 12, 13, 14, 15, 16, 17] (fun _ i _ _ _ _ _ _ _ _ _ wr => ∃ k : Nat, k ≤ L.length ∧ i = .int .i64 k ∧ Wr wr b (S ++ (L.take k).flatten) bad ∧ Strs wr v L ∧ Apart wr v L b ∧ Tur w wr b) (fun _ i _ _ _ _ _ _ _ _ _ _ => L.length - (RowKit.intOf i).toNat)
  case atStart => exact ⟨0, Nat.zero_le _, rfl, by simpa using HV.out.1, HV.out.2.1, HV.out.2.2, Tur.refl _ _⟩
  case round =>
    obtain ⟨k, hk, rfl, hw, hst, hap, ht⟩ := hrel
    by_cases hlt : k < L.length
    · obtain ⟨bb, off, h9, h8, hidx, hc⟩ := hst.facts; clear h9 h8
      obtain ⟨x, hx⟩ : ∃ x, x = L.getD k [] := ⟨_, rfl⟩
      have hp := hidx k hlt
      have hcell := (hc k hlt).2
      rw [enc_bstr, ← hx] at hcell
      have hLk : L[k] = x := by rw [hx]; simp [List.getD_eq_getElem?_getD, hlt]
      have HX := Lib.hid (show (L.take (k + 1)).flatten = (L.take k).flatten ++ x from by rw [flat_take L k hlt, hLk])
      have HLX := Lib.hid (show (S ++ (L.take k).flatten).length + x.length ≤ 140737488355328 from by
        have h1 := flat_take_le L (k + 1)
        rw [HX.out, List.length_append] at h1
        have h2 := HLN.out
        rw [List.length_append]
        omega)
      have HW := Lib.hid hw; have HST := Lib.hid (And.intro hst hap); have HT := Lib.hid ht
      have hm := HM.out
      clear hidx hc hx hLk hw hst hap ht hk
      go_wp2_with (first | ((with_reducible refine (wstring_any b _ x _ _ HW.out HLX.out).mono ?_); rintro e w2 ⟨⟨m, rfl⟩, hw2, ht2⟩; have HW2 := Lib.hid hw2; have HT2 := Lib.hid (HT.out.trans ht2); have HS2 := Lib.hid (HST.out.1.tur HST.out.2 ht2); clear hw2 ht2))
      go_roundw
      case rel => exact ⟨k + 1, hlt, by go_num, by rw [HX.out, ← List.append_assoc]; exact HW2.out, HS2.out.1, HS2.out.2, HT2.out⟩
      case measure => simp [intOf]; omega
    · have HW := Lib.hid (show Wr wr b (S ++ L.flatten) bad from by rw [List.take_of_length_le (by omega)] at hw; exact hw)
      have HT := Lib.hid ht
      clear hw hst hap ht
      go_wp2_with fail
      go_end0
      exact ⟨rfl, HW.out, HT.out⟩

def RetStr (w : World) (b : Nat) (S : Str) (e : Ending) (w' : World) : Prop := e = .returned (.string (bstr S)) ∧ Below b w w'
set_option maxHeartbeats 1000000 in
theorem wtext_some (b : Nat) (S : Str) (bad : Bool) (w : World) (h : Wr w b S bad) (h0 : S ≠ []) (hm : S.length ≤ 100000000) :
    Calls Try.prog 88 #[.pointer (some ⟨b, 0, none⟩)] w (RetStr w b S) := by
  obtain ⟨p, v, hbk, hown⟩ := h.p
  have hl0 : S.length ≠ 0 := by simpa using h0
  obtain ⟨g, cap, cur, rfl, hbg, hg, hnc, hcm, hcs, htake⟩ : ∃ g cap cur, v = .slice (some ⟨g, 0, none⟩) S.length cap ∧ b ≤ g ∧ w.heap[g]? = some (.cells cur 5 (0, 0)) ∧ S.length ≤ cap ∧ cap ≤ maxLen ∧ cur.size = cap * 1 ∧ cur.toList.take (S.length * 1) = Lib.byteCells S := by
    rcases hown.2 with ⟨_, hz⟩ | ⟨g, cap, cur, hv, r⟩
    · exact absurd hz hl0
    · exact ⟨g, cap, cur, hv, r⟩
  have c1 : w.drew.cell? ⟨b, 1, none⟩ = some (.slice (some ⟨g, 0, none⟩) S.length cap) := (hbk.at_ 1 _ rfl).1
  have hSD : (Builtin.unsafeSliceData_ #[39] 114 #[.slice (some ⟨g, 0, none⟩) S.length cap]).run Try.prog w.drew = .ok (.pointer (some ⟨g, 0, none⟩)) w.drew :=
    Lib.run_unsafeSliceData_row _ _ _ _ _ _ (by omega)
  have hUS : (Builtin.unsafeString_ #[114, 3] 9 #[.pointer (some ⟨g, 0, none⟩), .int .i64 S.length]).run Try.prog w.drew = .ok (.string (bstr S)) (w.drew.freeze ⟨g, 0, none⟩ S.length) := by
    rw [bstr_eq]
    refine Lib.run_unsafeString_row w.drew 114 3 9 5 Try.underlying114 (by kernel_rfl) g cur.size (by have hg' : w.drew.heap[g]? = some (.cells cur 5 (0, 0)) := hg; simp [World.shape?, hg']) S h0 (by omega) (by unfold maxLen at hcm; omega) ?_
    intro j x hx
    have := hown.cells (g := g) rfl j (.int .u8 x.toNat) (by simp [Lib.byteCells, hx])
    exact this
  have HF := Lib.hid (Lib.below_freeze (Below.drew (Below.refl b w)) (p := ⟨g, 0, none⟩) hbg S.length)
  clear h hbk hown hl0 h0 hbg hg hnc hcm hcs htake hm
  go_enter Try.func88, Try.ntmps88
  go_wp2_with fail
  go_region
  all_goals (go_wp2_with fail; go_ret; exact ⟨rfl, HF.out⟩)

theorem unsafe_none (W : World) (q : Option Addr) : (Builtin.unsafeString_ #[114, 3] 9 #[.pointer q, .int .i64 0]).run Try.prog W = .ok (.string ⟨#[]⟩) W := Lib.run_unsafeString_none W _ _ _ q
set_option maxHeartbeats 1000000 in
theorem wtext_nil (b : Nat) (p : Value) (bad : Bool) (w : World) (hbk : CBox w b 104 #[p, .slice none 0 0, .bool bad]) :
    Calls Try.prog 88 #[.pointer (some ⟨b, 0, none⟩)] w (RetStr w b []) := by
  have c1 : w.drew.cell? ⟨b, 1, none⟩ = some (.slice none 0 0) := (hbk.at_ 1 _ rfl).1
  have hSD : (Builtin.unsafeSliceData_ #[39] 114 #[.slice none 0 0]).run Try.prog w.drew = .ok (.pointer none) w.drew := rfl
  have HF := Lib.hid (Below.drew (Below.refl b w))
  have hUS := unsafe_none
  clear hbk
  go_enter Try.func88, Try.ntmps88
  go_wp2_with fail
  go_region
  all_goals (go_wp2_with fail; go_ret; exact ⟨by rw [bstr_nil]; rfl, HF.out⟩)
set_option maxHeartbeats 1000000 in
theorem wtext_room (b g cap : Nat) (p : Value) (bad : Bool) (w : World) (hc0 : cap ≠ 0) (hbk : CBox w b 104 #[p, .slice (some ⟨g, 0, none⟩) 0 cap, .bool bad]) :
    Calls Try.prog 88 #[.pointer (some ⟨b, 0, none⟩)] w (RetStr w b []) := by
  have c1 : w.drew.cell? ⟨b, 1, none⟩ = some (.slice (some ⟨g, 0, none⟩) 0 cap) := (hbk.at_ 1 _ rfl).1
  have hSD : (Builtin.unsafeSliceData_ #[39] 114 #[.slice (some ⟨g, 0, none⟩) 0 cap]).run Try.prog w.drew = .ok (.pointer (some ⟨g, 0, none⟩)) w.drew :=
    Lib.run_unsafeSliceData_row _ _ _ _ _ _ hc0
  clear hc0
  have HF := Lib.hid (Below.drew (Below.refl b w))
  have hUS := unsafe_none
  clear hbk
  go_enter Try.func88, Try.ntmps88
  go_wp2_with fail
  go_region
  all_goals (go_wp2_with fail; go_ret; exact ⟨by rw [bstr_nil]; rfl, HF.out⟩)
set_option maxHeartbeats 1000000 in
theorem wtext_noroom (b g : Nat) (p : Value) (bad : Bool) (cur : Array Value) (w : World) (hbk : CBox w b 104 #[p, .slice (some ⟨g, 0, none⟩) 0 0, .bool bad]) (hg : w.heap[g]? = some (.cells cur 5 (0, 0))) :
    Calls Try.prog 88 #[.pointer (some ⟨b, 0, none⟩)] w (RetStr w b []) := by
  have c1 : w.drew.cell? ⟨b, 1, none⟩ = some (.slice (some ⟨g, 0, none⟩) 0 0) := (hbk.at_ 1 _ rfl).1
  have hSD : (Builtin.unsafeSliceData_ #[39] 114 #[.slice (some ⟨g, 0, none⟩) 0 0]).run Try.prog w.drew = .ok (.pointer (some ⟨w.drew.heap.size, 0, none⟩)) (w.drew.alloc (.view ⟨g, 0, none⟩ 5)) :=
    Lib.run_unsafeSliceData_zero w.drew _ _ 5 Try.underlying114 ⟨g, 0, none⟩ 0 (5, cur.size) (by have hg' : w.drew.heap[g]? = some (.cells cur 5 (0, 0)) := hg; simp [World.shape?, hg'])
  have c2 : (w.drew.alloc (.view ⟨g, 0, none⟩ 5)).cell? ⟨b, 1, none⟩ = some (.slice (some ⟨g, 0, none⟩) 0 0) := ((hbk.draws 1).old _ |>.at_ 1 _ rfl).1
  have c3 : (w.alloc (.view ⟨g, 0, none⟩ 5)).drew.cell? ⟨b, 1, none⟩ = some (.slice (some ⟨g, 0, none⟩) 0 0) := c2
  have c0 : w.cell? ⟨b, 1, none⟩ = some (.slice (some ⟨g, 0, none⟩) 0 0) := c1
  have HF := Lib.hid ((Below.drew (Below.refl b w)).alloc (Nat.le_of_lt hbk.lt) (.view ⟨g, 0, none⟩ 5))
  clear hg
  have hUS := unsafe_none
  clear hbk
  go_enter Try.func88, Try.ntmps88
  go_wp2_with fail
  go_region
  all_goals (go_wp2_with fail; go_ret; exact ⟨by rw [bstr_nil]; rfl, HF.out⟩)
theorem wtext_any (b : Nat) (S : Str) (bad : Bool) (w : World) (h : Wr w b S bad) (hm : S.length ≤ 100000000) :
    Calls Try.prog 88 #[.pointer (some ⟨b, 0, none⟩)] w (RetStr w b S) := by
  by_cases h0 : S = []
  · subst h0
    obtain ⟨p, v, hbk, hown⟩ := h.p
    rcases hown.2 with ⟨rfl, _⟩ | ⟨g, cap, cur, rfl, _, hg, _⟩
    · exact wtext_nil b p bad w hbk
    · by_cases hc : cap = 0
      · subst hc; exact wtext_noroom b g p bad cur w hbk hg
      · exact wtext_room b g cap p bad w hc hbk
  · exact wtext_some b S bad w h h0 hm

theorem wput1 (b : Nat) (S : Str) (bad : Bool) (n : Int) (w : World) (h : Wr w b S bad) (hl : S.length ≤ 100000000) :
    Calls Try.prog 86 #[.pointer (some ⟨b, 0, none⟩), .int .i64 n, .int .i64 1] w (RetW w b (S ++ putS n 1) (bad || !okPut n 1)) := wput_any b S bad n 1 w h (by decide) (by decide) hl
theorem wput2 (b : Nat) (S : Str) (bad : Bool) (n : Int) (w : World) (h : Wr w b S bad) (hl : S.length ≤ 100000000) :
    Calls Try.prog 86 #[.pointer (some ⟨b, 0, none⟩), .int .i64 n, .int .i64 2] w (RetW w b (S ++ putS n 2) (bad || !okPut n 2)) := wput_any b S bad n 2 w h (by decide) (by decide) hl
theorem wput3 (b : Nat) (S : Str) (bad : Bool) (n : Int) (w : World) (h : Wr w b S bad) (hl : S.length ≤ 100000000) :
    Calls Try.prog 86 #[.pointer (some ⟨b, 0, none⟩), .int .i64 n, .int .i64 3] w (RetW w b (S ++ putS n 3) (bad || !okPut n 3)) := wput_any b S bad n 3 w h (by decide) (by decide) hl
theorem encV_put (n : Int) : putS (encV_4 n) 1 = ofN (encV_4 n) 1 ∧ okPut (encV_4 n) 1 = true := by
  have h := encV4_lt n
  have h1 : okPut (encV_4 n) 1 = true := by unfold okPut; rw [decide_eq_true (by omega), decide_eq_true (by omega)]; rfl
  unfold putS
  rw [if_pos h1, Int.toNat_natCast]
  exact ⟨rfl, h1⟩
end Go.Proofs.Ythkibgdeibolfaa

/- igmp.Body. -/
namespace Go.Proofs.Ythkibgdeibolfaa
open Go.RowKit Go.Sort
set_option maxRecDepth 20000
set_option maxRecDepth 20000
attribute [local go_sem] bstr_size bstr_extract bstr_toList bstr_get

theorem flat_len (L : List Str) (n m : Nat) (h1 : L.length ≤ n) (h2 : ∀ a ∈ L, a.length ≤ m) : L.flatten.length ≤ n * m := by
  induction L generalizing n with
  | nil => simp
  | cons a L ih =>
    cases n with
    | zero => simp at h1
    | succ n =>
      have := ih n (by simpa using h1) (fun x hx => h2 x (List.mem_cons_of_mem _ hx))
      have := h2 a (List.mem_cons_self ..)
      rw [List.flatten_cons, List.length_append, Nat.succ_mul]
      omega
theorem recOk_parts {size : Nat} {r : Rec} (h : recOk size r = true) : (1 ≤ r.1 ∧ r.1 ≤ 6) ∧ r.2.1.length = size ∧ grp r.2.1 size = true ∧ r.2.2.length ≤ 60 ∧ ∀ a ∈ r.2.2, a.length = size := by
  unfold recOk sized at h
  simp only [Bool.and_eq_true, decide_eq_true_eq, List.all_eq_true] at h
  obtain ⟨⟨⟨h1, h2⟩, h3⟩, h4, h5⟩ := h
  refine ⟨⟨h1, h2⟩, ?_, h3, h4, h5⟩
  unfold grp at h3
  simp only [Bool.and_eq_true, decide_eq_true_eq] at h3
  exact h3.1
theorem recB_len {size : Nat} {r : Rec} (h : recOk size r = true) (hs : size ≤ 16) : (recB r).length ≤ 1000 := by
  obtain ⟨_, h2, _, h4, h5⟩ := recOk_parts h
  have h6 := flat_len r.2.2 60 16 h4 (fun a ha => by rw [h5 a ha]; exact hs)
  unfold recB
  simp only [List.length_append, ofN_length, List.length_cons, List.length_nil]
  omega
theorem bodyB_len (size : Nat) (hs : size ≤ 16) : ∀ R : List Rec, (∀ r ∈ R, recOk size r = true) → (bodyB R).length ≤ R.length * 1000
  | [], _ => by simp [bodyB]
  | r :: R, h => by
    have h1 := recB_len (h r (List.mem_cons_self ..)) hs
    have h2 := bodyB_len size hs R (fun x hx => h x (List.mem_cons_of_mem _ hx))
    simp only [bodyB, List.flatMap_cons, List.length_append, List.length_cons] at h2 ⊢
    omega
theorem bodyB_snoc (R : List Rec) (k : Nat) (h : k < R.length) (r : Rec) (hr : r = R.getD k default) : bodyB (R.take (k + 1)) = bodyB (R.take k) ++ recB r := by
  have : R[k] = r := by rw [hr]; simp [List.getD_eq_getElem?_getD, h]
  unfold bodyB
  rw [take_snoc R k h, List.flatMap_append, this]
  simp
theorem recB_parts {size : Nat} {r : Rec} (h : recOk size r = true) : recB r = putS r.1 1 ++ putS 0 1 ++ putS r.2.2.length 2 ++ [r.2.1].flatten ++ r.2.2.flatten ∧ okPut r.1 1 = true ∧ okPut 0 1 = true ∧ okPut r.2.2.length 2 = true := by
  obtain ⟨h1, _, _, h4, _⟩ := recOk_parts h
  have k1 : okPut r.1 1 = true := by unfold okPut; rw [decide_eq_true (by omega), decide_eq_true (by omega)]; rfl
  have k3 : okPut r.2.2.length 2 = true := by unfold okPut; rw [decide_eq_true (by omega), decide_eq_true (by omega)]; rfl
  refine ⟨?_, k1, rfl, k3⟩
  unfold putS recB
  rw [if_pos k1, if_pos k3, if_pos (show okPut 0 1 = true from rfl), Int.toNat_natCast]
  simp
  rfl

theorem strs_one (W : World) (G : Str) (hG : G.length ≤ maxLen) : Strs (W.alloc (.cells #[.string (bstr G)] 22)) (.slice (some ⟨W.heap.size, 0, none⟩) 1 1) [G] := by
  have h : CBox (W.alloc (.cells #[.string (bstr G)] 22)) W.heap.size 22 #[.string (bstr G)] := CBox.new _ rfl
  refine ⟨_, _, W.heap.size, 0, rfl, .inr rfl, by simp, by simpa using hG, fun k hk => ?_⟩
  obtain rfl : k = 0 := by simpa using hk
  exact ⟨h.lt, by rw [(h.at_ 0 _ rfl).1, enc_bstr]; rfl⟩
theorem apart_one (W : World) (G : Str) (b : Nat) (hb : b < W.heap.size) : Apart (W.alloc (.cells #[.string (bstr G)] 22)) (.slice (some ⟨W.heap.size, 0, none⟩) 1 1) [G] b := by
  have h : CBox (W.alloc (.cells #[.string (bstr G)] 22)) W.heap.size 22 #[.string (bstr G)] := CBox.new _ rfl
  intro _ j hj
  have e : j = W.heap.size := by simpa [Value.ownBlock, eq_comm] using hj
  subst e
  refine ⟨by omega, .inr ?_⟩
  rintro ⟨cs, fr, e⟩
  rw [h] at e
  injection e with e
  injection e with e1 e2
  exact absurd e2 (by decide)

def RetBody (w : World) (s : Str) (er : Int) (e : Ending) (w' : World) : Prop := e = .returned (.tuple #[.string (bstr s), .int .i64 er]) ∧ Below w.heap.size w w'
theorem body_bad (w w' : World) (P : Str × Int) (h : P = ([], 1)) (hb : Below w.heap.size w w') : RetBody w P.1 P.2 (.returned (.tuple #[.string ⟨#[]⟩, .int .i64 1])) w' := by
  subst h
  exact ⟨by rw [show bstr (([], 1) : Str × Int).1 = ⟨#[]⟩ from bstr_nil], hb⟩
def okTo (size : Nat) (R : List Rec) (k : Nat) : Prop := ∀ r ∈ R.take k, recOk size r = true
set_option maxHeartbeats 4000000 in
theorem body_nat (v : Value) (R : List Rec) (size : Nat) (w : World) (h : Recs w v R) (hsz : size = 4 ∨ size = 16) (hn : R.length ≤ 30) :
    Calls Try.prog 63 #[v, .int .i64 size] w (RetBody w (pbody R size).1 (pbody R size).2) := by
  have HSZ := Lib.hid (isSize_any size w)
  have hok : okSize (size : Int) = true := by unfold okSize; rcases hsz with rfl | rfl <;> rfl
  rw [hok] at HSZ
  have h16 : size ≤ 16 := by omega
  have HP := Lib.hid (show pbody R size = if R.all (recOk size) then (bodyB R, 0) else ([], 1) from by
    unfold pbody bodyOk
    rw [hok, decide_eq_true hn, Int.toNat_natCast]
    rfl)
  obtain ⟨P, hP⟩ : ∃ P, P = pbody R size := ⟨_, rfl⟩
  rw [← hP] at HP ⊢
  obtain ⟨_, _, src, _, hlen, h9, h8⟩ := h.facts
  clear h9 h8 src
  have d30 : decide ((30 : Int) < R.length) = false := decide_eq_false (by omega)
  have d30' : decide (30 < R.length) = false := decide_eq_false (by omega)
  have HR := Lib.hid (And.intro h (And.intro hn h16))
  clear h hsz hok h16 hP hn
  go_enter Try.func63, Try.ntmps63
  go_upto_region 4 with ((with_reducible refine HSZ.out.mono ?_); rintro e w2 ⟨rfl, hw2⟩; subst w2)
  clear d30 d30'
  obtain ⟨b, hb⟩ : ∃ b, b = w.heap.size := ⟨_, rfl⟩
  obtain ⟨W1, hW1⟩ : ∃ W1, W1 = w.alloc (.cells #[.pointer none, .slice none 0 0, .bool false] 104) := ⟨_, rfl⟩
  have HW1 := Lib.hid (show Wr W1 b [] false from by rw [hW1]; exact Wr.new hb)
  have HB1 := Lib.hid (show Below b w W1 from by rw [hW1, hb]; exact (Below.refl _ _).alloc (Nat.le_refl _) _)
  rw [← hW1, ← hb]
  have HNB := Lib.hid hb
  clear hW1 hb
  go_wp2_with fail
  go_loopw [8, 19, 20, 21, 22, 23, 24, 25, 26, 27, 28, 29, 30, 31, 32, 33, 34, 35, 36, 37, 38, 39, 40, 41, 42, 43, 44, 45, 46, 47, 48, 49, 50, 51, 52, 53, 54, 55, 56] (fun _ i _ _ _ _ _ _ _ _ _ _ _ _ _ _ _ _ _ _ _ _ _ _ _ _ _ _ _ _ _ _ _ _ _ _ _ _ _ wr => ∃ k : Nat, k ≤ R.length ∧ i = .int .i64 k ∧ okTo size R k ∧ Wr wr b (bodyB (R.take k)) false ∧ Below b w wr) (fun _ i _ _ _ _ _ _ _ _ _ _ _ _ _ _ _ _ _ _ _ _ _ _ _ _ _ _ _ _ _ _ _ _ _ _ _ _ _ _ => R.length - (RowKit.intOf i).toNat)
  case atStart => exact ⟨0, Nat.zero_le _, rfl, by simp [okTo], by simpa [bodyB] using HW1.out, HB1.out⟩
  case round =>
    obtain ⟨k, hk, rfl, hok, hw, hbw⟩ := hrel
    by_cases hlt : k < R.length
    · obtain ⟨bb, off, src, h7, h9, hidx, hc⟩ := HR.out.1.facts
      clear h7 h9
      obtain ⟨hbb, hc0, hc1, hc2, hst0, hgl⟩ := hc k hlt
      have hbe := HNB.out
      replace hc0 := (hbw.cell (p := ⟨bb, off + k * 3, none⟩) (by rw [hbe]; exact hbb)).trans hc0
      replace hc1 := (hbw.cell (p := ⟨bb, off + k * 3 + 1, none⟩) (by rw [hbe]; exact hbb)).trans hc1
      replace hc2 := (hbw.cell (p := ⟨bb, off + k * 3 + 2, none⟩) (by rw [hbe]; exact hbb)).trans hc2
      have hp := hidx k hlt
      obtain ⟨r, hr⟩ : ∃ r, r = R.getD k default := ⟨_, rfl⟩
      rw [← hr] at hc0 hc1 hst0 hgl
      obtain ⟨K, hK⟩ : ∃ K, r.1 = K := ⟨_, rfl⟩
      obtain ⟨G, hG⟩ : ∃ G, r.2.1 = G := ⟨_, rfl⟩
      obtain ⟨L, hL⟩ : ∃ L, r.2.2 = L := ⟨_, rfl⟩
      rw [hK] at hc0
      rw [hG] at hc1 hgl
      rw [hL] at hst0
      obtain ⟨vs, hvs⟩ : ∃ vs, src k = vs := ⟨_, rfl⟩
      rw [hvs] at hc2 hst0
      obtain ⟨ao, cc, rfl⟩ := hst0.shape
      have hst := hst0.mono (hbe ▸ hbw)
      have HAP := Lib.hid (fun W => Apart.of_below (w := W) hst0 (Nat.le_of_eq hbe.symm))
      have HR0 := Lib.hid (And.intro hr (And.intro hK (And.intro hG hL)))
      have HW := Lib.hid hw; have HBW := Lib.hid hbw; have HOK := Lib.hid hok
      have HST := Lib.hid hst; have HGL := Lib.hid hgl
      clear hidx hc hr hK hG hL hvs hw hbw hok hst hst0 hgl hk hbb hbe
      go_upto_region 7 with fail
      obtain ⟨W6, hW6⟩ : ∃ W6, wr.alloc (.cells #[.int .i64 K, .string (bstr G), .slice ao L.length cc] 56) = W6 := ⟨_, rfl⟩
      obtain ⟨rb, hrb⟩ : ∃ rb, wr.heap.size = rb := ⟨_, rfl⟩
      have X6 : CBox W6 rb 56 #[.int .i64 K, .string (bstr G), .slice ao L.length cc] := by rw [← hW6]; exact CBox.new _ hrb.symm
      have hb6 : Below wr.heap.size wr W6 := by rw [← hW6]; exact (Below.refl _ _).alloc (Nat.le_refl _) _
      have HW6 := Lib.hid (HW.out.kept hb6)
      have HBW6 := Lib.hid (HBW.out.trans (hb6.mono (Nat.le_of_lt HW.out.lt)))
      have HST6 := Lib.hid (HST.out.mono hb6)
      have HRB := Lib.hid (show rb ≠ b from by have := HW.out.lt; omega)
      rw [hW6, hrb]
      have HX6 := Lib.hid X6
      obtain ⟨x0, f0⟩ := X6.at_ 0 _ rfl
      obtain ⟨x1, f1⟩ := X6.at_ 1 _ rfl
      obtain ⟨x2, f2⟩ := X6.at_ 2 _ rfl
      have HKN := Lib.hid (known_any8 K W6)
      have HGR := Lib.hid (isGroup_any G size W6 HGL.out)
      have HOKR := Lib.hid (show recOk size r = (knownI K && grp G size && sized L size) from by
        unfold recOk knownI; rw [HR0.out.2.1, HR0.out.2.2.1, HR0.out.2.2.2])
      obtain ⟨q1, hq1⟩ : ∃ q1, q1 = knownI K := ⟨_, rfl⟩
      obtain ⟨q2, hq2⟩ : ∃ q2, q2 = grp G size := ⟨_, rfl⟩
      obtain ⟨q3, hq3⟩ : ∃ q3, q3 = sized L size := ⟨_, rfl⟩
      have HFT := Lib.hid (fun W (h : Strs W (.slice ao L.length cc) L) => fit_any _ L size W h)
      rw [← hq1, ← hq2, ← hq3] at HOKR
      rw [← hq1] at HKN
      rw [← hq2] at HGR
      rw [← hq3] at HFT
      clear hq1 hq2 hq3 X6 hb6 hW6 hrb hc0 hc1 hc2
      cases hqq : (q1 && q2 && q3)
      · have HPE := Lib.hid (show P = ([], 1) from by
          rw [HP.out, if_neg]
          rw [List.all_eq_true]
          intro ha
          have := ha r (by rw [HR0.out.1, List.getD_eq_getElem?_getD, List.getElem?_eq_getElem hlt]; exact List.getElem_mem hlt)
          rw [HOKR.out, hqq] at this
          cases this)
        cases q1
        · go_wp2_with (first | ((with_reducible refine HKN.out.mono ?_); rintro e w7 ⟨rfl, hw7⟩; subst w7))
          go_ret2
          exact body_bad w _ P HPE.out (HNB.out ▸ HBW6.out)
        · cases q2
          · go_wp2_with (first | ((with_reducible refine HKN.out.mono ?_); rintro e w7 ⟨rfl, hw7⟩; subst w7) | ((with_reducible refine HGR.out.mono ?_); rintro e w8 ⟨rfl, hb8⟩; have HBW8 := Lib.hid (HBW6.out.trans (hb8.mono (Nat.le_of_lt HW6.out.lt))); clear hb8))
            go_ret2
            exact body_bad w _ P HPE.out (HNB.out ▸ HBW8.out)
          · obtain rfl : q3 = false := hqq
            go_wp2_with (first | ((with_reducible refine HKN.out.mono ?_); rintro e w7 ⟨rfl, hw7⟩; subst w7) | ((with_reducible refine HGR.out.mono ?_); rintro e w8 ⟨rfl, hb8⟩; have HBW8 := Lib.hid (HBW6.out.trans (hb8.mono (Nat.le_of_lt HW6.out.lt))); have HST8 := Lib.hid (HST6.out.mono hb8); have HX8 := Lib.hid (HX6.out.below hb8 HX6.out.lt); clear hb8 x0 x1 x2 f0 f1 f2; obtain ⟨x2, f2⟩ := HX8.out.at_ 2 _ rfl) | ((with_reducible refine (HFT.out _ HST8.out).mono ?_); rintro e w9 ⟨rfl, hw9⟩; subst w9))
            go_ret2
            exact body_bad w _ P HPE.out (HNB.out ▸ HBW8.out)
      · have HRO := Lib.hid (show recOk size r = true from by rw [HOKR.out, hqq])
        obtain ⟨rfl, rfl, rfl⟩ : q1 = true ∧ q2 = true ∧ q3 = true := by cases q1 <;> cases q2 <;> cases q3 <;> first | exact ⟨rfl, rfl, rfl⟩ | cases hqq
        clear hqq
        have hpt := recB_parts HRO.out
        have hpl := recOk_parts HRO.out
        rw [HR0.out.2.1, HR0.out.2.2.1, HR0.out.2.2.2] at hpt hpl
        have HQ := Lib.hid hpt
        have hSl : (bodyB (R.take k)).length ≤ 30000 := by
          have h1 := bodyB_len size HR.out.2.2 (R.take k) HOK.out
          have h2 : (R.take k).length ≤ 30 := Nat.le_trans (List.length_take_le _ _) (Nat.le_trans (Nat.le_of_lt hlt) HR.out.2.1)
          have h3 : (R.take k).length * 1000 ≤ 30 * 1000 := Nat.mul_le_mul_right _ h2
          omega
        have hFl := flat_len L 60 16 hpl.2.2.2.1 (fun a ha => by rw [hpl.2.2.2.2 a ha]; exact HR.out.2.2)
        obtain ⟨S, hS⟩ : ∃ S, S = bodyB (R.take k) := ⟨_, rfl⟩
        rw [← hS] at HW6 hSl
        have HSB := Lib.hid (show bodyB (R.take (k + 1)) = S ++ putS K 1 ++ putS 0 1 ++ putS L.length 2 ++ [G].flatten ++ L.flatten from by
          rw [bodyB_snoc R k hlt r HR0.out.1, HQ.out.1, hS]; simp only [List.append_assoc])
        obtain ⟨o1, ho1⟩ : ∃ o, o = okPut K 1 := ⟨_, rfl⟩
        have HP1 := Lib.hid (fun W (hw : Wr W b S false) => wput1 b S false K W hw (by omega))
        have HP2 := Lib.hid (fun W (hw : Wr W b (S ++ putS K 1) false) => wput1 b (S ++ putS K 1) false 0 W hw (by have := putS_len K 1; rw [List.length_append]; omega))
        have HP3 := Lib.hid (fun W (hw : Wr W b (S ++ putS K 1 ++ putS 0 1) false) => wput2 b (S ++ putS K 1 ++ putS 0 1) false L.length W hw (by have := putS_len K 1; have := putS_len 0 1; simp only [List.length_append]; omega))
        rw [hpt.2.1] at HP1
        rw [hpt.2.2.1] at HP2
        rw [hpt.2.2.2] at HP3
        have hG16 : G.length ≤ 16 := by rw [hpl.2.1]; exact HR.out.2.2
        have HA1 := Lib.hid (fun W (hw : Wr W b (S ++ putS K 1 ++ putS 0 1 ++ putS L.length 2) false) => waddrs_any b (S ++ putS K 1 ++ putS 0 1 ++ putS L.length 2) false _ [G] _ (hw.kept ((Below.refl _ _).alloc (Nat.le_refl _) (.cells #[.string (bstr G)] 22))) (strs_one W G (Nat.le_trans hG16 (by decide))) (apart_one W G b hw.lt) (by have := putS_len K 1; have := putS_len 0 1; have := putS_len L.length 2; simp only [List.length_append, List.flatten_cons, List.flatten_nil, List.length_nil]; omega))
        have HA2 := Lib.hid (fun W (hw : Wr W b (S ++ putS K 1 ++ putS 0 1 ++ putS L.length 2 ++ [G].flatten) false) (hs : Strs W (.slice ao L.length cc) L) (ha : Apart W (.slice ao L.length cc) L b) => waddrs_any b (S ++ putS K 1 ++ putS 0 1 ++ putS L.length 2 ++ [G].flatten) false _ L W hw hs ha (by have := putS_len K 1; have := putS_len 0 1; have := putS_len L.length 2; simp only [List.length_append, List.flatten_cons, List.flatten_nil, List.length_nil]; omega))
        have HOK2 := Lib.hid (show okTo size R (k + 1) from by
          intro x hx
          rw [take_snoc R k hlt] at hx
          rcases List.mem_append.1 hx with hx | hx
          · exact HOK.out x hx
          · rw [List.mem_singleton] at hx; subst hx
            have e : R[k] = r := by rw [HR0.out.1, List.getD_eq_getElem?_getD, List.getElem?_eq_getElem hlt]; rfl
            rw [e]; exact HRO.out)
        have hwk : wrap64 ((k : Int) + 1) = (k : Int) + 1 := w64 _ (Int.le_add_one (Int.natCast_nonneg _)) (Int.le_trans (Int.ofNat_le.2 (Nat.succ_le_succ (Nat.le_trans (Nat.le_of_lt hlt) HR.out.2.1))) (by decide))
        have hlenL := run_len_any (P := Try.prog) Try.underlying26 ao L.length cc
        clear hpt hpl hSl hFl hS ho1 o1 hG16
        go_wp2_with (first
          | ((with_reducible refine HKN.out.mono ?_); rintro e w7 ⟨rfl, hw7⟩; subst w7)
          | ((with_reducible refine HGR.out.mono ?_); rintro e w8 ⟨rfl, hb8⟩; have HBW8 := Lib.hid (HBW6.out.trans (hb8.mono (Nat.le_of_lt HW6.out.lt))); have HST8 := Lib.hid (HST6.out.mono hb8); have HW8 := Lib.hid (HW6.out.kept hb8); have HX8 := Lib.hid (HX6.out.below hb8 HX6.out.lt); clear hb8 x0 x1 x2 f0 f1 f2; obtain ⟨x0, f0⟩ := HX8.out.at_ 0 _ rfl; obtain ⟨x2, f2⟩ := HX8.out.at_ 2 _ rfl)
          | ((with_reducible refine (HFT.out _ HST8.out).mono ?_); rintro e w9 ⟨rfl, hw9⟩; subst w9)
          | ((with_reducible refine (HP1.out _ HW8.out).mono ?_); rintro e w10 ⟨rfl, hw10, ht10⟩; have HW10 := Lib.hid hw10; have HT10 := Lib.hid ht10; clear hw10 ht10)
          | ((with_reducible refine (HP2.out _ HW10.out).mono ?_); rintro e w11 ⟨rfl, hw11, ht11⟩; have HW11 := Lib.hid hw11; have HT11 := Lib.hid (HT10.out.trans ht11); have HX11 := Lib.hid (HT11.out.box HX8.out HRB.out (by decide)); clear hw11 ht11 x0 x2 f0 f2; obtain ⟨x2, f2⟩ := HX11.out.at_ 2 _ rfl)
          | ((with_reducible refine (HP3.out _ HW11.out).mono ?_); rintro e w12 ⟨rfl, hw12, ht12⟩; have HW12 := Lib.hid hw12; have HT12 := Lib.hid (HT11.out.trans ht12); have HX12 := Lib.hid (HT12.out.box HX8.out HRB.out (by decide)); clear hw12 ht12 x2 f2; obtain ⟨x1, f1⟩ := HX12.out.at_ 1 _ rfl)
          | ((with_reducible refine (HA1.out _ HW12.out).mono ?_); rintro e w13 ⟨rfl, hw13, ht13⟩; have HW13 := Lib.hid hw13; have HT13 := Lib.hid ((HT12.out.trans (Tur.of_below ((Below.refl _ _).alloc (Nat.le_refl _) _) (Nat.le_of_lt HW12.out.lt))).trans ht13); have HX13 := Lib.hid (HT13.out.box HX8.out HRB.out (by decide)); clear hw13 ht13 x1 f1; obtain ⟨x2, f2⟩ := HX13.out.at_ 2 _ rfl)
          | ((with_reducible refine (HA2.out _ HW13.out (HST8.out.tur (HAP.out _) HT13.out).1 (HST8.out.tur (HAP.out _) HT13.out).2).mono ?_); rintro e w14 ⟨rfl, hw14, ht14⟩; have HW14 := Lib.hid hw14; have HT14 := Lib.hid (HT13.out.trans ht14); clear hw14 ht14))
        refine ⟨⟨k + 1, hlt, rfl, HOK2.out, by rw [HSB.out]; exact HW14.out, HBW8.out.trans HT14.out.1⟩, meas_up R.length k hlt⟩
    · obtain rfl : R.length = k := Nat.le_antisymm (Nat.le_of_not_lt hlt) hk
      rw [List.take_length] at hw
      have hok' : ∀ r ∈ R, recOk size r = true := by have := hok; unfold okTo at this; rwa [List.take_length] at this
      have HPE := Lib.hid (show P = (bodyB R, 0) from by rw [HP.out, if_pos (List.all_eq_true.2 hok')])
      have HT := Lib.hid (wtext_any b (bodyB R) false wr hw (Nat.le_trans (bodyB_len size HR.out.2.2 R hok') (Nat.le_trans (Nat.mul_le_mul_right 1000 HR.out.2.1) (by decide))))
      have HBW := Lib.hid hbw
      clear hw hok hok' hbw hlt hk
      go_wp2_with ((with_reducible refine HT.out.mono ?_); rintro e w14 ⟨rfl, hb14⟩; have HB14 := Lib.hid (HBW.out.trans hb14); clear hb14)
      go_ret2
      exact ⟨by rw [HPE.out]; rfl, HNB.out ▸ HB14.out⟩

theorem body_any (v : Value) (R : List Rec) (size : Int) (w : World) (h : Recs w v R) :
    Calls Try.prog 63 #[v, .int .i64 size] w (RetBody w (pbody R size).1 (pbody R size).2) := by
  obtain ⟨_, _, src, _, hlen, h9, h8⟩ := h.facts
  clear h9 h8 src
  by_cases hz : okSize size = true
  · obtain ⟨z, rfl, hz2⟩ : ∃ z : Nat, size = z ∧ (z = 4 ∨ z = 16) := by
      unfold okSize at hz
      rcases Bool.or_eq_true _ _ ▸ hz with e | e
      · exact ⟨4, of_decide_eq_true e, .inl rfl⟩
      · exact ⟨16, of_decide_eq_true e, .inr rfl⟩
    by_cases hn : R.length ≤ 30
    · exact body_nat v R z w h hz2 hn
    · have HP := Lib.hid (show pbody R (z : Int) = ([], 1) from by unfold pbody bodyOk; rw [decide_eq_false hn]; simp)
      have HSZ := Lib.hid (isSize_any z w)
      rw [hz] at HSZ
      have d30 : decide ((30 : Int) < R.length) = true := decide_eq_true (by omega)
      have d30' : decide (30 < R.length) = true := decide_eq_true (by omega)
      clear h hz hz2 hn
      go_enter Try.func63, Try.ntmps63
      go_wp2_with ((with_reducible refine HSZ.out.mono ?_); rintro e w2 ⟨rfl, hw2⟩; subst w2)
      go_ret2
      exact body_bad w _ _ HP.out (Below.refl _ _)
  · have HP := Lib.hid (show pbody R size = ([], 1) from by unfold pbody bodyOk; rw [Bool.not_eq_true] at hz; rw [hz]; simp)
    have HSZ := Lib.hid (isSize_any size w)
    rw [Bool.not_eq_true] at hz
    rw [hz] at HSZ
    clear h hz
    go_enter Try.func63, Try.ntmps63
    go_wp2_with ((with_reducible refine HSZ.out.mono ?_); rintro e w2 ⟨rfl, hw2⟩; subst w2)
    go_ret2
    exact body_bad w _ _ HP.out (Below.refl _ _)
end Go.Proofs.Ythkibgdeibolfaa
