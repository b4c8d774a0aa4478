/- igmp.writer: a strings.Builder that is embedded: what it holds ('Wr'), and its methods. -/
import Derived.Test.YthkogdgfkhhleaaJAddr
import Derived.Test.YthkogdgfkhhleaaJRow
import Derived.Lib.Strings
import Derived.Lib.Builder
import Derived.Lib.AppendStr
import Derived.Lib.UnsafeStr
import Derived.Laws.Externs
namespace Go.Proofs.Ythkogdgfkhhleaa
open Go.RowKit Go.Sort
set_option maxRecDepth 20000
set_option maxRecDepth 20000
attribute [local go_sem] bstr_size bstr_extract bstr_toList bstr_get

/-- blocks of bytes -/
def U8 (w : World) (j : Nat) : Prop := ∃ cs fr, w.heap[j]? = some (.cells cs 5 fr)
/-- what turned: block b, rows of bytes from b on, and new memory -/
def Tur (w w' : World) (b : Nat) : Prop := Below b w w' ∧ ∀ j, j < w.heap.size → j ≠ b → ¬ U8 w j → w'.heap[j]? = w.heap[j]?
theorem Tur.refl (w : World) (b : Nat) : Tur w w b := ⟨Below.refl _ _, fun _ _ _ _ => rfl⟩
theorem Tur.trans {w w' w'' : World} {b : Nat} (h : Tur w w' b) (k : Tur w' w'' b) : Tur w w'' b := by
  refine ⟨h.1.trans k.1, fun j hj hb hu => ?_⟩
  have e := h.2 j hj hb hu
  exact (k.2 j (Nat.lt_of_lt_of_le hj h.1.size) hb (fun ⟨cs, fr, hc⟩ => hu ⟨cs, fr, e ▸ hc⟩)).trans e
theorem Tur.of_below {w w' : World} (h : Below w.heap.size w w') {b : Nat} (hb : b ≤ w.heap.size) : Tur w w' b := ⟨h.mono hb, fun j hj _ _ => h.block j hj⟩
theorem Tur.box {w w' : World} {b j : Nat} {T : TypeId} {cs : Array Value} (h : Tur w w' b) (hc : CBox w j T cs) (hj : j ≠ b) (hT : T ≠ 5) : CBox w' j T cs :=
  (h.2 j hc.lt hj (fun ⟨cs', fr, e⟩ => by rw [hc] at e; injection e with e; injection e with e1 e2; exact hT e2)).trans hc
theorem Tur.set {w w' : World} {b : Nat} (h : Tur w w' b) (i : Nat) (v : Value) : Tur w (w'.setCell ⟨b, i, none⟩ v) b :=
  ⟨h.1.setCell (p := ⟨b, i, none⟩) (Nat.le_refl _) v, fun j hj hb hu => (Below.heap_setCell w' ⟨b, i, none⟩ v j hb).trans (h.2 j hj hb hu)⟩

/-- a writer at block b: its text, and whether something does not fit -/
def WrP (w : World) (b : Nat) (p : Value) (S : Str) (bad : Bool) : Prop :=
  ∃ v, CBox w b 62 #[p, v, .bool bad] ∧ w.ownsRow b 5 1 v S.length (Lib.byteCells S)
def Wr (w : World) (b : Nat) (S : Str) (bad : Bool) : Prop := WrP w b (.pointer none) S bad ∨ WrP w b (.pointer (some ⟨b, 0, none⟩)) S bad
theorem WrP.lt {w : World} {b : Nat} {p : Value} {S : Str} {bad : Bool} (h : WrP w b p S bad) : b < w.heap.size := by obtain ⟨v, h, _⟩ := h; exact h.lt
theorem Wr.lt {w : World} {b : Nat} {S : Str} {bad : Bool} (h : Wr w b S bad) : b < w.heap.size := by rcases h with h | h <;> exact h.lt
theorem WrP.kept {w w' : World} {b : Nat} {p : Value} {S : Str} {bad : Bool} (h : WrP w b p S bad) (hb : Below w.heap.size w w') : WrP w' b p S bad := by
  obtain ⟨v, h1, h2⟩ := h
  exact ⟨v, h1.below hb h1.lt, h2.kept (row := none) ⟨hb.os, hb.tape, hb.output, hb.size, fun k hk _ => hb.block k hk⟩ (by cases v.ownBlock <;> simp)⟩
theorem Wr.kept {w w' : World} {b : Nat} {S : Str} {bad : Bool} (h : Wr w b S bad) (hb : Below w.heap.size w w') : Wr w' b S bad := h.imp (·.kept hb) (·.kept hb)
theorem Wr.p {w : World} {b : Nat} {S : Str} {bad : Bool} (h : Wr w b S bad) : ∃ p, WrP w b p S bad := by rcases h with h | h <;> exact ⟨_, h⟩
theorem WrP.set {w : World} {b : Nat} {p v : Value} {S : Str} {bad : Bool} (h1 : CBox w b 62 #[p, v, .bool bad]) (h2 : w.ownsRow b 5 1 v S.length (Lib.byteCells S)) (i : Nat) (u : Value) :
    (w.setCell ⟨b, i, none⟩ u).ownsRow b 5 1 v S.length (Lib.byteCells S) := by
  have hne : v.ownBlock ≠ some b := own_box h2 h1 (by decide)
  exact h2.kept (row := some b) ⟨rfl, rfl, rfl, by simp [World.setCell], fun k _ hk => Below.heap_setCell _ _ _ _ (fun e => hk (by simp [e]))⟩ (.inr hne)
theorem WrP.bad {w : World} {b : Nat} {p : Value} {S : Str} {bad : Bool} (h : WrP w b p S bad) (c : Bool) : WrP (w.setCell ⟨b, 2, none⟩ (.bool c)) b p S c := by
  obtain ⟨v, h1, h2⟩ := h
  exact ⟨v, h1.set 2 _, WrP.set h1 h2 2 _⟩
theorem Wr.bad {w : World} {b : Nat} {S : Str} {bad : Bool} (h : Wr w b S bad) (c : Bool) : Wr (w.setCell ⟨b, 2, none⟩ (.bool c)) b S c := h.imp (·.bad c) (·.bad c)
theorem WrP.used {w : World} {b : Nat} {p : Value} {S : Str} {bad : Bool} (h : WrP w b p S bad) (q : Value) : WrP (w.setCell ⟨b, 0, none⟩ q) b q S bad := by
  obtain ⟨v, h1, h2⟩ := h
  exact ⟨v, h1.set 0 _, WrP.set h1 h2 0 _⟩
theorem Wr.new {w : World} {b : Nat} (h : b = w.heap.size) : Wr (w.alloc (.cells #[.pointer none, .slice none 0 0, .bool false] 62)) b [] false :=
  .inl ⟨_, CBox.new _ h, World.ownsRow_nil _ _ _ _⟩
theorem byteCells_len (S : Str) : (Lib.byteCells S).length = S.length := by simp [Lib.byteCells]

theorem infoBuilder : (Try.prog.info? 60).map (·.size) = some 2 := by kernel_rfl
theorem liesWriter : liesAt Try.prog Try.prog.depth 62 (3 / Try.prog.cellsOf 62) 0 60 1 = true := by kernel_rfl

set_option maxHeartbeats 1000000 in
theorem copy_used (b : Nat) (S : Str) (bad : Bool) (w : World) (h : WrP w b (.pointer (some ⟨b, 0, none⟩)) S bad) :
    Calls Try.prog 74 #[.pointer (some ⟨b, 0, none⟩)] w fun e w' => e = .returned (.tuple #[]) ∧ w = w' := by
  obtain ⟨j, hj, _⟩ := Option.map_eq_some_iff.1 infoBuilder
  obtain ⟨v, h1, h2⟩ := h
  obtain ⟨c0, f0⟩ := h1.at_ 0 _ rfl
  clear h1 h2
  go_enter Try.func74, Try.ntmps74
  go_wp2_with fail
  rw [Lib.run_neq_ptr_same w _ Try.underlying58 hj]
  go_wp2_with fail
  go_end0
  exact ⟨rfl, rfl⟩

set_option maxHeartbeats 1000000 in
theorem copy_fresh (b : Nat) (S : Str) (bad : Bool) (w : World) (h : WrP w b (.pointer none) S bad) :
    Calls Try.prog 74 #[.pointer (some ⟨b, 0, none⟩)] w fun e w' => e = .returned (.tuple #[]) ∧ w' = w.setCell ⟨b, 0, none⟩ (.pointer (some ⟨b, 0, none⟩)) := by
  obtain ⟨j, hj, hjs⟩ := Option.map_eq_some_iff.1 infoBuilder
  obtain ⟨v, h1, h2⟩ := h
  obtain ⟨c0, f0⟩ := h1.at_ 0 _ rfl
  have hsh : w.shape? b = some (62, 3) := by have h' : w.heap[b]? = _ := h1; simp [World.shape?, h']
  clear h1 h2
  go_enter Try.func74, Try.ntmps74
  go_wp2_with fail
  rw [Lib.run_to_unsafe w ⟨b, 0, none⟩ Try.underlying58 Try.underlying104 hj (by rw [hjs]; decide) hsh (Nat.zero_lt_succ 2)]
  simp only [Result.andThen]
  rw [Oper.upon_value]
  go_wp2_with fail
  rw [run_callFunc_extern Try.func79 (by kernel_rfl) (by kernel_rfl) (by kernel_rfl) (e := Extern.AbiNoEscape.same) (by kernel_rfl)]
  rw [Lib.run_noEscape]
  simp only [Result.andThen]
  rw [Oper.upon_value]
  go_wp2_with fail
  rw [Lib.run_from_unsafe w ⟨b, 0, none⟩ Try.underlying104 Try.underlying58 hj hsh liesWriter]
  simp only [Result.andThen]
  rw [Oper.upon_value]
  go_wp2_with fail
  go_end0
  exact ⟨rfl, rfl⟩

def RetUsed (w : World) (b : Nat) (S : Str) (bad : Bool) (e : Ending) (w' : World) : Prop := e = .returned (.tuple #[]) ∧ WrP w' b (.pointer (some ⟨b, 0, none⟩)) S bad ∧ Tur w w' b
theorem copy_any (b : Nat) (S : Str) (bad : Bool) (w : World) (h : Wr w b S bad) :
    Calls Try.prog 74 #[.pointer (some ⟨b, 0, none⟩)] w (RetUsed w b S bad) := by
  rcases h with h | h
  · refine (copy_fresh b S bad w h).mono ?_
    rintro e w' ⟨rfl, rfl⟩
    exact ⟨rfl, h.used _, (Tur.refl w b).set 0 _⟩
  · refine (copy_used b S bad w h).mono ?_
    rintro e w' ⟨rfl, rfl⟩
    exact ⟨rfl, h, Tur.refl w b⟩

theorem infoByteW : (Try.prog.info? 5).map (fun i => (i.zero, i.size, i.bytes)) = some (some (.int .u8 0), 1, 1) := by kernel_rfl
theorem Tur.grown {w w1 : World} {b : Nat} {v : Value} {S : Str} {w' : World} (h : Tur w w1 b) (ho : w1.ownsRow b 5 1 v S.length (Lib.byteCells S)) (hb : b ≤ w1.heap.size) (hg : w1.grownBy w' v.ownBlock) : Tur w w' b := by
  refine ⟨h.1.grown hg hb (fun k hk => (ho.lt k hk).1), fun j hj hb' hu => ?_⟩
  refine (hg.block j (Nat.lt_of_lt_of_le hj h.1.size) (fun e => ?_)).trans (h.2 j hj hb' hu)
  rcases ho.2 with ⟨rfl, _⟩ | ⟨g, cap, cur, rfl, _, hg', _⟩
  · simp [Value.ownBlock] at e
  · have e' : j = g := by simpa [Value.ownBlock] using e
    subst e'
    exact hu ⟨cur, _, (h.2 j hj hb' hu).symm.trans hg'⟩
def RetWs (w : World) (b : Nat) (S : Str) (bad : Bool) (e : Ending) (w' : World) : Prop := (∃ n, e = .returned (.tuple #[.int .i64 n, .nilIface])) ∧ Wr w' b S bad ∧ Tur w w' b
set_option maxHeartbeats 2000000 in
theorem wstring_any (b : Nat) (S x : Str) (bad : Bool) (w : World) (h : Wr w b S bad) (hlen : S.length + x.length ≤ 140737488355328) :
    Calls Try.prog 58 #[.pointer (some ⟨b, 0, none⟩), .string (bstr x)] w (RetWs w b (S ++ x) bad) := by
  obtain ⟨i0, hi, hz0, hz1, hz2⟩ := info_parts infoByteW
  have HC := Lib.hid (copy_any b S bad w h)
  have HL := Lib.hid hlen
  clear h hlen
  go_enter Try.func58, Try.ntmps58
  have hc3 : S.length + (bstr x).size ≤ maxLen := by have := HL.out; rw [bstr_size]; unfold maxLen; omega
  have hc4 : S.length + (bstr x).size ≤ 140737488355328 := by have := HL.out; rw [bstr_size]; omega
  have HC3 := Lib.hid hc3; have HC4 := Lib.hid hc4
  clear hc3 hc4
  go_wp2_with (first | ((with_reducible refine HC.out.mono ?_); rintro e w1 ⟨rfl, hp, ht⟩; obtain ⟨v, hbk, hown⟩ := hp; obtain ⟨c1, f1⟩ := hbk.at_ 1 _ rfl; have HT := Lib.hid ht; have HB := Lib.hid hbk; have HO := Lib.hid hown; clear ht hbk hown) | (at_builtin; refine Lib.wpList_append_own_string _ rfl _ _ 44 9 rfl b 5 i0 Try.underlying44 Try.underlying9 hi hz0 hz1 hz2 _ _ _ rfl HO.out (bstr x) rfl HC3.out HC4.out (Nat.le_of_lt HB.out.lt) ?_; intro v' w2 hown' hgrow _; have HX := Lib.hid (HB.out.grown hgrow (fun e => own_box HO.out HB.out (by decide) e.symm)); have HT2 := Lib.hid (HT.out.grown HO.out (Nat.le_of_lt HB.out.lt) hgrow); rw [bstr_size] at hown'; have HO2 := Lib.hid hown'; obtain ⟨ao, cc, rfl⟩ := own_form hown'; clear c1 f1; obtain ⟨d1, g1⟩ := HX.out.at_ 1 _ rfl; clear hown' hgrow))
  go_ret2
  have hx : CBox (w2.setCell ⟨b, 1, none⟩ (.slice ao (S.length + x.length) cc)) b 62 #[.pointer (some ⟨b, 0, none⟩), (.slice ao (S.length + x.length) cc), .bool bad] := HX.out.set 1 _
  have hne2 := own_box HO2.out HX.out (by decide)
  refine ⟨⟨_, rfl⟩, .inr ⟨_, hx, ?_⟩, HT2.out.set 1 _⟩
  have e1 : Lib.byteCells (S ++ x) = Lib.byteCells S ++ Lib.strCells (bstr x) := by
    unfold Lib.byteCells Lib.strCells
    rw [List.map_append, bstr_data]
  rw [e1, List.length_append]
  exact HO2.out.kept (row := some b) ⟨rfl, rfl, rfl, by simp [World.setCell], fun k _ hk => Below.heap_setCell _ _ _ _ (fun e => hk (by simp [e]))⟩ (.inr hne2)

def RetW (w : World) (b : Nat) (S : Str) (bad : Bool) (e : Ending) (w' : World) : Prop := e = .returned (.tuple #[]) ∧ Wr w' b S bad ∧ Tur w w' b
theorem putS_len (n : Int) (width : Nat) : (putS n width).length ≤ width := by
  unfold putS
  split
  · rw [ofN_length]; exact Nat.le_refl _
  · simp
set_option maxHeartbeats 2000000 in
theorem wput_any (b : Nat) (S : Str) (bad : Bool) (n : Int) (width : Nat) (w : World) (h : Wr w b S bad) (h1 : 1 ≤ width) (h4 : width ≤ 4) (hl : S.length ≤ 100000000) :
    Calls Try.prog 44 #[.pointer (some ⟨b, 0, none⟩), .int .i64 n, .int .i64 width] w (RetW w b (S ++ putS n width) (bad || !okPut n width)) := by
  have hp := put_any n width w h1 h4
  obtain ⟨er, her⟩ : ∃ er : Int, er = if okPut n width then 0 else 1 := ⟨_, rfl⟩
  obtain ⟨q, hq⟩ : ∃ q, q = !okPut n width := ⟨_, rfl⟩
  have hne : (er != 0) = q := by rw [her, hq]; cases okPut n width <;> rfl
  obtain ⟨x, hx⟩ : ∃ x, x = putS n width := ⟨_, rfl⟩
  have hxl : x.length ≤ 4 := by rw [hx]; exact Nat.le_trans (putS_len n width) h4
  rw [← her, ← hx] at hp
  rw [← hq, ← hx]
  have HP := Lib.hid hp
  have HW := Lib.hid h
  have HL := Lib.hid (show S.length + x.length ≤ 140737488355328 by omega)
  clear hp h her hq hx hxl hl h1 h4
  cases bad
  all_goals
    go_enter Try.func44, Try.ntmps44
    go_wp2_with (first | ((with_reducible refine HP.out.mono ?_); rintro e w1 ⟨rfl, hb1⟩; have HW1 := Lib.hid (HW.out.kept hb1); have HT1 := Lib.hid (Tur.of_below hb1 (Nat.le_of_lt HW.out.lt)); obtain ⟨p, hp⟩ := HW1.out.p; obtain ⟨v, hbk, hown⟩ := hp; obtain ⟨c2, f2⟩ := hbk.at_ 2 _ rfl; clear hb1 hbk hown) | ((with_reducible refine (wstring_any b S x _ _ (HW1.out.bad _) HL.out).mono ?_); rintro e w2 ⟨⟨m, rfl⟩, hw2, ht2⟩; have HW2 := Lib.hid hw2; have HT2 := Lib.hid ((HT1.out.set 2 _).trans ht2); clear hw2 ht2))
    go_end0
    exact ⟨rfl, HW2.out, HT2.out⟩

/-- what a writer leaves of a slice of strings -/
def Apart (w : World) (v : Value) (L : List Str) (b : Nat) : Prop := L ≠ [] → ∀ j, v.ownBlock = some j → j ≠ b ∧ (j < b ∨ ¬ U8 w j)
theorem Apart.of_below {w w0 : World} {v : Value} {L : List Str} {b : Nat} (h : Strs w0 v L) (hb : w0.heap.size ≤ b) : Apart w v L b := fun hL j hj => by
  obtain ⟨j', hj', hlt⟩ := h.block hL
  rw [hj] at hj'
  injection hj' with e
  subst e
  exact ⟨by omega, .inl (by omega)⟩
theorem Strs.tur {w w' : World} {v : Value} {L : List Str} {b : Nat} (h : Strs w v L) (ha : Apart w v L b) (ht : Tur w w' b) : Strs w' v L ∧ Apart w' v L b := by
  have key : L ≠ [] → ∀ j, v.ownBlock = some j → j < w.heap.size → w'.heap[j]? = w.heap[j]? := fun hL j hj hlt => by
    obtain ⟨h1, h2⟩ := ha hL j hj
    rcases h2 with h2 | h2
    · exact ht.1.block j h2
    · exact ht.2 j hlt h1 h2
  have hbl := fun hL => h.block hL
  obtain ⟨ao, cap, bb, off, rfl, h0, h1, h2, h3⟩ := h
  refine ⟨⟨ao, cap, bb, off, rfl, h0, h1, h2, fun k hk => ?_⟩, ?_⟩
  · obtain ⟨hlt, hc⟩ := h3 k hk
    have hL : L ≠ [] := by intro e; subst e; simp at hk
    rcases h0 with h0 | rfl
    · exact absurd h0 hL
    · refine ⟨Nat.lt_of_lt_of_le hlt ht.1.size, ?_⟩
      rw [World.cell?_of_block (w := w) (key hL bb rfl hlt)]
      exact hc
  · intro hL j hj
    obtain ⟨k1, k2⟩ := ha hL j hj
    refine ⟨k1, k2.imp id fun hu => ?_⟩
    obtain ⟨j', hj', hlt⟩ := hbl hL
    rw [hj] at hj'
    injection hj' with e
    subst e
    rintro ⟨cs, fr, e⟩
    exact hu ⟨cs, fr, (key hL j hj hlt) ▸ e⟩
theorem flat_take (L : List Str) (k : Nat) (h : k < L.length) : (L.take (k + 1)).flatten = (L.take k).flatten ++ L[k] := by
  rw [take_snoc L k h, List.flatten_append]
  simp
theorem flat_take_le (L : List Str) (k : Nat) : (L.take k).flatten.length ≤ L.flatten.length := by
  conv => rhs; rw [← List.take_append_drop k L, List.flatten_append, List.length_append]
  omega
set_option maxHeartbeats 2000000 in
theorem waddrs_any (b : Nat) (S : Str) (bad : Bool) (v : Value) (L : List Str) (w : World) (h : Wr w b S bad) (hv : Strs w v L) (ha : Apart w v L b) (hl : S.length + L.flatten.length ≤ 140737488355328) :
    Calls Try.prog 45 #[.pointer (some ⟨b, 0, none⟩), v] w (RetW w b (S ++ L.flatten) bad) := by
  obtain ⟨_, _, hm, hlen, h9, h8⟩ := hv.facts
  clear h9 h8
  have HV := Lib.hid (And.intro h (And.intro hv ha))
  have HLN := Lib.hid hl
  clear h hv ha hl
  go_enter Try.func45, Try.ntmps45
  go_wp2_with fail
  have HM := Lib.hid hm
  clear hm
  go_loopw [5, 8, 9, 10, 11, 12, 13, 14, 15, 16, 17] (fun _ i _ _ _ _ _ _ _ _ _ wr => ∃ k : Nat, k ≤ L.length ∧ i = .int .i64 k ∧ Wr wr b (S ++ (L.take k).flatten) bad ∧ Strs wr v L ∧ Apart wr v L b ∧ Tur w wr b) (fun _ i _ _ _ _ _ _ _ _ _ _ => L.length - (RowKit.intOf i).toNat)
  case atStart => exact ⟨0, Nat.zero_le _, rfl, by simpa using HV.out.1, HV.out.2.1, HV.out.2.2, Tur.refl _ _⟩
  case round =>
    obtain ⟨k, hk, rfl, hw, hst, hap, ht⟩ := hrel
    by_cases hlt : k < L.length
    · obtain ⟨bb, off, h9, h8, hidx, hc⟩ := hst.facts; clear h9 h8
      obtain ⟨x, hx⟩ : ∃ x, x = L.getD k [] := ⟨_, rfl⟩
      have hp := hidx k hlt
      have hcell := (hc k hlt).2
      rw [enc_bstr, ← hx] at hcell
      have hLk : L[k] = x := by rw [hx]; simp [List.getD_eq_getElem?_getD, hlt]
      have HX := Lib.hid (show (L.take (k + 1)).flatten = (L.take k).flatten ++ x from by rw [flat_take L k hlt, hLk])
      have HLX := Lib.hid (show (S ++ (L.take k).flatten).length + x.length ≤ 140737488355328 from by
        have h1 := flat_take_le L (k + 1)
        rw [HX.out, List.length_append] at h1
        have h2 := HLN.out
        rw [List.length_append]
        omega)
      have HW := Lib.hid hw; have HST := Lib.hid (And.intro hst hap); have HT := Lib.hid ht
      have hm := HM.out
      clear hidx hc hx hLk hw hst hap ht hk
      go_wp2_with (first | ((with_reducible refine (wstring_any b _ x _ _ HW.out HLX.out).mono ?_); rintro e w2 ⟨⟨m, rfl⟩, hw2, ht2⟩; have HW2 := Lib.hid hw2; have HT2 := Lib.hid (HT.out.trans ht2); have HS2 := Lib.hid (HST.out.1.tur HST.out.2 ht2); clear hw2 ht2))
      go_roundw
      case rel => exact ⟨k + 1, hlt, by go_num, by rw [HX.out, ← List.append_assoc]; exact HW2.out, HS2.out.1, HS2.out.2, HT2.out⟩
      case measure => simp [intOf]; omega
    · have HW := Lib.hid (show Wr wr b (S ++ L.flatten) bad from by rw [List.take_of_length_le (by omega)] at hw; exact hw)
      have HT := Lib.hid ht
      clear hw hst hap ht
      go_wp2_with fail
      go_end0
      exact ⟨rfl, HW.out, HT.out⟩

def RetStr (w : World) (b : Nat) (S : Str) (e : Ending) (w' : World) : Prop := e = .returned (.string (bstr S)) ∧ Below b w w'
set_option maxHeartbeats 1000000 in
theorem wtext_some (b : Nat) (S : Str) (bad : Bool) (w : World) (h : Wr w b S bad) (h0 : S ≠ []) (hm : S.length ≤ 100000000) :
    Calls Try.prog 36 #[.pointer (some ⟨b, 0, none⟩)] w (RetStr w b S) := by
  obtain ⟨p, v, hbk, hown⟩ := h.p
  have hl0 : S.length ≠ 0 := by simpa using h0
  obtain ⟨g, cap, cur, rfl, hbg, hg, hnc, hcm, hcs, htake⟩ : ∃ g cap cur, v = .slice (some ⟨g, 0, none⟩) S.length cap ∧ b ≤ g ∧ w.heap[g]? = some (.cells cur 5 (0, 0)) ∧ S.length ≤ cap ∧ cap ≤ maxLen ∧ cur.size = cap * 1 ∧ cur.toList.take (S.length * 1) = Lib.byteCells S := by
    rcases hown.2 with ⟨_, hz⟩ | ⟨g, cap, cur, hv, r⟩
    · exact absurd hz hl0
    · exact ⟨g, cap, cur, hv, r⟩
  have c1 : w.drew.cell? ⟨b, 1, none⟩ = some (.slice (some ⟨g, 0, none⟩) S.length cap) := (hbk.at_ 1 _ rfl).1
  have hSD : (Builtin.unsafeSliceData_ #[44] 93 #[.slice (some ⟨g, 0, none⟩) S.length cap]).run Try.prog w.drew = .ok (.pointer (some ⟨g, 0, none⟩)) w.drew :=
    Lib.run_unsafeSliceData_row _ _ _ _ _ _ (by omega)
  have hUS : (Builtin.unsafeString_ #[93, 3] 9 #[.pointer (some ⟨g, 0, none⟩), .int .i64 S.length]).run Try.prog w.drew = .ok (.string (bstr S)) (w.drew.freeze ⟨g, 0, none⟩ S.length) := by
    rw [bstr_eq]
    refine Lib.run_unsafeString_row w.drew 93 3 9 5 Try.underlying93 (by kernel_rfl) g cur.size (by have hg' : w.drew.heap[g]? = some (.cells cur 5 (0, 0)) := hg; simp [World.shape?, hg']) S h0 (by omega) (by unfold maxLen at hcm; omega) ?_
    intro j x hx
    have := hown.cells (g := g) rfl j (.int .u8 x.toNat) (by simp [Lib.byteCells, hx])
    exact this
  have HF := Lib.hid (Lib.below_freeze (Below.drew (Below.refl b w)) (p := ⟨g, 0, none⟩) hbg S.length)
  clear h hbk hown hl0 h0 hbg hg hnc hcm hcs htake hm
  go_enter Try.func36, Try.ntmps36
  go_wp2_with fail
  go_region
  all_goals (go_wp2_with fail; go_ret; exact ⟨rfl, HF.out⟩)

theorem unsafe_none (W : World) (q : Option Addr) : (Builtin.unsafeString_ #[93, 3] 9 #[.pointer q, .int .i64 0]).run Try.prog W = .ok (.string ⟨#[]⟩) W := Lib.run_unsafeString_none W _ _ _ q
set_option maxHeartbeats 1000000 in
theorem wtext_nil (b : Nat) (p : Value) (bad : Bool) (w : World) (hbk : CBox w b 62 #[p, .slice none 0 0, .bool bad]) :
    Calls Try.prog 36 #[.pointer (some ⟨b, 0, none⟩)] w (RetStr w b []) := by
  have c1 : w.drew.cell? ⟨b, 1, none⟩ = some (.slice none 0 0) := (hbk.at_ 1 _ rfl).1
  have hSD : (Builtin.unsafeSliceData_ #[44] 93 #[.slice none 0 0]).run Try.prog w.drew = .ok (.pointer none) w.drew := rfl
  have HF := Lib.hid (Below.drew (Below.refl b w))
  have hUS := unsafe_none
  clear hbk
  go_enter Try.func36, Try.ntmps36
  go_wp2_with fail
  go_region
  all_goals (go_wp2_with fail; go_ret; exact ⟨by rw [bstr_nil]; rfl, HF.out⟩)
set_option maxHeartbeats 1000000 in
theorem wtext_room (b g cap : Nat) (p : Value) (bad : Bool) (w : World) (hc0 : cap ≠ 0) (hbk : CBox w b 62 #[p, .slice (some ⟨g, 0, none⟩) 0 cap, .bool bad]) :
    Calls Try.prog 36 #[.pointer (some ⟨b, 0, none⟩)] w (RetStr w b []) := by
  have c1 : w.drew.cell? ⟨b, 1, none⟩ = some (.slice (some ⟨g, 0, none⟩) 0 cap) := (hbk.at_ 1 _ rfl).1
  have hSD : (Builtin.unsafeSliceData_ #[44] 93 #[.slice (some ⟨g, 0, none⟩) 0 cap]).run Try.prog w.drew = .ok (.pointer (some ⟨g, 0, none⟩)) w.drew :=
    Lib.run_unsafeSliceData_row _ _ _ _ _ _ hc0
  clear hc0
  have HF := Lib.hid (Below.drew (Below.refl b w))
  have hUS := unsafe_none
  clear hbk
  go_enter Try.func36, Try.ntmps36
  go_wp2_with fail
  go_region
  all_goals (go_wp2_with fail; go_ret; exact ⟨by rw [bstr_nil]; rfl, HF.out⟩)
set_option maxHeartbeats 1000000 in
theorem wtext_noroom (b g : Nat) (p : Value) (bad : Bool) (cur : Array Value) (w : World) (hbk : CBox w b 62 #[p, .slice (some ⟨g, 0, none⟩) 0 0, .bool bad]) (hg : w.heap[g]? = some (.cells cur 5 (0, 0))) :
    Calls Try.prog 36 #[.pointer (some ⟨b, 0, none⟩)] w (RetStr w b []) := by
  have c1 : w.drew.cell? ⟨b, 1, none⟩ = some (.slice (some ⟨g, 0, none⟩) 0 0) := (hbk.at_ 1 _ rfl).1
  have hSD : (Builtin.unsafeSliceData_ #[44] 93 #[.slice (some ⟨g, 0, none⟩) 0 0]).run Try.prog w.drew = .ok (.pointer (some ⟨w.drew.heap.size, 0, none⟩)) (w.drew.alloc (.view ⟨g, 0, none⟩ 5)) :=
    Lib.run_unsafeSliceData_zero w.drew _ _ 5 Try.underlying93 ⟨g, 0, none⟩ 0 (5, cur.size) (by have hg' : w.drew.heap[g]? = some (.cells cur 5 (0, 0)) := hg; simp [World.shape?, hg'])
  have c2 : (w.drew.alloc (.view ⟨g, 0, none⟩ 5)).cell? ⟨b, 1, none⟩ = some (.slice (some ⟨g, 0, none⟩) 0 0) := ((hbk.draws 1).old _ |>.at_ 1 _ rfl).1
  have c3 : (w.alloc (.view ⟨g, 0, none⟩ 5)).drew.cell? ⟨b, 1, none⟩ = some (.slice (some ⟨g, 0, none⟩) 0 0) := c2
  have c0 : w.cell? ⟨b, 1, none⟩ = some (.slice (some ⟨g, 0, none⟩) 0 0) := c1
  have HF := Lib.hid ((Below.drew (Below.refl b w)).alloc (Nat.le_of_lt hbk.lt) (.view ⟨g, 0, none⟩ 5))
  clear hg
  have hUS := unsafe_none
  clear hbk
  go_enter Try.func36, Try.ntmps36
  go_wp2_with fail
  go_region
  all_goals (go_wp2_with fail; go_ret; exact ⟨by rw [bstr_nil]; rfl, HF.out⟩)
theorem wtext_any (b : Nat) (S : Str) (bad : Bool) (w : World) (h : Wr w b S bad) (hm : S.length ≤ 100000000) :
    Calls Try.prog 36 #[.pointer (some ⟨b, 0, none⟩)] w (RetStr w b S) := by
  by_cases h0 : S = []
  · subst h0
    obtain ⟨p, v, hbk, hown⟩ := h.p
    rcases hown.2 with ⟨rfl, _⟩ | ⟨g, cap, cur, rfl, _, hg, _⟩
    · exact wtext_nil b p bad w hbk
    · by_cases hc : cap = 0
      · subst hc; exact wtext_noroom b g p bad cur w hbk hg
      · exact wtext_room b g cap p bad w hc hbk
  · exact wtext_some b S bad w h h0 hm

theorem wput1 (b : Nat) (S : Str) (bad : Bool) (n : Int) (w : World) (h : Wr w b S bad) (hl : S.length ≤ 100000000) :
    Calls Try.prog 44 #[.pointer (some ⟨b, 0, none⟩), .int .i64 n, .int .i64 1] w (RetW w b (S ++ putS n 1) (bad || !okPut n 1)) := wput_any b S bad n 1 w h (by decide) (by decide) hl
theorem wput2 (b : Nat) (S : Str) (bad : Bool) (n : Int) (w : World) (h : Wr w b S bad) (hl : S.length ≤ 100000000) :
    Calls Try.prog 44 #[.pointer (some ⟨b, 0, none⟩), .int .i64 n, .int .i64 2] w (RetW w b (S ++ putS n 2) (bad || !okPut n 2)) := wput_any b S bad n 2 w h (by decide) (by decide) hl
theorem wput3 (b : Nat) (S : Str) (bad : Bool) (n : Int) (w : World) (h : Wr w b S bad) (hl : S.length ≤ 100000000) :
    Calls Try.prog 44 #[.pointer (some ⟨b, 0, none⟩), .int .i64 n, .int .i64 3] w (RetW w b (S ++ putS n 3) (bad || !okPut n 3)) := wput_any b S bad n 3 w h (by decide) (by decide) hl
theorem encV_put (n : Int) : putS (encV_4 n) 1 = ofN (encV_4 n) 1 ∧ okPut (encV_4 n) 1 = true := by
  have h := encV4_lt n
  have h1 : okPut (encV_4 n) 1 = true := by unfold okPut; rw [decide_eq_true (by omega), decide_eq_true (by omega)]; rfl
  unfold putS
  rw [if_pos h1, Int.toNat_natCast]
  exact ⟨rfl, h1⟩
set_option maxHeartbeats 2000000 in
theorem wtime_any (b : Nat) (S : Str) (bad : Bool) (n : Int) (w : World) (h : Wr w b S bad) (hn : n < 2 ^ 63) (hl : S.length ≤ 100000000) :
    Calls Try.prog 59 #[.pointer (some ⟨b, 0, none⟩), .int .i64 n] w (RetW w b (S ++ ofN (encV_4 n) 1) (bad || !exact8 n)) := by
  have HE := Lib.hid (enc8_any n w hn)
  obtain ⟨c, hc⟩ : ∃ c, c = encV_4 n := ⟨_, rfl⟩
  have hc256 : c < 256 := by rw [hc]; exact encV4_lt n
  have HD := Lib.hid (fun W => dec8_any c W hc256)
  have hput := fun (S : Str) (q : Bool) (W : World) (hw : Wr W b S q) (hs : S.length ≤ 100000000) => wput1 b S q c W hw hs
  have hpp := encV_put n
  rw [← hc] at hpp HE ⊢
  rw [hpp.1, hpp.2] at hput
  have hx : exact8 n = (!(encE n != 0) && !(((pdecode c 4 : Nat) : Int) != n)) := by
    unfold exact8 encE
    by_cases h0 : 0 ≤ n
    · have hcn : c = pencode n.toNat 4 := by rw [hc]; unfold encV_4; rw [if_pos h0]
      rw [if_pos h0, decide_eq_true h0, ← hcn]
      have e : (pdecode c 4 = n.toNat) ↔ (((pdecode c 4 : Nat) : Int) = n) := by omega
      by_cases h9 : pdecode c 4 = n.toNat
      · rw [decide_eq_true h9, bne_eq_false_iff_eq.2 (e.1 h9)]; rfl
      · rw [decide_eq_false h9, bne_iff_ne.2 (fun h => h9 (e.2 h))]; rfl
    · rw [if_neg h0, decide_eq_false h0]; rfl
  rw [hx]
  obtain ⟨d, hd⟩ : ∃ d, d = pdecode c 4 := ⟨_, rfl⟩
  obtain ⟨er, her⟩ : ∃ er, er = encE n := ⟨_, rfl⟩
  rw [← hd] at HD ⊢
  rw [← her] at HE ⊢
  have HP := Lib.hid hput
  have HW := Lib.hid h
  have HL := Lib.hid hl
  clear hput hpp hx hd her hc hc256 h hl hn
  obtain ⟨q1, hq1⟩ : ∃ q1, q1 = (er != 0) := ⟨_, rfl⟩
  obtain ⟨q2, hq2⟩ : ∃ q2, q2 = ((d : Int) != n) := ⟨_, rfl⟩
  rw [← hq1, ← hq2]
  have hq1' := hq1.symm
  have hq2' := hq2.symm
  clear hq1 hq2
  have HQ2 := Lib.hid hq2'
  cases bad <;> cases q1
  all_goals
    go_enter Try.func59, Try.ntmps59
    go_wp2_with (first | ((with_reducible refine HE.out.mono ?_); rintro e w1 ⟨rfl, hb1⟩; have HW1 := Lib.hid (HW.out.kept hb1); have HT1 := Lib.hid (Tur.of_below hb1 (Nat.le_of_lt HW.out.lt)); clear hb1) | ((with_reducible refine (HD.out _).mono ?_); rintro e w2 ⟨rfl, hb2⟩; have HW2 := Lib.hid (HW1.out.kept hb2); have HT2 := Lib.hid (HT1.out.trans (Tur.of_below hb2 (Nat.le_of_lt HW1.out.lt))); obtain ⟨p, hp⟩ := HW2.out.p; obtain ⟨v, hbk, hown⟩ := hp; obtain ⟨c2, f2⟩ := hbk.at_ 2 _ rfl; clear hb2 hbk hown) | ((with_reducible refine (HP.out S _ _ (HW2.out.bad _) HL.out).mono ?_); rintro e w3 ⟨rfl, hw3, ht3⟩; have HW3 := Lib.hid hw3; have HT3 := Lib.hid ((HT2.out.set 2 _).trans ht3); clear hw3 ht3))
    go_end0
    refine ⟨rfl, ?_, HT3.out⟩
    have := HW3.out
    simpa using this
end Go.Proofs.Ythkogdgfkhhleaa
