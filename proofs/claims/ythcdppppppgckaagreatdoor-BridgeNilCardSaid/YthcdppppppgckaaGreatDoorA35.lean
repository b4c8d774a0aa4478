/- Texts joined into one file: BWb, BFine, BEnc. -/
import Derived.Test.YthcdppppppgckaaGreatDoorA34
import Derived.Lib.Strings
import Derived.Lib.Builder
import Derived.Lib.AppendStr
import Derived.Lib.UnsafeStr
import Derived.Laws.Externs
import Derived.Test.YthcdppppppgckaaGreatDoorA33
import Derived.Test.YthcdppppppgckaaGreatDoorA04
import Derived.Deep.DeepCutAuto

namespace Go.Proofs.YthcdppppppgckaaGreatDoor
open Go.RowKit Go.Sort
set_option maxRecDepth 20000
set_option maxRecDepth 20000
attribute [local go_sem] bstr_size bstr_extract bstr_toList bstr_get

def U8b (w : World) (j : Nat) : Prop := ∃ cs fr, w.heap[j]? = some (.cells cs 5 fr)
def Tub (w w' : World) (b : Nat) : Prop := Below b w w' ∧ ∀ j, j < w.heap.size → j ≠ b → ¬ U8b w j → w'.heap[j]? = w.heap[j]?
theorem Tub.refl (w : World) (b : Nat) : Tub w w b := ⟨Below.refl _ _, fun _ _ _ _ => rfl⟩
theorem Tub.trans {w w' w'' : World} {b : Nat} (h : Tub w w' b) (k : Tub w' w'' b) : Tub w w'' b := by
 refine ⟨h.1.trans k.1, fun j hj hb hu => ?_⟩
 have e := h.2 j hj hb hu
 exact (k.2 j (Nat.lt_of_lt_of_le hj h.1.size) hb (fun ⟨cs, fr, hc⟩ => hu ⟨cs, fr, e ▸ hc⟩)).trans e
theorem Tub.of_below {w w' : World} (h : Below w.heap.size w w') {b : Nat} (hb : b ≤ w.heap.size) : Tub w w' b := ⟨h.mono hb, fun j hj _ _ => h.block j hj⟩
theorem Tub.box {w w' : World} {b j : Nat} {T : TypeId} {cs : Array Value} (h : Tub w w' b) (hc : CBox w j T cs) (hj : j ≠ b) (hT : T ≠ 5) : CBox w' j T cs :=
 (h.2 j hc.lt hj (fun ⟨cs', fr, e⟩ => by rw [hc] at e; injection e with e; injection e with e1 e2; exact hT e2)).trans hc
theorem Tub.set {w w' : World} {b : Nat} (h : Tub w w' b) (i : Nat) (v : Value) : Tub w (w'.setCell ⟨b, i, none⟩ v) b :=
 ⟨h.1.setCell (p := ⟨b, i, none⟩) (Nat.le_refl _) v, fun j hj hb hu => (Below.heap_setCell w' ⟨b, i, none⟩ v j hb).trans (h.2 j hj hb hu)⟩

def WbP (w : World) (b : Nat) (p : Value) (S : Str) : Prop :=
 ∃ v, CBox w b 236 #[p, v] ∧ w.ownsRow b 5 1 v S.length (Lib.byteCells S)
def Wb (w : World) (b : Nat) (S : Str) : Prop := WbP w b (.pointer none) S ∨ WbP w b (.pointer (some ⟨b, 0, none⟩)) S
theorem WbP.lt {w : World} {b : Nat} {p : Value} {S : Str} (h : WbP w b p S) : b < w.heap.size := by obtain ⟨v, h, _⟩ := h; exact h.lt
theorem Wb.lt {w : World} {b : Nat} {S : Str} (h : Wb w b S) : b < w.heap.size := by rcases h with h | h <;> exact h.lt
theorem WbP.kept {w w' : World} {b : Nat} {p : Value} {S : Str} (h : WbP w b p S) (hb : Below w.heap.size w w') : WbP w' b p S := by
 obtain ⟨v, h1, h2⟩ := h
 exact ⟨v, h1.below hb h1.lt, h2.kept (row := none) ⟨hb.os, hb.tape, hb.output, hb.size, fun k hk _ => hb.block k hk⟩ (by cases v.ownBlock <;> simp)⟩
theorem Wb.kept {w w' : World} {b : Nat} {S : Str} (h : Wb w b S) (hb : Below w.heap.size w w') : Wb w' b S := h.imp (·.kept hb) (·.kept hb)
theorem Wb.p {w : World} {b : Nat} {S : Str} (h : Wb w b S) : ∃ p, WbP w b p S := by rcases h with h | h <;> exact ⟨_, h⟩
theorem WbP.set {w : World} {b : Nat} {p v : Value} {S : Str} (h1 : CBox w b 236 #[p, v]) (h2 : w.ownsRow b 5 1 v S.length (Lib.byteCells S)) (i : Nat) (u : Value) :
 (w.setCell ⟨b, i, none⟩ u).ownsRow b 5 1 v S.length (Lib.byteCells S) := by
 have hne : v.ownBlock ≠ some b := own_box h2 h1 (by decide)
 exact h2.kept (row := some b) ⟨rfl, rfl, rfl, by simp [World.setCell], fun k _ hk => Below.heap_setCell _ _ _ _ (fun e => hk (by simp [e]))⟩ (.inr hne)
theorem WbP.used {w : World} {b : Nat} {p : Value} {S : Str} (h : WbP w b p S) (q : Value) : WbP (w.setCell ⟨b, 0, none⟩ q) b q S := by
 obtain ⟨v, h1, h2⟩ := h
 exact ⟨v, h1.set 0 _, WbP.set h1 h2 0 _⟩
theorem Wb.new {w : World} {b : Nat} (h : b = w.heap.size) : Wb (w.alloc (.cells #[.pointer none, .slice none 0 0] 236)) b [] :=
 .inl ⟨_, CBox.new _ h, World.ownsRow_nil _ _ _ _⟩
theorem infoBuilderB : (Tryz.prog.info? 236).map (·.size) = some 2 := by kernel_rfl
theorem liesBuilder : liesAt Tryz.prog Tryz.prog.depth 236 (2 / Tryz.prog.cellsOf 236) 0 236 1 = true := by kernel_rfl

set_option maxHeartbeats 1000000 in
theorem bcopy_used (b : Nat) (S : Str) (w : World) (h : WbP w b (.pointer (some ⟨b, 0, none⟩)) S) :
 Calls Tryz.prog 197 #[.pointer (some ⟨b, 0, none⟩)] w fun e w' => e = .returned (.tuple #[]) ∧ w = w' := by
 obtain ⟨j, hj, _⟩ := Option.map_eq_some_iff.1 infoBuilderB
 obtain ⟨v, h1, h2⟩ := h
 obtain ⟨c0, f0⟩ := h1.at_ 0 _ rfl
 clear h1 h2
 go_enter Tryz.func197, Tryz.ntmps197
 go_wp2_with fail
 rw [Lib.run_neq_ptr_same w _ Tryz.underlying233 hj]
 go_wp2_with fail
 go_end0
 exact ⟨rfl, rfl⟩

set_option maxHeartbeats 1000000 in
theorem bcopy_fresh (b : Nat) (S : Str) (w : World) (h : WbP w b (.pointer none) S) :
 Calls Tryz.prog 197 #[.pointer (some ⟨b, 0, none⟩)] w fun e w' => e = .returned (.tuple #[]) ∧ w' = w.setCell ⟨b, 0, none⟩ (.pointer (some ⟨b, 0, none⟩)) := by
 obtain ⟨j, hj, hjs⟩ := Option.map_eq_some_iff.1 infoBuilderB
 obtain ⟨v, h1, h2⟩ := h
 obtain ⟨c0, f0⟩ := h1.at_ 0 _ rfl
 have hsh : w.shape? b = some (236, 2) := by have h' : w.heap[b]? = _ := h1; simp [World.shape?, h']
 clear h1 h2
 go_enter Tryz.func197, Tryz.ntmps197
 go_wp2_with fail
 rw [Lib.run_to_unsafe w ⟨b, 0, none⟩ Tryz.underlying233 Tryz.underlying364 hj (by rw [hjs]; decide) hsh (Nat.zero_lt_succ 1)]
 simp only [Result.andThen]
 rw [Oper.upon_value]
 go_wp2_with fail
 rw [run_callFunc_extern Tryz.func254 (by kernel_rfl) (by kernel_rfl) (by kernel_rfl) (e := Extern.AbiNoEscape.same) (by kernel_rfl)]
 rw [Lib.run_noEscape]
 simp only [Result.andThen]
 rw [Oper.upon_value]
 go_wp2_with fail
 rw [Lib.run_from_unsafe w ⟨b, 0, none⟩ Tryz.underlying364 Tryz.underlying233 hj hsh liesBuilder]
 simp only [Result.andThen]
 rw [Oper.upon_value]
 go_wp2_with fail
 go_end0
 exact ⟨rfl, rfl⟩

def RetUsedB (w : World) (b : Nat) (S : Str) (e : Ending) (w' : World) : Prop := e = .returned (.tuple #[]) ∧ WbP w' b (.pointer (some ⟨b, 0, none⟩)) S ∧ Tub w w' b
theorem bcopy_any (b : Nat) (S : Str) (w : World) (h : Wb w b S) :
 Calls Tryz.prog 197 #[.pointer (some ⟨b, 0, none⟩)] w (RetUsedB w b S) := by
 rcases h with h | h
 · refine (bcopy_fresh b S w h).mono ?_
   rintro e w' ⟨rfl, rfl⟩
   exact ⟨rfl, h.used _, (Tub.refl w b).set 0 _⟩
 · refine (bcopy_used b S w h).mono ?_
   rintro e w' ⟨rfl, rfl⟩
   exact ⟨rfl, h, Tub.refl w b⟩

theorem infoByteWb : (Tryz.prog.info? 5).map (fun i => (i.zero, i.size, i.bytes)) = some (some (.int .u8 0), 1, 1) := by kernel_rfl
theorem Tub.grown {w w1 : World} {b : Nat} {v : Value} {S : Str} {w' : World} (h : Tub w w1 b) (ho : w1.ownsRow b 5 1 v S.length (Lib.byteCells S)) (hb : b ≤ w1.heap.size) (hg : w1.grownBy w' v.ownBlock) : Tub w w' b := by
 refine ⟨h.1.grown hg hb (fun k hk => (ho.lt k hk).1), fun j hj hb' hu => ?_⟩
 refine (hg.block j (Nat.lt_of_lt_of_le hj h.1.size) (fun e => ?_)).trans (h.2 j hj hb' hu)
 rcases ho.2 with ⟨rfl, _⟩ | ⟨g, cap, cur, rfl, _, hg', _⟩
 · simp [Value.ownBlock] at e
 · have e' : j = g := by simpa [Value.ownBlock] using e
   subst e'
   exact hu ⟨cur, _, (h.2 j hj hb' hu).symm.trans hg'⟩
def RetWsB (w : World) (b : Nat) (S : Str) (e : Ending) (w' : World) : Prop := (∃ n, e = .returned (.tuple #[.int .i64 n, .nilIface])) ∧ Wb w' b S ∧ Tub w w' b
set_option maxHeartbeats 2000000 in
theorem bstring_any (b : Nat) (S x : Str) (w : World) (h : Wb w b S) (hlen : S.length + x.length ≤ 140737488355328) :
 Calls Tryz.prog 138 #[.pointer (some ⟨b, 0, none⟩), .string (bstr x)] w (RetWsB w b (S ++ x)) := by
 obtain ⟨i0, hi, hz0, hz1, hz2⟩ := info_parts infoByteWb
 have HC := Lib.hid (bcopy_any b S w h)
 have HL := Lib.hid hlen
 clear h hlen
 go_enter Tryz.func138, Tryz.ntmps138
 have hc3 : S.length + (bstr x).size ≤ maxLen := by have := HL.out; rw [bstr_size]; unfold maxLen; omega
 have hc4 : S.length + (bstr x).size ≤ 140737488355328 := by have := HL.out; rw [bstr_size]; omega
 have HC3 := Lib.hid hc3; have HC4 := Lib.hid hc4
 clear hc3 hc4
 go_wp2_with (first | ((with_reducible refine HC.out.mono ?_); rintro e w1 ⟨rfl, hp, ht⟩; obtain ⟨v, hbk, hown⟩ := hp; obtain ⟨c1, f1⟩ := hbk.at_ 1 _ rfl; have HT := Lib.hid ht; have HB := Lib.hid hbk; have HO := Lib.hid hown; clear ht hbk hown) | (at_builtin; refine Lib.wpList_append_own_string _ rfl _ _ 234 9 rfl b 5 i0 Tryz.underlying234 Tryz.underlying9 hi hz0 hz1 hz2 _ _ _ rfl HO.out (bstr x) rfl HC3.out HC4.out (Nat.le_of_lt HB.out.lt) ?_; intro v' w2 hown' hgrow _; have HX := Lib.hid (HB.out.grown hgrow (fun e => own_box HO.out HB.out (by decide) e.symm)); have HT2 := Lib.hid (HT.out.grown HO.out (Nat.le_of_lt HB.out.lt) hgrow); rw [bstr_size] at hown'; have HO2 := Lib.hid hown'; obtain ⟨ao, cc, rfl⟩ := own_form hown'; clear c1 f1; obtain ⟨d1, g1⟩ := HX.out.at_ 1 _ rfl; clear hown' hgrow))
 go_ret2
 have hx : CBox (w2.setCell ⟨b, 1, none⟩ (.slice ao (S.length + x.length) cc)) b 236 #[.pointer (some ⟨b, 0, none⟩), (.slice ao (S.length + x.length) cc)] := HX.out.set 1 _
 have hne2 := own_box HO2.out HX.out (by decide)
 refine ⟨⟨_, rfl⟩, .inr ⟨_, hx, ?_⟩, HT2.out.set 1 _⟩
 have e1 : Lib.byteCells (S ++ x) = Lib.byteCells S ++ Lib.strCells (bstr x) := by
  unfold Lib.byteCells Lib.strCells
  rw [List.map_append, bstr_data]
 rw [e1, List.length_append]
 exact HO2.out.kept (row := some b) ⟨rfl, rfl, rfl, by simp [World.setCell], fun k _ hk => Below.heap_setCell _ _ _ _ (fun e => hk (by simp [e]))⟩ (.inr hne2)

def RetTextB (w : World) (b : Nat) (S : Str) (e : Ending) (w' : World) : Prop := e = .returned (.string (bstr S)) ∧ Below b w w'
set_option maxHeartbeats 1000000 in
theorem btext_some (b : Nat) (S : Str) (w : World) (h : Wb w b S) (h0 : S ≠ []) (hm : S.length ≤ 100000000) :
 Calls Tryz.prog 139 #[.pointer (some ⟨b, 0, none⟩)] w (RetTextB w b S) := by
 obtain ⟨p, v, hbk, hown⟩ := h.p
 have hl0 : S.length ≠ 0 := by simpa using h0
 obtain ⟨g, cap, cur, rfl, hbg, hg, hnc, hcm, hcs, htake⟩ : ∃ g cap cur, v = .slice (some ⟨g, 0, none⟩) S.length cap ∧ b ≤ g ∧ w.heap[g]? = some (.cells cur 5 (0, 0)) ∧ S.length ≤ cap ∧ cap ≤ maxLen ∧ cur.size = cap * 1 ∧ cur.toList.take (S.length * 1) = Lib.byteCells S := by
  rcases hown.2 with ⟨_, hz⟩ | ⟨g, cap, cur, hv, r⟩
  · exact absurd hz hl0
  · exact ⟨g, cap, cur, hv, r⟩
 have c1 : w.drew.cell? ⟨b, 1, none⟩ = some (.slice (some ⟨g, 0, none⟩) S.length cap) := (hbk.at_ 1 _ rfl).1
 have hSD : (Builtin.unsafeSliceData_ #[234] 299 #[.slice (some ⟨g, 0, none⟩) S.length cap]).run Tryz.prog w.drew = .ok (.pointer (some ⟨g, 0, none⟩)) w.drew :=
  Lib.run_unsafeSliceData_row _ _ _ _ _ _ (by omega)
 have hUS : (Builtin.unsafeString_ #[299, 3] 9 #[.pointer (some ⟨g, 0, none⟩), .int .i64 S.length]).run Tryz.prog w.drew = .ok (.string (bstr S)) (w.drew.freeze ⟨g, 0, none⟩ S.length) := by
  rw [bstr_eq]
  refine Lib.run_unsafeString_row w.drew 299 3 9 5 Tryz.underlying299 (by kernel_rfl) g cur.size (by have hg' : w.drew.heap[g]? = some (.cells cur 5 (0, 0)) := hg; simp [World.shape?, hg']) S h0 (by omega) (by unfold maxLen at hcm; omega) ?_
  intro j x hx
  have := hown.cells (g := g) rfl j (.int .u8 x.toNat) (by simp [Lib.byteCells, hx])
  exact this
 have HF := Lib.hid (Lib.below_freeze (Below.drew (Below.refl b w)) (p := ⟨g, 0, none⟩) hbg S.length)
 clear h hbk hown hl0 h0 hbg hg hnc hcm hcs htake hm
 go_enter Tryz.func139, Tryz.ntmps139
 go_wp2_with fail
 go_region
 all_goals (go_wp2_with fail; go_ret; exact ⟨rfl, HF.out⟩)

theorem bunsafe_none (W : World) (q : Option Addr) : (Builtin.unsafeString_ #[299, 3] 9 #[.pointer q, .int .i64 0]).run Tryz.prog W = .ok (.string ⟨#[]⟩) W := Lib.run_unsafeString_none W _ _ _ q
set_option maxHeartbeats 1000000 in
theorem btext_nil (b : Nat) (p : Value) (w : World) (hbk : CBox w b 236 #[p, .slice none 0 0]) :
 Calls Tryz.prog 139 #[.pointer (some ⟨b, 0, none⟩)] w (RetTextB w b []) := by
 have c1 : w.drew.cell? ⟨b, 1, none⟩ = some (.slice none 0 0) := (hbk.at_ 1 _ rfl).1
 have hSD : (Builtin.unsafeSliceData_ #[234] 299 #[.slice none 0 0]).run Tryz.prog w.drew = .ok (.pointer none) w.drew := rfl
 have HF := Lib.hid (Below.drew (Below.refl b w))
 have hUS := bunsafe_none
 clear hbk
 go_enter Tryz.func139, Tryz.ntmps139
 go_wp2_with fail
 go_region
 all_goals (go_wp2_with fail; go_ret; exact ⟨by rw [bstr_nil]; rfl, HF.out⟩)
set_option maxHeartbeats 1000000 in
theorem btext_room (b g cap : Nat) (p : Value) (w : World) (hc0 : cap ≠ 0) (hbk : CBox w b 236 #[p, .slice (some ⟨g, 0, none⟩) 0 cap]) :
 Calls Tryz.prog 139 #[.pointer (some ⟨b, 0, none⟩)] w (RetTextB w b []) := by
 have c1 : w.drew.cell? ⟨b, 1, none⟩ = some (.slice (some ⟨g, 0, none⟩) 0 cap) := (hbk.at_ 1 _ rfl).1
 have hSD : (Builtin.unsafeSliceData_ #[234] 299 #[.slice (some ⟨g, 0, none⟩) 0 cap]).run Tryz.prog w.drew = .ok (.pointer (some ⟨g, 0, none⟩)) w.drew :=
  Lib.run_unsafeSliceData_row _ _ _ _ _ _ hc0
 clear hc0
 have HF := Lib.hid (Below.drew (Below.refl b w))
 have hUS := bunsafe_none
 clear hbk
 go_enter Tryz.func139, Tryz.ntmps139
 go_wp2_with fail
 go_region
 all_goals (go_wp2_with fail; go_ret; exact ⟨by rw [bstr_nil]; rfl, HF.out⟩)
set_option maxHeartbeats 1000000 in
theorem btext_noroom (b g : Nat) (p : Value) (cur : Array Value) (w : World) (hbk : CBox w b 236 #[p, .slice (some ⟨g, 0, none⟩) 0 0]) (hg : w.heap[g]? = some (.cells cur 5 (0, 0))) :
 Calls Tryz.prog 139 #[.pointer (some ⟨b, 0, none⟩)] w (RetTextB w b []) := by
 have c1 : w.drew.cell? ⟨b, 1, none⟩ = some (.slice (some ⟨g, 0, none⟩) 0 0) := (hbk.at_ 1 _ rfl).1
 have hSD : (Builtin.unsafeSliceData_ #[234] 299 #[.slice (some ⟨g, 0, none⟩) 0 0]).run Tryz.prog w.drew = .ok (.pointer (some ⟨w.drew.heap.size, 0, none⟩)) (w.drew.alloc (.view ⟨g, 0, none⟩ 5)) :=
  Lib.run_unsafeSliceData_zero w.drew _ _ 5 Tryz.underlying299 ⟨g, 0, none⟩ 0 (5, cur.size) (by have hg' : w.drew.heap[g]? = some (.cells cur 5 (0, 0)) := hg; simp [World.shape?, hg'])
 have c2 : (w.drew.alloc (.view ⟨g, 0, none⟩ 5)).cell? ⟨b, 1, none⟩ = some (.slice (some ⟨g, 0, none⟩) 0 0) := ((hbk.draws 1).old _ |>.at_ 1 _ rfl).1
 have c3 : (w.alloc (.view ⟨g, 0, none⟩ 5)).drew.cell? ⟨b, 1, none⟩ = some (.slice (some ⟨g, 0, none⟩) 0 0) := c2
 have c0 : w.cell? ⟨b, 1, none⟩ = some (.slice (some ⟨g, 0, none⟩) 0 0) := c1
 have HF := Lib.hid ((Below.drew (Below.refl b w)).alloc (Nat.le_of_lt hbk.lt) (.view ⟨g, 0, none⟩ 5))
 clear hg
 have hUS := bunsafe_none
 clear hbk
 go_enter Tryz.func139, Tryz.ntmps139
 go_wp2_with fail
 go_region
 all_goals (go_wp2_with fail; go_ret; exact ⟨by rw [bstr_nil]; rfl, HF.out⟩)
theorem btext_any (b : Nat) (S : Str) (w : World) (h : Wb w b S) (hm : S.length ≤ 100000000) :
 Calls Tryz.prog 139 #[.pointer (some ⟨b, 0, none⟩)] w (RetTextB w b S) := by
 by_cases h0 : S = []
 · subst h0
   obtain ⟨p, v, hbk, hown⟩ := h.p
   rcases hown.2 with ⟨rfl, _⟩ | ⟨g, cap, cur, rfl, _, hg, _⟩
   · exact btext_nil b p w hbk
   · by_cases hc : cap = 0
     · subst hc; exact btext_noroom b g p cur w hbk hg
     · exact btext_room b g cap p w hc hbk
 · exact btext_some b S w h h0 hm

end Go.Proofs.YthcdppppppgckaaGreatDoor

namespace Go.Proofs.YthcdppppppgckaaGreatDoor
open Go.RowKit Go.Lib
set_option maxRecDepth 20000
set_option maxRecDepth 20000
attribute [local go_sem] bstr_size bstr_toList bstr_get

def fcells (f : Fr) : Array Value := #[.string (bstr f.dst), .string (bstr f.src), .bool f.tagged, .int .i64 f.vlan, .int .i64 f.prio, .int .i64 f.typ, .string (bstr f.data)]
def encF (f : Fr) : Value := .agg (fcells f)

theorem ewithin_any (n m : Int) (w : World) :
 Calls Tryz.prog 196 #[.int .i64 n, .int .i64 m] w fun e w' => e = .returned (.bool (inTo n m)) ∧ w = w' := by
 unfold inTo
 cases q1 : decide (0 ≤ n)
 · go_enter Tryz.func196, Tryz.ntmps196
   go_wp2
   go_ret
   exact ⟨rfl, rfl⟩
 · cases q2 : decide (n ≤ m)
   · go_enter Tryz.func196, Tryz.ntmps196
     go_wp2
     go_ret
     exact ⟨rfl, rfl⟩
   · go_enter Tryz.func196, Tryz.ntmps196
     go_wp2
     go_ret
     exact ⟨rfl, rfl⟩

def lensF (d s x : Nat) : Bool := decide (d = 6) && decide (s = 6) && decide (x ≤ 2000)
theorem fineF_parts (f : Fr) : fineF f = (lensF f.dst.length f.src.length f.data.length && (inTo f.vlan 4094 && inTo f.prio 7 && inTo f.typ 65535) && (f.tagged || ((f.vlan == 0) && (f.prio == 0) && !(f.typ == 33024)))) := by
 unfold fineF lensF
 simp only [Bool.and_assoc]

set_option maxHeartbeats 4000000 in
theorem fine_any (f : Fr) (w : World) (hs : f.dst.length ≤ maxLen ∧ f.src.length ≤ maxLen ∧ f.data.length ≤ maxLen) :
 Calls Tryz.prog 136 #[encF f] w fun e w' => e = .returned (.bool (fineF f)) ∧ Below w.heap.size w w' := by
 obtain ⟨dst, src, tg, vl, pr, ty, da⟩ := f
 unfold encF fcells
 rw [fineF_parts]
 dsimp only
 clear hs
 obtain ⟨W1, hW1⟩ : ∃ W, w.alloc (.cells #[.string (bstr dst), .string (bstr src), .bool tg, .int .i64 vl, .int .i64 pr, .int .i64 ty, .string (bstr da)] 48) = W := ⟨_, rfl⟩
 have HB := Lib.hid (show Below w.heap.size w W1 from by rw [← hW1]; exact (Below.refl _ _).alloc (Nat.le_refl _) _)
 have hx : CBox W1 w.heap.size 48 #[.string (bstr dst), .string (bstr src), .bool tg, .int .i64 vl, .int .i64 pr, .int .i64 ty, .string (bstr da)] := by rw [← hW1]; exact CBox.new _ rfl
 have H1 := Lib.hid (ewithin_any vl 4094 W1)
 have H2 := Lib.hid (ewithin_any pr 7 W1)
 have H3 := Lib.hid (ewithin_any ty 65535 W1)
 have HW := Lib.hid hW1
 obtain ⟨c0, _⟩ := hx.at_ 0 _ rfl
 obtain ⟨c1, _⟩ := hx.at_ 1 _ rfl
 obtain ⟨c2, _⟩ := hx.at_ 2 _ rfl
 obtain ⟨c3, _⟩ := hx.at_ 3 _ rfl
 obtain ⟨c4, _⟩ := hx.at_ 4 _ rfl
 obtain ⟨c5, _⟩ := hx.at_ 5 _ rfl
 obtain ⟨c6, _⟩ := hx.at_ 6 _ rfl
 clear hx hW1
 obtain ⟨v, hv⟩ : ∃ x, x = inTo vl 4094 := ⟨_, rfl⟩
 obtain ⟨p, hp⟩ : ∃ x, x = inTo pr 7 := ⟨_, rfl⟩
 obtain ⟨t, ht⟩ : ∃ x, x = inTo ty 65535 := ⟨_, rfl⟩
 rw [← hv, ← hp, ← ht]
 rw [← hv] at H1
 rw [← hp] at H2
 rw [← ht] at H3
 clear hv hp ht
 obtain ⟨r, hr⟩ : ∃ r, (lensF dst.length src.length da.length && (v && p && t) && (tg || ((vl == 0) && (pr == 0) && !(ty == 33024)))) = r := ⟨_, rfl⟩
 rw [hr]
 cases a1 : ((dst.length : Int) != 6)
 · have b1 : dst.length = 6 := Int.ofNat_inj.1 (show ((dst.length : Nat) : Int) = ((6 : Nat) : Int) from by simpa [bne] using a1)
   cases a2 : ((src.length : Int) != 6)
   · have b2 : src.length = 6 := Int.ofNat_inj.1 (show ((src.length : Nat) : Int) = ((6 : Nat) : Int) from by simpa [bne] using a2)
     cases a3 : decide ((2000 : Int) < (da.length : Int))
     · have b3 : da.length ≤ 2000 := by have := of_decide_eq_false a3; omega
       have hl : lensF dst.length src.length da.length = true := by unfold lensF; simp [b1, b2, b3]
       clear b1 b2 b3
       cases v
       · clear hl
         have HR := Lib.hid (show r = false from hr.symm.trans (by simp))
         clear hr
         rw [HR.out]
         go_enter Tryz.func136, Tryz.ntmps136
         go_upto_region 1 with fail
         rw [show w.alloc (.cells #[.string (bstr dst), .string (bstr src), .bool tg, .int .i64 vl, .int .i64 pr, .int .i64 ty, .string (bstr da)] 48) = W1 from HW.out]
         go_wp2_with (first | ((with_reducible refine H1.out.mono ?_); rintro e w1 ⟨rfl, hw1⟩; subst w1) | ((with_reducible refine H2.out.mono ?_); rintro e w1 ⟨rfl, hw1⟩; subst w1) | ((with_reducible refine H3.out.mono ?_); rintro e w1 ⟨rfl, hw1⟩; subst w1))
         go_ret
         exact ⟨rfl, HB.out⟩
       · skip
         cases p
         · clear hl
           have HR := Lib.hid (show r = false from hr.symm.trans (by simp))
           clear hr
           rw [HR.out]
           go_enter Tryz.func136, Tryz.ntmps136
           go_upto_region 1 with fail
           rw [show w.alloc (.cells #[.string (bstr dst), .string (bstr src), .bool tg, .int .i64 vl, .int .i64 pr, .int .i64 ty, .string (bstr da)] 48) = W1 from HW.out]
           go_wp2_with (first | ((with_reducible refine H1.out.mono ?_); rintro e w1 ⟨rfl, hw1⟩; subst w1) | ((with_reducible refine H2.out.mono ?_); rintro e w1 ⟨rfl, hw1⟩; subst w1) | ((with_reducible refine H3.out.mono ?_); rintro e w1 ⟨rfl, hw1⟩; subst w1))
           go_ret
           exact ⟨rfl, HB.out⟩
         · skip
           cases t
           · clear hl
             have HR := Lib.hid (show r = false from hr.symm.trans (by simp))
             clear hr
             rw [HR.out]
             go_enter Tryz.func136, Tryz.ntmps136
             go_upto_region 1 with fail
             rw [show w.alloc (.cells #[.string (bstr dst), .string (bstr src), .bool tg, .int .i64 vl, .int .i64 pr, .int .i64 ty, .string (bstr da)] 48) = W1 from HW.out]
             go_wp2_with (first | ((with_reducible refine H1.out.mono ?_); rintro e w1 ⟨rfl, hw1⟩; subst w1) | ((with_reducible refine H2.out.mono ?_); rintro e w1 ⟨rfl, hw1⟩; subst w1) | ((with_reducible refine H3.out.mono ?_); rintro e w1 ⟨rfl, hw1⟩; subst w1))
             go_ret
             exact ⟨rfl, HB.out⟩
           · skip
             cases tg
             · skip
               cases a4 : (vl == 0)
               · clear hl
                 have HR := Lib.hid (show r = false from hr.symm.trans (by simp [a4]))
                 clear hr
                 rw [HR.out]
                 go_enter Tryz.func136, Tryz.ntmps136
                 go_upto_region 1 with fail
                 rw [show w.alloc (.cells #[.string (bstr dst), .string (bstr src), .bool false, .int .i64 vl, .int .i64 pr, .int .i64 ty, .string (bstr da)] 48) = W1 from HW.out]
                 go_wp2_with (first | ((with_reducible refine H1.out.mono ?_); rintro e w1 ⟨rfl, hw1⟩; subst w1) | ((with_reducible refine H2.out.mono ?_); rintro e w1 ⟨rfl, hw1⟩; subst w1) | ((with_reducible refine H3.out.mono ?_); rintro e w1 ⟨rfl, hw1⟩; subst w1))
                 go_ret
                 exact ⟨rfl, HB.out⟩
               · skip
                 cases a5 : (pr == 0)
                 · clear hl
                   have HR := Lib.hid (show r = false from hr.symm.trans (by simp [a5]))
                   clear hr
                   rw [HR.out]
                   go_enter Tryz.func136, Tryz.ntmps136
                   go_upto_region 1 with fail
                   rw [show w.alloc (.cells #[.string (bstr dst), .string (bstr src), .bool false, .int .i64 vl, .int .i64 pr, .int .i64 ty, .string (bstr da)] 48) = W1 from HW.out]
                   go_wp2_with (first | ((with_reducible refine H1.out.mono ?_); rintro e w1 ⟨rfl, hw1⟩; subst w1) | ((with_reducible refine H2.out.mono ?_); rintro e w1 ⟨rfl, hw1⟩; subst w1) | ((with_reducible refine H3.out.mono ?_); rintro e w1 ⟨rfl, hw1⟩; subst w1))
                   go_ret
                   exact ⟨rfl, HB.out⟩
                 · skip
                   cases a6 : (ty == 33024)
                   · have a7 : (ty != 33024) = true := by simp [bne, a6]
                     have hl' := hl
                     clear hl
                     have HR := Lib.hid (show r = true from hr.symm.trans (by simp [a4, a5, a6, hl']))
                     clear hr
                     rw [HR.out]
                     go_enter Tryz.func136, Tryz.ntmps136
                     go_upto_region 1 with fail
                     rw [show w.alloc (.cells #[.string (bstr dst), .string (bstr src), .bool false, .int .i64 vl, .int .i64 pr, .int .i64 ty, .string (bstr da)] 48) = W1 from HW.out]
                     go_wp2_with (first | ((with_reducible refine H1.out.mono ?_); rintro e w1 ⟨rfl, hw1⟩; subst w1) | ((with_reducible refine H2.out.mono ?_); rintro e w1 ⟨rfl, hw1⟩; subst w1) | ((with_reducible refine H3.out.mono ?_); rintro e w1 ⟨rfl, hw1⟩; subst w1))
                     go_ret
                     exact ⟨rfl, HB.out⟩
                   · have a7 : (ty != 33024) = false := by simp [bne, a6]
                     clear hl
                     have HR := Lib.hid (show r = false from hr.symm.trans (by simp [a6]))
                     clear hr
                     rw [HR.out]
                     go_enter Tryz.func136, Tryz.ntmps136
                     go_upto_region 1 with fail
                     rw [show w.alloc (.cells #[.string (bstr dst), .string (bstr src), .bool false, .int .i64 vl, .int .i64 pr, .int .i64 ty, .string (bstr da)] 48) = W1 from HW.out]
                     go_wp2_with (first | ((with_reducible refine H1.out.mono ?_); rintro e w1 ⟨rfl, hw1⟩; subst w1) | ((with_reducible refine H2.out.mono ?_); rintro e w1 ⟨rfl, hw1⟩; subst w1) | ((with_reducible refine H3.out.mono ?_); rintro e w1 ⟨rfl, hw1⟩; subst w1))
                     go_ret
                     exact ⟨rfl, HB.out⟩
             · have hl' := hl
               clear hl
               have HR := Lib.hid (show r = true from hr.symm.trans (by simp [hl']))
               clear hr
               rw [HR.out]
               go_enter Tryz.func136, Tryz.ntmps136
               go_upto_region 1 with fail
               rw [show w.alloc (.cells #[.string (bstr dst), .string (bstr src), .bool true, .int .i64 vl, .int .i64 pr, .int .i64 ty, .string (bstr da)] 48) = W1 from HW.out]
               go_wp2_with (first | ((with_reducible refine H1.out.mono ?_); rintro e w1 ⟨rfl, hw1⟩; subst w1) | ((with_reducible refine H2.out.mono ?_); rintro e w1 ⟨rfl, hw1⟩; subst w1) | ((with_reducible refine H3.out.mono ?_); rintro e w1 ⟨rfl, hw1⟩; subst w1))
               go_ret
               exact ⟨rfl, HB.out⟩
     · have hl : lensF dst.length src.length da.length = false := by have := of_decide_eq_true a3; unfold lensF; simp; omega
       have HR := Lib.hid (show r = false from hr.symm.trans (by simp [hl]))
       clear hr
       rw [HR.out]
       go_enter Tryz.func136, Tryz.ntmps136
       go_upto_region 1 with fail
       rw [show w.alloc (.cells #[.string (bstr dst), .string (bstr src), .bool tg, .int .i64 vl, .int .i64 pr, .int .i64 ty, .string (bstr da)] 48) = W1 from HW.out]
       go_wp2_with (first | ((with_reducible refine H1.out.mono ?_); rintro e w1 ⟨rfl, hw1⟩; subst w1) | ((with_reducible refine H2.out.mono ?_); rintro e w1 ⟨rfl, hw1⟩; subst w1) | ((with_reducible refine H3.out.mono ?_); rintro e w1 ⟨rfl, hw1⟩; subst w1))
       go_ret
       exact ⟨rfl, HB.out⟩
   · have hl : lensF dst.length src.length da.length = false := by unfold lensF; rw [decide_eq_false (show ¬ src.length = 6 from fun h => by rw [h] at a2; cases a2)]; simp
     have HR := Lib.hid (show r = false from hr.symm.trans (by simp [hl]))
     clear hr
     rw [HR.out]
     go_enter Tryz.func136, Tryz.ntmps136
     go_upto_region 1 with fail
     rw [show w.alloc (.cells #[.string (bstr dst), .string (bstr src), .bool tg, .int .i64 vl, .int .i64 pr, .int .i64 ty, .string (bstr da)] 48) = W1 from HW.out]
     go_wp2_with (first | ((with_reducible refine H1.out.mono ?_); rintro e w1 ⟨rfl, hw1⟩; subst w1) | ((with_reducible refine H2.out.mono ?_); rintro e w1 ⟨rfl, hw1⟩; subst w1) | ((with_reducible refine H3.out.mono ?_); rintro e w1 ⟨rfl, hw1⟩; subst w1))
     go_ret
     exact ⟨rfl, HB.out⟩
 · have hl : lensF dst.length src.length da.length = false := by unfold lensF; rw [decide_eq_false (show ¬ dst.length = 6 from fun h => by rw [h] at a1; cases a1)]; simp
   have HR := Lib.hid (show r = false from hr.symm.trans (by simp [hl]))
   clear hr
   rw [HR.out]
   go_enter Tryz.func136, Tryz.ntmps136
   go_upto_region 1 with fail
   rw [show w.alloc (.cells #[.string (bstr dst), .string (bstr src), .bool tg, .int .i64 vl, .int .i64 pr, .int .i64 ty, .string (bstr da)] 48) = W1 from HW.out]
   go_wp2_with (first | ((with_reducible refine H1.out.mono ?_); rintro e w1 ⟨rfl, hw1⟩; subst w1) | ((with_reducible refine H2.out.mono ?_); rintro e w1 ⟨rfl, hw1⟩; subst w1) | ((with_reducible refine H3.out.mono ?_); rintro e w1 ⟨rfl, hw1⟩; subst w1))
   go_ret
   exact ⟨rfl, HB.out⟩

theorem and_one_u8 : ∀ b : Fin 256, bits BinOp.and .u8 (b.val : Int) 1 = ((b.val % 2 : Nat) : Int) := by decide +kernel
theorem many_any (m : Str) (w : World) : Calls Tryz.prog 111 #[.string (bstr m)] w fun e w' => e = .returned (.bool (isMany m)) ∧ w = w' := by
 unfold isMany
 have hlen : ∀ q, (((m.length : Nat) : Int) == 6) = q → decide (m.length = 6) = q := fun q h => by
  rw [← h, Bool.eq_iff_iff]
  simp only [decide_eq_true_eq, beq_iff_eq]
  omega
 cases q1 : (((m.length : Nat) : Int) == 6)
 · rw [hlen _ q1, Bool.false_and]
   clear hlen
   go_enter Tryz.func111, Tryz.ntmps111
   go_wp2
   go_ret
   exact ⟨rfl, rfl⟩
 · rw [hlen _ q1, Bool.true_and]
   have h6 := of_decide_eq_true (hlen _ q1)
   clear hlen
   cases m with
   | nil => cases h6
   | cons b0 r =>
     have hb := and_one_u8 ⟨b0.toNat, b0.toNat_lt⟩
     dsimp only at hb
     have hg : (b0 :: r).getD 0 0 = b0 := rfl
     rw [hg]
     have q2 : ((r.length : Int) + 1 == 6) = true := by simpa using q1
     have hl : 0 < (b0 :: r).length := by simp
     clear h6 hg
     rcases Nat.mod_two_eq_zero_or_one b0.toNat with h2 | h2
     · rw [h2] at hb ⊢
       clear h2
       go_enter Tryz.func111, Tryz.ntmps111
       go_wp2
       go_ret
       exact ⟨by simp, rfl⟩
     · rw [h2] at hb ⊢
       clear h2
       go_enter Tryz.func111, Tryz.ntmps111
       go_wp2
       go_ret
       exact ⟨by simp, rfl⟩
end Go.Proofs.YthcdppppppgckaaGreatDoor

namespace Go.Proofs.YthcdppppppgckaaGreatDoor
open Go.RowKit Go.Lib Go.Sort
set_option maxRecDepth 20000
set_option maxRecDepth 20000
attribute [local go_sem] bstr_append

def RetWb (w : World) (b : Nat) (S : Str) (e : Ending) (w' : World) : Prop := e = .returned (.tuple #[]) ∧ Wb w' b S ∧ Tub w w' b
theorem putS_len (n : Int) (width : Nat) : (putS n width).length ≤ width := by
 unfold putS
 split
 · rw [ofN_length]; exact Nat.le_refl _
 · simp
set_option maxHeartbeats 1000000 in
theorem eput_any (b : Nat) (S : Str) (n : Int) (w : World) (h : Wb w b S) (hl : S.length ≤ 100000000) :
 Calls Tryz.prog 137 #[.int .i64 n, .pointer (some ⟨b, 0, none⟩)] w (RetWb w b (S ++ putS n 2)) := by
 have hp : Calls Tryz.prog 134 #[.int .i64 n, .int .i64 2] w fun e w' => e = .returned (.tuple #[.string (bstr (putS n 2)), .int .i64 (if okPut n 2 then 0 else 1)]) ∧ Below w.heap.size w w' := put_any n 2 w (by omega) (by omega)
 obtain ⟨er, her⟩ : ∃ er : Int, er = if okPut n 2 then 0 else 1 := ⟨_, rfl⟩
 obtain ⟨x, hx⟩ : ∃ x, x = putS n 2 := ⟨_, rfl⟩
 have hxl : x.length ≤ 2 := by rw [hx]; exact putS_len n 2
 rw [← her, ← hx] at hp
 rw [← hx]
 have HP := Lib.hid hp
 have HW := Lib.hid h
 have HL := Lib.hid (show S.length + x.length ≤ 140737488355328 by omega)
 clear hp h her hx hxl hl
 go_enter Tryz.func137, Tryz.ntmps137
 go_wp2_with (first | ((with_reducible refine HP.out.mono ?_); rintro e w1 ⟨rfl, hb1⟩; have HW1 := Lib.hid (HW.out.kept hb1); have HT1 := Lib.hid (Tub.of_below hb1 (Nat.le_of_lt HW.out.lt)); clear hb1) | ((with_reducible refine (bstring_any b S x _ HW1.out HL.out).mono ?_); rintro e w2 ⟨⟨m, rfl⟩, hw2, ht2⟩; have HW2 := Lib.hid hw2; have HT2 := Lib.hid (HT1.out.trans ht2); clear hw2 ht2))
 go_end0
 exact ⟨rfl, HW2.out, HT2.out⟩

theorem put2 {n : Int} (h0 : 0 ≤ n) (h1 : n ≤ 65535) : putS n 2 = ofN n.toNat 2 := by
 unfold putS okPut
 rw [decide_eq_true h0, decide_eq_true (by omega)]
 rfl
theorem bits_or_i64_nat (a b : Nat) (ha : a < 9223372036854775808) (hb : b < 9223372036854775808) : bits .or .i64 (a : Int) (b : Int) = ((a ||| b : Nat) : Int) := by
 have hx : a ||| b < 2 ^ 63 := Nat.or_lt_two_pow (by omega) (by omega)
 have h1 : (BitVec.ofInt 64 (a : Int)).toNat = a := by
  rw [BitVec.ofInt_natCast, BitVec.toNat_ofNat]; exact Nat.mod_eq_of_lt (by omega)
 have h2 : (BitVec.ofInt 64 (b : Int)).toNat = b := by
  rw [BitVec.ofInt_natCast, BitVec.toNat_ofNat]; exact Nat.mod_eq_of_lt (by omega)
 show IntKind.i64.wrap ((BitVec.ofInt 64 (a : Int) ||| BitVec.ofInt 64 (b : Int)).toNat : Int) = _
 rw [BitVec.toNat_or, h1, h2, IntKind.wrap_i64]
 omega
theorem tag_join {a b : Nat} (ha : a < 8) (hb : b < 8192) : bits BinOp.or .i64 ((a * 8192 : Nat) : Int) (b : Nat) = ((a * 8192 + b : Nat) : Int) := by
 rw [bits_or_i64_nat _ _ (by omega) (by omega)]
 congr 1
 have := Nat.two_pow_add_eq_or_of_lt (i := 13) (b := b) (by omega) a
 rw [Nat.mul_comm a 8192]
 exact this.symm
def RetEnc (w : World) (r : Str × Int) (e : Ending) (w' : World) : Prop := e = .returned (.tuple #[.string (bstr r.1), .int .i64 r.2]) ∧ Below w.heap.size w w'

structure EncSt (w W : World) (q0 q1 : Nat) (cs : Array Value) (S : Str) : Prop where
 box : CBox W q0 48 cs
 wb : Wb W q1 S
 below : Below w.heap.size w W
 le : w.heap.size ≤ q1
 ne : q0 ≠ q1
theorem EncSt.step {w W W' : World} {q0 q1 : Nat} {cs : Array Value} {S S' : Str} (h : EncSt w W q0 q1 cs S) (hw : Wb W' q1 S') (ht : Tub W W' q1) : EncSt w W' q0 q1 cs S' :=
 ⟨ht.box h.box h.ne (by decide), hw, h.below.trans (ht.1.mono h.le), h.le, h.ne⟩
theorem fineF_facts {f : Fr} (h : fineF f = true) : f.dst.length = 6 ∧ f.src.length = 6 ∧ f.data.length ≤ 2000 ∧ (0 ≤ f.vlan ∧ f.vlan ≤ 4094) ∧ (0 ≤ f.prio ∧ f.prio ≤ 7) ∧ (0 ≤ f.typ ∧ f.typ ≤ 65535) := by
 unfold fineF inTo at h
 simp only [Bool.and_eq_true, decide_eq_true_eq] at h
 exact ⟨h.1.1.1.1.1.1, h.1.1.1.1.1.2, h.1.1.1.1.2, h.1.1.1.2, h.1.1.2, h.1.2⟩

set_option maxHeartbeats 4000000 in
theorem enc_any (f : Fr) (w : World) (hs : f.dst.length ≤ maxLen ∧ f.src.length ≤ maxLen ∧ f.data.length ≤ maxLen) :
 Calls Tryz.prog 73 #[encF f] w (RetEnc w (eEnc f)) := by
 have HFN := Lib.hid (fun W => fine_any f W hs)
 unfold eEnc
 cases hf : fineF f
 · rw [hf] at HFN
   obtain ⟨dst, src, tg, vl, pr, ty, da⟩ := f
   unfold encF fcells at HFN ⊢
   dsimp only at HFN ⊢
   clear hf hs
   obtain ⟨W1, hW1⟩ : ∃ W, w.alloc (.cells #[.string (bstr dst), .string (bstr src), .bool tg, .int .i64 vl, .int .i64 pr, .int .i64 ty, .string (bstr da)] 48) = W := ⟨_, rfl⟩
   have HB := Lib.hid (show Below w.heap.size w W1 from by rw [← hW1]; exact (Below.refl _ _).alloc (Nat.le_refl _) _)
   have hx : CBox W1 w.heap.size 48 #[.string (bstr dst), .string (bstr src), .bool tg, .int .i64 vl, .int .i64 pr, .int .i64 ty, .string (bstr da)] := by rw [← hW1]; exact CBox.new _ rfl
   have HW := Lib.hid hW1
   obtain ⟨c0, cf0⟩ := CBox.at_ hx 0 _ rfl
   obtain ⟨c1, cf1⟩ := CBox.at_ hx 1 _ rfl
   obtain ⟨c2, cf2⟩ := CBox.at_ hx 2 _ rfl
   obtain ⟨c3, cf3⟩ := CBox.at_ hx 3 _ rfl
   obtain ⟨c4, cf4⟩ := CBox.at_ hx 4 _ rfl
   obtain ⟨c5, cf5⟩ := CBox.at_ hx 5 _ rfl
   obtain ⟨c6, cf6⟩ := CBox.at_ hx 6 _ rfl
   clear hx hW1
   go_enter Tryz.func73, Tryz.ntmps73
   go_upto_region 1 with fail
   rw [HW.out]
   go_wp2_with ((with_reducible refine (HFN.out _).mono ?_); rintro e w2 ⟨rfl, hb2⟩; have HB2 := Lib.hid (HB.out.trans (hb2.mono HB.out.size)); clear hb2)
   go_ret2
   exact ⟨by rw [bstr_nil]; rfl, HB2.out⟩
 · obtain ⟨g1, g2, g3, g4, g5, g6⟩ := fineF_facts hf
   rw [hf] at HFN
   have HRT := Lib.hid (show eEncS f = f.dst ++ f.src ++ (if f.tagged then ofN 33024 2 ++ ofN (f.prio.toNat * 8192 + f.vlan.toNat) 2 else []) ++ ofN f.typ.toNat 2 ++ f.data from rfl)
   obtain ⟨R, hR⟩ : ∃ R, eEncS f = R := ⟨_, rfl⟩
   rw [hR] at HRT
   rw [if_pos rfl, hR]
   clear hR
   obtain ⟨dst, src, tg, vl, pr, ty, da⟩ := f
   unfold encF fcells at HFN ⊢
   dsimp only at HFN g1 g2 g3 g4 g5 g6 HRT ⊢
   clear hf hs
   obtain ⟨W1, hW1⟩ : ∃ W, w.alloc (.cells #[.string (bstr dst), .string (bstr src), .bool tg, .int .i64 vl, .int .i64 pr, .int .i64 ty, .string (bstr da)] 48) = W := ⟨_, rfl⟩
   have hb : Below w.heap.size w W1 := by rw [← hW1]; exact (Below.refl _ _).alloc (Nat.le_refl _) _
   have HB := Lib.hid hb
   have hx : CBox W1 w.heap.size 48 #[.string (bstr dst), .string (bstr src), .bool tg, .int .i64 vl, .int .i64 pr, .int .i64 ty, .string (bstr da)] := by rw [← hW1]; exact CBox.new _ rfl
   obtain ⟨q0, hq0⟩ : ∃ q, w.heap.size = q := ⟨_, rfl⟩
   have HQ0 := Lib.hid hq0
   rw [hq0] at hx
   have HX := Lib.hid hx
   have HW := Lib.hid hW1
   have HSD := Lib.hid (show (dst ++ src).length = 12 from by rw [List.length_append]; omega)
   have HG := Lib.hid (And.intro g3 (And.intro g4 (And.intro g5 g6)))
   obtain ⟨c0, cf0⟩ := CBox.at_ hx 0 _ rfl
   obtain ⟨c1, cf1⟩ := CBox.at_ hx 1 _ rfl
   obtain ⟨c2, cf2⟩ := CBox.at_ hx 2 _ rfl
   obtain ⟨c3, cf3⟩ := CBox.at_ hx 3 _ rfl
   obtain ⟨c4, cf4⟩ := CBox.at_ hx 4 _ rfl
   obtain ⟨c5, cf5⟩ := CBox.at_ hx 5 _ rfl
   obtain ⟨c6, cf6⟩ := CBox.at_ hx 6 _ rfl
   clear hx hW1 hb hq0 g1 g2 g3 g4 g5 g6
   go_enter Tryz.func73, Tryz.ntmps73
   go_upto_region 1 with fail
   rw [HW.out, HQ0.out]
   go_upto_region 3 with ((with_reducible refine (HFN.out _).mono ?_); rintro e w2 ⟨rfl, hb2⟩; have HB2 := Lib.hid hb2; clear hb2)
   clear c0 cf0 c1 cf1 c2 cf2 c3 cf3 c4 cf4 c5 cf5 c6 cf6 HFN HW
   go_upto_region 4 with fail
   obtain ⟨W3, hW3⟩ : ∃ W, w2.alloc (.cells #[.pointer none, .slice none 0 0] 236) = W := ⟨_, rfl⟩
   obtain ⟨q1, hq1⟩ : ∃ q, w2.heap.size = q := ⟨_, rfl⟩
   have h3 : Below w2.heap.size w2 W3 := by rw [← hW3]; exact (Below.refl _ _).alloc (Nat.le_refl _) _
   have H3 := Lib.hid (show EncSt w W3 q0 q1 #[.string (bstr dst), .string (bstr src), .bool tg, .int .i64 vl, .int .i64 pr, .int .i64 ty, .string (bstr da)] [] from
    ⟨(HX.out.below HB2.out HX.out.lt).below h3 (HX.out.below HB2.out HX.out.lt).lt, by rw [← hW3]; exact Wb.new hq1.symm, (HB.out.trans (HB2.out.mono HB.out.size)).trans (h3.mono (Nat.le_trans HB.out.size HB2.out.size)), by have := HB.out.size; have := HB2.out.size; omega, by have := (HX.out.below HB2.out HX.out.lt).lt; omega⟩)
   rw [hW3, hq1]
   clear hW3 hq1 h3 HX HB HB2
   obtain ⟨c0, cf0⟩ := CBox.at_ H3.out.box 0 _ rfl
   obtain ⟨c1, cf1⟩ := CBox.at_ H3.out.box 1 _ rfl
   obtain ⟨c2, cf2⟩ := CBox.at_ H3.out.box 2 _ rfl
   obtain ⟨c3, cf3⟩ := CBox.at_ H3.out.box 3 _ rfl
   obtain ⟨c4, cf4⟩ := CBox.at_ H3.out.box 4 _ rfl
   obtain ⟨c5, cf5⟩ := CBox.at_ H3.out.box 5 _ rfl
   obtain ⟨c6, cf6⟩ := CBox.at_ H3.out.box 6 _ rfl
   have hl5 := HSD.out
   have hln : (bstr dst).size + (bstr src).size ≤ 9223372036854775807 := by rw [bstr_size, bstr_size]; rw [List.length_append] at hl5; omega
   go_upto_region 6 with ((with_reducible refine (bstring_any q1 [] (dst ++ src) _ H3.out.wb (by rw [HSD.out]; decide)).mono ?_); rintro e w5 ⟨⟨m5, rfl⟩, hw5, ht5⟩; have H5 := Lib.hid (H3.out.step hw5 ht5); clear hw5 ht5)
   clear c0 cf0 c1 cf1 c2 cf2 c3 cf3 c4 cf4 c5 cf5 c6 cf6 H3 hln
   obtain ⟨c0, cf0⟩ := CBox.at_ H5.out.box 0 _ rfl
   obtain ⟨c1, cf1⟩ := CBox.at_ H5.out.box 1 _ rfl
   obtain ⟨c2, cf2⟩ := CBox.at_ H5.out.box 2 _ rfl
   obtain ⟨c3, cf3⟩ := CBox.at_ H5.out.box 3 _ rfl
   obtain ⟨c4, cf4⟩ := CBox.at_ H5.out.box 4 _ rfl
   obtain ⟨c5, cf5⟩ := CBox.at_ H5.out.box 5 _ rfl
   obtain ⟨c6, cf6⟩ := CBox.at_ H5.out.box 6 _ rfl
   obtain ⟨S, hS⟩ : ∃ S, [] ++ (dst ++ src) = S := ⟨_, rfl⟩
   have HS := Lib.hid (show S = dst ++ src from hS.symm)
   have HSL := Lib.hid (show S.length = 12 from by rw [HS.out]; exact hl5)
   rw [hS] at H5
   clear hS hl5
   cases tg
   · go_upto_region 9 with fail
     go_upto_region 10 with ((with_reducible refine (eput_any q1 S ty _ H5.out.wb (by rw [HSL.out]; decide)).mono ?_); rintro e w6 ⟨rfl, hw6, ht6⟩; have H6 := Lib.hid (H5.out.step hw6 ht6); clear hw6 ht6)
     clear c0 cf0 c1 cf1 c2 cf2 c3 cf3 c4 cf4 c5 cf5 c6 cf6 H5
     have HG6 := Lib.hid (show putS ty 2 = ofN ty.toNat 2 from put2 HG.out.2.2.2.1 HG.out.2.2.2.2)
     rw [HG6.out] at H6
     obtain ⟨c0, cf0⟩ := CBox.at_ H6.out.box 0 _ rfl
     obtain ⟨c1, cf1⟩ := CBox.at_ H6.out.box 1 _ rfl
     obtain ⟨c2, cf2⟩ := CBox.at_ H6.out.box 2 _ rfl
     obtain ⟨c3, cf3⟩ := CBox.at_ H6.out.box 3 _ rfl
     obtain ⟨c4, cf4⟩ := CBox.at_ H6.out.box 4 _ rfl
     obtain ⟨c5, cf5⟩ := CBox.at_ H6.out.box 5 _ rfl
     obtain ⟨c6, cf6⟩ := CBox.at_ H6.out.box 6 _ rfl
     obtain ⟨S6, hS6⟩ : ∃ S6, S ++ ofN ty.toNat 2 = S6 := ⟨_, rfl⟩
     have HS6 := Lib.hid hS6
     have HSL6 := Lib.hid (show S6.length = 14 from by rw [← hS6, List.length_append, ofN_length, HSL.out])
     rw [hS6] at H6
     clear hS6
     go_upto_region 11 with ((with_reducible refine (bstring_any q1 S6 da _ H6.out.wb (by rw [HSL6.out]; have := HG.out.1; omega)).mono ?_); rintro e w7 ⟨⟨m7, rfl⟩, hw7, ht7⟩; have H7 := Lib.hid (H6.out.step hw7 ht7); clear hw7 ht7)
     clear c0 cf0 c1 cf1 c2 cf2 c3 cf3 c4 cf4 c5 cf5 c6 cf6 H6
     have HRR := Lib.hid (show S6 ++ da = R from by rw [HRT.out, ← HS6.out, HS.out]; simp)
     rw [HRR.out] at H7
     have HRL := Lib.hid (show R.length ≤ 100000000 from by rw [← HRR.out, List.length_append, HSL6.out]; have := HG.out.1; omega)
     go_wp2_with ((with_reducible refine (btext_any q1 R _ H7.out.wb HRL.out).mono ?_); rintro e w8 ⟨rfl, hb8⟩; have HB8 := Lib.hid (H7.out.below.trans (hb8.mono H7.out.le)); clear hb8)
     go_ret2
     exact ⟨rfl, HB8.out⟩
   · obtain ⟨pn, rfl⟩ := Int.eq_ofNat_of_zero_le HG.out.2.2.1.1
     obtain ⟨vn, rfl⟩ := Int.eq_ofNat_of_zero_le HG.out.2.1.1
     obtain ⟨J, hJ⟩ : ∃ J : Nat, pn * 8192 + vn = J := ⟨_, rfl⟩
     have HJ := Lib.hid (show bits BinOp.or .i64 ((pn : Int) * 8192) (vn : Int) = (J : Int) from by
      rw [← hJ, ← tag_join (a := pn) (b := vn) (by have := HG.out.2.2.1.2; omega) (by have := HG.out.2.1.2; omega)]
      rfl)
     have hpn : ((pn : Nat) : Int) ≤ 7 := HG.out.2.2.1.2
     have HP33 := Lib.hid (show putS 33024 2 = ofN 33024 2 from rfl)
     have HPJ := Lib.hid (show putS (J : Int) 2 = ofN J 2 from put2 (by omega) (by have := HG.out.2.2.1.2; have := HG.out.2.1.2; omega))
     have HJ2 := Lib.hid (show ((pn : Nat) : Int).toNat * 8192 + ((vn : Nat) : Int).toNat = J from hJ)
     clear hJ
     have HG6 := Lib.hid (show putS ty 2 = ofN ty.toNat 2 from put2 HG.out.2.2.2.1 HG.out.2.2.2.2)
     go_upto_region 7 with fail
     go_upto_region 8 with ((with_reducible refine (eput_any q1 S 33024 _ H5.out.wb (by rw [HSL.out]; decide)).mono ?_); rintro e w6 ⟨rfl, hw6, ht6⟩; have H6 := Lib.hid (H5.out.step hw6 ht6); clear hw6 ht6)
     clear c0 cf0 c1 cf1 c2 cf2 c3 cf3 c4 cf4 c5 cf5 c6 cf6 H5
     rw [HP33.out] at H6
     obtain ⟨c0, cf0⟩ := CBox.at_ H6.out.box 0 _ rfl
     obtain ⟨c1, cf1⟩ := CBox.at_ H6.out.box 1 _ rfl
     obtain ⟨c2, cf2⟩ := CBox.at_ H6.out.box 2 _ rfl
     obtain ⟨c3, cf3⟩ := CBox.at_ H6.out.box 3 _ rfl
     obtain ⟨c4, cf4⟩ := CBox.at_ H6.out.box 4 _ rfl
     obtain ⟨c5, cf5⟩ := CBox.at_ H6.out.box 5 _ rfl
     obtain ⟨c6, cf6⟩ := CBox.at_ H6.out.box 6 _ rfl
     obtain ⟨S6, hS6⟩ : ∃ S6, S ++ ofN 33024 2 = S6 := ⟨_, rfl⟩
     have HS6 := Lib.hid hS6
     have HSL6 := Lib.hid (show S6.length = 14 from by rw [← hS6, List.length_append, ofN_length, HSL.out])
     rw [hS6] at H6
     clear hS6
     go_upto_region 9 with (rw [HJ.out]; (with_reducible refine (eput_any q1 S6 (J : Int) _ H6.out.wb (by rw [HSL6.out]; decide)).mono ?_); rintro e w7 ⟨rfl, hw7, ht7⟩; have H7 := Lib.hid (H6.out.step hw7 ht7); clear hw7 ht7)
     clear c0 cf0 c1 cf1 c2 cf2 c3 cf3 c4 cf4 c5 cf5 c6 cf6 H6 HJ hpn
     rw [HPJ.out] at H7
     obtain ⟨c0, cf0⟩ := CBox.at_ H7.out.box 0 _ rfl
     obtain ⟨c1, cf1⟩ := CBox.at_ H7.out.box 1 _ rfl
     obtain ⟨c2, cf2⟩ := CBox.at_ H7.out.box 2 _ rfl
     obtain ⟨c3, cf3⟩ := CBox.at_ H7.out.box 3 _ rfl
     obtain ⟨c4, cf4⟩ := CBox.at_ H7.out.box 4 _ rfl
     obtain ⟨c5, cf5⟩ := CBox.at_ H7.out.box 5 _ rfl
     obtain ⟨c6, cf6⟩ := CBox.at_ H7.out.box 6 _ rfl
     obtain ⟨S7, hS7⟩ : ∃ S7, S6 ++ ofN J 2 = S7 := ⟨_, rfl⟩
     have HS7 := Lib.hid hS7
     have HSL7 := Lib.hid (show S7.length = 16 from by rw [← hS7, List.length_append, ofN_length, HSL6.out])
     rw [hS7] at H7
     clear hS7
     go_upto_region 10 with ((with_reducible refine (eput_any q1 S7 ty _ H7.out.wb (by rw [HSL7.out]; decide)).mono ?_); rintro e w8 ⟨rfl, hw8, ht8⟩; have H8 := Lib.hid (H7.out.step hw8 ht8); clear hw8 ht8)
     clear c0 cf0 c1 cf1 c2 cf2 c3 cf3 c4 cf4 c5 cf5 c6 cf6 H7
     rw [HG6.out] at H8
     obtain ⟨c0, cf0⟩ := CBox.at_ H8.out.box 0 _ rfl
     obtain ⟨c1, cf1⟩ := CBox.at_ H8.out.box 1 _ rfl
     obtain ⟨c2, cf2⟩ := CBox.at_ H8.out.box 2 _ rfl
     obtain ⟨c3, cf3⟩ := CBox.at_ H8.out.box 3 _ rfl
     obtain ⟨c4, cf4⟩ := CBox.at_ H8.out.box 4 _ rfl
     obtain ⟨c5, cf5⟩ := CBox.at_ H8.out.box 5 _ rfl
     obtain ⟨c6, cf6⟩ := CBox.at_ H8.out.box 6 _ rfl
     obtain ⟨S8, hS8⟩ : ∃ S8, S7 ++ ofN ty.toNat 2 = S8 := ⟨_, rfl⟩
     have HS8 := Lib.hid hS8
     have HSL8 := Lib.hid (show S8.length = 18 from by rw [← hS8, List.length_append, ofN_length, HSL7.out])
     rw [hS8] at H8
     clear hS8
     go_upto_region 11 with ((with_reducible refine (bstring_any q1 S8 da _ H8.out.wb (by rw [HSL8.out]; have := HG.out.1; omega)).mono ?_); rintro e w9 ⟨⟨m9, rfl⟩, hw9, ht9⟩; have H9 := Lib.hid (H8.out.step hw9 ht9); clear hw9 ht9)
     clear c0 cf0 c1 cf1 c2 cf2 c3 cf3 c4 cf4 c5 cf5 c6 cf6 H8
     have HRR := Lib.hid (show S8 ++ da = R from by rw [HRT.out, ← HS8.out, ← HS7.out, ← HS6.out, HS.out, HJ2.out]; simp)
     rw [HRR.out] at H9
     have HRL := Lib.hid (show R.length ≤ 100000000 from by rw [← HRR.out, List.length_append, HSL8.out]; have := HG.out.1; omega)
     go_wp2_with ((with_reducible refine (btext_any q1 R _ H9.out.wb HRL.out).mono ?_); rintro e w10 ⟨rfl, hb10⟩; have HB10 := Lib.hid (H9.out.below.trans (hb10.mono H9.out.le)); clear hb10)
     go_ret2
     exact ⟨rfl, HB10.out⟩
end Go.Proofs.YthcdppppppgckaaGreatDoor
