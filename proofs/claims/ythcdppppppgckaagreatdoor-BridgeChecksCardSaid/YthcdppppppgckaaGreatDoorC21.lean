/- Texts joined into one file: TKey, TDefs, TIter, TCmp. -/
import Derived.Test.YthcdppppppgckaaGreatDoorC20
import Derived.Test.YthcdppppppgckaaGreatDoorC12
import Derived.DeepKeys4
import Derived.Test.YthcdppppppgckaaGreatDoorC04
import Derived.Test.YthcdppppppgckaaGreatDoorC11
import Derived.RangeFuncSeq
import Derived.RangeFuncWrites
import Derived.Sort.MapsRangeIn
import Derived.RegionIn

namespace Go.Proofs.YthcdppppppgckaaGreatDoor
open Go.RowKit Go.Lib Go.Maps
set_option maxRecDepth 20000

theorem tk_wide : (match Tryz.prog.underlying 177 with | some (.array _ _) | some (.struct _) => true | _ => false) = true := by kernel_rfl
theorem tk_laid : laidOutB Tryz.prog = true := by kernel_rfl
theorem tk_row : 177 < Tryz.prog.types.size := of_decide_eq_true (by kernel_rfl)
set_option maxRecDepth 100000 in
theorem tk_law : Keyed Tryz.prog 177 := Keyed.of_law (deep_law_laid tk_laid (m := 9) (by decide) tk_row (by kernel_rfl) tk_wide)
theorem tk_is : Tryz.prog.keyType 177 = true := by kernel_rfl
theorem tk_cells : Tryz.prog.cellsOf 177 = 3 := by kernel_rfl
theorem tk_ci : Tryz.prog.cellsOf 3 = 1 := by kernel_rfl
theorem tk_ca : Tryz.prog.cellsOf 25 = 1 := by kernel_rfl
theorem tk_size : ∃ n, Tryz.prog.types.size = n + 1 := ⟨Tryz.prog.types.size - 1, by kernel_rfl⟩

def encT (x : Int × Str × Int) : Value := .agg #[.int .i64 x.1, .string (bstr x.2.1), .int .i64 x.2.2]
def okT (x : Int × Str × Int) : Prop := (Lit.int .i64 x.1).wf = true ∧ x.2.1.length ≤ maxLen ∧ (Lit.int .i64 x.2.2).wf = true
def litT (x : Int × Str × Int) : Lit := .string (keyBytes [.int .i64 x.1, .string x.2.1, .int .i64 x.2.2])

set_option maxRecDepth 100000 in
theorem tk_reads (x : Int × Str × Int) (h : okT x) : keyOf Tryz.prog 177 (encT x) = some (litT x) := by
 obtain ⟨n, hn⟩ := tk_size
 have hs : (bstr x.2.1).size ≤ maxLen := by rw [bstr_size]; exact h.2.1
 have hd : (bstr x.2.1).data.toList = x.2.1 := bstr_data x.2.1
 unfold keyOf encT litT
 rw [Tryz.underlying177]
 simp only [tk_is, Bool.true_and]
 have hf : Value.formed Tryz.prog 177 (.agg #[.int .i64 x.1, .string (bstr x.2.1), .int .i64 x.2.2]) = true := by
  simp [Value.formed, Tryz.underlying177, tk_cells]
 rw [if_pos hf, hn]
 simp [Program.keyLits, Value.cells, Tryz.underlying177, tk_cells, tk_ci, tk_ca, Tryz.underlying3, Tryz.underlying25, h.1, h.2.2, hs, hd]

set_option maxRecDepth 100000 in
theorem tk_all (v : Value) (l : Lit) (h : keyOf Tryz.prog 177 v = some l) : ∃ x, okT x ∧ v = encT x := by
 obtain ⟨n, hn⟩ := tk_size
 unfold keyOf at h
 rw [Tryz.underlying177] at h
 simp only [tk_is, Bool.true_and] at h
 split at h
 · rename_i hf
   cases v <;> simp [Value.formed, Tryz.underlying177, tk_cells] at hf
   rename_i cs
   obtain ⟨a, b, c, rfl⟩ : ∃ a b c, cs = #[a, b, c] := by
    obtain ⟨l⟩ := cs
    match l, hf with
    | [a, b, c], _ => exact ⟨a, b, c, rfl⟩
   rw [hn] at h
   simp [Program.keyLits, Value.cells, Tryz.underlying177, tk_cells, tk_ci, tk_ca, Tryz.underlying3, Tryz.underlying25] at h
   cases a <;> simp at h
   rename_i q z
   by_cases hq : q = .i64 ∧ (Lit.int .i64 z).wf = true
   · rw [if_pos hq] at h
     obtain ⟨rfl, hz⟩ := hq
     cases b <;> simp at h
     rename_i t
     by_cases ht : t.size ≤ maxLen
     · rw [if_pos ht] at h
       cases c <;> simp at h
       rename_i q' z'
       by_cases hq' : q' = .i64 ∧ (Lit.int .i64 z').wf = true
       · obtain ⟨rfl, hz'⟩ := hq'
         exact ⟨(z, t.data.toList, z'), ⟨hz, by simpa using ht, hz'⟩, by simp [encT, bstr]⟩
       · rw [if_neg hq'] at h; simp at h
     · rw [if_neg ht] at h; simp at h
   · rw [if_neg hq] at h; simp at h
 · cases h

theorem tk_inj (x y : Int × Str × Int) (h : encT x = encT y) : x = y := by
 obtain ⟨a, b, e⟩ := x
 obtain ⟨c, d, f⟩ := y
 simp only [encT] at h
 have h1 : a = c := by injection h with h; simp at h; exact h.1
 have h2 : bstr b = bstr d := by injection h with h; simp at h; exact h.2.1
 have h3 : e = f := by injection h with h; simp at h; exact h.2.2
 rw [h1, bstr_inj h2, h3]

def KT : KeyEnc Tryz.prog 177 (Int × Str × Int) := ⟨encT, okT, litT, tk_reads, tk_all, tk_inj, tk_law⟩
end Go.Proofs.YthcdppppppgckaaGreatDoor

namespace Go.Proofs.YthcdppppppgckaaGreatDoor
open Go.RowKit Go.Lib Go.Sort
set_option maxRecDepth 20000

def CKeep (w w' : World) : Prop := w.heap.size ≤ w'.heap.size ∧ ∀ (j : Nat) (cs : Array Value) (T : TypeId) (fr : Nat × Nat), w.heap[j]? = some (.cells cs T fr) → w'.heap[j]? = some (.cells cs T fr)
theorem CKeep.refl (w : World) : CKeep w w := ⟨Nat.le_refl _, fun _ _ _ _ h => h⟩
theorem CKeep.trans {a b c : World} (h : CKeep a b) (k : CKeep b c) : CKeep a c := ⟨Nat.le_trans h.1 k.1, fun j cs T fr e => k.2 j cs T fr (h.2 j cs T fr e)⟩
theorem CKeep.of_below {w w' : World} (h : Below w.heap.size w w') : CKeep w w' := ⟨h.size, fun j _ _ _ e => (h.block j (Array.getElem?_eq_some_iff.1 e).1).trans e⟩
theorem CKeep.of_map {P : Program} {T : TypeId} {κ : Type} {K : KeyEnc P T κ} {w w' : World} {b n : Nat} {V : κ → Option Value} (hm : VMap K w b n V) (hg : w.grownBy w' (some b)) : CKeep w w' := by
 refine ⟨hg.size, fun j cs T fr e => (hg.block j (Array.getElem?_eq_some_iff.1 e).1 (fun e' => ?_)).trans e⟩
 injection e' with e'
 subst e'
 obtain ⟨_, D, ⟨es, clock, hb, _⟩, _⟩ := hm
 rw [hb] at e
 cases e
theorem CKeep.cell {w w' : World} (h : CKeep w w') {p : Addr} {v : Value} (hc : w.cell? p = some v) : w'.cell? p = some v := by
 unfold World.cell? at hc ⊢
 cases ho : w.heap[p.block]? with
 | none => rw [ho] at hc; cases hc
 | some o =>
   rw [ho] at hc
   cases o <;> simp at hc
   rw [h.2 _ _ _ _ ho]
   simpa using hc
theorem CKeep.box {w w' : World} (h : CKeep w w') {b : Nat} {T : TypeId} {cs : Array Value} (hb : CBox w b T cs) : CBox w' b T cs := h.2 _ _ _ _ hb
theorem CKeep.strs {w w' : World} (h : CKeep w w') {v : Value} {L : List Str} (hs : Strs w v L) : Strs w' v L := by
 obtain ⟨ao, cap, b, off, rfl, h0, h1, h2, h3⟩ := hs
 exact ⟨ao, cap, b, off, rfl, h0, h1, h2, fun k hk => by obtain ⟨hlt, hc⟩ := h3 k hk; exact ⟨Nat.lt_of_lt_of_le hlt h.1, h.cell hc⟩⟩

end Go.Proofs.YthcdppppppgckaaGreatDoor

namespace Go.Proofs.YthcdppppppgckaaGreatDoor
open Go.RowKit Go.Lib Go.Maps Go.Sort Go.Shelf
set_option maxRecDepth 20000
attribute [local go_sem] Oper.semAt_some

def CollT {H : Type} (D0 : DataW H) (left : Lit → Bool) (ss : List (Int × Str × Int)) : Prop := ss.Nodup ∧ ∀ x, x ∈ ss ↔ (okT x ∧ has D0 (litT x) = true ∧ left (litT x) = false)

theorem CollT.start {H : Type} (D0 : DataW H) : CollT D0 (has D0) [] := ⟨List.nodup_nil, fun x => by cases has D0 (litT x) <;> simp⟩
theorem CollT.step {H : Type} {D0 : DataW H} {left : Lit → Bool} {ss : List (Int × Str × Int)} (h : CollT D0 left ss) {x : Int × Str × Int} (hx : okT x) {y : DataW H} (hlk : left (litT x) = true) (hat : ∀ zd, D0.atKey (litT x) zd = y) : CollT D0 (fun z => left z && !z.sameKey (litT x)) (ss ++ [x]) := by
 have hhas : has D0 (litT x) = true := has_true_of_atKey hat
 refine ⟨?_, fun z => ?_⟩
 · rw [List.nodup_append]
   refine ⟨h.1, by simp, fun a ha b hb e => ?_⟩
   simp only [List.mem_singleton] at hb
   subst hb
   subst e
   have := ((h.2 a).1 ha).2.2
   rw [hlk] at this
   cases this
 · rw [List.mem_append, List.mem_singleton, h.2 z]
   by_cases e : z = x
   · subst e
     have : (litT z).sameKey (litT z) = true := WideAt.sameKey_self (KT.isKey hx)
     simp [hx, hhas, this]
   · constructor
     · rintro (⟨a, b, c⟩ | c)
       · exact ⟨a, b, by simp [c]⟩
       · exact absurd c e
     · rintro ⟨a, b, c⟩
       refine .inl ⟨a, b, ?_⟩
       have c' : (left (litT z) && !(litT z).sameKey (litT x)) = false := c
       rw [show (litT z).sameKey (litT x) = false from Maps.sameKey_ne (fun h => e (KT.lit_inj a hx h))] at c'
       simpa using c'
theorem CollT.keys {w : World} {b n : Nat} {V : Int × Str × Int → Option Value} {D : DataW Value} {left : Lit → Bool} {ss : List (Int × Str × Int)} (h : CollT D left ss) (hl : ∀ kl, left kl = false) (hown : w.ownsMap Tryz.prog 177 heldR b n D) (h0 : ∀ x, V x ≠ none → okT x) (e : ∀ x, okT x → lookV D (litT x) = V x) : KeysV V ss :=
 ⟨h.1, fun x => by
  rw [h.2 x]
  have hq : has D (litT x) = (lookV D (litT x)).isSome := lookV_has hown KT
  constructor
  · rintro ⟨a, b, _⟩ hn
    rw [e x a, hn, b] at hq
    cases hq
  · intro hx
    have a := h0 x hx
    rw [e x a] at hq
    refine ⟨a, ?_, hl _⟩
    rw [hq]
    cases hv : V x
    · exact absurd hv hx
    · rfl⟩

set_option maxRecDepth 100000 in
set_option maxHeartbeats 2000000 in
theorem tkeys_stops (n : Nat) (hn : 1 ≤ n) (Bm b N : Nat) (V : Int × Str × Int → Option Value) (w : World) (hBm : Bm < w.heap.size) (hm : w.cell? ⟨Bm, 0, none⟩ = some (.map (some b))) (h : VMap KT w b N V) :
 SeqStopsK Fence.wide n Tryz.prog 231 #[.pointer (some ⟨Bm, 0, none⟩)] (fun x : Int × Str × Int => #[encT x]) KeepsWalks (fun ss => KeysV V ss) (fun _ => True) N w := fun l J Jx W hW hJ _ hY h0 => by
 have hm' := (hW.cell (p := ⟨Bm, 0, none⟩) hBm).trans hm
 obtain ⟨hv0, D0, hown, he⟩ := h.below hW h.lt
 have hsz := hown.size_le
 clear hm h
 refine callsIn_of_wp Tryz.func231 rfl trivial ?_ rfl
 simp only [Tryz.ntmps231, List.size_toArray, List.length_cons, List.length_nil, Nat.reduceAdd, Nat.reduceSub, Array.replicate_succ, Array.replicate_zero, List.push_toArray, List.append_toArray, List.nil_append, List.cons_append]
 gi_wp2_with (first
  | (gi_at_range; refine wpListIn_range_own _ rfl _ 152 rfl 177 181 tk_law Tryz.underlying152 _ b N _ rfl hown ?_; intro w0 hrg0 hg0 hs0)
  | gi_in)
 try go_frame
 gi_loopw [3] (fun _ wr => ∃ (left : Lit → Bool) (cnt : Nat) (ss : List (Int × Str × Int)), wr.ranges Tryz.prog 177 heldR b W.heap.size N D0 left cnt ∧ ss.length + cnt ≤ Maps.size D0 ∧ CollT D0 left ss ∧ J ss wr)
  (fun _ wr => wr.rangeLeft b W.heap.size)
 case atStart =>
  exact ⟨_, _, [], hrg0, by simp, CollT.start D0, hJ [] W w0 none h0 hg0 (fun r e => by cases e)⟩
 case round =>
  obtain ⟨left, cnt, ss, hrg, hcs, hC, hJs⟩ := hrel
  gi_wp2_with (first
   | (gi_at_next; refine wpListIn_next_ranges _ rfl _ rfl 177 tk_law heldR encT id (fun key kl hk => by obtain ⟨x, _, hx⟩ := tk_all key kl hk; exact ⟨x, hx⟩) (fun v _ _ => ⟨v, rfl⟩) b W.heap.size N _ _ _ rfl hrg ?_ ?_)
   | gi_in)
  · intro hc0 hl0
    gi_wp2
    go_end0
    exact ⟨⟨_, rfl⟩, .inl ⟨ss, hC.keys hl0 hown hv0 he, hJs⟩⟩
  · intro xv xg xp c kl yd yp w2 cnt2 hkey hlk hv hat hrg2 hlt hg2 hs2 hen
    obtain ⟨x', hxo, ex⟩ := tk_all _ _ hkey
    obtain rfl := tk_inj _ _ ex
    rw [tk_reads (xv, xg, xp) hxo] at hkey
    injection hkey with hkey
    subst hkey
    have hen' : (Instr.entry (.pointer (some ⟨W.heap.size, 0, none⟩))).run Tryz.prog w2 = .ok (.tuple #[.agg #[.int .i64 xv, .string (bstr xg), .int .i64 xp], c]) w2 := hen
    have hJ2 : J ss (w2.alloc (.cells #[.int .i64 xv, .string (bstr xg), .int .i64 xp] 177)) := hJ ss w2 _ none (hJ ss wr w2 (some W.heap.size) hJs hg2 (fun r e => by cases e; exact ⟨Nat.le_refl _, hrg.iter_walk⟩)) (World.grownBy_alloc _ _ _) (fun r e => by cases e)
    have hrg2' := hrg2.alloc (.cells #[.int .i64 xv, .string (bstr xg), .int .i64 xp] 177)
    obtain ⟨fn, tmps, assign, body, hy, hR⟩ := hY ss (xv, xg, xp) _ hJ2 (by omega)
    have hR' := hR
    dsimp only [encT] at hy
    clear hs2 hen hR
    gi_wp2
    refine hR'.mono ?_
    have hC2 := hC.step hxo hlk hat
    rintro e W3 (⟨rfl, hJ3, hk3⟩ | ⟨rfl, hJx3⟩)
    · gi_wp2
      have hrg3 := hrg2'.of_walks hk3
      go_roundw
      case rel => exact ⟨_, cnt2, ss ++ [(xv, xg, xp)], hrg3, by simp; omega, hC2, hJ3⟩
      case measure => rw [hrg3.left_eq, hrg.left_eq]; exact hlt
    · gi_wp2
      refine bodyPost_ret (results_none rfl _ _ _) rfl ?_
      exact ⟨⟨_, rfl⟩, .inr ⟨ss ++ [(xv, xg, xp)], trivial, hJx3⟩⟩
end Go.Proofs.YthcdppppppgckaaGreatDoor

namespace Go.Proofs.YthcdppppppgckaaGreatDoor
open Go.RowKit Go.Lib Go.Maps Go.Sort Go.Shelf
set_option maxRecDepth 20000
set_option maxRecDepth 20000

def cmpI (x y : Int) : Int := if x < y then -1 else if y < x then 1 else 0
def cmpS (x y : Str) : Int := if x < y then -1 else if y < x then 1 else 0

theorem isnani_any (x : Int) (w : World) : Calls Tryz.prog 234 #[.int .i64 x] w fun e w' => e = .returned (.bool false) ∧ w' = w := by
 go_enter Tryz.func234, Tryz.ntmps234
 go_wp2
 go_ret
 exact ⟨ret_bool (by simp), rfl⟩
theorem ccompi_any (x y : Int) (w : World) : Calls Tryz.prog 169 #[.int .i64 x, .int .i64 y] w fun e w' => e = .returned (.int .i64 (cmpI x y)) ∧ w' = w := by
 have HN := Lib.hid (fun s => isnani_any s w)
 by_cases h1 : x < y
 · have HC := Lib.hid (show cmpI x y = -1 from by unfold cmpI; rw [if_pos h1])
   have d1 : decide (x < y) = true := decide_eq_true h1
   clear h1
   go_enter Tryz.func169, Tryz.ntmps169
   go_wp2_with ((with_reducible refine (HN.out _).mono ?_); rintro e w' ⟨rfl, rfl⟩)
   go_ret
   exact ⟨by rw [HC.out]; rfl, rfl⟩
 · have d1 : decide (x < y) = false := decide_eq_false h1
   by_cases h2 : y < x
   · have HC := Lib.hid (show cmpI x y = 1 from by unfold cmpI; rw [if_neg h1, if_pos h2])
     have d2 : decide (y < x) = true := decide_eq_true h2
     clear h1 h2
     go_enter Tryz.func169, Tryz.ntmps169
     go_wp2_with ((with_reducible refine (HN.out _).mono ?_); rintro e w' ⟨rfl, rfl⟩)
     go_ret
     exact ⟨by rw [HC.out]; rfl, rfl⟩
   · have HC := Lib.hid (show cmpI x y = 0 from by unfold cmpI; rw [if_neg h1, if_neg h2])
     have d2 : decide (y < x) = false := decide_eq_false h2
     clear h1 h2
     go_enter Tryz.func169, Tryz.ntmps169
     go_wp2_with ((with_reducible refine (HN.out _).mono ?_); rintro e w' ⟨rfl, rfl⟩)
     go_ret
     exact ⟨by rw [HC.out]; rfl, rfl⟩

def orL : List Int → Int
 | [] => 0
 | x :: L => if x = 0 then orL L else x
theorem orL_drop (L : List Int) (k : Nat) (h : k < L.length) : orL (L.drop k) = if L.getD k 0 = 0 then orL (L.drop (k + 1)) else L.getD k 0 := by
 rw [List.drop_eq_getElem_cons h, orL]
 simp [List.getD_eq_getElem?_getD, h]

theorem cor_any (b off c : Nat) (L : List Int) (w : World) (hl : L.length ≤ 1000) (h : ∀ k, k < L.length → w.cell? ⟨b, off + k, none⟩ = some (.int .i64 (L.getD k 0))) :
 Calls Tryz.prog 174 #[.slice (some ⟨b, off, none⟩) L.length c] w fun e w' => e = .returned (.int .i64 (orL L)) ∧ w' = w := by
 have hlen : ∀ ty w', (Builtin.len_ #[23] ty #[.slice (some ⟨b, off, none⟩) L.length c]).run Tryz.prog w' = .ok (.int .i64 L.length) w' := fun ty w' => run_len_any Tryz.underlying23 _ L.length c ty w'
 have hidx : ∀ k, k < L.length → ∀ w', (Instr.indexAt 23 (.slice (some ⟨b, off, none⟩) L.length c) (.int .i64 k)).run Tryz.prog w' = .ok (.pointer (some ⟨b, off + k, none⟩)) w' := fun k hk w' => by
  have := run_index_any (P := Tryz.prog) (s := 1) Tryz.underlying23 (fun w => by kernel_rfl) b off L.length c k hk w'
  rw [Nat.mul_one] at this
  exact this
 go_enter Tryz.func174, Tryz.ntmps174
 go_wp2_with fail
 go_loopw [8] (fun i wr => ∃ k, k ≤ L.length ∧ i = .int .i64 (k : Nat) ∧ orL (L.drop k) = orL L ∧ wr = w) (fun i _ => L.length - (intOf i).toNat)
 case atStart => exact ⟨0, Nat.zero_le _, rfl, rfl, rfl⟩
 case round =>
  obtain ⟨k, hk, rfl, ho, rfl⟩ := hrel
  by_cases hlt : k < L.length
  · have hp := hidx k hlt
    have c0 := h k hlt
    rw [orL_drop L k hlt] at ho
    have HO := Lib.hid ho
    clear hidx h ho
    generalize L.getD k 0 = x at c0 HO
    by_cases hx : x = 0
    · subst hx
      go_wp2_with fail
      go_roundw
      case rel => exact ⟨k + 1, by omega, by go_num, by simpa using HO.out, by first | rfl | trivial⟩
      case measure => simp [intOf]; omega
    · have hx' : (x == 0) = false := by simpa using hx
      have hx2 : decide (x = 0) = false := decide_eq_false hx
      have HX := Lib.hid hx
      go_wp2_with fail
      go_ret
      exact ⟨by rw [← HO.out, if_neg HX.out]; rfl, rfl⟩
  · obtain rfl : k = L.length := by omega
    have HO := Lib.hid (show orL L = 0 from by rw [← ho]; simp [orL])
    clear hidx h
    go_wp2_with fail
    go_ret
    exact ⟨by rw [HO.out]; rfl, rfl⟩
end Go.Proofs.YthcdppppppgckaaGreatDoor
