/- Texts joined into one file: TIter, TCmp, TPart. -/
import Derived.Test.YtpibmjkbebkilaaGreatW18
import Derived.Test.YtpibmjkbebkilaaGreatW04
import Derived.RangeFuncSeq
import Derived.RangeFuncWrites
import Derived.Sort.MapsRangeIn
import Derived.RegionIn
import Derived.Test.YtpibmjkbebkilaaGreatW02
import Derived.Deep.RegionHeld3

namespace Go.Proofs.YtpibmjkbebkilaaGreat
open Go.RowKit Go.Lib Go.Maps Go.Sort Go.Shelf
set_option maxRecDepth 20000
attribute [local go_sem] Oper.semAt_some

def CollT {H : Type} (D0 : DataW H) (left : Lit → Bool) (ss : List (Int × Str × Int)) : Prop := ss.Nodup ∧ ∀ x, x ∈ ss ↔ (okT x ∧ has D0 (litT x) = true ∧ left (litT x) = false)

theorem CollT.start {H : Type} (D0 : DataW H) : CollT D0 (has D0) [] := ⟨List.nodup_nil, fun x => by cases has D0 (litT x) <;> simp⟩
theorem CollT.step {H : Type} {D0 : DataW H} {left : Lit → Bool} {ss : List (Int × Str × Int)} (h : CollT D0 left ss) {x : Int × Str × Int} (hx : okT x) {y : DataW H} (hlk : left (litT x) = true) (hat : ∀ zd, D0.atKey (litT x) zd = y) : CollT D0 (fun z => left z && !z.sameKey (litT x)) (ss ++ [x]) := by
 have hhas : has D0 (litT x) = true := has_true_of_atKey hat
 refine ⟨?_, fun z => ?_⟩
 · rw [List.nodup_append]
   refine ⟨h.1, by simp, fun a ha b hb e => ?_⟩
   simp only [List.mem_singleton] at hb
   subst hb
   subst e
   have := ((h.2 a).1 ha).2.2
   rw [hlk] at this
   cases this
 · rw [List.mem_append, List.mem_singleton, h.2 z]
   by_cases e : z = x
   · subst e
     have : (litT z).sameKey (litT z) = true := WideAt.sameKey_self (KT.isKey hx)
     simp [hx, hhas, this]
   · constructor
     · rintro (⟨a, b, c⟩ | c)
       · exact ⟨a, b, by simp [c]⟩
       · exact absurd c e
     · rintro ⟨a, b, c⟩
       refine .inl ⟨a, b, ?_⟩
       have c' : (left (litT z) && !(litT z).sameKey (litT x)) = false := c
       rw [show (litT z).sameKey (litT x) = false from Maps.sameKey_ne (fun h => e (KT.lit_inj a hx h))] at c'
       simpa using c'
theorem CollT.keys {w : World} {b n : Nat} {V : Int × Str × Int → Option Value} {D : DataW Value} {left : Lit → Bool} {ss : List (Int × Str × Int)} (h : CollT D left ss) (hl : ∀ kl, left kl = false) (hown : w.ownsMap Tryz.prog 65 heldR b n D) (h0 : ∀ x, V x ≠ none → okT x) (e : ∀ x, okT x → lookV D (litT x) = V x) : KeysV V ss :=
 ⟨h.1, fun x => by
  rw [h.2 x]
  have hq : has D (litT x) = (lookV D (litT x)).isSome := lookV_has hown KT
  constructor
  · rintro ⟨a, b, _⟩ hn
    rw [e x a, hn, b] at hq
    cases hq
  · intro hx
    have a := h0 x hx
    rw [e x a] at hq
    refine ⟨a, ?_, hl _⟩
    rw [hq]
    cases hv : V x
    · exact absurd hv hx
    · rfl⟩

set_option maxRecDepth 100000 in
set_option maxHeartbeats 2000000 in
theorem tkeys_stops (n : Nat) (hn : 1 ≤ n) (Bm b N : Nat) (V : Int × Str × Int → Option Value) (w : World) (hBm : Bm < w.heap.size) (hm : w.cell? ⟨Bm, 0, none⟩ = some (.map (some b))) (h : VMap KT w b N V) :
 SeqStopsK Fence.wide n Tryz.prog 92 #[.pointer (some ⟨Bm, 0, none⟩)] (fun x : Int × Str × Int => #[encT x]) KeepsWalks (fun ss => KeysV V ss) (fun _ => True) N w := fun l J Jx W hW hJ _ hY h0 => by
 have hm' := (hW.cell (p := ⟨Bm, 0, none⟩) hBm).trans hm
 obtain ⟨hv0, D0, hown, he⟩ := h.below hW h.lt
 have hsz := hown.size_le
 clear hm h
 refine callsIn_of_wp Tryz.func92 rfl trivial ?_ rfl
 simp only [Tryz.ntmps92, List.size_toArray, List.length_cons, List.length_nil, Nat.reduceAdd, Nat.reduceSub, Array.replicate_succ, Array.replicate_zero, List.push_toArray, List.append_toArray, List.nil_append, List.cons_append]
 gi_wp2_with (first
  | (gi_at_range; refine wpListIn_range_own _ rfl _ 46 rfl 65 71 tk_law Tryz.underlying46 _ b N _ rfl hown ?_; intro w0 hrg0 hg0 hs0)
  | gi_in)
 try go_frame
 gi_loopw [3] (fun _ wr => ∃ (left : Lit → Bool) (cnt : Nat) (ss : List (Int × Str × Int)), wr.ranges Tryz.prog 65 heldR b W.heap.size N D0 left cnt ∧ ss.length + cnt ≤ Maps.size D0 ∧ CollT D0 left ss ∧ J ss wr)
  (fun _ wr => wr.rangeLeft b W.heap.size)
 case atStart =>
  exact ⟨_, _, [], hrg0, by simp, CollT.start D0, hJ [] W w0 none h0 hg0 (fun r e => by cases e)⟩
 case round =>
  obtain ⟨left, cnt, ss, hrg, hcs, hC, hJs⟩ := hrel
  gi_wp2_with (first
   | (gi_at_next; refine wpListIn_next_ranges _ rfl _ rfl 65 tk_law heldR encT id (fun key kl hk => by obtain ⟨x, _, hx⟩ := tk_all key kl hk; exact ⟨x, hx⟩) (fun v _ _ => ⟨v, rfl⟩) b W.heap.size N _ _ _ rfl hrg ?_ ?_)
   | gi_in)
  · intro hc0 hl0
    gi_wp2
    go_end0
    exact ⟨⟨_, rfl⟩, .inl ⟨ss, hC.keys hl0 hown hv0 he, hJs⟩⟩
  · intro xv xg xp c kl yd yp w2 cnt2 hkey hlk hv hat hrg2 hlt hg2 hs2 hen
    obtain ⟨x', hxo, ex⟩ := tk_all _ _ hkey
    obtain rfl := tk_inj _ _ ex
    rw [tk_reads (xv, xg, xp) hxo] at hkey
    injection hkey with hkey
    subst hkey
    have hen' : (Instr.entry (.pointer (some ⟨W.heap.size, 0, none⟩))).run Tryz.prog w2 = .ok (.tuple #[.agg #[.int .i64 xv, .string (bstr xg), .int .i64 xp], c]) w2 := hen
    have hJ2 : J ss (w2.alloc (.cells #[.int .i64 xv, .string (bstr xg), .int .i64 xp] 65)) := hJ ss w2 _ none (hJ ss wr w2 (some W.heap.size) hJs hg2 (fun r e => by cases e; exact ⟨Nat.le_refl _, hrg.iter_walk⟩)) (World.grownBy_alloc _ _ _) (fun r e => by cases e)
    have hrg2' := hrg2.alloc (.cells #[.int .i64 xv, .string (bstr xg), .int .i64 xp] 65)
    obtain ⟨fn, tmps, assign, body, hy, hR⟩ := hY ss (xv, xg, xp) _ hJ2 (by omega)
    have hR' := hR
    dsimp only [encT] at hy
    clear hs2 hen hR
    gi_wp2
    refine hR'.mono ?_
    have hC2 := hC.step hxo hlk hat
    rintro e W3 (⟨rfl, hJ3, hk3⟩ | ⟨rfl, hJx3⟩)
    · gi_wp2
      have hrg3 := hrg2'.of_walks hk3
      go_roundw
      case rel => exact ⟨_, cnt2, ss ++ [(xv, xg, xp)], hrg3, by simp; omega, hC2, hJ3⟩
      case measure => rw [hrg3.left_eq, hrg.left_eq]; exact hlt
    · gi_wp2
      refine bodyPost_ret (results_none rfl _ _ _) rfl ?_
      exact ⟨⟨_, rfl⟩, .inr ⟨ss ++ [(xv, xg, xp)], trivial, hJx3⟩⟩
end Go.Proofs.YtpibmjkbebkilaaGreat

namespace Go.Proofs.YtpibmjkbebkilaaGreat
open Go.RowKit Go.Lib Go.Maps Go.Sort Go.Shelf
set_option maxRecDepth 20000
set_option maxRecDepth 20000

def cmpI (x y : Int) : Int := if x < y then -1 else if y < x then 1 else 0
def cmpS (x y : Str) : Int := if x < y then -1 else if y < x then 1 else 0

theorem isnani_any (x : Int) (w : World) : Calls Tryz.prog 102 #[.int .i64 x] w fun e w' => e = .returned (.bool false) ∧ w' = w := by
 go_enter Tryz.func102, Tryz.ntmps102
 go_wp2
 go_ret
 exact ⟨ret_bool (by simp), rfl⟩
theorem ccompi_any (x y : Int) (w : World) : Calls Tryz.prog 94 #[.int .i64 x, .int .i64 y] w fun e w' => e = .returned (.int .i64 (cmpI x y)) ∧ w' = w := by
 have HN := Lib.hid (fun s => isnani_any s w)
 by_cases h1 : x < y
 · have HC := Lib.hid (show cmpI x y = -1 from by unfold cmpI; rw [if_pos h1])
   have d1 : decide (x < y) = true := decide_eq_true h1
   clear h1
   go_enter Tryz.func94, Tryz.ntmps94
   go_wp2_with ((with_reducible refine (HN.out _).mono ?_); rintro e w' ⟨rfl, rfl⟩)
   go_ret
   exact ⟨by rw [HC.out]; rfl, rfl⟩
 · have d1 : decide (x < y) = false := decide_eq_false h1
   by_cases h2 : y < x
   · have HC := Lib.hid (show cmpI x y = 1 from by unfold cmpI; rw [if_neg h1, if_pos h2])
     have d2 : decide (y < x) = true := decide_eq_true h2
     clear h1 h2
     go_enter Tryz.func94, Tryz.ntmps94
     go_wp2_with ((with_reducible refine (HN.out _).mono ?_); rintro e w' ⟨rfl, rfl⟩)
     go_ret
     exact ⟨by rw [HC.out]; rfl, rfl⟩
   · have HC := Lib.hid (show cmpI x y = 0 from by unfold cmpI; rw [if_neg h1, if_neg h2])
     have d2 : decide (y < x) = false := decide_eq_false h2
     clear h1 h2
     go_enter Tryz.func94, Tryz.ntmps94
     go_wp2_with ((with_reducible refine (HN.out _).mono ?_); rintro e w' ⟨rfl, rfl⟩)
     go_ret
     exact ⟨by rw [HC.out]; rfl, rfl⟩

def orL : List Int → Int
 | [] => 0
 | x :: L => if x = 0 then orL L else x
theorem orL_drop (L : List Int) (k : Nat) (h : k < L.length) : orL (L.drop k) = if L.getD k 0 = 0 then orL (L.drop (k + 1)) else L.getD k 0 := by
 rw [List.drop_eq_getElem_cons h, orL]
 simp [List.getD_eq_getElem?_getD, h]

theorem cor_any (b off c : Nat) (L : List Int) (w : World) (hl : L.length ≤ 1000) (h : ∀ k, k < L.length → w.cell? ⟨b, off + k, none⟩ = some (.int .i64 (L.getD k 0))) :
 Calls Tryz.prog 93 #[.slice (some ⟨b, off, none⟩) L.length c] w fun e w' => e = .returned (.int .i64 (orL L)) ∧ w' = w := by
 have hlen : ∀ ty w', (Builtin.len_ #[54] ty #[.slice (some ⟨b, off, none⟩) L.length c]).run Tryz.prog w' = .ok (.int .i64 L.length) w' := fun ty w' => run_len_any Tryz.underlying54 _ L.length c ty w'
 have hidx : ∀ k, k < L.length → ∀ w', (Instr.indexAt 54 (.slice (some ⟨b, off, none⟩) L.length c) (.int .i64 k)).run Tryz.prog w' = .ok (.pointer (some ⟨b, off + k, none⟩)) w' := fun k hk w' => by
  have := run_index_any (P := Tryz.prog) (s := 1) Tryz.underlying54 (fun w => by kernel_rfl) b off L.length c k hk w'
  rw [Nat.mul_one] at this
  exact this
 go_enter Tryz.func93, Tryz.ntmps93
 go_wp2_with fail
 go_loopw [8] (fun i wr => ∃ k, k ≤ L.length ∧ i = .int .i64 (k : Nat) ∧ orL (L.drop k) = orL L ∧ wr = w) (fun i _ => L.length - (intOf i).toNat)
 case atStart => exact ⟨0, Nat.zero_le _, rfl, rfl, rfl⟩
 case round =>
  obtain ⟨k, hk, rfl, ho, rfl⟩ := hrel
  by_cases hlt : k < L.length
  · have hp := hidx k hlt
    have c0 := h k hlt
    rw [orL_drop L k hlt] at ho
    have HO := Lib.hid ho
    clear hidx h ho
    generalize L.getD k 0 = x at c0 HO
    by_cases hx : x = 0
    · subst hx
      go_wp2_with fail
      go_roundw
      case rel => exact ⟨k + 1, by omega, by go_num, by simpa using HO.out, by first | rfl | trivial⟩
      case measure => simp [intOf]; omega
    · have hx' : (x == 0) = false := by simpa using hx
      have hx2 : decide (x = 0) = false := decide_eq_false hx
      have HX := Lib.hid hx
      go_wp2_with fail
      go_ret
      exact ⟨by rw [← HO.out, if_neg HX.out]; rfl, rfl⟩
  · obtain rfl : k = L.length := by omega
    have HO := Lib.hid (show orL L = 0 from by rw [← ho]; simp [orL])
    clear hidx h
    go_wp2_with fail
    go_ret
    exact ⟨by rw [HO.out]; rfl, rfl⟩

theorem tisnan_any (s : ByteArray) (w : World) : Calls Tryz.prog 103 #[.string s] w fun e w' => e = .returned (.bool false) ∧ w' = w := by
 go_enter Tryz.func103, Tryz.ntmps103
 go_wp2
 go_ret
 exact ⟨ret_bool (by simp), rfl⟩

theorem tccomp_any (x y : Str) (w : World) : Calls Tryz.prog 95 #[.string (bstr x), .string (bstr y)] w fun e w' => e = .returned (.int .i64 (cmpS x y)) ∧ w' = w := by
 have hbt := bstr_toList
 have HN := Lib.hid (fun s => tisnan_any s w)
 by_cases h1 : x < y
 · have HC := Lib.hid (show cmpS x y = -1 from by unfold cmpS; rw [if_pos h1])
   have d1 : Op.bytesLess x y = true := by rw [Go.Proofs.bytesLess_eq]; exact decide_eq_true h1
   clear h1
   go_enter Tryz.func95, Tryz.ntmps95
   go_wp2_with ((with_reducible refine (HN.out _).mono ?_); rintro e w' ⟨rfl, rfl⟩)
   go_ret
   exact ⟨by rw [HC.out]; rfl, rfl⟩
 · have d1 : Op.bytesLess x y = false := by rw [Go.Proofs.bytesLess_eq]; exact decide_eq_false h1
   by_cases h2 : y < x
   · have HC := Lib.hid (show cmpS x y = 1 from by unfold cmpS; rw [if_neg h1, if_pos h2])
     have d2 : (x == y) = false := by rw [beq_eq_false_iff_ne]; intro e; rw [e] at h2; exact slt_irrefl _ h2
     clear h1 h2
     go_enter Tryz.func95, Tryz.ntmps95
     go_wp2_with ((with_reducible refine (HN.out _).mono ?_); rintro e w' ⟨rfl, rfl⟩)
     go_ret
     exact ⟨by rw [HC.out]; rfl, rfl⟩
   · have HC := Lib.hid (show cmpS x y = 0 from by unfold cmpS; rw [if_neg h1, if_neg h2])
     have d2 : (x == y) = true := by
      rw [beq_iff_eq]
      rcases slt_or x y with q | q | q
      · exact absurd q h1
      · exact q
      · exact absurd q h2
     clear h1 h2
     go_enter Tryz.func95, Tryz.ntmps95
     go_wp2_with ((with_reducible refine (HN.out _).mono ?_); rintro e w' ⟨rfl, rfl⟩)
     go_ret
     exact ⟨by rw [HC.out]; rfl, rfl⟩

def cmpT (x y : Int × Str × Int) : Int := orL [cmpI x.1 y.1, cmpS x.2.1 y.2.1, cmpI x.2.2 y.2.2]

set_option maxHeartbeats 4000000 in
theorem byparts_any (x y : Int × Str × Int) (W : World) : Calls Tryz.prog 73 #[encT x, encT y] W fun e w' => e = .returned (.int .i64 (cmpT x y)) ∧ ∃ q os', w' = grow (W.drewN q) os' := by
 obtain ⟨x0, x1, x2⟩ := x
 obtain ⟨y0, y1, y2⟩ := y
 have C0 := Lib.hid (fun W' => ccompi_any x0 y0 W')
 have C1 := Lib.hid (fun W' => tccomp_any x1 y1 W')
 have C2 := Lib.hid (fun W' => ccompi_any x2 y2 W')
 unfold encT
 dsimp only
 go_enter Tryz.func73, Tryz.ntmps73
 go_upto_region 1 with fail
 obtain ⟨W2, hW2⟩ : ∃ W2, W2 = (W.alloc (.cells #[.int .i64 x0, .string (bstr x1), .int .i64 x2] 65)).alloc (.cells #[.int .i64 y0, .string (bstr y1), .int .i64 y2] 65) := ⟨_, rfl⟩
 have hb1 : CBox W2 W.heap.size 65 #[.int .i64 x0, .string (bstr x1), .int .i64 x2] := by rw [hW2]; exact (CBox.new _ rfl).old _
 have hb2 : CBox W2 (W.heap.size + 1) 65 #[.int .i64 y0, .string (bstr y1), .int .i64 y2] := by rw [hW2]; exact CBox.new _ (by simp)
 have HK := Lib.hid (show ∀ w', Below W2.heap.size W2 w' → w'.cell? ⟨W.heap.size, 0, none⟩ = some (.int .i64 x0) ∧ w'.cell? ⟨W.heap.size, 1, none⟩ = some (.string (bstr x1)) ∧ w'.cell? ⟨W.heap.size, 2, none⟩ = some (.int .i64 x2) ∧ w'.cell? ⟨W.heap.size + 1, 0, none⟩ = some (.int .i64 y0) ∧ w'.cell? ⟨W.heap.size + 1, 1, none⟩ = some (.string (bstr y1)) ∧ w'.cell? ⟨W.heap.size + 1, 2, none⟩ = some (.int .i64 y2) from fun w' hb =>
  have k1 := hb1.below hb hb1.lt; have k2 := hb2.below hb hb2.lt
  ⟨(k1.at_ 0 _ rfl).1, (k1.at_ 1 _ rfl).1, (k1.at_ 2 _ rfl).1, (k2.at_ 0 _ rfl).1, (k2.at_ 1 _ rfl).1, (k2.at_ 2 _ rfl).1⟩)
 have CO := Lib.hid (show ∀ b W', (∃ T, CBox W' b T #[.int .i64 (cmpI x0 y0), .int .i64 (cmpS x1 y1), .int .i64 (cmpI x2 y2)]) → Calls Tryz.prog 93 #[.slice (some ⟨b, 0, none⟩) 3 3] W' fun e w' => e = .returned (.int .i64 (cmpT (x0, x1, x2) (y0, y1, y2))) ∧ w' = W' from fun b W' ⟨T, h⟩ =>
  cor_any b 0 3 [cmpI x0 y0, cmpS x1 y1, cmpI x2 y2] W' (by simp) (fun k hk => by
   have hk' : k = 0 ∨ k = 1 ∨ k = 2 := by simp at hk; omega
   rcases hk' with rfl | rfl | rfl <;> exact (h.at_ _ _ rfl).1))
 have HW2 := Lib.hid hW2
 have R0 := Lib.hid (Below.drew (Below.refl W2.heap.size W2))
 have CX := Lib.hid (show ∃ T, CBox ((W2.alloc (.cells #[.int .i64 (cmpI x0 y0), .int .i64 (cmpS x1 y1), .int .i64 (cmpI x2 y2)] 3)).drew) W2.heap.size T #[.int .i64 (cmpI x0 y0), .int .i64 (cmpS x1 y1), .int .i64 (cmpI x2 y2)] from ⟨3, show CBox (W2.alloc _) _ _ _ from CBox.new _ rfl⟩)
 clear hb1 hb2 hW2
 rw [← HW2.out]
 go_region_held3 (fun w' => w'.cell? ⟨W.heap.size, 0, none⟩ = some (.int .i64 x0) ∧ w'.cell? ⟨W.heap.size, 1, none⟩ = some (.string (bstr x1)) ∧ w'.cell? ⟨W.heap.size, 2, none⟩ = some (.int .i64 x2) ∧ w'.cell? ⟨W.heap.size + 1, 0, none⟩ = some (.int .i64 y0) ∧ w'.cell? ⟨W.heap.size + 1, 1, none⟩ = some (.string (bstr y1)) ∧ w'.cell? ⟨W.heap.size + 1, 2, none⟩ = some (.int .i64 y2)) (first | exact HK.out _ R0.out | exact HK.out _ (R0.out.alloc (Nat.le_refl _) _)) (first
  | ((with_reducible refine (CO.out _ _ CX.out).mono ?_); rintro e w' ⟨rfl, rfl⟩)
  | ((with_reducible refine (C0.out _).mono ?_); rintro e w' ⟨rfl, rfl⟩)
  | ((with_reducible refine (C1.out _).mono ?_); rintro e w' ⟨rfl, rfl⟩)
  | ((with_reducible refine (C2.out _).mono ?_); rintro e w' ⟨rfl, rfl⟩))
 all_goals
  go_wp2_with fail
  go_ret
  exact ⟨rfl, 1, _, by rw [HW2.out, alloc_eq_grow, alloc_eq_grow, alloc_eq_grow, grow_grow, grow_grow]; rfl⟩
end Go.Proofs.YtpibmjkbebkilaaGreat
