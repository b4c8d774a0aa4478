/- Texts joined into one file: TPart, TSort, TSeq, TAll. -/
import Derived.Test.YthcdppppppgckaaGreatDoorC21
import Derived.Test.YthcdppppppgckaaGreatDoorC10
import Derived.Deep.RegionHeld3
import Derived.Test.YthcdppppppgckaaGreatDoorC01
import Derived.RangeFuncNested

namespace Go.Proofs.YthcdppppppgckaaGreatDoor
open Go.RowKit Go.Lib Go.Maps Go.Sort Go.Shelf
set_option maxRecDepth 20000
set_option maxRecDepth 20000

theorem tisnan_any (s : ByteArray) (w : World) : Calls Tryz.prog 273 #[.string s] w fun e w' => e = .returned (.bool false) ∧ w' = w := by
 go_enter Tryz.func273, Tryz.ntmps273
 go_wp2
 go_ret
 exact ⟨ret_bool (by simp), rfl⟩

theorem tccomp_any (x y : Str) (w : World) : Calls Tryz.prog 232 #[.string (bstr x), .string (bstr y)] w fun e w' => e = .returned (.int .i64 (cmpS x y)) ∧ w' = w := by
 have hbt := bstr_toList
 have HN := Lib.hid (fun s => tisnan_any s w)
 by_cases h1 : x < y
 · have HC := Lib.hid (show cmpS x y = -1 from by unfold cmpS; rw [if_pos h1])
   have d1 : Op.bytesLess x y = true := by rw [Go.Proofs.bytesLess_eq]; exact decide_eq_true h1
   clear h1
   go_enter Tryz.func232, Tryz.ntmps232
   go_wp2_with ((with_reducible refine (HN.out _).mono ?_); rintro e w' ⟨rfl, rfl⟩)
   go_ret
   exact ⟨by rw [HC.out]; rfl, rfl⟩
 · have d1 : Op.bytesLess x y = false := by rw [Go.Proofs.bytesLess_eq]; exact decide_eq_false h1
   by_cases h2 : y < x
   · have HC := Lib.hid (show cmpS x y = 1 from by unfold cmpS; rw [if_neg h1, if_pos h2])
     have d2 : (x == y) = false := by rw [beq_eq_false_iff_ne]; intro e; rw [e] at h2; exact slt_irrefl _ h2
     clear h1 h2
     go_enter Tryz.func232, Tryz.ntmps232
     go_wp2_with ((with_reducible refine (HN.out _).mono ?_); rintro e w' ⟨rfl, rfl⟩)
     go_ret
     exact ⟨by rw [HC.out]; rfl, rfl⟩
   · have HC := Lib.hid (show cmpS x y = 0 from by unfold cmpS; rw [if_neg h1, if_neg h2])
     have d2 : (x == y) = true := by
      rw [beq_iff_eq]
      rcases slt_or x y with q | q | q
      · exact absurd q h1
      · exact q
      · exact absurd q h2
     clear h1 h2
     go_enter Tryz.func232, Tryz.ntmps232
     go_wp2_with ((with_reducible refine (HN.out _).mono ?_); rintro e w' ⟨rfl, rfl⟩)
     go_ret
     exact ⟨by rw [HC.out]; rfl, rfl⟩

def cmpT (x y : Int × Str × Int) : Int := orL [cmpI x.1 y.1, cmpS x.2.1 y.2.1, cmpI x.2.2 y.2.2]

set_option maxHeartbeats 4000000 in
theorem byparts_any (x y : Int × Str × Int) (W : World) : Calls Tryz.prog 163 #[encT x, encT y] W fun e w' => e = .returned (.int .i64 (cmpT x y)) ∧ ∃ q os', w' = grow (W.drewN q) os' := by
 obtain ⟨x0, x1, x2⟩ := x
 obtain ⟨y0, y1, y2⟩ := y
 have C0 := Lib.hid (fun W' => ccompi_any x0 y0 W')
 have C1 := Lib.hid (fun W' => tccomp_any x1 y1 W')
 have C2 := Lib.hid (fun W' => ccompi_any x2 y2 W')
 unfold encT
 dsimp only
 go_enter Tryz.func163, Tryz.ntmps163
 go_upto_region 1 with fail
 obtain ⟨W2, hW2⟩ : ∃ W2, W2 = (W.alloc (.cells #[.int .i64 x0, .string (bstr x1), .int .i64 x2] 177)).alloc (.cells #[.int .i64 y0, .string (bstr y1), .int .i64 y2] 177) := ⟨_, rfl⟩
 have hb1 : CBox W2 W.heap.size 177 #[.int .i64 x0, .string (bstr x1), .int .i64 x2] := by rw [hW2]; exact (CBox.new _ rfl).old _
 have hb2 : CBox W2 (W.heap.size + 1) 177 #[.int .i64 y0, .string (bstr y1), .int .i64 y2] := by rw [hW2]; exact CBox.new _ (by simp)
 have HK := Lib.hid (show ∀ w', Below W2.heap.size W2 w' → w'.cell? ⟨W.heap.size, 0, none⟩ = some (.int .i64 x0) ∧ w'.cell? ⟨W.heap.size, 1, none⟩ = some (.string (bstr x1)) ∧ w'.cell? ⟨W.heap.size, 2, none⟩ = some (.int .i64 x2) ∧ w'.cell? ⟨W.heap.size + 1, 0, none⟩ = some (.int .i64 y0) ∧ w'.cell? ⟨W.heap.size + 1, 1, none⟩ = some (.string (bstr y1)) ∧ w'.cell? ⟨W.heap.size + 1, 2, none⟩ = some (.int .i64 y2) from fun w' hb =>
  have k1 := hb1.below hb hb1.lt; have k2 := hb2.below hb hb2.lt
  ⟨(k1.at_ 0 _ rfl).1, (k1.at_ 1 _ rfl).1, (k1.at_ 2 _ rfl).1, (k2.at_ 0 _ rfl).1, (k2.at_ 1 _ rfl).1, (k2.at_ 2 _ rfl).1⟩)
 have CO := Lib.hid (show ∀ b W', (∃ T, CBox W' b T #[.int .i64 (cmpI x0 y0), .int .i64 (cmpS x1 y1), .int .i64 (cmpI x2 y2)]) → Calls Tryz.prog 174 #[.slice (some ⟨b, 0, none⟩) 3 3] W' fun e w' => e = .returned (.int .i64 (cmpT (x0, x1, x2) (y0, y1, y2))) ∧ w' = W' from fun b W' ⟨T, h⟩ =>
  cor_any b 0 3 [cmpI x0 y0, cmpS x1 y1, cmpI x2 y2] W' (by simp) (fun k hk => by
   have hk' : k = 0 ∨ k = 1 ∨ k = 2 := by simp at hk; omega
   rcases hk' with rfl | rfl | rfl <;> exact (h.at_ _ _ rfl).1))
 have HW2 := Lib.hid hW2
 have R0 := Lib.hid (Below.drew (Below.refl W2.heap.size W2))
 have CX := Lib.hid (show ∃ T, CBox ((W2.alloc (.cells #[.int .i64 (cmpI x0 y0), .int .i64 (cmpS x1 y1), .int .i64 (cmpI x2 y2)] 3)).drew) W2.heap.size T #[.int .i64 (cmpI x0 y0), .int .i64 (cmpS x1 y1), .int .i64 (cmpI x2 y2)] from ⟨3, show CBox (W2.alloc _) _ _ _ from CBox.new _ rfl⟩)
 clear hb1 hb2 hW2
 rw [← HW2.out]
 go_region_held3 (fun w' => w'.cell? ⟨W.heap.size, 0, none⟩ = some (.int .i64 x0) ∧ w'.cell? ⟨W.heap.size, 1, none⟩ = some (.string (bstr x1)) ∧ w'.cell? ⟨W.heap.size, 2, none⟩ = some (.int .i64 x2) ∧ w'.cell? ⟨W.heap.size + 1, 0, none⟩ = some (.int .i64 y0) ∧ w'.cell? ⟨W.heap.size + 1, 1, none⟩ = some (.string (bstr y1)) ∧ w'.cell? ⟨W.heap.size + 1, 2, none⟩ = some (.int .i64 y2)) (first | exact HK.out _ R0.out | exact HK.out _ (R0.out.alloc (Nat.le_refl _) _)) (first
  | ((with_reducible refine (CO.out _ _ CX.out).mono ?_); rintro e w' ⟨rfl, rfl⟩)
  | ((with_reducible refine (C0.out _).mono ?_); rintro e w' ⟨rfl, rfl⟩)
  | ((with_reducible refine (C1.out _).mono ?_); rintro e w' ⟨rfl, rfl⟩)
  | ((with_reducible refine (C2.out _).mono ?_); rintro e w' ⟨rfl, rfl⟩))
 all_goals
  go_wp2_with fail
  go_ret
  exact ⟨rfl, 1, _, by rw [HW2.out, alloc_eq_grow, alloc_eq_grow, alloc_eq_grow, grow_grow, grow_grow]; rfl⟩

abbrev TK := Int × Str × Int
def ktcells (x : TK) : List Value := [.int .i64 x.1, .string (bstr x.2.1), .int .i64 x.2.2]

def Kts (w : World) (v : Value) (K : List TK) : Prop :=
 ∃ ao cap b off, v = .slice ao K.length cap ∧ (K = [] ∨ ao = some ⟨b, off, none⟩) ∧
   (∀ k, k < K.length → b < w.heap.size ∧ w.cell? ⟨b, off + k * 3, none⟩ = some (.int .i64 (K.getD k default).1) ∧ w.cell? ⟨b, off + k * 3 + 1, none⟩ = some (.string (bstr (K.getD k default).2.1)) ∧ w.cell? ⟨b, off + k * 3 + 2, none⟩ = some (.int .i64 (K.getD k default).2.2))
theorem Kts.keep {w w' : World} {v : Value} {K : List TK} (h : Kts w v K) (hk : CKeep w w') : Kts w' v K := by
 obtain ⟨ao, cap, b, off, rfl, h0, h1⟩ := h
 exact ⟨ao, cap, b, off, rfl, h0, fun k hlt => by obtain ⟨a, c0, c1, c2⟩ := h1 k hlt; exact ⟨Nat.lt_of_lt_of_le a hk.1, hk.cell c0, hk.cell c1, hk.cell c2⟩⟩
theorem Kts.mono {w w' : World} {v : Value} {K : List TK} (h : Kts w v K) (hb : Below w.heap.size w w') : Kts w' v K := h.keep (CKeep.of_below hb)
theorem Kts.nil (w : World) : Kts w (.slice none 0 0) [] := ⟨none, 0, 0, 0, rfl, .inl rfl, by simp⟩
theorem Kts.shape {w : World} {v : Value} {K : List TK} (h : Kts w v K) : ∃ ao cap, v = .slice ao K.length cap := by
 obtain ⟨ao, cap, _, _, h, _⟩ := h
 exact ⟨ao, cap, h⟩
theorem Kts.facts {w : World} {v : Value} {K : List TK} (h : Kts w v K) :
 ∃ b off, (∀ ty w', (Builtin.len_ #[270] ty #[v]).run Tryz.prog w' = .ok (.int .i64 K.length) w') ∧
   (∀ k, k < K.length → ∀ w', (Instr.indexAt 270 v (.int .i64 k)).run Tryz.prog w' = .ok (.pointer (some ⟨b, off + k * 3, none⟩)) w') ∧
   (∀ k, k < K.length → b < w.heap.size ∧ w.cell? ⟨b, off + k * 3, none⟩ = some (.int .i64 (K.getD k default).1) ∧ w.cell? ⟨b, off + k * 3 + 1, none⟩ = some (.string (bstr (K.getD k default).2.1)) ∧ w.cell? ⟨b, off + k * 3 + 2, none⟩ = some (.int .i64 (K.getD k default).2.2)) := by
 obtain ⟨ao, cap, b, off, rfl, h0, h2⟩ := h
 refine ⟨b, off, fun ty w' => run_len_any Tryz.underlying270 ao K.length cap ty w', fun k hk w' => ?_, h2⟩
 rcases h0 with h0 | rfl
 · subst h0; exact absurd hk (by simp)
 · exact run_index_any (P := Tryz.prog) (s := 3) Tryz.underlying270 (fun w => by kernel_rfl) b off K.length cap k hk w'

def tltP (x y : TK) : Prop := x.1 < y.1 ∨ (x.1 = y.1 ∧ (x.2.1 < y.2.1 ∨ (x.2.1 = y.2.1 ∧ x.2.2 < y.2.2)))
theorem tltP.irrefl (x : TK) : ¬ tltP x x := fun h => by
 rcases h with h | ⟨_, h | ⟨_, h⟩⟩
 · omega
 · exact slt_irrefl _ h
 · omega
theorem tltP.trans {x y z : TK} (h : tltP x y) (k : tltP y z) : tltP x z := by
 rcases h with h | ⟨e, h⟩
 · rcases k with k | ⟨f, _⟩
   · exact .inl (by omega)
   · exact .inl (by omega)
 · rcases k with k | ⟨f, k⟩
   · exact .inl (by omega)
   · refine .inr ⟨e.trans f, ?_⟩
     rcases h with h | ⟨e', h⟩
     · rcases k with k | ⟨f', _⟩
       · exact .inl (slt_trans h k)
       · exact .inl (f' ▸ h)
     · rcases k with k | ⟨f', k⟩
       · exact .inl (e' ▸ k)
       · exact .inr ⟨e'.trans f', by omega⟩
theorem tltP.or (x y : TK) : tltP x y ∨ x = y ∨ tltP y x := by
 obtain ⟨a, b, c⟩ := x
 obtain ⟨a', b', c'⟩ := y
 by_cases h : a < a'
 · exact .inl (.inl h)
 by_cases h' : a' < a
 · exact .inr (.inr (.inl h'))
 obtain rfl : a = a' := by omega
 rcases slt_or b b' with h1 | rfl | h1
 · exact .inl (.inr ⟨rfl, .inl h1⟩)
 · by_cases k : c < c'
   · exact .inl (.inr ⟨rfl, .inr ⟨rfl, k⟩⟩)
   by_cases k' : c' < c
   · exact .inr (.inr (.inr ⟨rfl, .inr ⟨rfl, k'⟩⟩))
   obtain rfl : c = c' := by omega
   exact .inr (.inl rfl)
 · exact .inr (.inr (.inr ⟨rfl, .inl h1⟩))
theorem cmpI_lt {x y : Int} : cmpI x y < 0 ↔ x < y := by unfold cmpI; split <;> (try split) <;> omega
theorem cmpI_zero {x y : Int} : cmpI x y = 0 ↔ x = y := by unfold cmpI; split <;> (try split) <;> omega
theorem cmpS_lt {x y : Str} : cmpS x y < 0 ↔ x < y := by
 unfold cmpS
 by_cases h : x < y
 · simp [h]
 · rw [if_neg h]
   split <;> simp [h]
theorem cmpS_zero {x y : Str} : cmpS x y = 0 ↔ x = y := by
 unfold cmpS
 rcases slt_or x y with h | rfl | h
 · rw [if_pos h]
   exact ⟨fun e => by omega, fun e => absurd (e ▸ h) (slt_irrefl _)⟩
 · simp [slt_irrefl]
 · by_cases k : x < y
   · exact absurd (slt_trans h k) (slt_irrefl _)
   · rw [if_neg k, if_pos h]
     exact ⟨fun e => by omega, fun e => absurd (e ▸ h) (slt_irrefl _)⟩
theorem cmpT_lt (x y : TK) : cmpT x y < 0 ↔ tltP x y := by
 unfold cmpT tltP
 simp only [orL]
 by_cases h0 : cmpI x.1 y.1 = 0
 · rw [if_pos h0]
   have e0 := cmpI_zero.1 h0
   by_cases h1 : cmpS x.2.1 y.2.1 = 0
   · rw [if_pos h1]
     have e1 := cmpS_zero.1 h1
     by_cases h2 : cmpI x.2.2 y.2.2 = 0
     · rw [if_pos h2]
       have e2 := cmpI_zero.1 h2
       simp [e0, e1, e2, slt_irrefl]
     · rw [if_neg h2, cmpI_lt]
       simp [e0, e1, slt_irrefl]
   · rw [if_neg h1, cmpS_lt]
     have e1 : x.2.1 ≠ y.2.1 := fun e => h1 (cmpS_zero.2 e)
     simp [e0, e1]
 · rw [if_neg h0, cmpI_lt]
   have e0 : x.1 ≠ y.1 := fun e => h0 (cmpI_zero.2 e)
   simp [e0]
theorem ltOf_cmpT (x y : TK) : ltOf cmpT x y = true ↔ tltP x y := by
 unfold ltOf
 rw [decide_eq_true_eq]
 exact cmpT_lt x y
theorem swoT : SWO (ltOf cmpT) where
 irrefl x := by
  rw [Bool.eq_false_iff]
  exact fun h => tltP.irrefl x ((ltOf_cmpT _ _).1 h)
 trans x y z h1 h2 := (ltOf_cmpT _ _).2 (((ltOf_cmpT _ _).1 h1).trans ((ltOf_cmpT _ _).1 h2))
 ntrans x y z h1 h2 := by
  rw [Bool.eq_false_iff] at *
  intro h
  have h := (ltOf_cmpT _ _).1 h
  rcases tltP.or x y with q | q | q
  · exact h1 ((ltOf_cmpT _ _).2 q)
  · rw [q] at h; exact h2 ((ltOf_cmpT _ _).2 h)
  · exact h2 ((ltOf_cmpT _ _).2 (q.trans h))

theorem cmpLaysT (blk off size : Nat) (w : World) : CmpLays Tryz.prog 163 #[] ktcells 3 cmpT blk off size w :=
 fun _ _ _ _ x y => byparts_any x y _

theorem tkflat_get (K : List TK) (t : Nat) (ht : t < K.length * 3) : (K.flatMap ktcells)[t]? = some ((ktcells (K.getD (t / 3) default))[t % 3]!) := by
 induction K generalizing t with
 | nil => simp at ht
 | cons x K ih =>
   match t with
   | 0 => simp [ktcells]
   | 1 => simp [ktcells]
   | 2 => simp [ktcells]
   | t + 3 =>
     have := ih t (by simp at ht; omega)
     simp only [List.flatMap_cons, ktcells, List.cons_append, List.nil_append, List.getElem?_cons_succ] at this ⊢
     rw [this]
     simp [show (t + 3) / 3 = t / 3 + 1 from by omega]

theorem agg_tk (w : World) : (isAgg 177).run Tryz.prog w = .ok true w := by kernel_rfl
theorem size_tk (w : World) : (Go.sizeOf 177).run Tryz.prog w = .ok 3 w := by kernel_rfl
theorem enters_bp (args : Array Value) (w : World) : (callFunc 163 args).run Tryz.prog w = .ok (.enter 163 args) w := enters_of Tryz.func163 (by kernel_rfl) rfl args w

theorem grownBy_sortedT {w : World} {g n : Nat} {os : Array Obj} (d : Array TK) : w.grownBy (sortWorldK ktcells 3 w g 0 n d os) (some g) := by
 unfold sortWorldK putRowK
 refine ⟨rfl, rfl, rfl, by simp, fun k hk hne => ?_⟩
 rw [heap_grow_old _ _ (by simpa using hk)]
 have : g ≠ k := fun e => hne (by rw [e])
 simp [putRow, mapBlock, Sort.ahead, Array.getElem?_modify, this]

set_option maxHeartbeats 1000000 in
theorem tsort_any {w : World} {base : Nat} {v : Value} {K : List TK} (hrow : w.ownsRow base 177 3 v K.length (K.flatMap ktcells)) (hl : K.length ≤ 1000000) (hN : K.Nodup) :
 Calls Tryz.prog 230 #[v, .func (.func 163) #[] #[]] w fun e w' => e = .returned (.tuple #[]) ∧ w.grownBy w' v.ownBlock ∧ ∃ K', K'.Perm K ∧ K'.Pairwise tltP ∧ Kts w' v K' := by
 rcases hrow.2 with ⟨rfl, h0⟩ | ⟨g, cap, cur, rfl, hbase, hb, h1, h2, h3, h4⟩
 · rw [List.length_eq_zero_iff] at h0
   subst h0
   refine (AnyF.slices_SortFunc_none Tryz.keySort none 0 _ w).mono ?_
   rintro e w' ⟨rfl, rfl⟩
   exact ⟨rfl, ⟨rfl, rfl, rfl, Nat.le_refl _, fun _ _ _ => rfl⟩, [], List.Perm.refl _, List.Pairwise.nil, Kts.nil _⟩
 · have hH : HoldsK ktcells 3 w g 0 K.toArray := by
    intro j hj
    have hj' : j < K.length * 3 := by simpa using hj
    refine ⟨?_, by simp [World.frozen?, hb]⟩
    have h5 := tkflat_get K j hj'
    rw [← h4, List.getElem?_take_of_lt hj'] at h5
    simp only [World.cell?, hb, Nat.zero_add]
    simp only [Option.isSome_none, Bool.false_eq_true, if_false]
    rw [← Array.getElem?_toList, h5, get_flatK _ _ _ _ (by simpa using hj')]
    simp [List.getD_eq_getElem?_getD, show j / 3 < K.length from by omega]
   have hgl : g < w.heap.size := (Array.getElem?_eq_some_iff.1 hb).1
   refine (AnyQ.slices_SortFunc Tryz.keySort 3 agg_tk size_tk ktcells (fun _ => rfl) (fun x v hv => by simp [ktcells] at hv; rcases hv with rfl | rfl | rfl <;> rfl) cmpT swoT 163 #[] g 0 cap K.toArray w enters_bp (cmpLaysT _ _ _ _) hH hgl (by simp; omega)).mono ?_
   rintro e w' ⟨rfl, d', n, os, hp, hs, rfl⟩
   have hsz : d'.size = K.length := by simpa using hp.1
   have hperm : d'.toList.Perm K := by
    have := hp.2.2
    have e1 : (d'.extract 0 K.toArray.size) = d' := by rw [show K.toArray.size = d'.size from by simp [hsz]]; simp
    rw [e1] at this
    simpa using this
   have hHd : HoldsK ktcells 3 (sortWorldK ktcells 3 w g 0 n d' os) g 0 d' := holdsK_sortWorldK ktcells 3 w g 0 n K.toArray d' os hgl hH (by simp [hsz])
   refine ⟨rfl, grownBy_sortedT d', d'.toList, hperm, ?_, ?_⟩
   · rw [List.pairwise_iff_getElem]
     intro i j hi hj hij
     have hij' := hs i j (Nat.zero_le _) hij (by simpa [hsz] using hj)
     have hi' : i < d'.size := by simpa using hi
     have hj' : j < d'.size := by simpa using hj
     rw [getElem!_pos d' i hi', getElem!_pos d' j hj'] at hij'
     have hnd : d'.toList.Nodup := hperm.nodup_iff.2 hN
     have hne : d'.toList[i] ≠ d'.toList[j] := (List.pairwise_iff_getElem.1 hnd) i j _ _ hij
     rw [Bool.eq_false_iff] at hij'
     rcases tltP.or (d'.toList[i]) (d'.toList[j]) with q | q | q
     · exact q
     · exact absurd q hne
     · exact absurd ((ltOf_cmpT _ _).2 (by simpa using q)) hij'
   · refine ⟨some ⟨g, 0, none⟩, cap, g, 0, by simp [hsz], .inr rfl, fun k hk => ?_⟩
     have hk' : k < d'.size := by simpa using hk
     have c0 := (hHd.cell hk' (c := 0) (by decide)).1
     have c1 := (hHd.cell hk' (c := 1) (by decide)).1
     have c2 := (hHd.cell hk' (c := 2) (by decide)).1
     refine ⟨Nat.lt_of_lt_of_le hgl (grownBy_sortedT d').size, ?_, ?_, ?_⟩
     · rw [Nat.add_zero] at c0
       rw [c0]
       simp [ktcells, List.getD_eq_getElem?_getD, hk']
     · rw [c1]
       simp [ktcells, List.getD_eq_getElem?_getD, hk']
     · rw [c2]
       simp [ktcells, List.getD_eq_getElem?_getD, hk']
end Go.Proofs.YthcdppppppgckaaGreatDoor

namespace Go.Proofs.YthcdppppppgckaaGreatDoor
open Go.RowKit Go.Lib Go.Maps Go.Sort Go.Shelf
set_option maxRecDepth 20000
attribute [local go_sem] Oper.semAt_some

theorem infoTk : (Tryz.prog.info? 177).map (fun i => (i.zero, i.size, i.bytes)) = some (some (.agg #[.int .i64 0, .string ⟨#[]⟩, .int .i64 0]), 3, 32) := by kernel_rfl

theorem tkeys_in (n : Nat) (mb : Option Nat) (w : World) :
 CallsIn Fence.wide n Tryz.prog 162 #[.map mb] w fun e w' => e = .returned (.func (.func 231) #[] #[.pointer (some ⟨w.heap.size, 0, none⟩)]) ∧ w' = w.alloc (.cells #[.map mb] 152) := by
 refine callsIn_of_wp Tryz.func162 rfl trivial ?_ rfl
 simp only [Tryz.ntmps162, List.size_toArray, List.length_cons, List.length_nil, Nat.reduceAdd, Nat.reduceSub, Array.replicate_succ, Array.replicate_zero, List.push_toArray, List.append_toArray, List.nil_append, List.cons_append]
 gi_wp2
 go_ret
 exact ⟨rfl, rfl⟩

theorem ktcells_new (W : World) (x : TK) (T : TypeId) : ∀ (j : Nat) (u : Value), (ktcells x)[j]? = some u → (W.alloc (.cells #[.int .i64 x.1, .string (bstr x.2.1), .int .i64 x.2.2] T)).cell? ((⟨W.heap.size, 0, none⟩ : Addr).add j) = some u := by
 intro j u hj
 have hb : CBox (W.alloc (.cells #[.int .i64 x.1, .string (bstr x.2.1), .int .i64 x.2.2] T)) W.heap.size T #[.int .i64 x.1, .string (bstr x.2.1), .int .i64 x.2.2] := CBox.new _ rfl
 rw [add_lit]
 match j with
 | 0 => simp [ktcells] at hj; subst hj; exact (hb.at_ 0 _ rfl).1
 | 1 => simp [ktcells] at hj; subst hj; exact (hb.at_ 1 _ rfl).1
 | 2 => simp [ktcells] at hj; subst hj; exact (hb.at_ 2 _ rfl).1
 | j + 3 => simp [ktcells] at hj
theorem ktcells_one (x : TK) : ∀ u ∈ ktcells x, u.oneCell' = true := by
 intro u hu
 simp [ktcells] at hu
 rcases hu with rfl | rfl | rfl <;> rfl
theorem tcbox_own (B : Nat) (T : TypeId) (cs : Array Value) : Own (fun (_ : Unit) W => CBox W B T cs) := fun _ X Y row hs hg hrow =>
 hs.grown hg (fun e' => by obtain ⟨o, ho, hc⟩ := hrow B e'.symm; rw [show X.heap[B]? = _ from hs] at ho; cases ho; cases hc)

theorem town_keep {w w' : World} {base size n : Nat} {e : TypeId} {v : Value} {xs : List Value} (h : w.ownsRow base e size v n xs) (hk : CKeep w w') : w'.ownsRow base e size v n xs := by
 rcases h.2 with ⟨rfl, h0⟩ | ⟨g, cap, cur, rfl, hb, hg, hn, hm, hs, ht⟩
 · exact ⟨h.1, .inl ⟨rfl, h0⟩⟩
 · exact ⟨h.1, .inr ⟨g, cap, cur, rfl, hb, hk.2 _ _ _ _ hg, hn, hm, hs, ht⟩⟩
theorem tckeep_putObj {W : World} {l : Nat} {o : Obj} (o' : Obj) (hl : W.heap[l]? = some o) (ho : o.isCells = false) : CKeep W (W.putObj l o') :=
 ⟨by simp, fun j cs T fr e => by
  by_cases h : j = l
  · subst h; rw [hl] at e; injection e with e; subst e; cases ho
  · exact (World.putObj_heap_other h).trans e⟩

def TRow (b0 B : Nat) (pre : List TK) (W : World) : Prop := ∃ u, Boxed W B 270 u ∧ W.ownsRow b0 177 3 u pre.length (pre.flatMap ktcells) ∧ True
theorem TRow.own (b0 B : Nat) : Own (TRow b0 B) := holdsRow_own b0 B 270 177 3 (fun pre : List TK => pre.length) (fun pre : List TK => pre.flatMap ktcells) (fun _ _ => True)

def RetSeq (V : TK → Option Value) (n : Nat) (w : World) (e : Ending) (w' : World) : Prop := ∃ u L, e = .returned u ∧ KeysV V L ∧ L.length ≤ n ∧ w'.ownsRow w.heap.size 177 3 u L.length (L.flatMap ktcells) ∧ Below w.heap.size w w'

set_option maxRecDepth 100000 in
set_option maxHeartbeats 4000000 in
theorem tseq_any (Bm b n : Nat) (V : TK → Option Value) (w : World) (hBm : Bm < w.heap.size) (hm : w.cell? ⟨Bm, 0, none⟩ = some (.map (some b))) (hV : VMap KT w b n V) (hn : n ≤ 1000000) :
 Calls Tryz.prog 271 #[.slice none 0 0, .func (.func 231) #[] #[.pointer (some ⟨Bm, 0, none⟩)]] w (RetSeq V n w) := by
 obtain ⟨i0, hi, hz0, hz1, hz2⟩ := info_parts infoTk
 obtain ⟨LK, hLK, hLn, hLx⟩ := hV.count Tryz.underlying152
 have HLEN := Lib.hid (show ∀ L, KeysV V L → L.length ≤ n from fun L hL => by rw [((List.perm_ext_iff_of_nodup hL.1 hLK.1).2 fun k => (hL.2 k).trans (hLK.2 k).symm).length_eq]; exact hLn)
 have hmm : maxLen = 9223372036854775807 := rfl
 clear hLK hLn hLx LK
 refine (callsIn_wide (n := 6)).1 ?_
 refine callsIn_of_wp_marks Tryz.func271 rfl trivial ?_ rfl
 simp only [Tryz.ntmps271, List.size_toArray, List.length_cons, List.length_nil, Nat.reduceAdd, Nat.reduceSub, Array.replicate_succ, Array.replicate_zero, List.push_toArray, List.append_toArray, List.nil_append, List.cons_append]
 gi_wp2
 have bS := Boxed.new w 270 (.slice none 0 0)
 have hB0 : Below w.heap.size w (w.alloc (.cells #[.slice none 0 0] 270)) := (Below.refl _ w).alloc (Nat.le_refl _) _
 have hsz : (w.alloc (.cells #[.slice none 0 0] 270)).heap.size = w.heap.size + 1 := by rw [World.size_alloc]
 obtain ⟨W0, hW0⟩ : ∃ W0, w.alloc (.cells #[.slice none 0 0] 270) = W0 := ⟨_, rfl⟩
 rw [hW0] at bS hB0 hsz ⊢
 clear hW0
 have hV0 := hV.below hB0 hV.lt
 have hm0 := (hB0.cell (p := ⟨Bm, 0, none⟩) hBm).trans hm
 refine wpIn_rangeFunc_ownH rfl (by decide) (gf := 231) (lb := #[.pointer (some ⟨Bm, 0, none⟩)]) rfl trivial (enters_of Tryz.func231 (by kernel_rfl) rfl)
  (tkeys_stops _ (by decide) Bm b n V W0 (by omega) hm0 hV0) walksK_t walksK_b (Below.refl _ _) (fun _ => rfl)
  (fun pre W => TRow w.heap.size w.heap.size pre W ∧ Below w.heap.size w W)
  (fun _ _ _ => False)
  (OwnFrom.and (Own.from (TRow.own _ _) _) (ownFrom_below (Nat.le_refl _) (by omega)))
  (fun _ _ _ _ _ hs _ _ => hs)
  ⟨⟨_, bS, World.ownsRow_nil _ _ _ _, trivial⟩, hB0⟩
  (fun x a' W => ∃ Bx, w.heap.size < Bx ∧ CBox W Bx 177 #[.int .i64 x.1, .string (bstr x.2.1), .int .i64 x.2.2] ∧ a' = { tmps := #[.slice none 0 0, .func (.func 231) #[] #[.pointer (some ⟨Bm, 0, none⟩)], .pointer (some ⟨w.heap.size, 0, none⟩), undef, .slice none 0 0, .pointer (some ⟨Bx, 0, none⟩), .func (.func 231) #[] #[.pointer (some ⟨Bm, 0, none⟩)], encT x, undef, undef, undef, undef, undef], defers := [] })
  (fun x a' _ X Y row hs hg hr => by obtain ⟨Bx, h1, h2, h3⟩ := hs; exact ⟨Bx, h1, tcbox_own Bx _ _ () X Y row h2 hg (fun r e => (hr r e).2), h3⟩)
  ?assign ?body ?done ?stop
 case assign =>
  rintro l pre ⟨xv, xg, xp⟩ W K ⟨⟨u, hu, hrow, _⟩, hW⟩ hK
  have hWs := hW.size
  have hul := hu.lt
  simp only [encT]
  gi_wp2
  exact hK _ _ ((KeepsOthers.alloc _ _).from _) (KeepsOthers.alloc _ _).walks ⟨⟨u, hu.alloc _, hrow.alloc _, trivial⟩, hW.alloc hWs _⟩ ⟨W.heap.size, hul, CBox.new _ rfl, rfl⟩
 case body =>
  rintro l pre ⟨xv, xg, xp⟩ a' W hl hr ⟨⟨u, hu, hrow, _⟩, hW⟩ ⟨Bx, hBx, bX, rfl⟩ hlt
  have cu := hu.cell
  obtain ⟨k0, _⟩ := bX.at_ 0 _ rfl
  obtain ⟨k1, _⟩ := bX.at_ 1 _ rfl
  obtain ⟨k2, _⟩ := bX.at_ 2 _ rfl
  have HSL := Lib.hid (show pre.length + 1 ≤ 1000001 from by omega)
  have HWS := Lib.hid hW.size
  clear hlt hr
  gi_wp2_with (gi_at_builtin; refine wpListIn_append_own _ rfl _ _ 270 rfl w.heap.size 177 i0 (.agg #[.int .i64 0, .string ⟨#[]⟩, .int .i64 0]) 3 32 Tryz.underlying270 hi hz0 hz1 hz2 rfl (by decide) _ _ _ rfl (hrow.alloc _) ⟨W.heap.size, 0, none⟩ 1 1 (ktcells (xv, xg, xp)) rfl rfl (ktcells_new _ (xv, xg, xp) _) (ktcells_one _) (by have := HSL.out; omega) (by have := HSL.out; omega) (by have := HWS.out; simp; omega) ?_; intro v' w1 hown' hgrow _; obtain ⟨g', cap', rfl⟩ := ownsRow_succ hown'; obtain ⟨hv1, hv2, hr2, hk2, hb2⟩ := hu.appended (by decide) hrow HWS.out (by omega) hown' hgrow; have hc1 := hv1.cell; have hf1 := hv1.frozen)
  exact ⟨hk2.from _, hk2.walks, ⟨⟨_, hv2, by simpa using hr2, trivial⟩, hW.trans hb2⟩⟩
 case done =>
  rintro D ys W hD hys ⟨⟨u, hu, hrow, _⟩, hW⟩ hK
  have cu := hu.cell
  have HY := Lib.hid (And.intro hys (HLEN.out ys hys))
  have HR := Lib.hid hrow
  have HW := Lib.hid hW
  clear hys hrow hW hu
  gi_wp2
  refine ⟨by simp, .inl ⟨_, _, rfl, run_takeDeferred hK, ?_⟩⟩
  exact ⟨_, results_tmp rfl _ _ _, u, ys, rfl, HY.out.1, HY.out.2, town_keep HR.out (tckeep_putObj _ hK rfl), HW.out.trans (belowK_b (w := w) (Nat.le_refl _) W D _ _ (by omega) hK rfl rfl)⟩
 case stop =>
  rintro D c pre W _ _ h _
  exact h.elim

theorem tcollect_any (Bm b n : Nat) (V : TK → Option Value) (w : World) (hBm : Bm < w.heap.size) (hm : w.cell? ⟨Bm, 0, none⟩ = some (.map (some b))) (hV : VMap KT w b n V) (hn : n ≤ 1000000) :
 Calls Tryz.prog 229 #[.func (.func 231) #[] #[.pointer (some ⟨Bm, 0, none⟩)]] w (RetSeq V n w) := by
 have HS := Lib.hid (tseq_any Bm b n V w hBm hm hV hn)
 clear hm hV
 go_enter Tryz.func229, Tryz.ntmps229
 go_wp2_with ((with_reducible refine HS.out.mono ?_); rintro e w' ⟨u, L, rfl, h1, h2, h3, h4⟩; have HR := Lib.hid (And.intro h1 (And.intro h2 (And.intro h3 h4))); clear h1 h2 h3 h4 HS)
 go_ret
 exact ⟨_, _, rfl, HR.out⟩

def RetSorted (V : TK → Option Value) (n : Nat) (w : World) (e : Ending) (w' : World) : Prop := ∃ u K, e = .returned u ∧ Kts w' u K ∧ KeysV V K ∧ K.Pairwise tltP ∧ K.length ≤ n ∧ Below w.heap.size w w' ∧ Lies w.heap.size u
theorem tsorted_any (Bm b n : Nat) (V : TK → Option Value) (w : World) (hBm : Bm < w.heap.size) (hm : w.cell? ⟨Bm, 0, none⟩ = some (.map (some b))) (hV : VMap KT w b n V) (hn : n ≤ 1000000) :
 Calls Tryz.prog 161 #[.func (.func 231) #[] #[.pointer (some ⟨Bm, 0, none⟩)], .func (.func 163) #[] #[]] w (RetSorted V n w) := by
 have HS := Lib.hid (tcollect_any Bm b n V w hBm hm hV hn)
 clear hm hV
 go_enter Tryz.func161, Tryz.ntmps161
 go_wp2_with (first
  | ((with_reducible refine HS.out.mono ?_); rintro e w1 ⟨u, L, rfl, h1, h2, h3, h4⟩; have HR := Lib.hid (And.intro h1 (And.intro h2 (And.intro h3 h4))); have HT := Lib.hid (tsort_any h3 (by omega) h1.1); clear h1 h2 h3 h4 HS)
  | ((with_reducible refine HT.out.mono ?_); rintro e w2 ⟨rfl, hg, K, hp, hs, hk⟩; have HK := Lib.hid (And.intro hg (And.intro hp (And.intro hs hk))); clear hg hp hs hk HT))
 go_ret
 obtain ⟨h1, h2, h3, h4⟩ := HR.out
 obtain ⟨hg, hp, hs, hk⟩ := HK.out
 exact ⟨_, K, rfl, hk, ⟨hp.nodup_iff.2 h1.1, fun x => hp.mem_iff.trans (h1.2 x)⟩, hs, by rw [hp.length_eq]; exact h2, h4.grown hg h4.size (fun k e => (h3.lt k e).1), fun k e => (h3.lt k e).1⟩

theorem tall_in (n : Nat) (t : Option Addr) (w : World) :
 CallsIn Fence.wide n Tryz.prog 99 #[.pointer t] w fun e w' => e = .returned (.func (.func 160) #[] #[.pointer (some ⟨w.heap.size, 0, none⟩)]) ∧ w' = w.alloc (.cells #[.pointer t] 81) := by
 refine callsIn_of_wp Tryz.func99 rfl trivial ?_ rfl
 simp only [Tryz.ntmps99, List.size_toArray, List.length_cons, List.length_nil, Nat.reduceAdd, Nat.reduceSub, Array.replicate_succ, Array.replicate_zero, List.push_toArray, List.append_toArray, List.nil_append, List.cons_append]
 gi_wp2
 go_ret
 exact ⟨rfl, rfl⟩

theorem twithin_any (x a b : Int) (w : World) : Calls Tryz.prog 84 #[.int .i64 x, .int .i64 a, .int .i64 b] w fun e w' => e = .returned (.bool (decide (a ≤ x) && decide (x ≤ b))) ∧ w' = w := by
 cases d1 : decide (a ≤ x)
 · go_enter Tryz.func84, Tryz.ntmps84
   go_wp2
   go_ret
   exact ⟨ret_bool (by simp), rfl⟩
 · cases d2 : decide (x ≤ b)
   all_goals
    go_enter Tryz.func84, Tryz.ntmps84
    go_wp2
    go_ret
    exact ⟨ret_bool (by simp), rfl⟩
end Go.Proofs.YthcdppppppgckaaGreatDoor
