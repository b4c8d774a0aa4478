/- Texts joined into one file: App, StrSort, StrFound. -/
import Derived.Test.YtpibmjkbebkilaaGreatW02
import Derived.Maps.AppendAt
import Derived.Deep.AppendLies
import Derived.OwnWalk

namespace Go.Proofs.YtpibmjkbebkilaaGreat
open Go.RowKit
set_option maxRecDepth 20000

def SliceOf (w : World) (size : Nat) (u : Value) (m : Nat) (news : List Value) : Prop :=
 ∃ A c, u = .slice A m c ∧ news.length = m * size ∧ (∀ x ∈ news, x.oneCell' = true) ∧ (m = 0 ∨ ∃ ad, A = some ad ∧ ∀ j x, news[j]? = some x → w.cell? (ad.add j) = some x)

theorem run_append_vals {P : Program} (w : World) (base : Nat) (t ty e : TypeId) (i : TypeInfo) (z : Value) (size bytes : Nat) (ht : P.underlying t = some (.slice e)) (hi : P.info? e = some i) (hz : i.zero = some z)
 (hsize : i.size = size) (hby : i.bytes = bytes) (hzs : z.cells.size = size) (hsz : 0 < size) (v : Value) (n : Nat) (xs : List Value) (hown : w.ownsRow base e size v n xs)
 (u : Value) (m : Nat) (news : List Value) (hu : SliceOf w size u m news) (h63 : n + m ≤ maxLen) (hbytes : (n + m) * bytes ≤ 140737488355328) (hbase : base ≤ w.heap.size) :
 ∃ v' w', (Builtin.append_ #[t, t] ty #[v, u]).run P w = .ok v' w' ∧ w'.ownsRow base e size v' (n + m) (xs ++ news) ∧ w.grownBy w' v.ownBlock ∧ (v'.ownBlock = v.ownBlock ∨ v'.ownBlock = some w.heap.size) := by
 obtain ⟨A, c, rfl, hl, h1, hc⟩ := hu
 by_cases hm : m = 0
 · subst hm
   obtain rfl : news = [] := List.eq_nil_of_length_eq_zero (by simpa using hl)
   cases A with
   | none =>
     refine ⟨v, w, ?_, by simpa using hown, World.grownBy.refl w _, .inl rfl⟩
     rcases hown.2 with ⟨rfl, rfl⟩ | ⟨g, cap, cur, rfl, _, _, hnc, _⟩ <;> simp [Builtin.append_, run_underlying ht, sizeOf, typeInfo, Builtin.lenOf, Builtin.firstCells, *, storeCells]
   | some ad =>
     obtain ⟨v', w', a1, a2, a3, _, a4⟩ := run_append_own_at (P := P) w base t ty e i z size bytes ht hi hz hsize hby hzs hsz v n xs hown ad 0 c [] hl (by simp) h1 h63 hbytes hbase
     exact ⟨v', w', a1, a2, a3, a4⟩
 · rcases hc with hc | ⟨ad, rfl, hc⟩
   · exact absurd hc hm
   · obtain ⟨v', w', a1, a2, a3, _, a4⟩ := run_append_own_at (P := P) w base t ty e i z size bytes ht hi hz hsize hby hzs hsz v n xs hown ad m c news hl hc h1 h63 hbytes hbase
     exact ⟨v', w', a1, a2, a3, a4⟩

theorem wpList_append_vals {P : Program} (w : World) {ops : Array Oper} {rest : List Oper} {o : Oper} {a : Act} {Q : Exit → Act → World → Prop} (hgd : o.guard = none) (s x : Operand) (t : TypeId)
 (ho : o.op = .call { callee := .builtin .append, args := #[s, x], argTypes := #[t, t] })
 (base : Nat) (e : TypeId) (i : TypeInfo) (z : Value) (size bytes : Nat) (ht : P.underlying t = some (.slice e)) (hi : P.info? e = some i) (hz : i.zero = some z)
 (hsize : i.size = size) (hby : i.bytes = bytes) (hzs : z.cells.size = size) (hsz : 0 < size) (v : Value) (n : Nat) (xs : List Value) (hs : a.eval s = v) (hown : w.ownsRow base e size v n xs)
 (u : Value) (m : Nat) (news : List Value) (hx : a.eval x = u) (hu : SliceOf w size u m news) (h63 : n + m ≤ maxLen) (hbytes : (n + m) * bytes ≤ 140737488355328) (hbase : base ≤ w.heap.size)
 (h : ∀ v' w', w'.ownsRow base e size v' (n + m) (xs ++ news) → w.grownBy w' v.ownBlock → (v'.ownBlock = v.ownBlock ∨ v'.ownBlock = some w.heap.size) → wpList P ops Q rest (a.put o.dst v') w') : wpList P ops Q (o :: rest) a w := by
 refine wpList_plain hgd fun _ hK => ?_
 obtain ⟨v', w', hrun, h2, h3, h4⟩ := run_append_vals (P := P) w base t o.type e i z size bytes ht hi hz hsize hby hzs hsz v n xs hown u m news hu h63 hbytes hbase
 unfold Oper.wp execOp
 simp only [ho, resolve, invoke, builtin, Sem.run_bind, Sem.run_pure, Result.andThen_ok, List.map_toArray, List.map_cons, List.map_nil, hs, hx, hrun]
 exact hK _ _ (h v' w' h2 h3 h4)

end Go.Proofs.YtpibmjkbebkilaaGreat

namespace Go.Proofs.YtpibmjkbebkilaaGreat
open Go.RowKit Go.Lib Go.Sort
set_option maxRecDepth 20000

theorem add_lit (b off k : Nat) : (⟨b, off, none⟩ : Addr).add k = ⟨b, off + k, none⟩ := by unfold Addr.add; split <;> simp_all

theorem encs_one (L : List Str) : ∀ u ∈ L.map encStr, u.oneCell' = true := by
 intro u hu
 obtain ⟨x, _, rfl⟩ := List.mem_map.1 hu
 rfl

theorem Strs.sliceOf {w : World} {v : Value} {L : List Str} (h : Strs w v L) : SliceOf w 1 v L.length (L.map encStr) := by
 obtain ⟨ao, cap, b, off, rfl, h0, h1, h2, h3⟩ := h
 refine ⟨ao, cap, rfl, by simp, encs_one L, ?_⟩
 by_cases hz : L.length = 0
 · exact .inl hz
 · refine .inr ⟨⟨b, off, none⟩, ?_, fun j x hj => ?_⟩
   · rcases h0 with rfl | h0
     · simp at hz
     · exact h0
   · obtain ⟨hlt, e⟩ := List.getElem?_eq_some_iff.1 hj
     rw [add_lit, (h3 j (by simpa using hlt)).2, ← e]
     simp [List.getD_eq_getElem?_getD, show j < L.length by simpa using hlt]

theorem Strs.cutTo {w : World} {a : Addr} {cap : Nat} {L : List Str} (n : Nat) (hn : n ≤ L.length) (h : Strs w (.slice (some a) L.length cap) L) : Strs w (.slice (some a) n cap) (L.take n) := by
 obtain ⟨ao, cap', b, off, e, h0, h1, h2, h3⟩ := h
 have hl : (L.take n).length = n := by rw [List.length_take]; omega
 by_cases hz : n = 0
 · subst hz
   exact ⟨some a, cap, b, off, by simp, .inl (by simp), by simp, by simp, fun k hk => by simp at hk⟩
 · rcases h0 with h0 | h0
   · subst h0; simp at hn; omega
   · subst h0
     simp at e
     obtain ⟨rfl, rfl⟩ := e
     refine ⟨_, cap, b, off, by rw [hl], .inr rfl, by omega, fun x hx => h2 x (List.mem_of_mem_take hx), fun k hk => ?_⟩
     rw [hl] at hk
     obtain ⟨h4, h5⟩ := h3 k (by omega)
     refine ⟨h4, ?_⟩
     rw [h5]
     simp [List.getD_eq_getElem?_getD, hk]

theorem ssorted_compact' {w : World} {base : Nat} {v : Value} {L : List Str} (hrow : w.ownsRow base 36 1 v L.length (L.map encStr)) (hl : L.length ≤ 8796093022208) (hw : ∀ x ∈ L, x.length ≤ maxLen) :
 Calls Tryz.prog 78 #[v] w fun e w' => e = .returned (.tuple #[]) ∧ w.grownBy w' v.ownBlock ∧ ∀ W, Below w'.heap.size w' W → Calls Tryz.prog 51 #[v] W fun e w'' =>
  ∃ o, e = .returned o ∧ Strs w'' o (sasc L) ∧ W.grownBy w'' v.ownBlock ∧ o.ownBlock = v.ownBlock := by
 rcases hrow.2 with ⟨rfl, h0⟩ | ⟨g, cap, cur, rfl, hbase, hb, h1, h2, h3, h4⟩
 · rw [List.length_eq_zero_iff] at h0
   subst h0
   refine (Tryz.slices_Sort_addr_none none 0 w).mono ?_
   rintro e w' ⟨rfl, rfl⟩
   refine ⟨rfl, ⟨rfl, rfl, rfl, Nat.le_refl _, fun _ _ _ => rfl⟩, fun W _ => (Tryz.slices_Compact_addr_empty none 0 W).mono ?_⟩
   rintro e w'' ⟨rfl, rfl⟩
   have he : sasc [] = [] := List.eq_nil_of_length_eq_zero (by have := sasc_length []; simpa using this)
   exact ⟨_, rfl, by rw [he]; exact Strs.nil _, ⟨rfl, rfl, rfl, Nat.le_refl _, fun _ _ _ => rfl⟩, rfl⟩
 · refine (Tryz.slices_Sort_addr g 0 cap L w (holds_of_block hb (by simpa using h4)) (Array.getElem?_eq_some_iff.1 hb).1 (by omega)).mono ?_
   rintro e w' ⟨rfl, n, os, rfl⟩
   refine ⟨rfl, ?_⟩
   obtain ⟨S, hS⟩ : ∃ S, S = L.mergeSort fun x y => decide (x ≤ y) := ⟨_, rfl⟩
   have hSl : S.length = L.length := by rw [hS]; simp
   have hSm : ∀ x, x ∈ S ↔ x ∈ L := fun x => by rw [hS]; exact List.mem_mergeSort
   have hSa : compact S = sasc L := by rw [hS]; rfl
   rw [← hS]
   have hg1 := grownBy_sorted (n := n) (os := os) S.toArray (w := w) (g := g)
   have hown := ownsRow_sorted (n := n) (os := os) (ts := S) hSl hbase hb h1 h2 h3
   obtain ⟨w1, hw1⟩ : ∃ w1, w1 = grow (putRow encStr (Sort.ahead w n) g 0 S.toArray) os := ⟨_, rfl⟩
   rw [← hw1] at hg1 hown ⊢
   refine ⟨hg1, fun W hW => ?_⟩
   replace hown : W.ownsRow base 36 1 (.slice (some ⟨g, 0, none⟩) L.length cap) L.length (S.map encStr) :=
    hown.kept (row := none) ⟨hW.os, hW.tape, hW.output, hW.size, fun k hk _ => hW.block k hk⟩ (by simp [Value.ownBlock])
   rcases hown.2 with ⟨hv, _⟩ | ⟨g', cap', cur', hv, hbase', hb', h1', h2', h3', h4'⟩
   · cases hv
   · cases hv
     rw [← hSl] at h1' h4' ⊢
     refine (Tryz.slices_Compact_addr g 0 cap S W (holds_of_block hb' (by simpa using h4')) (by omega) h1').mono ?_
     rintro e w'' ⟨rfl, q, rfl⟩
     have hcl := compact_length_le S
     have hT : (compact S ++ List.replicate (S.length - (compact S).length) []).length = S.length := by simp; omega
     obtain ⟨T, hTe⟩ : ∃ T, T = compact S ++ List.replicate (S.length - (compact S).length) [] := ⟨_, rfl⟩
     rw [← hTe] at hT ⊢
     have hg2 := grownBy_sorted (n := q) (os := #[]) T.toArray (w := W) (g := g)
     have hown2 := ownsRow_sorted (n := q) (os := #[]) (ts := T) hT hbase' hb' h1' h2' h3'
     rw [grow_empty] at hg2 hown2
     rw [← hT] at hown2
     refine ⟨_, rfl, ?_, hg2, rfl⟩
     rw [← hSa]
     have hi := Strs.own hown2 (by omega) (fun x hx => by
      rw [hTe, List.mem_append] at hx
      rcases hx with hx | hx
      · exact hw x ((hSm x).1 ((scompact_mem S x).1 hx))
      · rw [(List.mem_replicate.1 hx).2]; simp)
     have := hi.cutTo (compact S).length (by omega)
     have ht : T.take (compact S).length = compact S := by rw [hTe, List.take_left]
     rwa [ht] at this

end Go.Proofs.YtpibmjkbebkilaaGreat

namespace Go.Proofs.YtpibmjkbebkilaaGreat
open Go.RowKit
set_option maxRecDepth 20000

theorem slt_asymm {a b : Str} (h : a < b) (k : b < a) : False := slt_irrefl a (slt_trans h k)

theorem sasc_lt (L : List Str) {i j : Nat} (hj : j < (sasc L).length) (hij : i < j) : (sasc L)[i]'(by omega) < (sasc L)[j] :=
 List.pairwise_iff_getElem.1 (sasc_rising L) i j (by omega) hj hij

theorem sbehind_iff (L : List Str) (m : Nat) (hm : m < (sasc L).length) (y : Str) (hy : y ∈ L) : y ∉ (sasc L).take (m + 1) ↔ (sasc L)[m] < y := by
 obtain ⟨i, hi, rfl⟩ := List.getElem_of_mem ((sasc_mem L y).2 hy)
 rw [List.mem_take_iff_getElem]
 constructor
 · intro h
   by_cases hle : i ≤ m
   · exact absurd ⟨i, by omega, rfl⟩ h
   · exact sasc_lt L hi (by omega)
 · rintro h ⟨k, hk, e⟩
   by_cases hkm : k = m
   · subst hkm; rw [e] at h; exact slt_irrefl _ h
   · have := sasc_lt L hm (i := k) (by omega)
     rw [e] at this
     exact slt_asymm this h

def SFound (L : List Str) (n i : Nat) (nx : Int) : Prop :=
 (nx = -1 ∧ ∀ y ∈ L.take i, y ∈ (sasc L).take n) ∨ (∃ j : Nat, ∃ h : j < L.length, nx = j ∧ L[j] ∉ (sasc L).take n ∧ ∀ y ∈ L.take i, y ∉ (sasc L).take n → L[j] ≤ y)

theorem sfound_start (L : List Str) (n : Nat) : SFound L n 0 (-1) := .inl ⟨rfl, by simp⟩

theorem sfound_seen {L : List Str} {n i : Nat} {nx : Int} (h : SFound L n i nx) (hi : i < L.length) (hs : L[i] ∈ (sasc L).take n) : SFound L n (i + 1) nx := by
 rcases h with ⟨rfl, h⟩ | ⟨j, hj, rfl, h1, h2⟩
 · refine .inl ⟨rfl, fun y hy => ?_⟩
   rw [take_snoc L i hi, List.mem_append, List.mem_singleton] at hy
   rcases hy with hy | rfl
   · exact h y hy
   · exact hs
 · refine .inr ⟨j, hj, rfl, h1, fun y hy hn => ?_⟩
   rw [take_snoc L i hi, List.mem_append, List.mem_singleton] at hy
   rcases hy with hy | rfl
   · exact h2 y hy hn
   · exact absurd hs hn

theorem sfound_first {L : List Str} {n i : Nat} (h : SFound L n i (-1)) (hi : i < L.length) (hs : L[i] ∉ (sasc L).take n) : SFound L n (i + 1) i := by
 rcases h with ⟨_, h⟩ | ⟨j, hj, e, _⟩
 · refine .inr ⟨i, hi, rfl, hs, fun y hy hn => ?_⟩
   rw [take_snoc L i hi, List.mem_append, List.mem_singleton] at hy
   rcases hy with hy | rfl
   · exact absurd (h y hy) hn
   · exact List.le_refl _
 · omega

theorem sfound_less {L : List Str} {n i j : Nat} (h : SFound L n i j) (hi : i < L.length) (hj : j < L.length) (hs : L[i] ∉ (sasc L).take n) (hl : L[i] < L[j]) : SFound L n (i + 1) i := by
 rcases h with ⟨e, _⟩ | ⟨j', hj', e, h1, h2⟩
 · omega
 · obtain rfl : j = j' := by omega
   refine .inr ⟨i, hi, rfl, hs, fun y hy hn => ?_⟩
   rw [take_snoc L i hi, List.mem_append, List.mem_singleton] at hy
   rcases hy with hy | rfl
   · exact List.le_trans (List.le_of_lt hl) (h2 y hy hn)
   · exact List.le_refl _

theorem sfound_more {L : List Str} {n i j : Nat} (h : SFound L n i j) (hi : i < L.length) (hj : j < L.length) (hl : ¬ L[i] < L[j]) : SFound L n (i + 1) j := by
 rcases h with ⟨e, _⟩ | ⟨j', hj', e, h1, h2⟩
 · omega
 · obtain rfl : j = j' := by omega
   refine .inr ⟨j, hj, rfl, h1, fun y hy hn => ?_⟩
   rw [take_snoc L i hi, List.mem_append, List.mem_singleton] at hy
   rcases hy with hy | rfl
   · exact h2 y hy hn
   · exact List.not_lt.1 hl

theorem sfound_lt {L : List Str} {n i j : Nat} (h : SFound L n i j) : j < L.length := by
 rcases h with ⟨e, _⟩ | ⟨j', hj', e, _⟩
 · omega
 · omega

theorem sfound_cases {L : List Str} {n i : Nat} {nx : Int} (h : SFound L n i nx) : nx = -1 ∨ ∃ j : Nat, nx = j ∧ j < L.length := by
 rcases h with ⟨e, _⟩ | ⟨j', hj', e, _⟩
 · exact .inl e
 · exact .inr ⟨j', e, hj'⟩

theorem sfound_none {L : List Str} {n : Nat} (hn : n ≤ (sasc L).length) (h : SFound L n L.length (-1)) : n = (sasc L).length := by
 rcases h with ⟨_, h⟩ | ⟨j', hj', e, _⟩
 · by_cases he : n = (sasc L).length
   · exact he
   · have hlt : n < (sasc L).length := by omega
     have hm := h ((sasc L)[n]) (by rw [List.take_of_length_le (Nat.le_refl _)]; exact (sasc_mem L _).1 (List.getElem_mem hlt))
     rw [List.mem_take_iff_getElem] at hm
     obtain ⟨k, hk, e⟩ := hm
     have := sasc_lt L hlt (i := k) (by omega)
     rw [e] at this
     exact absurd this (slt_irrefl _)
 · omega

theorem sfound_next {L : List Str} {n j : Nat} (hn : n ≤ (sasc L).length) (h : SFound L n L.length j) (hj : j < L.length) : ∃ h : n < (sasc L).length, L[j] = (sasc L)[n] := by
 rcases h with ⟨e, _⟩ | ⟨j', hj', e, h1, h2⟩
 · omega
 · obtain rfl : j = j' := by omega
   obtain ⟨m, hm, em⟩ := List.getElem_of_mem ((sasc_mem L L[j]).2 (List.getElem_mem hj))
   have hge : n ≤ m := by
    by_cases hlt : m < n
    · exact absurd (by rw [List.mem_take_iff_getElem]; exact ⟨m, by omega, em⟩) h1
    · omega
   have hlt : n < (sasc L).length := by omega
   refine ⟨hlt, ?_⟩
   have h3 := h2 ((sasc L)[n]) (by rw [List.take_of_length_le (Nat.le_refl _)]; exact (sasc_mem L _).1 (List.getElem_mem hlt)) (by
    rw [List.mem_take_iff_getElem]
    rintro ⟨k, hk, e⟩
    have := sasc_lt L hlt (i := k) (by omega)
    rw [e] at this
    exact slt_irrefl _ this)
   by_cases hnm : n = m
   · subst hnm; exact em.symm
   · have := sasc_lt L hm (i := n) (by omega)
     rw [em] at this
     exact absurd this (List.not_lt.2 h3)
end Go.Proofs.YtpibmjkbebkilaaGreat
