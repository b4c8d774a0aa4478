/- Texts joined into one file: URel, UKx, UFind. -/
import Derived.Test.YtpibmjkbebkilaaGreatW24
import Derived.Test.YtpibmjkbebkilaaGreatW23
import Derived.Test.YtpibmjkbebkilaaGreatW26

namespace Go.Proofs.YtpibmjkbebkilaaGreat
open Go.RowKit Go.Lib Go.Maps Go.Sort
set_option maxRecDepth 20000

abbrev RowT := TK × Stt
def tlt (a b : TK) : Bool := if a.1 = b.1 then (if a.2.1 = b.2.1 then decide (a.2.2 < b.2.2) else decide (a.2.1 < b.2.1)) else decide (a.1 < b.1)
theorem tlt_iff (a b : TK) : tlt a b = true ↔ tltP a b := by
 obtain ⟨a1, a2, a3⟩ := a
 obtain ⟨b1, b2, b3⟩ := b
 unfold tlt tltP
 dsimp only
 by_cases h1 : a1 = b1
 · subst h1
   rw [if_pos rfl]
   by_cases h2 : a2 = b2
   · subst h2
     rw [if_pos rfl, decide_eq_true_iff]
     have := slt_irrefl a2
     constructor
     · intro h; exact .inr ⟨rfl, .inr ⟨rfl, h⟩⟩
     · rintro (h | ⟨_, h | ⟨_, h⟩⟩)
       · omega
       · exact absurd h this
       · exact h
   · rw [if_neg h2, decide_eq_true_iff]
     constructor
     · intro h; exact .inr ⟨rfl, .inl h⟩
     · rintro (h | ⟨_, h | ⟨h, _⟩⟩)
       · omega
       · exact h
       · exact absurd h h2
 · rw [if_neg h1, decide_eq_true_iff]
   constructor
   · intro h; exact .inl h
   · rintro (h | ⟨h, _⟩)
     · exact h
     · exact absurd h h1
def SortedT (R : List RowT) : Prop := R.Pairwise fun x y => tltP x.1 y.1
def RelT (F : Tst) (R : List RowT) : Prop := SortedT R ∧ ∀ k s, F k = some s ↔ (k, s) ∈ R
theorem RelT.nil : RelT (fun _ => none) [] := ⟨List.Pairwise.nil, fun k f => by simp⟩
theorem tltP.ne {a b : TK} (h : tltP a b) : a ≠ b := fun e => by subst e; exact tltP.irrefl _ h
def cntT (R : List RowT) (k : TK) : Nat := (R.takeWhile fun r => tlt r.1 k).length
theorem cntT_le (R : List RowT) (k : TK) : cntT R k ≤ R.length := (List.takeWhile_sublist _).length_le
theorem take_cntT (R : List RowT) (k : TK) : R.take (cntT R k) = R.takeWhile fun r => tlt r.1 k := by
 unfold cntT
 have := (List.takeWhile_prefix (l := R) (fun r => tlt r.1 k))
 exact (List.prefix_iff_eq_take.1 this).symm
theorem drop_cntT (R : List RowT) (k : TK) : R.drop (cntT R k) = R.dropWhile fun r => tlt r.1 k := by
 have h := List.takeWhile_append_dropWhile (p := fun r : RowT => tlt r.1 k) (l := R)
 have h2 := List.take_append_drop (cntT R k) R
 rw [take_cntT] at h2
 exact List.append_cancel_left (h2.trans h.symm)
theorem cntT_eq {R : List RowT} {k : TK} {j : Nat} (hj : j ≤ R.length) (h : ∀ i, (hi : i < j) → tlt (R[i]'(by omega)).1 k = true) (he : j = R.length ∨ ∃ hl : j < R.length, tlt (R[j]'hl).1 k = false) : cntT R k = j := by
 induction R generalizing j with
 | nil => simp at hj; subst hj; rfl
 | cons r R ih =>
   unfold cntT
   cases j with
   | zero =>
     rcases he with he | ⟨hl, he⟩
     · simp at he
     · rw [List.takeWhile_cons, if_neg (by simpa using he)]; rfl
   | succ j =>
     have h0 := h 0 (by omega)
     rw [List.takeWhile_cons, if_pos (by simpa using h0), List.length_cons]
     congr 1
     refine ih (by simpa using hj) (fun i hi => by simpa using h (i + 1) (by omega)) ?_
     rcases he with he | ⟨hl, he⟩
     · exact .inl (by simpa using he)
     · exact .inr ⟨by simpa using hl, by simpa using he⟩
theorem ins_relT {F : Tst} {R : List RowT} {k : TK} (s : Stt) (h : RelT F R) (hn : F k = none) : RelT (updS F k s) (R.take (cntT R k) ++ ((k, s) :: R.drop (cntT R k))) := by
 have hnk : ∀ r ∈ R, r.1 ≠ k := fun r hr e => by
  have := (h.2 r.1 r.2).2 hr
  rw [e, hn] at this
  cases this
 have hsp : R.take (cntT R k) ++ R.drop (cntT R k) = R := List.take_append_drop _ _
 have hlo : ∀ r ∈ R.take (cntT R k), tltP r.1 k := fun r hr => by
  rw [take_cntT] at hr
  have := List.all_eq_true.1 (List.all_takeWhile (p := fun r : RowT => tlt r.1 k) (l := R)) r hr
  exact (tlt_iff _ _).1 this
 have hso := h.1
 unfold SortedT at hso
 rw [← hsp, List.pairwise_append] at hso
 obtain ⟨p1, p2, p3⟩ := hso
 have hhi : ∀ r ∈ R.drop (cntT R k), tltP k r.1 := fun r hr => by
  cases hd : R.drop (cntT R k) with
  | nil => rw [hd] at hr; cases hr
  | cons x T =>
    have hx : tltP k x.1 := by
     rw [drop_cntT] at hd
     have h0 : tlt x.1 k = false := by
      have := List.head?_dropWhile_not (fun r : RowT => tlt r.1 k) R
      rw [hd] at this
      simpa using this
     rcases tltP.or x.1 k with q | q | q
     · rw [(tlt_iff _ _).2 q] at h0; cases h0
     · exact absurd q (hnk x (by rw [← hsp]; refine List.mem_append_right _ ?_; rw [drop_cntT, hd]; exact List.mem_cons_self ..))
     · exact q
    rw [hd] at hr p2
    rcases List.mem_cons.1 hr with rfl | hr
    · exact hx
    · exact hx.trans ((List.pairwise_cons.1 p2).1 r hr)
 refine ⟨?_, fun x t => ?_⟩
 · unfold SortedT
   rw [List.pairwise_append]
   refine ⟨p1, List.pairwise_cons.2 ⟨hhi, p2⟩, fun a ha b hb => ?_⟩
   rcases List.mem_cons.1 hb with rfl | hb
   · exact hlo a ha
   · exact p3 a ha b hb
 · have hm : (x, t) ∈ R.take (cntT R k) ++ ((k, s) :: R.drop (cntT R k)) ↔ (x, t) = (k, s) ∨ (x, t) ∈ R := by
    conv => rhs; rw [← hsp]
    simp only [List.mem_append, List.mem_cons]
    constructor
    · rintro (q | q | q)
      · exact .inr (.inl q)
      · exact .inl q
      · exact .inr (.inr q)
    · rintro (q | q | q)
      · exact .inr (.inl q)
      · exact .inl q
      · exact .inr (.inr q)
   rw [hm]
   unfold updS
   by_cases e : x = k
   · subst e
     simp only [if_true, Prod.mk.injEq, true_and, Option.some.injEq]
     constructor
     · exact fun e => .inl e.symm
     · rintro (e | e)
       · exact e.symm
       · exact absurd rfl (hnk _ e)
   · rw [if_neg e, h.2 x t]
     simp [e]
theorem sortedT_inj {R : List RowT} (h : SortedT R) {i j : Nat} (hi : i < R.length) (hj : j < R.length) (e : R[i].1 = R[j].1) : i = j := by
 rcases Nat.lt_trichotomy i j with q | q | q
 · exact absurd e ((List.pairwise_iff_getElem.1 h) i j hi hj q).ne
 · exact q
 · exact absurd e.symm ((List.pairwise_iff_getElem.1 h) j i hj hi q).ne
theorem erase_relT {F : Tst} {R : List RowT} {i : Nat} (h : RelT F R) (hi : i < R.length) : RelT (delS F R[i].1) (R.eraseIdx i) := by
 refine ⟨h.1.sublist (List.eraseIdx_sublist _ _), fun k f => ?_⟩
 rw [List.mem_eraseIdx_iff_getElem]
 unfold delS
 constructor
 · intro hk
   split at hk
   · cases hk
   · rename_i hne
     obtain ⟨j, hj, e⟩ := List.mem_iff_getElem.1 ((h.2 k f).1 hk)
     exact ⟨j, hj, fun e' => hne (by subst e'; rw [e]), e⟩
 · rintro ⟨j, hj, hne, e⟩
   rw [if_neg (fun e' => hne (sortedT_inj h.1 hj hi (by rw [e]; exact e'))), h.2 k f]
   exact List.mem_iff_getElem.2 ⟨j, hj, e⟩
theorem RelT.at_ {F : Tst} {R : List RowT} (h : RelT F R) {i : Nat} (hi : i < R.length) : F R[i].1 = some R[i].2 := (h.2 _ _).2 (List.getElem_mem hi)
theorem RelT.old {F : Tst} {R : List RowT} (h : RelT F R) {i : Nat} (hi : i < R.length) : oldS F R[i].1 = R[i].2 := by unfold oldS; rw [h.at_ hi]; rfl
theorem RelT.oldm {F : Tst} {R : List RowT} (h : RelT F R) {r : RowT} (hr : r ∈ R) : oldS F r.1 = r.2 := by unfold oldS; rw [(h.2 r.1 r.2).2 hr]; rfl
theorem RelT.none_ {F : Tst} {R : List RowT} (h : RelT F R) {k : TK} (hn : ∀ i, (hi : i < R.length) → R[i].1 ≠ k) : F k = none := by
 cases hG : F k
 · rfl
 · obtain ⟨i, hi, e⟩ := List.mem_iff_getElem.1 ((h.2 _ _).1 hG)
   exact absurd (by rw [e]) (hn i hi)
theorem RelT.keys {F : Tst} {R : List RowT} (h : RelT F R) : KeysS F (R.map Prod.fst) := by
 refine ⟨?_, fun k => ?_⟩
 · rw [List.pairwise_map]
   exact h.1
 · constructor
   · intro hk
     obtain ⟨r, hr, rfl⟩ := List.mem_map.1 hk
     rw [(h.2 r.1 r.2).2 hr]
     simp
   · intro hk
     cases hG : F k
     · exact absurd hG hk
     · exact List.mem_map.2 ⟨_, (h.2 _ _).1 hG, rfl⟩
theorem upd_delS (F : Tst) (k : TK) (s : Stt) : updS (delS F k) k s = updS F k s := by
 funext x
 unfold updS delS
 by_cases e : x = k <;> simp [e]
theorem delS_self (F : Tst) (k : TK) : delS F k k = none := by simp [delS]

theorem drop_relT {F : Tst} {R : List RowT} (port : Int) (h : RelT F R) : RelT (noPort F port) (R.filter fun r => !(r.1.2.2 == port)) := by
 refine ⟨h.1.filter _, fun k f => ?_⟩
 unfold noPort
 rw [List.mem_filter]
 by_cases e : k.2.2 = port
 · simp [e]
 · rw [if_neg e, h.2 k f]
   simp [e]
theorem dropN_rows (port : Int) (R : List RowT) : dropN port (R.map Prod.fst) = (R.filter fun r => r.1.2.2 == port).length := by
 unfold dropN
 rw [List.filter_map, List.length_map]
 rfl
def expR (now : Int) (R : List RowT) : List RowT := R.filterMap fun r => if (pexp r.2 now).2 then some (r.1, (pexp r.2 now).1) else none
def deadR (now : Int) (R : List RowT) : Nat := (R.filter fun r => !(pexp r.2 now).2).length
theorem expR_relT {F : Tst} {R : List RowT} (now : Int) (h : RelT F R) : RelT (byNow F now) (expR now R) := by
 refine ⟨?_, fun k f => ?_⟩
 · unfold SortedT expR
   rw [List.pairwise_filterMap]
   refine h.1.imp fun {a b} q x hx y hy => ?_
   split at hx
   · split at hy
     · injection hx with hx; injection hy with hy
       subst hx hy
       exact q
     · cases hy
   · cases hx
 · unfold byNow expR
   rw [List.mem_filterMap]
   constructor
   · intro hk
     cases hF : F k with
     | none => rw [hF] at hk; cases hk
     | some s =>
       rw [hF] at hk
       dsimp only at hk
       refine ⟨(k, s), (h.2 k s).1 hF, ?_⟩
       dsimp only
       split at hk
       · rename_i hp
         injection hk with hk
         rw [if_pos hp, hk]
       · cases hk
   · rintro ⟨r, hr, hx⟩
     split at hx
     · rename_i hp
       injection hx with hx
       injection hx with h1 h2
       subst h1
       rw [(h.2 r.1 r.2).2 hr]
       dsimp only
       rw [if_pos hp, h2]
     · cases hx
theorem expR_snoc {now : Int} {R : List RowT} {m : Nat} (hm : m < R.length) : expR now (R.drop m) = (if (pexp R[m].2 now).2 then [(R[m].1, (pexp R[m].2 now).1)] else []) ++ expR now (R.drop (m + 1)) ∧ deadR now (R.drop m) = (if (pexp R[m].2 now).2 then 0 else 1) + deadR now (R.drop (m + 1)) := by
 have e : R.drop m = R[m] :: R.drop (m + 1) := by rw [List.drop_eq_getElem_cons hm]
 unfold expR deadR
 rw [e, List.filterMap_cons, List.filter_cons]
 cases (pexp R[m].2 now).2 <;> simp [Nat.add_comm]
theorem expN_go (now : Int) : ∀ (R : List RowT) (F : Tst), SortedT R → (∀ r ∈ R, oldS F r.1 = r.2) → expN F now (R.map Prod.fst) = deadR now R
 | [], F, _, _ => rfl
 | r :: R, F, hs, ho => by
   have h1 := List.pairwise_cons.1 hs
   have := expN_go now R (expStep now F r.1) h1.2 fun x hx => by
    have hne : x.1 ≠ r.1 := (h1.1 x hx).ne.symm
    have h2 := ho x (List.mem_cons_of_mem _ hx)
    unfold oldS at h2 ⊢
    unfold expStep updS delS
    split <;> simp only [if_neg hne] <;> exact h2
   rw [List.map_cons]
   unfold expN deadR
   rw [this, ho r (List.mem_cons_self ..), List.filter_cons]
   unfold deadR
   cases (pexp r.2 now).2 <;> simp [Nat.add_comm]
theorem expN_rows {F : Tst} {R : List RowT} (now : Int) (h : RelT F R) : expN F now (R.map Prod.fst) = deadR now R := expN_go now R F h.1 fun _ hr => h.oldm hr
def portsR (src : Str) (now v : Int) (g : Str) (R : List RowT) : List Int := (R.filter fun r => inOf v g r.1 && padmS r.2 src now).map fun r => r.1.2.2
theorem ports_rows {F : Tst} {R : List RowT} (h : RelT F R) (src : Str) (now v : Int) (g : Str) : portsS F src now ((R.map Prod.fst).filter (inOf v g)) = portsR src now v g R := by
 unfold portsS portsR
 rw [List.filter_map, List.filter_map, List.map_map, List.filter_filter]
 have : R.filter (fun a => ((fun x => padmS (oldS F x) src now) ∘ Prod.fst) a && (inOf v g ∘ Prod.fst) a) = R.filter fun r => inOf v g r.1 && padmS r.2 src now := by
  refine List.filter_congr fun r hr => ?_
  simp only [Function.comp]
  rw [h.oldm hr, Bool.and_comm]
 rw [this]
 rfl
def knownR (now v : Int) (g : Str) (R : List RowT) : Bool := R.any fun r => inOf v g r.1 && liveS r.2 now
theorem known_rows {F : Tst} {R : List RowT} (h : RelT F R) (now v : Int) (g : Str) : (((R.map Prod.fst).filter (inOf v g)).any fun x => liveS (oldS F x) now) = knownR now v g R := by
 unfold knownR
 rw [Bool.eq_iff_iff, List.any_eq_true, List.any_eq_true]
 constructor
 · rintro ⟨x, hx, hl⟩
   obtain ⟨hx, hi⟩ := List.mem_filter.1 hx
   obtain ⟨r, hr, rfl⟩ := List.mem_map.1 hx
   rw [h.oldm hr] at hl
   exact ⟨r, hr, by rw [hi, hl]; rfl⟩
 · rintro ⟨r, hr, hl⟩
   rw [Bool.and_eq_true] at hl
   exact ⟨r.1, List.mem_filter.2 ⟨List.mem_map.2 ⟨r, hr, rfl⟩, hl.1⟩, by rw [h.oldm hr]; exact hl.2⟩
def RelO (O : Int → Option Int) (S : List (Int × Int)) : Prop := ∀ v, O v = (S.find? fun s => s.1 == v).map Prod.snd
theorem RelO.nil : RelO (fun _ => none) [] := fun _ => rfl
def overS (S : List (Int × Int)) (v now : Int) : List (Int × Int) := match S with
 | [] => [(v, now)]
 | s :: S => if s.1 = v then (v, now) :: S else s :: overS S v now
theorem overS_at : ∀ {S : List (Int × Int)} {v now : Int} {i : Nat} (hi : i < S.length), (∀ j, (hj : j < i) → (S[j]'(by omega)).1 ≠ v) → S[i].1 = v → overS S v now = S.set i (v, now)
 | [], _, _, _, hi, _, _ => by simp at hi
 | s :: S, v, now, 0, _, _, h => by
   unfold overS
   rw [if_pos (by simpa using h)]
   rfl
 | s :: S, v, now, i + 1, hi, hn, h => by
   unfold overS
   rw [if_neg (by simpa using hn 0 (by omega)), List.set_cons_succ]
   rw [overS_at (by simpa using hi) (fun j hj => by simpa using hn (j + 1) (by omega)) (by simpa using h)]
theorem overS_end : ∀ {S : List (Int × Int)} {v now : Int}, (∀ j, (hj : j < S.length) → S[j].1 ≠ v) → overS S v now = S ++ [(v, now)]
 | [], _, _, _ => rfl
 | s :: S, v, now, hn => by
   unfold overS
   have h0 : ¬ s.1 = v := hn 0 (by simp)
   rw [if_neg h0, overS_end (fun j hj => hn (j + 1) (by simpa using hj))]
   rfl
theorem overS_rel {O : Int → Option Int} {S : List (Int × Int)} (v now : Int) (h : RelO O S) : RelO (updO O v now) (overS S v now) := by
 have key : ∀ (S : List (Int × Int)) (x : Int), ((overS S v now).find? fun s => s.1 == x).map Prod.snd = if x = v then some now else (S.find? fun s => s.1 == x).map Prod.snd := by
  intro S x
  induction S with
  | nil =>
    unfold overS
    by_cases e : x = v
    · subst e; simp
    · have e' : ¬ v = x := fun q => e q.symm
      simp [e, e']
  | cons s S ih =>
    unfold overS
    by_cases hs : s.1 = v
    · rw [if_pos hs]
      by_cases e : x = v
      · subst e; simp
      · have e' : ¬ v = x := fun q => e q.symm
        have e2 : ¬ s.1 = x := fun q => e (q.symm.trans hs)
        simp [e, e', e2]
    · rw [if_neg hs, List.find?_cons, List.find?_cons]
      cases hx : (s.1 == x)
      · dsimp only
        exact ih
      · dsimp only
        rw [beq_iff_eq] at hx
        rw [if_neg (fun q => hs (hx.trans q))]
 intro x
 rw [key S x]
 unfold updO
 rw [← h x]
end Go.Proofs.YtpibmjkbebkilaaGreat

namespace Go.Proofs.YtpibmjkbebkilaaGreat
open Go.RowKit Go.Lib Go.Maps Go.Sort
set_option maxRecDepth 20000
set_option maxRecDepth 20000

theorem gflat_len {α : Type} {cell : α → List Value} {s : Nat} (hc : ∀ q, (cell q).length = s) : ∀ (Q : List α), (Q.flatMap cell).length = Q.length * s
 | [] => by simp
 | q :: Q => by rw [List.flatMap_cons, List.length_append, gflat_len hc Q, hc, List.length_cons, Nat.succ_mul, Nat.add_comm]
section
variable {α : Type} [Inhabited α] {cell : α → List Value} {s : Nat}
theorem gflat_get (hc : ∀ q, (cell q).length = s) : ∀ (Q : List α) (k j : Nat), k < Q.length → j < s → (Q.flatMap cell)[k * s + j]? = (cell (Q.getD k default))[j]?
 | [], k, j, hk, _ => by simp at hk
 | q :: Q, 0, j, _, hj => by
   rw [Nat.zero_mul, Nat.zero_add, List.flatMap_cons, List.getElem?_append_left (by rw [hc]; exact hj)]
   rfl
 | q :: Q, k + 1, j, hk, hj => by
   have := gflat_get hc Q k j (by simpa using hk) hj
   rw [List.flatMap_cons, List.getElem?_append_right (by rw [hc, Nat.succ_mul]; omega), hc, show (k + 1) * s + j - s = k * s + j from by rw [Nat.succ_mul]; omega, this]
   rfl
theorem gflat_set (hc : ∀ q, (cell q).length = s) : ∀ (Q : List α) (k j : Nat) (u : Value) (q' : α), k < Q.length → j < s → cell q' = (cell (Q.getD k default)).set j u → (Q.flatMap cell).set (k * s + j) u = (Q.set k q').flatMap cell
 | [], k, j, _, _, hk, _, _ => by simp at hk
 | q :: Q, 0, j, u, q', _, hj, he => by
   rw [Nat.zero_mul, Nat.zero_add, List.flatMap_cons, List.set_append, if_pos (by rw [hc]; exact hj), List.set_cons_zero, List.flatMap_cons, he]
   rfl
 | q :: Q, k + 1, j, u, q', hk, hj, he => by
   have := gflat_set hc Q k j u q' (by simpa using hk) hj (by simpa using he)
   rw [List.flatMap_cons, List.set_append, if_neg (by rw [hc, Nat.succ_mul]; omega), hc, show (k + 1) * s + j - s = k * s + j from by rw [Nat.succ_mul]; omega, this, List.set_cons_succ, List.flatMap_cons]
variable {P : Program} {T e : TypeId} {w : World} {B : Nat} {v : Value} {Q : List α}
theorem gfacts (hT : P.underlying T = some (.slice e)) (hz : ∀ w, (Go.sizeOf e).run P w = .ok s w) (hc : ∀ q, (cell q).length = s) (h : w.ownsRow B e s v Q.length (Q.flatMap cell)) :
 ∃ g, (∀ ty w', (Builtin.len_ #[T] ty #[v]).run P w' = .ok (.int .i64 Q.length) w') ∧ (∀ k, k < Q.length → ∀ w', (Instr.indexAt T v (.int .i64 k)).run P w' = .ok (.pointer (some ⟨g, k * s, none⟩)) w') ∧
   (∀ k, k < Q.length → B ≤ g ∧ g < w.heap.size ∧ v.ownBlock = some g ∧ ∀ j, j < s → w.cell? ⟨g, k * s + j, none⟩ = (cell (Q.getD k default))[j]? ∧ w.frozen? ⟨g, k * s + j, none⟩ = false) := by
 rcases h.2 with ⟨rfl, h0⟩ | ⟨g, cap, cur, rfl, hb, hg, hn, hm, hs, ht⟩
 · exact ⟨0, fun ty w' => by rw [h0]; exact run_len_any hT none 0 0 ty w', fun k hk => by omega, fun k hk => by omega⟩
 · refine ⟨g, fun ty w' => run_len_any hT _ Q.length cap ty w', fun k hk w' => ?_, fun k hk => ⟨hb, (Array.getElem?_eq_some_iff.1 hg).1, rfl, fun j hj => ?_⟩⟩
   · have := run_index_any (P := P) (s := s) hT hz g 0 Q.length cap k hk w'
     simpa using this
   · obtain ⟨x, hx⟩ : ∃ x, (cell (Q.getD k default))[j]? = some x := ⟨_, List.getElem?_eq_getElem (by rw [hc]; exact hj)⟩
     have c := h.cells (g := g) rfl (k * s + j) x (by rw [gflat_get hc Q k j hk hj]; exact hx)
     rw [add_lit, Nat.zero_add] at c
     exact ⟨c.trans hx.symm, by simp [World.frozen?, hg]⟩
end
section
variable {α : Type} {cell : α → List Value} {s : Nat} {P : Program} {T e : TypeId} {w : World} {B : Nat} {v : Value} {Q : List α}
theorem gcuts (hT : P.underlying T = some (.slice e)) (hz : ∀ w, (Go.sizeOf e).run P w = .ok s w) (hc : ∀ q, (cell q).length = s) (h : w.ownsRow B e s v Q.length (Q.flatMap cell)) (ho : ∀ q ∈ Q, ∀ x ∈ cell q, x.oneCell' = true) (i : Nat) (hi : i ≤ Q.length) :
 ∃ u1 u2, (∀ w', (Instr.slice T v none (some (.int .i64 (i : Int))) none).run P w' = .ok u1 w') ∧ (∀ w', (Instr.slice T v (some (.int .i64 (i : Int))) none none).run P w' = .ok u2 w') ∧
   (∀ w', Below w.heap.size w w' → SliceOf w' s u1 i ((Q.take i).flatMap cell)) ∧ (∀ w', Below w.heap.size w w' → SliceOf w' s u2 (Q.length - i) ((Q.drop i).flatMap cell)) := by
 have hone : ∀ (L : List α), (∀ q ∈ L, q ∈ Q) → ∀ x ∈ L.flatMap cell, x.oneCell' = true := fun L hL x hx => by
  obtain ⟨q, hq, hx⟩ := List.mem_flatMap.1 hx
  exact ho q (hL q hq) x hx
 have hel : P.elem T = e := by simp [Program.elem, hT]
 have hT' : P.underlying T = some (.slice (P.elem T)) := by rw [hel]; exact hT
 rcases h.2 with ⟨rfl, h0⟩ | ⟨g, cap, cur, rfl, hb, hg, hn, hm, hs, ht⟩
 · obtain rfl : i = 0 := by omega
   rw [List.length_eq_zero_iff] at h0
   subst h0
   refine ⟨.slice none 0 0, .slice none 0 0, fun w' => ?_, fun w' => ?_, fun w' _ => ⟨none, 0, rfl, by simp, by simp, .inl rfl⟩, fun w' _ => ⟨none, 0, rfl, by simp, by simp, .inl rfl⟩⟩
   · rw [run_slice_h w' T none 0 0 hT' .i64 _ (by omega) (by omega), hel, hz]; simp [Result.andThen, sliced]
   · rw [run_slice_l w' T none 0 0 hT' .i64 _ (by omega) (by omega), hel, hz]; simp [Result.andThen, sliced]
 · have hic : (i : Int) ≤ (cap : Int) := by omega
   have hiq : (i : Int) ≤ (Q.length : Int) := by omega
   refine ⟨.slice (some ⟨g, 0, none⟩) i cap, .slice (if cap = i then some ⟨g, 0, none⟩ else some ⟨g, i * s, none⟩) (Q.length - i) (cap - i), fun w' => ?_, fun w' => ?_, fun w' hw => ?_, fun w' hw => ?_⟩
   · rw [run_slice_h w' T (some ⟨g, 0, none⟩) Q.length cap hT' .i64 (i : Int) (by omega) hic, hel, hz]
     simp [Result.andThen, sliced, add_lit]
   · rw [run_slice_l w' T (some ⟨g, 0, none⟩) Q.length cap hT' .i64 (i : Int) (by omega) hiq, hel, hz]
     simp [Result.andThen, sliced, add_lit]
   · refine ⟨_, _, rfl, by rw [gflat_len hc, List.length_take, Nat.min_eq_left hi], hone _ (fun q hq => List.mem_of_mem_take hq), .inr ⟨_, rfl, fun j x hj => ?_⟩⟩
     have hc' := h.cells (g := g) rfl j x (by
      have e : Q.flatMap cell = (Q.take i).flatMap cell ++ (Q.drop i).flatMap cell := by rw [← List.flatMap_append, List.take_append_drop]
      rw [e, List.getElem?_append_left (List.getElem?_eq_some_iff.1 hj).1]
      exact hj)
     rw [add_lit] at hc' ⊢
     rw [hw.cell (p := ⟨g, 0 + j, none⟩) (Array.getElem?_eq_some_iff.1 hg).1]
     exact hc'
   · by_cases hci : cap = i
     · rw [if_pos hci]
       refine ⟨_, _, rfl, by rw [gflat_len hc, List.length_drop], hone _ (fun q hq => List.mem_of_mem_drop hq), .inl (by omega)⟩
     · rw [if_neg hci]
       refine ⟨_, _, rfl, by rw [gflat_len hc, List.length_drop], hone _ (fun q hq => List.mem_of_mem_drop hq), .inr ⟨_, rfl, fun j x hj => ?_⟩⟩
       have hc' := h.cells (g := g) rfl (i * s + j) x (by
        have e : Q.flatMap cell = (Q.take i).flatMap cell ++ (Q.drop i).flatMap cell := by rw [← List.flatMap_append, List.take_append_drop]
        have el : ((Q.take i).flatMap cell).length = i * s := by rw [gflat_len hc, List.length_take, Nat.min_eq_left hi]
        rw [e, List.getElem?_append_right (by omega), el, Nat.add_sub_cancel_left]
        exact hj)
       rw [add_lit] at hc' ⊢
       rw [hw.cell (p := ⟨g, i * s + j, none⟩) (Array.getElem?_eq_some_iff.1 hg).1]
       rw [Nat.zero_add] at hc'
       exact hc'
end
theorem own_setIn {w : World} {base n size g idx : Nat} {e : TypeId} {v : Value} {xs : List Value} (h : w.ownsRow base e size v n xs) (hg : v.ownBlock = some g) (_hi : idx < n * size) (u : Value) : (w.setCell ⟨g, idx, none⟩ u).ownsRow base e size v n (xs.set idx u) := by
 refine ⟨by rw [List.length_set]; exact h.1, ?_⟩
 rcases h.2 with ⟨rfl, h0⟩ | ⟨g', cap, cur, rfl, hb, hg', hn, hm, hs, ht⟩
 · cases hg
 · injection hg with hg
   have hg : g' = g := hg
   subst hg
   refine .inr ⟨g', cap, cur.setIfInBounds idx u, rfl, hb, ?_, hn, hm, by simpa using hs, ?_⟩
   · simp [World.setCell, Array.getElem?_modify, hg']
   · rw [Array.toList_setIfInBounds, List.take_set, ht]
theorem own_keep {w w' : World} {base size n : Nat} {e : TypeId} {v : Value} {xs : List Value} (h : w.ownsRow base e size v n xs) (hk : ∀ g, v.ownBlock = some g → w'.heap[g]? = w.heap[g]?) : w'.ownsRow base e size v n xs := by
 rcases h.2 with ⟨rfl, h0⟩ | ⟨g, cap, cur, rfl, hb, hg, hn, hm, hs, ht⟩
 · exact ⟨h.1, .inl ⟨rfl, h0⟩⟩
 · exact ⟨h.1, .inr ⟨g, cap, cur, rfl, hb, (hk g rfl).trans hg, hn, hm, hs, ht⟩⟩
theorem own_type {w : World} {base size n g : Nat} {e : TypeId} {v : Value} {xs : List Value} (h : w.ownsRow base e size v n xs) (hg : v.ownBlock = some g) : base ≤ g ∧ ∃ cur, w.heap[g]? = some (.cells cur e (0, 0)) ∧ n * size ≤ cur.size ∧ cur.toList.take (n * size) = xs := by
 rcases h.2 with ⟨rfl, h0⟩ | ⟨g', cap, cur, rfl, hb, hg', hn, hm, hs, ht⟩
 · cases hg
 · injection hg with hg
   have hg : g' = g := hg
   subst hg
   exact ⟨hb, cur, hg', by rw [hs]; exact Nat.mul_le_mul_right _ hn, ht⟩

def NoStr (w : World) (v : Value) : Prop := ∀ g cs T fr, v.ownBlock = some g → w.heap[g]? = some (.cells cs T fr) → ∀ (i : Nat) s, cs[i]? ≠ some (Value.string s)
theorem NoStr.nil (w : World) : NoStr w (.slice none 0 0) := fun _ _ _ _ h => by cases h
theorem NoStr.same {w w' : World} {v : Value} (h : NoStr w v) (hk : ∀ g, v.ownBlock = some g → w'.heap[g]? = w.heap[g]?) : NoStr w' v := fun g cs T fr hg hc => h g cs T fr hg ((hk g hg).symm.trans hc)

structure RTurn (B : Nat) (w w' : World) : Prop where
 low : Below B w w'
 maps : ∀ (k : Nat) es c, w.heap[k]? = some (Obj.map es c) → w'.heap[k]? = w.heap[k]?
 cells : ∀ (k : Nat) (cs : Array Value) (T : TypeId) (fr : Nat × Nat), w.heap[k]? = some (.cells cs T fr) → T ≠ 73 → T ≠ 98 → T ≠ 35 → w'.heap[k]? = w.heap[k]?
 strs : ∀ (p : Addr) s, w.cell? p = some (.string s) → w'.cell? p = some (.string s)
 tms : ∀ b o s n, w.cell? ⟨b, o, none⟩ = some (.string s) → w.cell? ⟨b, o + 1, none⟩ = some (.int .i64 n) → w'.cell? ⟨b, o + 1, none⟩ = some (.int .i64 n)

theorem cell_lt {w : World} {p : Addr} {v : Value} (h : w.cell? p = some v) : p.block < w.heap.size := by
 unfold World.cell? at h
 cases ho : w.heap[p.block]? with
 | none => rw [ho] at h; cases h
 | some o => exact (Array.getElem?_eq_some_iff.1 ho).1
section
variable {B : Nat} {w w' w'' : World}
theorem RTurn.of_below (h : Below w.heap.size w w') (hB : B ≤ w.heap.size) : RTurn B w w' :=
 ⟨h.mono hB, fun k _ _ e => h.block k (Array.getElem?_eq_some_iff.1 e).1, fun k _ _ _ e _ _ _ => h.block k (Array.getElem?_eq_some_iff.1 e).1, fun _ _ hp => (h.cell (cell_lt hp)).trans hp, fun _ _ _ _ _ hn => (h.cell (cell_lt hn)).trans hn⟩
theorem RTurn.refl (hB : B ≤ w.heap.size) : RTurn B w w := .of_below (Below.refl _ _) hB
theorem RTurn.trans (h : RTurn B w w') (k : RTurn B w' w'') : RTurn B w w'' :=
 ⟨h.low.trans k.low, fun i es c e => (k.maps i es c ((h.maps i es c e).trans e)).trans (h.maps i es c e),
  fun i cs T fr e a b c => (k.cells i cs T fr ((h.cells i cs T fr e a b c).trans e) a b c).trans (h.cells i cs T fr e a b c), fun p s hp => k.strs p s (h.strs p s hp),
  fun b o s n hs hn => k.tms b o s n (h.strs _ s hs) (h.tms b o s n hs hn)⟩
theorem RTurn.store {g i : Nat} {cs : Array Value} {T : TypeId} (hg : w.heap[g]? = some (.cells cs T (0, 0))) (hB : B ≤ g) (hT : T = 73 ∨ T = 98 ∨ T = 35)
 (h1 : ∀ s, cs[i]? ≠ some (Value.string s)) (h2 : ∀ o s n, o + 1 = i → cs[o]? = some (Value.string s) → cs[i]? ≠ some (.int .i64 n)) (u : Value) : RTurn B w (w.setCell ⟨g, i, none⟩ u) := by
 have hcell : ∀ j, w.cell? ⟨g, j, none⟩ = cs[j]? := fun j => by simp [World.cell?, hg]
 have hblk : ∀ k, k ≠ g → (w.setCell ⟨g, i, none⟩ u).heap[k]? = w.heap[k]? := fun k hk => Below.heap_setCell _ _ _ k hk
 refine ⟨(Below.refl B w).setCell (p := ⟨g, i, none⟩) hB u, fun k es c e => hblk k (fun q => by subst q; rw [hg] at e; cases e), fun k cs' T' fr e a b c => hblk k (fun q => ?_), fun p s hp => ?_, fun b o s n hs hn => ?_⟩
 · subst q
   rw [hg] at e
   injection e with e
   injection e with _ e _
   subst e
   rcases hT with rfl | rfl | rfl
   · exact a rfl
   · exact b rfl
   · exact c rfl
 · rw [World.cell?_setCell_other w ⟨g, i, none⟩ p u (fun q => ?_)]
   · exact hp
   · subst q
     rw [hcell] at hp
     exact h1 s hp
 · rw [World.cell?_setCell_other w ⟨g, i, none⟩ ⟨b, o + 1, none⟩ u (fun q => ?_)]
   · exact hn
   · injection q with q1 q2
     subst q1
     rw [hcell] at hs hn
     exact h2 o s n q2.symm hs (q2 ▸ hn)
theorem Strs.rturn {v : Value} {L : List Str} (h : Strs w v L) (k : RTurn B w w') : Strs w' v L := by
 obtain ⟨ao, cap, b, off, rfl, h0, h1, h2, h3⟩ := h
 exact ⟨ao, cap, b, off, rfl, h0, h1, h2, fun i hi => ⟨Nat.lt_of_lt_of_le (h3 i hi).1 k.low.size, k.strs _ _ (h3 i hi).2⟩⟩
theorem Tms.rturn {v : Value} {L : List Tmd} (h : Tms w v L) (k : RTurn B w w') : Tms w' v L := by
 obtain ⟨ao, cap, b, off, rfl, h0, h1, h2, h3⟩ := h
 exact ⟨ao, cap, b, off, rfl, h0, h1, h2, fun i hi => ⟨Nat.lt_of_lt_of_le (h3 i hi).1 k.low.size, k.strs _ _ (h3 i hi).2.1, k.tms _ _ _ _ (h3 i hi).2.1 (h3 i hi).2.2⟩⟩
theorem Tb.rturn {p b o n m : Nat} {room M L : Int} {F : Tst} {O : Int → Option Int} (h : Tb w p b o n m room M L F O) (k : RTurn B w w') : Tb w' p b o n m room M L F O := by
 obtain ⟨V, hV, hH⟩ := h.states
 obtain ⟨U, hU, hO⟩ := h.overs
 obtain ⟨es, c, e⟩ := hV.map_is
 obtain ⟨es', c', e'⟩ := hU.map_is
 refine ⟨(k.cells _ _ _ _ h.box (by decide) (by decide) (by decide)).trans h.box, ⟨V, hV.same (k.maps _ _ _ e), fun x => ?_⟩, ⟨U, hU.same (k.maps _ _ _ e'), hO⟩, h.ne⟩
 have := hH x
 cases hF : F x
 · rw [hF] at this; exact this
 · rw [hF] at this
   obtain ⟨v, q, hT, hw⟩ := this
   exact ⟨v, q, hT.rturn k, hw⟩
end

abbrev QRow18 := RowT × Value
def rcell (q : QRow18) : List Value := [.int .i64 q.1.1.1, .string (bstr q.1.1.2.1), .int .i64 q.1.1.2.2, .bool q.1.2.1, .int .i64 q.1.2.2.1, q.2]
def scell (q : Int × Int) : List Value := [.int .i64 q.1, .int .i64 q.2]
theorem rcell_len (q : QRow18) : (rcell q).length = 6 := rfl
theorem scell_len (q : Int × Int) : (scell q).length = 2 := rfl
def okQ (w : World) (q : QRow18) : Prop := Tms w q.2 q.1.2.2.2 ∧ okT q.1.1 ∧ (Lit.int .i64 q.1.2.2.1).wf = true
theorem okQ.keep {w w' : World} {q : QRow18} (h : okQ w q) (hk : CKeep w w') : okQ w' q := ⟨hk.tms h.1, h.2⟩
theorem okQ.rturn {B : Nat} {w w' : World} {q : QRow18} (h : okQ w q) (hk : RTurn B w w') : okQ w' q := ⟨h.1.rturn hk, h.2⟩
theorem okQ.one {w : World} {q : QRow18} (h : okQ w q) : ∀ x ∈ rcell q, x.oneCell' = true := fun x hx => by
 obtain ⟨ao, c, e⟩ := h.1.shape
 simp [rcell] at hx
 rcases hx with rfl | rfl | rfl | rfl | rfl | rfl
 · rfl
 · rfl
 · rfl
 · rfl
 · rfl
 · rw [e]; rfl
def Kt (w : World) (B q : Nat) (room M L : Int) (Q : List QRow18) (S : List (Int × Int)) : Prop :=
 ∃ v u, CBox w q 35 #[.int .i64 room, .int .i64 M, .int .i64 L, v, u] ∧ B ≤ q ∧ w.ownsRow B 73 6 v Q.length (Q.flatMap rcell) ∧ (∀ x ∈ Q, okQ w x) ∧ w.ownsRow B 98 2 u S.length (S.flatMap scell) ∧ NoStr w u
theorem Kt.keep {w w' : World} {B q : Nat} {room M L : Int} {Q : List QRow18} {S : List (Int × Int)} (h : Kt w B q room M L Q S) (hk : CKeep w w') : Kt w' B q room M L Q S := by
 obtain ⟨v, u, h1, h2, h3, h4, h5, h6⟩ := h
 have k5 : ∀ g, u.ownBlock = some g → w'.heap[g]? = w.heap[g]? := fun g hg => by
  obtain ⟨_, cur, e, _⟩ := own_type h5 hg
  exact (hk.2 _ _ _ _ e).trans e.symm
 refine ⟨v, u, hk.box h1, h2, own_keep h3 (fun g hg => ?_), fun x hx => (h4 x hx).keep hk, own_keep h5 k5, h6.same k5⟩
 obtain ⟨_, cur, e, _⟩ := own_type h3 hg
 exact (hk.2 _ _ _ _ e).trans e.symm
theorem Kt.below {w w' : World} {B q : Nat} {room M L : Int} {Q : List QRow18} {S : List (Int × Int)} (h : Kt w B q room M L Q S) (hb : Below w.heap.size w w') : Kt w' B q room M L Q S := h.keep (CKeep.of_below hb)
theorem Kt.lt {w : World} {B q : Nat} {room M L : Int} {Q : List QRow18} {S : List (Int × Int)} (h : Kt w B q room M L Q S) : q < w.heap.size ∧ B ≤ q ∧ B ≤ w.heap.size := by
 obtain ⟨v, u, h1, h2, _⟩ := h
 have := h1.lt
 exact ⟨this, h2, by omega⟩
theorem rfacts {w : World} {B : Nat} {v : Value} {Q : List QRow18} (h : w.ownsRow B 73 6 v Q.length (Q.flatMap rcell)) :
 ∃ g, (∀ ty w', (Builtin.len_ #[32] ty #[v]).run Tryz.prog w' = .ok (.int .i64 Q.length) w') ∧
   (∀ k, k < Q.length → ∀ w', (Instr.indexAt 32 v (.int .i64 k)).run Tryz.prog w' = .ok (.pointer (some ⟨g, k * 6, none⟩)) w') ∧
   (∀ k, (hk : k < Q.length) → w.cell? ⟨g, k * 6, none⟩ = some (.int .i64 Q[k].1.1.1) ∧ w.cell? ⟨g, k * 6 + 1, none⟩ = some (.string (bstr Q[k].1.1.2.1)) ∧ w.cell? ⟨g, k * 6 + 2, none⟩ = some (.int .i64 Q[k].1.1.2.2) ∧ w.cell? ⟨g, k * 6 + 3, none⟩ = some (.bool Q[k].1.2.1) ∧ w.cell? ⟨g, k * 6 + 4, none⟩ = some (.int .i64 Q[k].1.2.2.1) ∧ w.cell? ⟨g, k * 6 + 5, none⟩ = some Q[k].2) ∧
   (∀ k, k < Q.length → B ≤ g ∧ g < w.heap.size ∧ v.ownBlock = some g ∧ w.frozen? ⟨g, k * 6 + 3, none⟩ = false ∧ w.frozen? ⟨g, k * 6 + 4, none⟩ = false ∧ w.frozen? ⟨g, k * 6 + 5, none⟩ = false) := by
 obtain ⟨g, h1, h2, h3⟩ := gfacts Tryz.underlying32 (fun w => by kernel_rfl) rcell_len h
 refine ⟨g, h1, h2, fun k hk => ?_, fun k hk => ?_⟩
 · obtain ⟨_, _, _, hj⟩ := h3 k hk
   have e : Q.getD k default = Q[k] := by simp [List.getD_eq_getElem?_getD, hk]
   rw [e] at hj
   exact ⟨(hj 0 (by decide)).1, (hj 1 (by decide)).1, (hj 2 (by decide)).1, (hj 3 (by decide)).1, (hj 4 (by decide)).1, (hj 5 (by decide)).1⟩
 · obtain ⟨a, b, c, hj⟩ := h3 k hk
   exact ⟨a, b, c, (hj 3 (by decide)).2, (hj 4 (by decide)).2, (hj 5 (by decide)).2⟩
theorem sfacts {w : World} {B : Nat} {v : Value} {S : List (Int × Int)} (h : w.ownsRow B 98 2 v S.length (S.flatMap scell)) :
 ∃ g, (∀ ty w', (Builtin.len_ #[33] ty #[v]).run Tryz.prog w' = .ok (.int .i64 S.length) w') ∧
   (∀ k, k < S.length → ∀ w', (Instr.indexAt 33 v (.int .i64 k)).run Tryz.prog w' = .ok (.pointer (some ⟨g, k * 2, none⟩)) w') ∧
   (∀ k, (hk : k < S.length) → w.cell? ⟨g, k * 2, none⟩ = some (.int .i64 S[k].1) ∧ w.cell? ⟨g, k * 2 + 1, none⟩ = some (.int .i64 S[k].2)) ∧
   (∀ k, k < S.length → B ≤ g ∧ g < w.heap.size ∧ v.ownBlock = some g ∧ w.frozen? ⟨g, k * 2 + 1, none⟩ = false) := by
 obtain ⟨g, h1, h2, h3⟩ := gfacts Tryz.underlying33 (fun w => by kernel_rfl) scell_len h
 refine ⟨g, h1, h2, fun k hk => ?_, fun k hk => ?_⟩
 · obtain ⟨_, _, _, hj⟩ := h3 k hk
   have e : S.getD k default = S[k] := by simp [List.getD_eq_getElem?_getD, hk]
   rw [e] at hj
   exact ⟨(hj 0 (by decide)).1, (hj 1 (by decide)).1⟩
 · obtain ⟨a, b, c, hj⟩ := h3 k hk
   exact ⟨a, b, c, (hj 1 (by decide)).2⟩

def timeT (now : Int) : Bool := decide (1 ≤ now) && decide (now ≤ 1099511627776)
theorem rtime_any (now : Int) (w : World) : Calls Tryz.prog 34 #[.int .i64 now] w fun e w' => e = .returned (.bool (timeT now)) ∧ w' = w := by
 unfold timeT
 cases h1 : decide (1 ≤ now) <;> cases h2 : decide (now ≤ 1099511627776)
 all_goals
  go_enter Tryz.func34, Tryz.ntmps34
  go_wp2
  go_ret
  exact ⟨rfl, rfl⟩

def FoundT (R : List RowT) (k : TK) (a : Int) : Prop := (a = -1 ∧ ∀ i, (h : i < R.length) → R[i].1 ≠ k) ∨ ∃ i : Nat, ∃ _ : i < R.length, R[i].1 = k ∧ a = i
def RetFind (w : World) (R : List RowT) (k : TK) (e : Ending) (w' : World) : Prop := ∃ a, e = .returned (.int .i64 a) ∧ FoundT R k a ∧ w' = w

set_option maxHeartbeats 4000000 in
theorem rfind_any (B q : Nat) (room M L v port : Int) (g : Str) (Q : List QRow18) (S : List (Int × Int)) (w : World) (h : Kt w B q room M L Q S) (hQ : Q.length ≤ 1000000) :
 Calls Tryz.prog 36 #[.pointer (some ⟨q, 0, none⟩), .int .i64 v, .string (bstr g), .int .i64 port] w (RetFind w (Q.map Prod.fst) (v, g, port)) := by
 have hbt := bstr_toList
 obtain ⟨v0, u0, hbox, hB, hrows, hok, hov⟩ := h
 obtain ⟨gb, hlen, hidx, hc, _⟩ := rfacts hrows
 obtain ⟨x3, _⟩ := hbox.at_ 3 _ rfl
 have HC := Lib.hid hc; have HIX := Lib.hid hidx
 clear hbox hrows hok hov hidx hc
 go_enter Tryz.func36, Tryz.ntmps36
 go_wp2
 go_loop [9] (fun i => ∃ j : Nat, j ≤ Q.length ∧ i = .int .i64 j ∧ ∀ m, (hm : m < Q.length) → m < j → Q[m].1.1 ≠ (v, g, port)) (fun i => Q.length - (intOf i).toNat)
 case atStart => exact ⟨0, Nat.zero_le _, rfl, fun m hm hj => absurd hj (by omega)⟩
 case round =>
  obtain ⟨j, hj, rfl, hno⟩ := hrel
  have HNO := Lib.hid hno
  clear hno
  by_cases hlt : j < Q.length
  · obtain ⟨c0, c1, c2, _, _, _⟩ := HC.out j hlt
    have hp := HIX.out j hlt
    obtain ⟨⟨⟨⟨rv, rg, rp⟩, rs⟩, ru⟩, hst⟩ : ∃ x : QRow18, x = Q[j] := ⟨_, rfl⟩
    rw [← hst] at c0 c1 c2
    dsimp only at c0 c1 c2
    have HST := Lib.hid (show Q[j].1.1 = (rv, rg, rp) from by rw [← hst])
    have HE := Lib.hid (show ((rv, rg, rp) : TK) = (v, g, port) ↔ ((rv == v) && (rg == g) && (rp == port)) = true from by simp [and_assoc])
    clear hst
    cases q1 : (rv == v)
    · rw [q1] at HE
      go_wp2_with fail
      go_round
      case rel =>
       refine ⟨j + 1, by omega, by go_num, fun m hm hmj => ?_⟩
       rcases Nat.lt_or_ge m j with hh | hh
       · exact HNO.out m hm hh
       · obtain rfl : m = j := by omega
         rw [HST.out]
         exact fun hk => absurd (HE.out.1 hk) (by simp)
      case measure => simp [intOf]; omega
    cases q2 : (rg == g)
    · rw [q1, q2] at HE
      go_wp2_with fail
      go_round
      case rel =>
       refine ⟨j + 1, by omega, by go_num, fun m hm hmj => ?_⟩
       rcases Nat.lt_or_ge m j with hh | hh
       · exact HNO.out m hm hh
       · obtain rfl : m = j := by omega
         rw [HST.out]
         exact fun hk => absurd (HE.out.1 hk) (by simp)
      case measure => simp [intOf]; omega
    cases q3 : (rp == port)
    · rw [q1, q2, q3] at HE
      go_wp2_with fail
      go_round
      case rel =>
       refine ⟨j + 1, by omega, by go_num, fun m hm hmj => ?_⟩
       rcases Nat.lt_or_ge m j with hh | hh
       · exact HNO.out m hm hh
       · obtain rfl : m = j := by omega
         rw [HST.out]
         exact fun hk => absurd (HE.out.1 hk) (by simp)
      case measure => simp [intOf]; omega
    · rw [q1, q2, q3] at HE
      go_wp2_with fail
      go_ret
      exact ⟨j, rfl, .inr ⟨j, by simpa using hlt, by rw [List.getElem_map]; exact HST.out.trans (HE.out.2 rfl), rfl⟩, rfl⟩
  · obtain rfl : j = Q.length := by omega
    go_wp2_with fail
    go_ret
    exact ⟨-1, rfl, .inl ⟨rfl, fun i hi => by rw [List.getElem_map]; exact HNO.out i (by simpa using hi) (by simpa using hi)⟩, rfl⟩

set_option maxHeartbeats 4000000 in
theorem ahead_any (x y : QRow18) (w : World) : Calls Tryz.prog 67 #[.agg (rcell x).toArray, .agg (rcell y).toArray] w fun e w' => e = .returned (.bool (tlt x.1.1 y.1.1)) ∧ Below w.heap.size w w' := by
 obtain ⟨⟨⟨xv, xg, xp⟩, xe, xa, xl⟩, xu⟩ := x
 obtain ⟨⟨⟨yv, yg, yp⟩, ye, ya, yl⟩, yu⟩ := y
 show Calls _ _ #[.agg #[.int .i64 xv, .string (bstr xg), .int .i64 xp, .bool xe, .int .i64 xa, xu], .agg #[.int .i64 yv, .string (bstr yg), .int .i64 yp, .bool ye, .int .i64 ya, yu]] w _
 obtain ⟨W1, hW1⟩ : ∃ W1, w.alloc (.cells #[.int .i64 xv, .string (bstr xg), .int .i64 xp, .bool xe, .int .i64 xa, xu] 73) = W1 := ⟨_, rfl⟩
 obtain ⟨W2, hW2⟩ : ∃ W2, W1.alloc (.cells #[.int .i64 yv, .string (bstr yg), .int .i64 yp, .bool ye, .int .i64 ya, yu] 73) = W2 := ⟨_, rfl⟩
 have hs1 : W1.heap.size = w.heap.size + 1 := by rw [← hW1, World.size_alloc]
 have k1 : Below w.heap.size w W1 := by rw [← hW1]; exact (Below.refl _ w).alloc (Nat.le_refl _) _
 have k2 : Below W1.heap.size W1 W2 := by rw [← hW2]; exact (Below.refl _ W1).alloc (Nat.le_refl _) _
 have HB := Lib.hid (k1.trans (k2.mono k1.size))
 have X1 := (show CBox W1 w.heap.size 73 _ from by rw [← hW1]; exact CBox.new _ rfl).below k2 (by omega)
 have X2 := (show CBox W2 (w.heap.size + 1) 73 _ from by rw [← hW2]; exact CBox.new _ hs1.symm)
 have HX1 := Lib.hid X1; have HX2 := Lib.hid X2; have HW1 := Lib.hid hW1; have HW2 := Lib.hid hW2
 have hbt := bstr_toList
 have hbl : Op.bytesLess xg yg = decide (xg < yg) := Go.Proofs.bytesLess_eq xg yg
 clear hW1 hW2 hs1 k1 k2 X1 X2
 unfold tlt
 dsimp only
 by_cases h1 : xv = yv
 · subst h1
   rw [if_pos rfl]
   by_cases h2 : xg = yg
   · subst h2
     rw [if_pos rfl]
     have q1 : (xv == xv) = true := by simp
     have q2 : (xg == xg) = true := by simp
     go_enter Tryz.func67, Tryz.ntmps67
     go_upto_region 1 with fail
     rw [HW1.out, HW2.out]
     obtain ⟨x0, xf0⟩ := HX1.out.at_ 0 _ rfl; obtain ⟨x1, xf1⟩ := HX1.out.at_ 1 _ rfl; obtain ⟨x2, xf2⟩ := HX1.out.at_ 2 _ rfl
     obtain ⟨y0, yf0⟩ := HX2.out.at_ 0 _ rfl; obtain ⟨y1, yf1⟩ := HX2.out.at_ 1 _ rfl; obtain ⟨y2, yf2⟩ := HX2.out.at_ 2 _ rfl
     go_wp2_with fail
     go_ret
     exact ⟨rfl, HB.out⟩
   · rw [if_neg h2]
     have q1 : (xv == xv) = true := by simp
     have q2 : (xg == yg) = false := by simpa using h2
     go_enter Tryz.func67, Tryz.ntmps67
     go_upto_region 1 with fail
     rw [HW1.out, HW2.out]
     obtain ⟨x0, xf0⟩ := HX1.out.at_ 0 _ rfl; obtain ⟨x1, xf1⟩ := HX1.out.at_ 1 _ rfl; obtain ⟨x2, xf2⟩ := HX1.out.at_ 2 _ rfl
     obtain ⟨y0, yf0⟩ := HX2.out.at_ 0 _ rfl; obtain ⟨y1, yf1⟩ := HX2.out.at_ 1 _ rfl; obtain ⟨y2, yf2⟩ := HX2.out.at_ 2 _ rfl
     go_wp2_with fail
     go_ret
     exact ⟨rfl, HB.out⟩
 · rw [if_neg h1]
   have q1 : (xv == yv) = false := by simpa using h1
   go_enter Tryz.func67, Tryz.ntmps67
   go_upto_region 1 with fail
   rw [HW1.out, HW2.out]
   obtain ⟨x0, xf0⟩ := HX1.out.at_ 0 _ rfl; obtain ⟨x1, xf1⟩ := HX1.out.at_ 1 _ rfl; obtain ⟨x2, xf2⟩ := HX1.out.at_ 2 _ rfl
   obtain ⟨y0, yf0⟩ := HX2.out.at_ 0 _ rfl; obtain ⟨y1, yf1⟩ := HX2.out.at_ 1 _ rfl; obtain ⟨y2, yf2⟩ := HX2.out.at_ 2 _ rfl
   go_wp2_with fail
   go_ret
   exact ⟨rfl, HB.out⟩
end Go.Proofs.YtpibmjkbebkilaaGreat
