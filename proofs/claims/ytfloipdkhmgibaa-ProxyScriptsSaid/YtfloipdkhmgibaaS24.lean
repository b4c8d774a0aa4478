/- Texts joined into one file: PLead, PRel, PKx. -/
import Derived.Test.YtfloipdkhmgibaaS23

/- What the records of a proxy lead to: the plain part; filters that came in; Tell of one group. -/
namespace Go.Proofs.Ytfloipdkhmgibaa
open Go.RowKit Go.Lib Go.Maps Go.Sort
set_option maxRecDepth 20000
set_option maxRecDepth 20000

theorem FBox.set2 {w : World} {b : Nat} {ex : Bool} {v : Value} (h : FBox w b ex v) (e : Bool) (u : Value) : FBox ((w.setCell ⟨b, 0, none⟩ (.bool e)).setCell ⟨b, 1, none⟩ u) b e u := by
  have h' : w.heap[b]? = some (.cells #[.bool ex, v] 28 (0, 0)) := h
  unfold FBox
  simp [World.setCell, Array.getElem?_modify, h']

theorem aft_len {e E' : Bool} {L L' S : List Str} {k : Int} (hk : kindOk k) (hp : L'.Pairwise (· < ·)) (hE : E' = aftE k e) (hx : ∀ x, adm E' L' x = aftB k (adm e L x) (S.contains x)) : L'.length ≤ L.length + S.length := by
  have key : L' = (sasc (L ++ S)).filter (fun x => L'.contains x) := by
    refine srising_ext hp ((sasc_rising _).filter _) (fun x => ?_)
    rw [List.mem_filter, sasc_mem, List.contains_iff_mem]
    refine ⟨fun h => ⟨?_, h⟩, fun h => h.2⟩
    by_cases hm : x ∈ L ++ S
    · exact hm
    · exfalso
      rw [List.mem_append] at hm
      have h1 := hx x
      have hc : S.contains x = false := by
        cases hh : S.contains x
        · rfl
        · exact absurd (List.contains_iff_mem.1 hh) (fun k => hm (.inr k))
      rw [adm_mem h, adm_not (fun k => hm (.inl k)), hc, hE] at h1
      rcases hk with rfl | rfl | rfl | rfl <;> cases e <;> simp [aftE, aftB] at h1
  rw [key, ← List.length_append]
  exact Nat.le_trans (List.length_filter_le _ _) (sasc_length _)

theorem pdiff_len (g : Str) (e : Bool) (A : List Str) (d : Bool) (B : List Str) : ∀ r ∈ pdiff g e A d B, r.2.2.length ≤ A.length + B.length := by
  intro r hr
  have h1 : ∀ k p, ∀ r ∈ rec1 k g (sasc ((A ++ B).filter p)), r.2.2.length ≤ A.length + B.length := by
    intro k p r hr
    unfold rec1 at hr
    split at hr
    · simp at hr
    · rw [List.mem_singleton] at hr; subst hr
      rw [← List.length_append]; exact sasc_flen _ _
  unfold pdiff at hr
  split at hr
  · rcases List.mem_append.1 hr with hr | hr
    · exact h1 _ _ r hr
    · exact h1 _ _ r hr
  · rw [List.mem_singleton] at hr; subst hr
    have := sasc_length B
    show (sasc B).length ≤ _
    omega

theorem foldE_snoc (e : Bool) (R : List Rec) (k : Nat) (hk : k < R.length) : foldE e (R.take (k + 1)) = aftE (R.getD k default).1 (foldE e (R.take k)) := by
  rw [take_snoc R k hk, foldE_append]
  simp [foldE, List.getD_eq_getElem?_getD, hk]
theorem foldB_snoc (x : Str) (a : Bool) (R : List Rec) (k : Nat) (hk : k < R.length) : foldB x a (R.take (k + 1)) = aftB (R.getD k default).1 (foldB x a (R.take k)) ((R.getD k default).2.2.contains x) := by
  rw [take_snoc R k hk, foldB_append]
  simp [foldB, List.getD_eq_getElem?_getD, hk]

set_option maxHeartbeats 16000000 in

/-- v is a slice of filters that read as R -/
def Fils (w : World) (v : Value) (R : List (Bool × List Str)) : Prop :=
  ∃ ao cap b off, ∃ src : Nat → Value, v = .slice ao R.length cap ∧ (R = [] ∨ ao = some ⟨b, off, none⟩) ∧ R.length ≤ 4398046511104 ∧
    (∀ k, k < R.length → b < w.heap.size ∧ w.cell? ⟨b, off + k * 2, none⟩ = some (.bool (R.getD k default).1) ∧ w.cell? ⟨b, off + k * 2 + 1, none⟩ = some (src k) ∧ Strs w (src k) (R.getD k default).2)
theorem Fils.mono {w w' : World} {v : Value} {R : List (Bool × List Str)} (h : Fils w v R) (hb : Below w.heap.size w w') : Fils w' v R := by
  obtain ⟨ao, cap, b, off, src, rfl, h0, h1, h2⟩ := h
  refine ⟨ao, cap, b, off, src, rfl, h0, h1, fun k hk => ?_⟩
  obtain ⟨hlt, c0, c1, hs⟩ := h2 k hk
  exact ⟨Nat.lt_of_lt_of_le hlt hb.size, (hb.cell (p := ⟨b, off + k * 2, none⟩) hlt).trans c0, (hb.cell (p := ⟨b, off + k * 2 + 1, none⟩) hlt).trans c1, hs.mono hb⟩
theorem Fils.shape {w : World} {v : Value} {R : List (Bool × List Str)} (h : Fils w v R) : ∃ ao cap, v = .slice ao R.length cap := by
  obtain ⟨ao, cap, _, _, _, h, _⟩ := h
  exact ⟨ao, cap, h⟩
theorem Fils.facts {w : World} {v : Value} {R : List (Bool × List Str)} (h : Fils w v R) :
    ∃ b off, ∃ src : Nat → Value, R.length ≤ 4398046511104 ∧ (∀ ty w', (Builtin.len_ #[57] ty #[v]).run Try.prog w' = .ok (.int .i64 R.length) w') ∧
      (∀ k, k < R.length → ∀ w', (Instr.indexAt 57 v (.int .i64 k)).run Try.prog w' = .ok (.pointer (some ⟨b, off + k * 2, none⟩)) w') ∧
      (∀ k, k < R.length → b < w.heap.size ∧ w.cell? ⟨b, off + k * 2, none⟩ = some (.bool (R.getD k default).1) ∧ w.cell? ⟨b, off + k * 2 + 1, none⟩ = some (src k) ∧ Strs w (src k) (R.getD k default).2) := by
  obtain ⟨ao, cap, b, off, src, rfl, h0, h1, h2⟩ := h
  refine ⟨b, off, src, h1, fun ty w' => run_len_any Try.underlying57 ao R.length cap ty w', fun k hk w' => ?_, h2⟩
  rcases h0 with h0 | rfl
  · subst h0; exact absurd hk (by simp)
  · exact run_index_any (P := Try.prog) (s := 2) Try.underlying57 (fun w => by kernel_rfl) b off R.length cap k hk w'

/-- the one group of ProxyLeads -/
def keyL : Int × Str := (7, pOne)
def emptyF (f : Bool × List Str) : Bool := !f.1 && decide (f.2 = [])
/-- only keyL may be told -/
def GL (f : Bool × List Str) : Told := if emptyF f then fun _ => none else updT (fun _ => none) keyL f
theorem emptyF_eq {f : Bool × List Str} (h : emptyF f = true) : f = (false, []) := by
  obtain ⟨e, l⟩ := f
  simp [emptyF] at h
  rw [h.1, h.2]
theorem GL_old (f : Bool × List Str) : oldT (GL f) keyL = f := by
  unfold GL oldT
  cases h : emptyF f
  · simp [updT]
  · simp [emptyF_eq h]
theorem GL_small {f : Bool × List Str} (h : f.2.length ≤ 60) : SmallT (GL f) := by
  unfold GL
  cases emptyF f
  · exact SmallT.upd (fun _ _ e => by cases e) _ _ h
  · exact fun _ _ e => by cases e
theorem GL_del {f g : Bool × List Str} (h : emptyF g = true) : delT (GL f) keyL = GL g := by
  unfold GL
  rw [h]
  funext x
  cases emptyF f <;> simp [delT, updT]
theorem GL_upd {f g : Bool × List Str} (h : emptyF g = false) : updT (GL f) keyL g = GL g := by
  unfold GL
  rw [h]
  funext x
  by_cases hx : x = keyL <;> cases emptyF f <;> simp [updT, hx]
theorem GL_none {f : Bool × List Str} (h : (GL f keyL).isSome = false) {L : List (Int × Str)} (hL : TKeys (GL f) L) : L = [] := by
  unfold GL at h hL
  cases he : emptyF f
  · rw [he] at h; simp [updT] at h
  · rw [he] at hL; exact TKeys.none hL
theorem GL_keys {f : Bool × List Str} {K : List (Int × Str)} (h : OfK (GL f) 7 K) : K = if emptyF f then [] else [keyL] := by
  unfold GL at h
  cases he : emptyF f
  · rw [he] at h
    exact OfK.one (k := keyL) (f := f) h
  · rw [he] at h
    exact List.eq_nil_iff_forall_not_mem.2 fun k hk => ((h.2 k).1 hk).2 rfl
theorem GL_rec (f : Bool × List Str) : recT (GL f) keyL = (if f.1 then 2 else 1, pOne, f.2) := by unfold recT; rw [GL_old]; rfl

def RetLead (p b n : Nat) (f g : Bool × List Str) (w : World) (x : Ending) (w' : World) : Prop :=
  ∃ rv, x = .returned (.tuple #[rv, .int .i64 0]) ∧ Recs w' rv (pdiff pOne f.1 f.2 g.1 g.2) ∧ Px w' p b (n + 1) 1 (GL g) ∧ CKeep w w' ∧ w.grownBy w' (some b)
theorem tell_lead (p b n : Nat) (f : Bool × List Str) (e : Bool) (u : Value) (A : List Str) (w : World) (h : Px w p b n 1 (GL f)) (hn : n < 1000000) (hv : Strs w u A) (hA : A.length ≤ 60) (hf : f.2.length ≤ 60) :
    Calls Try.prog 17 #[.pointer (some ⟨p, 0, none⟩), .int .i64 7, .string ⟨#[224, 1, 2, 3]⟩, .agg #[.bool e, u]] w (RetLead p b n f (e, sasc A) w) := by
  rw [pbOne]
  cases hE : (!e && decide (sasc A = []))
  · have hg : emptyF (e, sasc A) = false := hE
    cases hS : (GL f keyL).isSome
    · refine (tell_put2 p b n 1 7 pOne e u A (GL f) w h hn (by decide) (by decide) (by decide) hv hA (GL_small hf) hE hS (fun L hL => by rw [GL_none hS hL]; decide)).mono ?_
      rintro x w' ⟨rv, rfl, h1, h2, h3, h4⟩
      have e1 : oldT (GL f) (7, pOne) = f := GL_old f
      have e2 : updT (GL f) (7, pOne) (e, sasc A) = GL (e, sasc A) := GL_upd hg
      dsimp only at h1 h2
      rw [e1] at h1
      rw [e2] at h2
      exact ⟨rv, rfl, h1, h2, h3, h4⟩
    · refine (tell_put1 p b n 1 7 pOne e u A (GL f) w h hn (by decide) (by decide) (by decide) hv hA (GL_small hf) hE hS).mono ?_
      rintro x w' ⟨rv, rfl, h1, h2, h3, h4⟩
      have e1 : oldT (GL f) (7, pOne) = f := GL_old f
      have e2 : updT (GL f) (7, pOne) (e, sasc A) = GL (e, sasc A) := GL_upd hg
      dsimp only at h1 h2
      rw [e1] at h1
      rw [e2] at h2
      exact ⟨rv, rfl, h1, h2, h3, h4⟩
  · have hg : emptyF (e, sasc A) = true := hE
    refine (tell_del p b n 1 7 pOne e u A (GL f) w h hn (by decide) (by decide) (by decide) hv hA (GL_small hf) hE).mono ?_
    rintro x w' ⟨rv, rfl, h1, h2, h3, h4⟩
    have e1 : oldT (GL f) (7, pOne) = f := GL_old f
    have e2 : delT (GL f) (7, pOne) = GL (e, sasc A) := GL_del hg
    dsimp only at h1 h2
    rw [e1] at h1
    rw [e2] at h2
    exact ⟨rv, rfl, h1, h2, h3, h4⟩

/-- what is read as strings lies in no box of a filter -/
theorem Strs.kept_box {w w' : World} {v : Value} {L : List Str} {nb : Nat} {e : Bool} {o : Option Addr} {n c : Nat} (h : Strs w v L) (hb : CBox w nb 28 #[.bool e, .slice o n c]) (hg : w.grownBy w' (some nb)) : Strs w' v L :=
  h.grown' hg fun hL e => by
    cases hv : v.ownBlock with
    | none => rw [hv] at e; cases e
    | some c => rw [hv] at e; injection e with e; exact h.ne_box hb (ns2 _ _ _ _) hL c hv e
theorem Px.kept_box {w w' : World} {p b n nb : Nat} {room : Int} {G : Told} {e : Bool} {o : Option Addr} {m c : Nat} (h : Px w p b n room G) (hb : CBox w nb 28 #[.bool e, .slice o m c]) (hp : p ≠ nb) (hbb : b ≠ nb) (hg : w.grownBy w' (some nb)) : Px w' p b n room G := by
  obtain ⟨h1, V, h2, h3⟩ := h
  refine ⟨h1.grown hg (fun e => hp (by injection e)), V, h2.kept hg (fun e => hbb (by injection e)), fun k => ?_⟩
  have := h3 k
  cases hG : G k
  · rw [hG] at this; exact this
  · rw [hG] at this
    obtain ⟨v, e', hs⟩ := this
    exact ⟨v, e', hs.kept_box hb hg⟩
end Go.Proofs.Ytfloipdkhmgibaa

/- The rows of the reference's proxy, in plain words: sorted by VLAN and group; what they tell. -/
namespace Go.Proofs.Ytfloipdkhmgibaa
open Go.RowKit Go.Lib Go.Maps Go.Sort

abbrev RowL := (Int × Str) × (Bool × List Str)
def klt (a b : Int × Str) : Bool := decide (a.1 < b.1) || (a.1 == b.1 && decide (a.2 < b.2))
theorem klt_irrefl (a : Int × Str) : klt a a = false := by
  unfold klt
  have := slt_irrefl a.2
  simp [this]
theorem klt_iff {a b : Int × Str} : klt a b = true ↔ a.1 < b.1 ∨ (a.1 = b.1 ∧ a.2 < b.2) := by simp [klt]
theorem klt_trans {a b c : Int × Str} (h : klt a b = true) (k : klt b c = true) : klt a c = true := by
  rw [klt_iff] at *
  rcases h with h | ⟨h1, h2⟩ <;> rcases k with k | ⟨k1, k2⟩
  · exact .inl (by omega)
  · exact .inl (by omega)
  · exact .inl (by omega)
  · exact .inr ⟨by omega, slt_trans h2 k2⟩
theorem klt_or (a b : Int × Str) : klt a b = true ∨ a = b ∨ klt b a = true := by
  rw [klt_iff, klt_iff]
  rcases Int.lt_trichotomy a.1 b.1 with h | h | h
  · exact .inl (.inl h)
  · rcases slt_or a.2 b.2 with q | q | q
    · exact .inl (.inr ⟨h, q⟩)
    · exact .inr (.inl (Prod.ext h q))
    · exact .inr (.inr (.inr ⟨h.symm, q⟩))
  · exact .inr (.inr (.inl h))
theorem klt_asymm {a b : Int × Str} (h : klt a b = true) : klt b a = false := by
  cases k : klt b a
  · rfl
  · have := klt_trans h k
    rw [klt_irrefl] at this
    cases this
theorem klt_ne {a b : Int × Str} (h : klt a b = true) : a ≠ b := fun e => by subst e; rw [klt_irrefl] at h; cases h

def SortedL (R : List RowL) : Prop := R.Pairwise fun x y => klt x.1 y.1 = true
def RelG (G : Told) (R : List RowL) : Prop := SortedL R ∧ ∀ k f, G k = some f ↔ (k, f) ∈ R
theorem RelG.nil : RelG (fun _ => none) [] := ⟨List.Pairwise.nil, fun k f => by simp⟩
def cnt (R : List RowL) (k : Int × Str) : Nat := (R.filter fun r => klt r.1 k).length
theorem cnt_le (R : List RowL) (k : Int × Str) : cnt R k ≤ R.length := List.length_filter_le _ _

theorem cnt_snoc {R : List RowL} (h : SortedL R) (k : Int × Str) (j : Nat) (hj : j < R.length) : cnt (R.take (j + 1)) k = if klt R[j].1 k = true then j + 1 else cnt (R.take j) k := by
  unfold cnt
  rw [take_snoc R j hj, List.filter_append]
  split
  · rename_i hl
    have : (R.take j).filter (fun r => klt r.1 k) = R.take j := by
      rw [List.filter_eq_self]
      intro r hr
      obtain ⟨i, hi, rfl⟩ := List.mem_iff_getElem.1 hr
      rw [List.length_take] at hi
      rw [List.getElem_take]
      exact klt_trans ((List.pairwise_iff_getElem.1 h) i j (by omega) hj (by omega)) hl
    rw [this]
    simp [hl]
    omega
  · rename_i hl
    simp [hl]

def insK : List RowL → (Int × Str) → (Bool × List Str) → List RowL
  | [], k, f => [(k, f)]
  | x :: R, k, f => if klt x.1 k = true then x :: insK R k f else (k, f) :: x :: R
theorem insK_mem (k : Int × Str) (f : Bool × List Str) : ∀ (R : List RowL) (x : RowL), x ∈ insK R k f ↔ x = (k, f) ∨ x ∈ R
  | [], x => by simp [insK]
  | y :: R, x => by
    unfold insK
    split
    · rw [List.mem_cons, insK_mem k f R, List.mem_cons]
      constructor
      · rintro (h | h | h)
        · exact .inr (.inl h)
        · exact .inl h
        · exact .inr (.inr h)
      · rintro (h | h | h)
        · exact .inr (.inl h)
        · exact .inl h
        · exact .inr (.inr h)
    · simp
theorem cnt_zero {x : RowL} {R : List RowL} {k : Int × Str} (h : SortedL (x :: R)) (hk : klt x.1 k = false) : cnt (x :: R) k = 0 := by
  unfold cnt
  rw [List.length_eq_zero_iff, List.filter_eq_nil_iff]
  intro r hr
  rcases List.mem_cons.1 hr with rfl | hr
  · rw [hk]; simp
  · intro hl
    have := klt_trans ((List.pairwise_cons.1 h).1 r hr) hl
    rw [hk] at this
    cases this
theorem insK_eq (k : Int × Str) (f : Bool × List Str) : ∀ {R : List RowL}, SortedL R → R.take (cnt R k) ++ ((k, f) :: R.drop (cnt R k)) = insK R k f
  | [], _ => by simp [cnt, insK]
  | x :: R, h => by
    unfold insK
    cases hx : klt x.1 k
    · rw [cnt_zero h hx]
      simp
    · have hc : cnt (x :: R) k = cnt R k + 1 := by unfold cnt; rw [List.filter_cons, if_pos hx]; rfl
      rw [hc]
      simp only [List.take_succ_cons, List.drop_succ_cons, List.cons_append, if_true]
      rw [insK_eq k f (List.pairwise_cons.1 h).2]
theorem insK_sorted (k : Int × Str) (f : Bool × List Str) : ∀ {R : List RowL}, SortedL R → (∀ r ∈ R, r.1 ≠ k) → SortedL (insK R k f)
  | [], _, _ => List.pairwise_singleton _ _
  | x :: R, h, hn => by
    unfold insK
    have h' := List.pairwise_cons.1 h
    split
    · rename_i hx
      refine List.pairwise_cons.2 ⟨fun r hr => ?_, insK_sorted k f h'.2 (fun r hr => hn r (List.mem_cons_of_mem _ hr))⟩
      rcases (insK_mem k f R r).1 hr with rfl | hr
      · exact hx
      · exact h'.1 r hr
    · rename_i hx
      have hkx : klt k x.1 = true := by
        rcases klt_or x.1 k with q | q | q
        · exact absurd q hx
        · exact absurd q (hn x (List.mem_cons_self ..))
        · exact q
      refine List.pairwise_cons.2 ⟨fun r hr => ?_, h⟩
      rcases List.mem_cons.1 hr with rfl | hr
      · exact hkx
      · exact klt_trans hkx (h'.1 r hr)
theorem ins_rel {G : Told} {R : List RowL} {k : Int × Str} (f : Bool × List Str) (h : RelG G R) (hn : G k = none) : RelG (updT G k f) (R.take (cnt R k) ++ ((k, f) :: R.drop (cnt R k))) := by
  rw [insK_eq k f h.1]
  refine ⟨insK_sorted k f h.1 (fun r hr e => ?_), fun x g => ?_⟩
  · have := (h.2 r.1 r.2).2 hr
    rw [e, hn] at this
    cases this
  · rw [insK_mem]
    unfold updT
    by_cases e : x = k
    · subst e
      simp only [if_true, Prod.mk.injEq, true_and, Option.some.injEq]
      constructor
      · exact fun e => .inl e.symm
      · rintro (e | e)
        · exact e.symm
        · have := (h.2 x g).2 e
          rw [hn] at this
          cases this
    · rw [if_neg e, h.2 x g]
      simp [e]
theorem sorted_inj {R : List RowL} (h : SortedL R) {i j : Nat} (hi : i < R.length) (hj : j < R.length) (e : R[i].1 = R[j].1) : i = j := by
  rcases Nat.lt_trichotomy i j with q | q | q
  · exact absurd e (klt_ne ((List.pairwise_iff_getElem.1 h) i j hi hj q))
  · exact q
  · exact absurd e.symm (klt_ne ((List.pairwise_iff_getElem.1 h) j i hj hi q))
theorem erase_rel {G : Told} {R : List RowL} {i : Nat} (h : RelG G R) (hi : i < R.length) : RelG (delT G R[i].1) (R.eraseIdx i) := by
  refine ⟨h.1.sublist (List.eraseIdx_sublist _ _), fun k f => ?_⟩
  rw [List.mem_eraseIdx_iff_getElem]
  unfold delT
  constructor
  · intro hk
    split at hk
    · cases hk
    · rename_i hne
      obtain ⟨j, hj, e⟩ := List.mem_iff_getElem.1 ((h.2 k f).1 hk)
      exact ⟨j, hj, fun e' => hne (by subst e'; rw [e]), e⟩
  · rintro ⟨j, hj, hne, e⟩
    rw [if_neg (fun e' => hne (sorted_inj h.1 hj hi (by rw [e]; exact e'))), h.2 k f]
    exact List.mem_iff_getElem.2 ⟨j, hj, e⟩
theorem RelG.at_ {G : Told} {R : List RowL} (h : RelG G R) {i : Nat} (hi : i < R.length) : G R[i].1 = some R[i].2 := (h.2 _ _).2 (List.getElem_mem hi)
theorem RelG.none_ {G : Told} {R : List RowL} (h : RelG G R) {k : Int × Str} (hn : ∀ i, (hi : i < R.length) → R[i].1 ≠ k) : G k = none := by
  cases hG : G k
  · rfl
  · obtain ⟨i, hi, e⟩ := List.mem_iff_getElem.1 ((h.2 _ _).1 hG)
    exact absurd (by rw [e]) (hn i hi)
theorem RelG.keys {G : Told} {R : List RowL} (h : RelG G R) : TKeys G (R.map Prod.fst) := by
  refine ⟨?_, fun k => ?_⟩
  · unfold List.Nodup
    rw [List.pairwise_map]
    exact h.1.imp fun q => klt_ne q
  · constructor
    · intro hk
      obtain ⟨r, hr, rfl⟩ := List.mem_map.1 hk
      rw [(h.2 r.1 r.2).2 hr]
      simp
    · intro hk
      cases hG : G k
      · exact absurd hG hk
      · exact List.mem_map.2 ⟨_, (h.2 _ _).1 hG, rfl⟩
theorem cnt_erase (R : List RowL) (i : Nat) (hi : i < R.length) : cnt (R.eraseIdx i) R[i].1 = cnt R R[i].1 := by
  unfold cnt
  generalize hk : R[i].1 = k
  have e : R = R.take i ++ R[i] :: R.drop (i + 1) := by simp
  rw [List.eraseIdx_eq_take_drop_succ]
  conv => rhs; rw [e]
  rw [List.filter_append, List.filter_append, List.filter_cons, hk, klt_irrefl]
  simp
theorem upd_del (G : Told) (k : Int × Str) (f : Bool × List Str) : updT (delT G k) k f = updT G k f := by
  funext x
  unfold updT delT
  by_cases e : x = k <;> simp [e]
theorem del_self (G : Told) (k : Int × Str) : delT G k k = none := by simp [delT]
theorem del_none {G : Told} {k : Int × Str} (h : G k = none) : delT G k = G := by
  funext x
  unfold delT
  by_cases e : x = k
  · rw [if_pos e, e, h]
  · rw [if_neg e]

/-- the rows of a VLAN -/
def vrows (R : List RowL) (v : Int) : List RowL := R.filter fun r => r.1.1 == v
theorem forget_rel {G : Told} {R : List RowL} (v : Int) (h : RelG G R) : RelG (forgetT G v) (R.filter fun r => !(r.1.1 == v)) := by
  refine ⟨h.1.filter _, fun k f => ?_⟩
  unfold forgetT
  rw [List.mem_filter]
  by_cases e : k.1 = v
  · simp [e]
  · rw [if_neg e, h.2 k f]
    simp [e]
theorem vrows_of {G : Told} {R : List RowL} (v : Int) (h : RelG G R) : OfK G v ((vrows R v).map Prod.fst) := by
  refine ⟨?_, fun k => ?_⟩
  · rw [List.pairwise_map]
    refine (h.1.filter _).imp_of_mem fun {a b} ha hb q => ?_
    have h1 := (List.mem_filter.1 ha).2
    have h2 := (List.mem_filter.1 hb).2
    rw [beq_iff_eq] at h1 h2
    rw [klt_iff] at q
    rcases q with q | q
    · omega
    · exact q.2
  · constructor
    · intro hk
      obtain ⟨r, hr, rfl⟩ := List.mem_map.1 hk
      obtain ⟨hr, hv⟩ := List.mem_filter.1 hr
      exact ⟨by simpa using hv, by rw [(h.2 r.1 r.2).2 hr]; simp⟩
    · rintro ⟨hv, hk⟩
      cases hG : G k
      · exact absurd hG hk
      · exact List.mem_map.2 ⟨(k, _), List.mem_filter.2 ⟨(h.2 _ _).1 hG, by simpa using hv⟩, rfl⟩
theorem OfK.uniq {G : Told} {v : Int} {K L : List (Int × Str)} (h : OfK G v K) (k : OfK G v L) : K = L := by
  have key : ∀ {M : List (Int × Str)}, OfK G v M → M = (M.map (·.2)).map fun s => (v, s) := fun {M} hM => by
    rw [List.map_map]
    refine (List.map_id _).symm.trans (List.map_congr_left fun x hx => ?_)
    exact Prod.ext ((hM.2 x).1 hx).1 rfl
  have e : K.map (·.2) = L.map (·.2) := srising_ext (List.pairwise_map.2 h.1) (List.pairwise_map.2 k.1) fun s => by
    constructor
    · intro hs
      obtain ⟨x, hx, rfl⟩ := List.mem_map.1 hs
      exact List.mem_map.2 ⟨x, (k.2 x).2 ((h.2 x).1 hx), rfl⟩
    · intro hs
      obtain ⟨x, hx, rfl⟩ := List.mem_map.1 hs
      exact List.mem_map.2 ⟨x, (h.2 x).2 ((k.2 x).1 hx), rfl⟩
  rw [key h, key k, e]
/-- the record that the reference tells of a row -/
def recR (r : RowL) : Rec := (if r.2.1 then 2 else 1, r.1.2, r.2.2)
theorem all_rel {G : Told} {R : List RowL} {v : Int} {K : List (Int × Str)} (h : RelG G R) (hK : OfK G v K) : K.map (recT G) = (vrows R v).map recR := by
  rw [hK.uniq (vrows_of v h), List.map_map]
  refine List.map_congr_left fun r hr => ?_
  have hG := (h.2 r.1 r.2).2 (List.mem_filter.1 hr).1
  unfold recT recR oldT
  simp [hG]
end Go.Proofs.Ytfloipdkhmgibaa

/- The reference's proxy in memory ('Kx'), and cut. -/
namespace Go.Proofs.Ytfloipdkhmgibaa
open Go.RowKit Go.Lib Go.Maps Go.Sort
set_option maxRecDepth 20000

theorem infoRow : (Try.prog.info? 84).map (fun i => (i.zero, i.size, i.bytes)) = some (some (.agg #[.int .i64 0, .string ⟨#[]⟩, .bool false, .slice none 0 0]), 4, 56) := by kernel_rfl

/-- a row, and the value of its sources -/
abbrev QRow := RowL × Value
def kcell (q : QRow) : List Value := [.int .i64 q.1.1.1, .string (bstr q.1.1.2), .bool q.1.2.1, q.2]
theorem kc_len (Q : List QRow) : (Q.flatMap kcell).length = Q.length * 4 := by
  induction Q with
  | nil => simp
  | cons q Q ih => rw [List.flatMap_cons, List.length_append, ih, List.length_cons]; simp [kcell]; omega
theorem kc_get (Q : List QRow) (k : Nat) (hk : k < Q.length) (d : QRow) : (Q.flatMap kcell)[k * 4]? = some (.int .i64 (Q.getD k d).1.1.1) ∧ (Q.flatMap kcell)[k * 4 + 1]? = some (.string (bstr (Q.getD k d).1.1.2)) ∧ (Q.flatMap kcell)[k * 4 + 2]? = some (.bool (Q.getD k d).1.2.1) ∧ (Q.flatMap kcell)[k * 4 + 3]? = some (Q.getD k d).2 := by
  induction Q generalizing k with
  | nil => simp at hk
  | cons q Q ih =>
    cases k with
    | zero => simp [kcell]
    | succ k =>
      have := ih k (by simpa using hk)
      have e : ∀ j, (k + 1) * 4 + j = (k * 4 + j) + 4 := fun j => by omega
      have e0 : (k + 1) * 4 = (k * 4) + 4 := by omega
      rw [e, e, e, e0]
      simpa [kcell] using this

/-- v holds the rows Q -/
def KRows (w : World) (v : Value) (Q : List QRow) : Prop :=
  (∃ base, w.ownsRow base 84 4 v Q.length (Q.flatMap kcell)) ∧ ∀ q ∈ Q, Strs w q.2 q.1.2.2 ∧ q.1.1.2.length ≤ maxLen ∧ q.1.2.2.length ≤ 60
/-- the reference's proxy: block p -/
def Kx (w : World) (p : Nat) (room : Int) (Q : List QRow) : Prop := ∃ v, CBox w p 43 #[.int .i64 room, v] ∧ KRows w v Q

theorem KRows.nil (w : World) : KRows w (.slice none 0 0) [] := ⟨⟨w.heap.size, World.ownsRow_nil _ _ _ _⟩, by simp⟩
theorem KRows.below {w w' : World} {v : Value} {Q : List QRow} (h : KRows w v Q) (hb : Below w.heap.size w w') : KRows w' v Q := by
  obtain ⟨⟨base, h1⟩, h2⟩ := h
  exact ⟨⟨base, own_below h1 hb⟩, fun q hq => ⟨(h2 q hq).1.mono hb, (h2 q hq).2⟩⟩
theorem Kx.below {w w' : World} {p : Nat} {room : Int} {Q : List QRow} (h : Kx w p room Q) (hb : Below w.heap.size w w') : Kx w' p room Q := by
  obtain ⟨v, h1, h2⟩ := h
  exact ⟨v, h1.below hb h1.lt, h2.below hb⟩
theorem ownsRow_keep {w w' : World} {base size n : Nat} {e : TypeId} {v : Value} {xs : List Value} (h : w.ownsRow base e size v n xs) (hk : CKeep w w') : w'.ownsRow base e size v n xs := by
  rcases h.2 with ⟨rfl, h0⟩ | ⟨g, cap, cur, rfl, hb, hg, hn, hm, hs, ht⟩
  · exact ⟨h.1, .inl ⟨rfl, h0⟩⟩
  · exact ⟨h.1, .inr ⟨g, cap, cur, rfl, hb, hk.2 _ _ _ _ hg, hn, hm, hs, ht⟩⟩
theorem KRows.keep {w w' : World} {v : Value} {Q : List QRow} (h : KRows w v Q) (hk : CKeep w w') : KRows w' v Q := by
  obtain ⟨⟨base, h1⟩, h2⟩ := h
  exact ⟨⟨base, ownsRow_keep h1 hk⟩, fun q hq => ⟨hk.strs (h2 q hq).1, (h2 q hq).2⟩⟩
theorem Kx.keep {w w' : World} {p : Nat} {room : Int} {Q : List QRow} (h : Kx w p room Q) (hk : CKeep w w') : Kx w' p room Q := by
  obtain ⟨v, h1, h2⟩ := h
  exact ⟨v, hk.box h1, h2.keep hk⟩
theorem Kx.lt {w : World} {p : Nat} {room : Int} {Q : List QRow} (h : Kx w p room Q) : p < w.heap.size := by obtain ⟨v, h1, _⟩ := h; exact h1.lt

/-- what a walk asks of the rows -/
theorem KRows.facts {w : World} {v : Value} {Q : List QRow} (h : KRows w v Q) :
    ∃ g, (∀ ty w', (Builtin.len_ #[41] ty #[v]).run Try.prog w' = .ok (.int .i64 Q.length) w') ∧
      (∀ k, k < Q.length → ∀ w', (Instr.indexAt 41 v (.int .i64 k)).run Try.prog w' = .ok (.pointer (some ⟨g, k * 4, none⟩)) w') ∧
      (∀ k, k < Q.length → g < w.heap.size ∧ w.cell? ⟨g, k * 4, none⟩ = some (.int .i64 (Q.getD k default).1.1.1) ∧ w.cell? ⟨g, k * 4 + 1, none⟩ = some (.string (bstr (Q.getD k default).1.1.2)) ∧ w.cell? ⟨g, k * 4 + 2, none⟩ = some (.bool (Q.getD k default).1.2.1) ∧ w.cell? ⟨g, k * 4 + 3, none⟩ = some (Q.getD k default).2) := by
  obtain ⟨⟨base, h1⟩, _⟩ := h
  rcases h1.2 with ⟨rfl, h0⟩ | ⟨g, cap, cur, rfl, hb, hg, hn, hm, hs, ht⟩
  · refine ⟨0, fun ty w' => by rw [h0]; exact run_len_any Try.underlying41 none 0 0 ty w', fun k hk => by omega, fun k hk => by omega⟩
  · refine ⟨g, fun ty w' => run_len_any Try.underlying41 _ Q.length cap ty w', fun k hk w' => ?_, fun k hk => ?_⟩
    · have := run_index_any (P := Try.prog) (s := 4) Try.underlying41 (fun w => by kernel_rfl) g 0 Q.length cap k hk w'
      simpa using this
    · have hc := h1.cells (g := g) rfl
      obtain ⟨x0, x1, x2, x3⟩ := kc_get Q k hk default
      have c0 := hc _ _ x0
      have c1 := hc _ _ x1
      have c2 := hc _ _ x2
      have c3 := hc _ _ x3
      rw [add_lit, Nat.zero_add] at c0 c1 c2 c3
      exact ⟨(Array.getElem?_eq_some_iff.1 hg).1, c0, c1, c2, c3⟩

/-- v[:i] and v[i:]: what they run to, and what they hold -/
theorem KRows.cuts {w : World} {v : Value} {Q : List QRow} (h : KRows w v Q) (i : Nat) (hi : i ≤ Q.length) :
    ∃ u1 u2, (∀ w', (Instr.slice 41 v none (some (.int .i64 (i : Int))) none).run Try.prog w' = .ok u1 w') ∧ (∀ w', (Instr.slice 41 v (some (.int .i64 (i : Int))) none none).run Try.prog w' = .ok u2 w') ∧
      (∀ w', Below w.heap.size w w' → SliceOf w' 4 u1 i ((Q.take i).flatMap kcell)) ∧ (∀ w', Below w.heap.size w w' → SliceOf w' 4 u2 (Q.length - i) ((Q.drop i).flatMap kcell)) := by
  obtain ⟨⟨base, h1⟩, h2⟩ := h
  have hone : ∀ (L : List QRow), (∀ q ∈ L, q ∈ Q) → ∀ x ∈ L.flatMap kcell, x.oneCell' = true := fun L hL x hx => by
    obtain ⟨q, hq, hx⟩ := List.mem_flatMap.1 hx
    obtain ⟨so, sc, e⟩ := (h2 q (hL q hq)).1.shape
    simp [kcell] at hx
    rcases hx with rfl | rfl | rfl | rfl
    · rfl
    · rfl
    · rfl
    · rw [e]; rfl
  have hsz : ∀ w' : World, (Go.sizeOf 84).run Try.prog w' = .ok 4 w' := fun w' => by kernel_rfl
  rcases h1.2 with ⟨rfl, h0⟩ | ⟨g, cap, cur, rfl, hb, hg, hn, hm, hs, ht⟩
  · obtain rfl : i = 0 := by omega
    rw [List.length_eq_zero_iff] at h0
    subst h0
    exact ⟨.slice none 0 0, .slice none 0 0, fun w' => by go_simp, fun w' => by go_simp, fun w' _ => ⟨none, 0, rfl, by simp, by simp, .inl rfl⟩, fun w' _ => ⟨none, 0, rfl, by simp, by simp, .inl rfl⟩⟩
  · have hic : (i : Int) ≤ (cap : Int) := by omega
    have hiq : (i : Int) ≤ (Q.length : Int) := by omega
    refine ⟨.slice (some ⟨g, 0, none⟩) i cap, .slice (if cap = i then some ⟨g, 0, none⟩ else some ⟨g, i * 4, none⟩) (Q.length - i) (cap - i), fun w' => ?_, fun w' => ?_, fun w' hw => ?_, fun w' hw => ?_⟩
    · rw [run_slice_h w' 41 (some ⟨g, 0, none⟩) Q.length cap (by rw [show Try.prog.elem 41 = 84 from by kernel_rfl]; exact Try.underlying41) .i64 (i : Int) (by omega) hic]
      rw [show Try.prog.elem 41 = 84 from by kernel_rfl, hsz]
      simp [Result.andThen, sliced, add_lit]
    · rw [run_slice_l w' 41 (some ⟨g, 0, none⟩) Q.length cap (by rw [show Try.prog.elem 41 = 84 from by kernel_rfl]; exact Try.underlying41) .i64 (i : Int) (by omega) hiq]
      rw [show Try.prog.elem 41 = 84 from by kernel_rfl, hsz]
      simp [Result.andThen, sliced, add_lit]
    · refine ⟨_, _, rfl, by rw [kc_len, List.length_take]; congr 1; omega, hone _ (fun q hq => List.mem_of_mem_take hq), .inr ⟨_, rfl, fun j x hj => ?_⟩⟩
      have hc := h1.cells (g := g) rfl j x (by
        have e : Q.flatMap kcell = (Q.take i).flatMap kcell ++ (Q.drop i).flatMap kcell := by rw [← List.flatMap_append, List.take_append_drop]
        rw [e, List.getElem?_append_left (List.getElem?_eq_some_iff.1 hj).1]
        exact hj)
      rw [add_lit] at hc ⊢
      rw [hw.cell (p := ⟨g, 0 + j, none⟩) (Array.getElem?_eq_some_iff.1 hg).1]
      exact hc
    · by_cases hci : cap = i
      · rw [if_pos hci]
        refine ⟨_, _, rfl, by rw [kc_len, List.length_drop], hone _ (fun q hq => List.mem_of_mem_drop hq), .inl (by omega)⟩
      · rw [if_neg hci]
        refine ⟨_, _, rfl, by rw [kc_len, List.length_drop], hone _ (fun q hq => List.mem_of_mem_drop hq), .inr ⟨_, rfl, fun j x hj => ?_⟩⟩
        have hc := h1.cells (g := g) rfl (i * 4 + j) x (by
          have e : Q.flatMap kcell = (Q.take i).flatMap kcell ++ (Q.drop i).flatMap kcell := by rw [← List.flatMap_append, List.take_append_drop]
          have el : ((Q.take i).flatMap kcell).length = i * 4 := by rw [kc_len, List.length_take]; congr 1; omega
          rw [e, List.getElem?_append_right (by omega), el, Nat.add_sub_cancel_left]
          exact hj)
        rw [add_lit] at hc ⊢
        rw [hw.cell (p := ⟨g, i * 4 + j, none⟩) (Array.getElem?_eq_some_iff.1 hg).1]
        rw [Nat.zero_add] at hc
        exact hc

theorem KRows.isSlice {w : World} {v : Value} {Q : List QRow} (h : KRows w v Q) : ∃ ao n c, v = .slice ao n c := by
  obtain ⟨⟨base, h1⟩, _⟩ := h
  rcases h1.2 with ⟨rfl, _⟩ | ⟨g, cap, cur, rfl, _⟩
  · exact ⟨_, _, _, rfl⟩
  · exact ⟨_, _, _, rfl⟩
theorem ns_kx (room : Int) {v : Value} (hv : ∃ ao n c, v = .slice ao n c) : ∀ (i : Nat) (s : ByteArray), (#[.int .i64 room, v] : Array Value)[i]? ≠ some (Value.string s) := by
  obtain ⟨ao, n, c, rfl⟩ := hv
  intro i s
  match i with
  | 0 => simp
  | 1 => simp
  | _ + 2 => simp
theorem Strs.kept_kx {w w' : World} {u : Value} {L : List Str} {p : Nat} {room : Int} {v : Value} {T : TypeId} (h : Strs w u L) (hb : CBox w p T #[.int .i64 room, v]) (hv : ∃ ao n c, v = .slice ao n c) (hg : w.grownBy w' (some p)) : Strs w' u L :=
  h.grown' hg fun hL e => by
    cases hu : u.ownBlock with
    | none => rw [hu] at e; cases e
    | some c => rw [hu] at e; injection e with e; exact h.ne_box hb (ns_kx room hv) hL c hu e
theorem kgrown_set (W : World) (b i : Nat) (v : Value) : W.grownBy (W.setCell ⟨b, i, none⟩ v) (some b) := ⟨rfl, rfl, rfl, (KeepsWalks.setCell W _ v).size, fun k _ hk => Below.heap_setCell _ _ _ k (fun e => hk (by rw [e]))⟩

/-- rows laid anew, and stored into the proxy's box -/
theorem Kx.stored {w w2 : World} {p : Nat} {room : Int} {v v2 : Value} {Q2 : List QRow} {base : Nat} (h1 : CBox w p 43 #[.int .i64 room, v]) (hv : ∃ ao n c, v = .slice ao n c) (hb : Below w.heap.size w w2) (hbase : w.heap.size ≤ base)
    (hown : w2.ownsRow base 84 4 v2 Q2.length (Q2.flatMap kcell)) (hq : ∀ q ∈ Q2, Strs w2 q.2 q.1.2.2 ∧ q.1.1.2.length ≤ maxLen ∧ q.1.2.2.length ≤ 60) :
    Kx (w2.setCell ⟨p, 1, none⟩ v2) p room Q2 ∧ w.grownBy (w2.setCell ⟨p, 1, none⟩ v2) (some p) := by
  have hp := h1.lt
  have h2 := h1.below hb hp
  have hg := kgrown_set w2 p 1 v2
  refine ⟨⟨v2, by simpa using h2.set 1 v2, ⟨base, ownsRow_setCell_below hown (by show p < base; omega) v2⟩, fun q hm => ?_⟩, (grown_below (World.grownBy.refl w (some p)) hb).trans hg⟩
  obtain ⟨q1, q2⟩ := hq q hm
  exact ⟨q1.kept_kx h2 hv hg, q2⟩

theorem erase_flat (Q : List QRow) (i : Nat) : (Q.take i).flatMap kcell ++ (Q.drop (i + 1)).flatMap kcell = (Q.eraseIdx i).flatMap kcell := by rw [List.eraseIdx_eq_take_drop_succ, List.flatMap_append]
theorem erase_len (Q : List QRow) (i : Nat) (hi : i < Q.length) : i + (Q.length - (i + 1)) = (Q.eraseIdx i).length := by rw [List.length_eraseIdx, if_pos hi]; omega

def RetCut (w : World) (p : Nat) (room : Int) (Q : List QRow) (e : Ending) (w' : World) : Prop := e = .returned (.tuple #[]) ∧ Kx w' p room Q ∧ w.grownBy w' (some p)

set_option maxHeartbeats 4000000 in
theorem cut_any (p i : Nat) (room : Int) (Q : List QRow) (w : World) (h : Kx w p room Q) (hi : i < Q.length) (hQ : Q.length ≤ 10000) :
    Calls Try.prog 40 #[.pointer (some ⟨p, 0, none⟩), .int .i64 (i : Int)] w (RetCut w p room (Q.eraseIdx i)) := by
  obtain ⟨i0, hi0, hz0, hz1, hz2⟩ := info_parts infoRow
  obtain ⟨v, hbox, hrows⟩ := h
  have hvs := hrows.isSlice
  obtain ⟨u1, _, s1, _, sl1, _⟩ := hrows.cuts i (by omega)
  obtain ⟨_, u2, _, s2, _, sl2⟩ := hrows.cuts (i + 1) (by omega)
  have s2' : ∀ w', (Instr.slice 41 v (some (.int .i64 ((i : Int) + 1))) none none).run Try.prog w' = .ok u2 w' := fun w' => by have := s2 w'; rwa [Int.natCast_succ] at this
  obtain ⟨x1, xf1⟩ := hbox.at_ 1 _ rfl
  have HBX := Lib.hid hbox; have HR := Lib.hid hrows; have HVS := Lib.hid hvs
  have HS1 := Lib.hid (sl1 w (Below.refl _ _)); have HS2 := Lib.hid sl2
  have HN := Lib.hid (show i ≤ 10000 ∧ Q.length - (i + 1) ≤ 10000 from by omega)
  have hp := hbox.lt
  clear hbox hrows hvs s2 sl1 sl2
  go_enter Try.func40, Try.ntmps40
  go_wp2_with (first
    | (at_builtin; refine wpList_append_vals _ rfl _ _ 41 rfl w.heap.size 84 i0 _ 4 56 Try.underlying41 hi0 hz0 hz1 hz2 rfl (by decide) (.slice none 0 0) 0 [] rfl (World.ownsRow_nil _ _ _ _) u1 i ((Q.take i).flatMap kcell) rfl HS1.out (by have := HN.out; unfold maxLen; omega) (by have := HN.out; omega) (Nat.le_refl _) ?_; intro v1 w1 hown1 hg1 _; have hb1 : Below w.heap.size w w1 := (Below.refl _ _).grown hg1 (Nat.le_refl _) (fun b e => by simp [Value.ownBlock] at e); have x11 := (hb1.cell (p := ⟨p, 1, none⟩) hp).trans x1; rw [Nat.zero_add, List.nil_append] at hown1; have H1 := Lib.hid (And.intro hown1 hb1); clear hown1 hg1 hb1)
    | (at_builtin; refine wpList_append_vals _ rfl _ _ 41 rfl w.heap.size 84 i0 _ 4 56 Try.underlying41 hi0 hz0 hz1 hz2 rfl (by decide) v1 i ((Q.take i).flatMap kcell) rfl H1.out.1 u2 (Q.length - (i + 1)) ((Q.drop (i + 1)).flatMap kcell) rfl (HS2.out _ H1.out.2) (by have := HN.out; unfold maxLen; omega) (by have := HN.out; omega) H1.out.2.size ?_; intro v2 w2 hown2 hg2 _; have hb2 : Below w.heap.size w w2 := H1.out.2.grown hg2 H1.out.2.size (fun b e => (H1.out.1.lt b e).1); have x12 := (hb2.cell (p := ⟨p, 1, none⟩) hp).trans x1; have xf12 := (hb2.frozen (p := ⟨p, 1, none⟩) hp).trans xf1; obtain ⟨o2, c2, rfl⟩ := own_form hown2; have H2 := Lib.hid (And.intro hown2 hb2); clear hown2 hg2 hb2))
  go_end0
  have hown : w2.ownsRow w.heap.size 84 4 (.slice o2 (i + (Q.length - (i + 1))) c2) (Q.eraseIdx i).length ((Q.eraseIdx i).flatMap kcell) := by
    rw [← erase_len Q i hi, ← erase_flat]
    exact H2.out.1
  obtain ⟨k1, k2⟩ := Kx.stored HBX.out HVS.out H2.out.2 (Nat.le_refl _) hown (fun q hq => by
    have hm := (List.eraseIdx_sublist Q i).subset hq
    exact ⟨(HR.out.2 q hm).1.mono H2.out.2, (HR.out.2 q hm).2⟩)
  exact ⟨rfl, k1, k2⟩
end Go.Proofs.Ytfloipdkhmgibaa
