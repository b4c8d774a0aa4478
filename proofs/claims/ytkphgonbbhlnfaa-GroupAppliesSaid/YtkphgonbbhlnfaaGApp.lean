/- group.Apply: what becomes of a state by a record. -/
import Derived.Test.YtkphgonbbhlnfaaGExc
import Derived.Deep.CutBlock
namespace Go.Proofs.Ytkphgonbbhlnfaa
open Go.RowKit Go.Lib Go.Maps Go.Sort

def inF (kind : Int) (ex : Bool) (at' : Int) (F : Str → Option Int) (S : List Str) (m : Int) : Str → Option Int :=
  if kind = 6 then (if ex then fillF F (S.filter (notBlk F)) at' else F)
  else if kind = 2 ∨ kind = 4 then excF F S (freshOf ex (kind == 4) at' m)
  else setF F S m
def inEx (kind : Int) (ex : Bool) : Bool := ex || kind == 2 || kind == 4
def inAt (kind at' m : Int) : Int := if kind = 2 ∨ kind = 4 then m else at'
def inG (kind : Int) (ex : Bool) : Bool := kind == 3 && ex
def inQ (kind : Int) (ex : Bool) (at' : Int) (F : Str → Option Int) (S : List Str) (m : Int) (a : Str) : Bool :=
  if kind = 6 then S.contains a && (if ex then notBlk F a else runF F a)
  else if kind = 2 ∨ kind = 4 then kind == 4 && runF (excF F S (freshOf ex (kind == 4) at' m)) a
  else kind == 3 && (runF F a && !S.contains a)

def may (now mem last : Int) : Bool := decide (1 ≤ now ∧ now ≤ 1099511627776 ∧ 1 ≤ mem ∧ mem ≤ 1000000 ∧ 1 ≤ last ∧ last ≤ 1000000)
/-- the error's number that is known ahead -/
def verdict (ok : Bool) (kind : Int) (n : Nat) (now mem last : Int) : Int :=
  if ok then (if may now mem last && decide (n ≤ 60) && decide (1 ≤ kind ∧ kind ≤ 6) then 0 else 1) else 3

def noState : Value := .agg #[.bool false, .int .i64 0, .slice none 0 0]
def noAsk : Value := .agg #[.bool false, .slice none 0 0]

/-- what Apply hands back -/
def RetApp (w : World) (ex : Bool) (at' : Int) (L : List Tmd) (kind : Int) (S : List Str) (n : Nat) (now mem last : Int) (e : Ending) (w' : World) : Prop :=
  Below w.heap.size w w' ∧
  ((verdict (pcheck ex at' L) kind n now mem last ≠ 0 ∧ e = .returned (.tuple #[noState, .bool false, noAsk, .int .i64 (verdict (pcheck ex at' L) kind n now mem last)])) ∨
   (verdict (pcheck ex at' L) kind n now mem last = 0 ∧ ∃ K, KeysOf' (inF kind ex at' (rd L) S (now + mem)) K ∧
     ((60 < K.length ∧ e = .returned (.tuple #[noState, .bool false, noAsk, .int .i64 1])) ∨
      (K.length ≤ 60 ∧ (inEx kind ex = false ∧ K = []) ∧ e = .returned (.tuple #[noState, .bool false, noAsk, .int .i64 0])) ∨
      (K.length ≤ 60 ∧ ¬ (inEx kind ex = false ∧ K = []) ∧ ∃ v L' u R, e = .returned (.tuple #[.agg #[.bool (inEx kind ex), .int .i64 (if inG kind ex then min (inAt kind at' (now + mem)) (now + last) else inAt kind at' (now + mem)), v], .bool true, .agg #[.bool (inG kind ex), u], .int .i64 0]) ∧
        Tms w' v L' ∧ Strs w' u R ∧ Rises (inQ kind ex at' (rd L) S (now + mem)) R ∧ Asc (soonF (inF kind ex at' (rd L) S (now + mem)) R (now + last)) L' ∧ Lies w.heap.size v ∧ Lies w.heap.size u))))

theorem Mp.count {w : World} {b n : Nat} {F : Str → Option Int} (h : Mp w b n F) : ∃ K, KeysOf' F K ∧ ∀ ty, (Builtin.len_ #[58] ty #[.map (some b)]).run Try.prog w = .ok (.int .i64 K.length) w := by
  obtain ⟨D, h, e⟩ := h
  refine ⟨(strKeys D).mergeSort fun x y => decide (x ≤ y), keys_sorted h e (List.Perm.refl _), fun ty => ?_⟩
  have hl : (strKeys D).length = Maps.size D := by obtain ⟨es, rfl⟩ := h.isMap; simp [strKeys, Maps.size]
  rw [List.length_mergeSort, hl]
  exact h.len Try.underlying58 ty

-- THE WALK
/-- Apply's own boxes: the state, the record, the times, what it hands back -/
def AppBox (w : World) (lo : Nat) (ex : Bool) (at' : Int) (v : Value) (kind : Int) (g : ByteArray) (rv : Value) (mem last : Int) : Prop :=
  CBox w lo 24 #[.bool ex, .int .i64 at', v] ∧ CBox w (lo + 1) 37 #[.int .i64 kind, .string g, rv] ∧ CBox w (lo + 1 + 1) 39 #[.int .i64 mem, .int .i64 last] ∧
    CBox w (lo + 1 + 1 + 1) 24 #[.bool false, .int .i64 0, .slice none 0 0] ∧ CBox w (lo + 1 + 1 + 1 + 1) 44 #[.bool false, .slice none 0 0]
section
variable {w w' : World} {lo : Nat} {ex : Bool} {at' : Int} {v : Value} {kind : Int} {g : ByteArray} {rv : Value} {mem last : Int}
theorem AppBox.cells (h : AppBox w lo ex at' v kind g rv mem last) : w.cell? ⟨lo, 0, none⟩ = some (.bool ex) ∧ w.cell? ⟨lo, 1, none⟩ = some (.int .i64 at') ∧ w.cell? ⟨lo, 2, none⟩ = some v ∧ w.cell? ⟨lo + 1, 0, none⟩ = some (.int .i64 kind) ∧ w.cell? ⟨lo + 1, 2, none⟩ = some rv ∧
    w.cell? ⟨lo + 1 + 1, 0, none⟩ = some (.int .i64 mem) ∧ w.cell? ⟨lo + 1 + 1, 1, none⟩ = some (.int .i64 last) ∧ w.cell? ⟨lo + 1 + 1 + 1, 0, none⟩ = some (.bool false) ∧ w.cell? ⟨lo + 1 + 1 + 1, 1, none⟩ = some (.int .i64 0) ∧ w.cell? ⟨lo + 1 + 1 + 1, 2, none⟩ = some (.slice none 0 0) ∧
    w.cell? ⟨lo + 1 + 1 + 1 + 1, 0, none⟩ = some (.bool false) ∧ w.cell? ⟨lo + 1 + 1 + 1 + 1, 1, none⟩ = some (.slice none 0 0) ∧ w.frozen? ⟨lo + 1 + 1 + 1, 0, none⟩ = false ∧ w.frozen? ⟨lo + 1 + 1 + 1, 1, none⟩ = false ∧ w.frozen? ⟨lo + 1 + 1 + 1, 2, none⟩ = false ∧ w.frozen? ⟨lo + 1 + 1 + 1 + 1, 0, none⟩ = false ∧ w.frozen? ⟨lo + 1 + 1 + 1 + 1, 1, none⟩ = false := by
  obtain ⟨h1, h2, h3, h4, h5⟩ := h
  exact ⟨(h1.at_ 0 _ rfl).1, (h1.at_ 1 _ rfl).1, (h1.at_ 2 _ rfl).1, (h2.at_ 0 _ rfl).1, (h2.at_ 2 _ rfl).1, (h3.at_ 0 _ rfl).1, (h3.at_ 1 _ rfl).1, (h4.at_ 0 _ rfl).1, (h4.at_ 1 _ rfl).1, (h4.at_ 2 _ rfl).1, (h5.at_ 0 _ rfl).1, (h5.at_ 1 _ rfl).1, h4.thaw 0, h4.thaw 1, h4.thaw 2, h5.thaw 0, h5.thaw 1⟩
theorem AppBox.below {B : Nat} (h : AppBox w lo ex at' v kind g rv mem last) (hb : Below B w w') (hB : lo + 4 < B) : AppBox w' lo ex at' v kind g rv mem last :=
  ⟨h.1.below hb (by omega), h.2.1.below hb (by omega), h.2.2.1.below hb (by omega), h.2.2.2.1.below hb (by omega), h.2.2.2.2.below hb (by omega)⟩
theorem AppBox.lt (h : AppBox w lo ex at' v kind g rv mem last) : lo + 4 < w.heap.size := h.2.2.2.2.lt
theorem AppBox.but {B b : Nat} (h : AppBox w lo ex at' v kind g rv mem last) (hb : But w w' B b) (h1 : lo + 4 < B) (h2 : lo + 4 < b) : AppBox w' lo ex at' v kind g rv mem last :=
  ⟨hb.box h.1 (by omega) (by omega), hb.box h.2.1 (by omega) (by omega), hb.box h.2.2.1 (by omega) (by omega), hb.box h.2.2.2.1 (by omega) (by omega), hb.box h.2.2.2.2 (by omega) (by omega)⟩
theorem AppBox.far {p : Addr} (h : AppBox w lo ex at' v kind g rv mem last) (hp : lo + 4 < p.block) (u : Value) : AppBox (w.setCell p u) lo ex at' v kind g rv mem last :=
  ⟨h.1.far (by omega) u, h.2.1.far (by omega) u, h.2.2.1.far (by omega) u, h.2.2.2.1.far (by omega) u, h.2.2.2.2.far (by omega) u⟩
theorem AppBox.start (w : World) (ex : Bool) (at' : Int) (v : Value) (kind : Int) (g : ByteArray) (rv : Value) (mem last : Int) :
    AppBox (((((w.alloc (.cells #[.bool ex, .int .i64 at', v] 24)).alloc (.cells #[.int .i64 kind, .string g, rv] 37)).alloc (.cells #[.int .i64 mem, .int .i64 last] 39)).alloc (.cells #[.bool false, .int .i64 0, .slice none 0 0] 24)).alloc (.cells #[.bool false, .slice none 0 0] 44)) w.heap.size ex at' v kind g rv mem last ∧
    Below w.heap.size w (((((w.alloc (.cells #[.bool ex, .int .i64 at', v] 24)).alloc (.cells #[.int .i64 kind, .string g, rv] 37)).alloc (.cells #[.int .i64 mem, .int .i64 last] 39)).alloc (.cells #[.bool false, .int .i64 0, .slice none 0 0] 24)).alloc (.cells #[.bool false, .slice none 0 0] 44)) :=
  ⟨⟨((((CBox.new _ rfl).old _).old _).old _).old _, (((CBox.new _ (by simp)).old _).old _).old _, ((CBox.new _ (by simp)).old _).old _, (CBox.new _ (by simp)).old _, CBox.new _ (by simp)⟩,
   (((((Below.refl _ _).alloc (Nat.le_refl _) _).alloc (by simp) _).alloc (by simp <;> omega) _).alloc (by simp <;> omega) _).alloc (by simp <;> omega) _⟩
theorem AppBox.end5 (h : AppBox w lo ex at' v kind g rv mem last) (u0 u1 u2 u3 u4 : Value) :
    (((((w.setCell ⟨lo + 1 + 1 + 1, 0, none⟩ u0).setCell ⟨lo + 1 + 1 + 1, 1, none⟩ u1).setCell ⟨lo + 1 + 1 + 1, 2, none⟩ u2).setCell ⟨lo + 1 + 1 + 1 + 1, 0, none⟩ u3).setCell ⟨lo + 1 + 1 + 1 + 1, 1, none⟩ u4).cell? ⟨lo + 1 + 1 + 1, 0, none⟩ = some u0 ∧ (((((w.setCell ⟨lo + 1 + 1 + 1, 0, none⟩ u0).setCell ⟨lo + 1 + 1 + 1, 1, none⟩ u1).setCell ⟨lo + 1 + 1 + 1, 2, none⟩ u2).setCell ⟨lo + 1 + 1 + 1 + 1, 0, none⟩ u3).setCell ⟨lo + 1 + 1 + 1 + 1, 1, none⟩ u4).cell? ⟨lo + 1 + 1 + 1, 1, none⟩ = some u1 ∧ (((((w.setCell ⟨lo + 1 + 1 + 1, 0, none⟩ u0).setCell ⟨lo + 1 + 1 + 1, 1, none⟩ u1).setCell ⟨lo + 1 + 1 + 1, 2, none⟩ u2).setCell ⟨lo + 1 + 1 + 1 + 1, 0, none⟩ u3).setCell ⟨lo + 1 + 1 + 1 + 1, 1, none⟩ u4).cell? ⟨lo + 1 + 1 + 1, 2, none⟩ = some u2 ∧ (((((w.setCell ⟨lo + 1 + 1 + 1, 0, none⟩ u0).setCell ⟨lo + 1 + 1 + 1, 1, none⟩ u1).setCell ⟨lo + 1 + 1 + 1, 2, none⟩ u2).setCell ⟨lo + 1 + 1 + 1 + 1, 0, none⟩ u3).setCell ⟨lo + 1 + 1 + 1 + 1, 1, none⟩ u4).cell? ⟨lo + 1 + 1 + 1 + 1, 0, none⟩ = some u3 ∧ (((((w.setCell ⟨lo + 1 + 1 + 1, 0, none⟩ u0).setCell ⟨lo + 1 + 1 + 1, 1, none⟩ u1).setCell ⟨lo + 1 + 1 + 1, 2, none⟩ u2).setCell ⟨lo + 1 + 1 + 1 + 1, 0, none⟩ u3).setCell ⟨lo + 1 + 1 + 1 + 1, 1, none⟩ u4).cell? ⟨lo + 1 + 1 + 1 + 1, 1, none⟩ = some u4 := by
  have RS := (((((h.2.2.2.1.set 0 u0).set 1 u1).set 2 u2).far (p := ⟨lo + 1 + 1 + 1 + 1, 0, none⟩) (by simp) u3).far (p := ⟨lo + 1 + 1 + 1 + 1, 1, none⟩) (by simp) u4)
  have RK := (((((h.2.2.2.2.far (p := ⟨lo + 1 + 1 + 1, 0, none⟩) (by simp) u0).far (p := ⟨lo + 1 + 1 + 1, 1, none⟩) (by simp) u1).far (p := ⟨lo + 1 + 1 + 1, 2, none⟩) (by simp) u2).set 0 u3).set 1 u4)
  exact ⟨(RS.at_ 0 _ rfl).1, (RS.at_ 1 _ rfl).1, (RS.at_ 2 _ rfl).1, (RK.at_ 0 _ rfl).1, (RK.at_ 1 _ rfl).1⟩
theorem below_end5 {B : Nat} {a w : World} (h : Below B a w) {lo : Nat} (hB : B ≤ lo + 1 + 1 + 1) (u0 u1 u2 u3 u4 : Value) : Below B a (((((w.setCell ⟨lo + 1 + 1 + 1, 0, none⟩ u0).setCell ⟨lo + 1 + 1 + 1, 1, none⟩ u1).setCell ⟨lo + 1 + 1 + 1, 2, none⟩ u2).setCell ⟨lo + 1 + 1 + 1 + 1, 0, none⟩ u3).setCell ⟨lo + 1 + 1 + 1 + 1, 1, none⟩ u4) :=
  ((((h.setCell hB u0).setCell hB u1).setCell hB u2).setCell (Nat.le_succ_of_le hB) u3).setCell (Nat.le_succ_of_le hB) u4
theorem Tms.end5 {w : World} {v : Value} {L : List Tmd} {l lo : Nat} (h : Tms w v L) (hl : Lies l v) (hlo : lo + 1 + 1 + 1 + 1 < l) (u0 u1 u2 u3 u4 : Value) : Tms (((((w.setCell ⟨lo + 1 + 1 + 1, 0, none⟩ u0).setCell ⟨lo + 1 + 1 + 1, 1, none⟩ u1).setCell ⟨lo + 1 + 1 + 1, 2, none⟩ u2).setCell ⟨lo + 1 + 1 + 1 + 1, 0, none⟩ u3).setCell ⟨lo + 1 + 1 + 1 + 1, 1, none⟩ u4) v L :=
  ((((h.far hl (p := ⟨lo + 1 + 1 + 1, 0, none⟩) (by simp; omega) u0).far hl (p := ⟨lo + 1 + 1 + 1, 1, none⟩) (by simp; omega) u1).far hl (p := ⟨lo + 1 + 1 + 1, 2, none⟩) (by simp; omega) u2).far hl (p := ⟨lo + 1 + 1 + 1 + 1, 0, none⟩) (by simp; omega) u3).far hl (p := ⟨lo + 1 + 1 + 1 + 1, 1, none⟩) (by simp; omega) u4
theorem Strs.end5 {w : World} {v : Value} {L : List Str} {l lo : Nat} (h : Strs w v L) (hl : Lies l v) (hlo : lo + 1 + 1 + 1 + 1 < l) (u0 u1 u2 u3 u4 : Value) : Strs (((((w.setCell ⟨lo + 1 + 1 + 1, 0, none⟩ u0).setCell ⟨lo + 1 + 1 + 1, 1, none⟩ u1).setCell ⟨lo + 1 + 1 + 1, 2, none⟩ u2).setCell ⟨lo + 1 + 1 + 1 + 1, 0, none⟩ u3).setCell ⟨lo + 1 + 1 + 1 + 1, 1, none⟩ u4) v L :=
  ((((h.far hl (p := ⟨lo + 1 + 1 + 1, 0, none⟩) (by simp; omega) u0).far hl (p := ⟨lo + 1 + 1 + 1, 1, none⟩) (by simp; omega) u1).far hl (p := ⟨lo + 1 + 1 + 1, 2, none⟩) (by simp; omega) u2).far hl (p := ⟨lo + 1 + 1 + 1 + 1, 0, none⟩) (by simp; omega) u3).far hl (p := ⟨lo + 1 + 1 + 1 + 1, 1, none⟩) (by simp; omega) u4
end

theorem wants_in (ex : Bool) (at' : Int) (b n B : Nat) (F : Str → Option Int) (kind z : Int) (sv : Value) (S : List Str) (lo : Nat) (w : World) (hk : kind = 1 ∨ kind = 3 ∨ kind = 5) (hB : CBox w B 60 #[.bool ex, .int .i64 at', .map (some b)]) (h : Mp w b n F) (hn : n + S.length ≤ 8796093022200)
    (hS : Strs w sv S) (hl : Lies lo sv) (hBl : B < lo) (hbl : b < lo) (hz : (Lit.int .i64 z).wf = true) :
    Calls Try.prog 33 #[.pointer (some ⟨B, 0, none⟩), .agg #[.int .i64 kind, sv, .int .i64 z]] w (RetWork w B b (inEx kind ex) (inAt kind at' z) (n + S.length) (inF kind ex at' F S z) (inG kind ex) (fun a => inQ kind ex at' F S z a)) := by
  have := wants_any ex at' b n B F kind z sv S lo w hB h hn hS hl hBl hbl hz
  rcases hk with rfl | rfl | rfl <;> simpa [inEx, inAt, inF, inG, inQ] using this
theorem refuses_in (ex : Bool) (at' : Int) (b n B : Nat) (F : Str → Option Int) (z : Int) (sv : Value) (S : List Str) (lo : Nat) (w : World) (hB : CBox w B 60 #[.bool ex, .int .i64 at', .map (some b)]) (h : Mp w b n F) (hn : n + S.length ≤ 8796093022200)
    (hS : Strs w sv S) (hr : S.Pairwise (· < ·)) (hl : Lies lo sv) (hBl : B < lo) (hbl : b < lo) (ha : (Lit.int .i64 at').wf = true) :
    Calls Try.prog 34 #[.pointer (some ⟨B, 0, none⟩), .agg #[.int .i64 6, sv, .int .i64 z]] w (RetWork w B b (inEx 6 ex) (inAt 6 at' z) (n + S.length) (inF 6 ex at' F S z) (inG 6 ex) (fun a => inQ 6 ex at' F S z a)) := by
  cases ex
  · have := refuses_no at' b n B F 6 z sv S lo w hB h hn hS hr hl hBl hbl
    simpa [inEx, inAt, inF, inG, inQ] using this
  · have := refuses_yes at' b n B F 6 z sv S lo w hB h hn hS hr hl hBl hbl ha
    simpa [inEx, inAt, inF, inG, inQ] using this
theorem excepts_in (ex : Bool) (at' : Int) (b n B : Nat) (F : Str → Option Int) (kind z : Int) (sv : Value) (S : List Str) (lo : Nat) (w : World) (hk : kind = 2 ∨ kind = 4) (hB : CBox w B 60 #[.bool ex, .int .i64 at', .map (some b)]) (h : Mp w b n F) (hn : n + S.length ≤ 8796093022200)
    (hS : Strs w sv S) (hl : Lies lo sv) (hBl : B < lo) (hbl : b < lo) (hz : (Lit.int .i64 z).wf = true) (ha : (Lit.int .i64 at').wf = true) :
    Calls Try.prog 35 #[.pointer (some ⟨B, 0, none⟩), .agg #[.int .i64 kind, sv, .int .i64 z]] w (RetWork w B b (inEx kind ex) (inAt kind at' z) (n + S.length) (inF kind ex at' F S z) (inG kind ex) (fun a => inQ kind ex at' F S z a)) := by
  have := excepts_any ex at' b n B F kind z sv S lo w hB h hn hS hl hBl hbl hz ha
  rcases hk with rfl | rfl <;> simpa [inEx, inAt, inF, inG, inQ] using this

theorem may_eq (now mem last : Int) : may now mem last = ((decide (1 ≤ now) && decide (now ≤ 1099511627776)) && (decide (1 ≤ mem) && decide (mem ≤ 1000000)) && (decide (1 ≤ last) && decide (last ≤ 1000000))) := by
  unfold may
  rw [Bool.eq_iff_iff]
  simp only [Bool.and_eq_true, decide_eq_true_eq, and_assoc]

theorem Strs.apart {w : World} {v : Value} {L : List Str} (h : Strs w v L) {p : Addr} (hne : ∀ b, v.ownBlock = some b → b ≠ p.block) (u : Value) : Strs (w.setCell p u) v L := by
  obtain ⟨ao, cap, b, off, rfl, h0, h1, h2, h3⟩ := h
  refine ⟨ao, cap, b, off, rfl, h0, h1, h2, fun k hk => ?_⟩
  obtain ⟨hlt, hc⟩ := h3 k hk
  have hb : b ≠ p.block := by
    rcases h0 with rfl | rfl
    · simp at hk
    · exact hne b rfl
  refine ⟨by simpa using hlt, ?_⟩
  rw [World.cell?_setCell_other w p _ u (fun e => hb (by rw [e]))]
  exact hc

theorem bcell {B : Nat} {w w' : World} (hb : Below B w w') : (∀ b o, b < B → w'.cell? ⟨b, o, none⟩ = w.cell? ⟨b, o, none⟩) ∧ (∀ b o, b < B → w'.frozen? ⟨b, o, none⟩ = w.frozen? ⟨b, o, none⟩) :=
  ⟨fun b o h => hb.cell (p := ⟨b, o, none⟩) h, fun b o h => hb.frozen (p := ⟨b, o, none⟩) h⟩

/-- what slices.Sorted leaves -/
def SortedAt (w4 W : World) (C : List Str) (e : Ending) (W' : World) : Prop :=
  Below w4.heap.size w4 W ∧ ∃ v, e = .returned v ∧ Below W.heap.size W W' ∧ (∀ b, v.ownBlock = some b → W.heap.size ≤ b ∧ b < W'.heap.size) ∧ ∀ W2, Below W'.heap.size W' W2 → Calls Try.prog 30 #[v] W2 fun e w'' =>
        ∃ o, e = .returned o ∧ Strs w'' o (sasc C) ∧ W2.grownBy w'' v.ownBlock ∧ o.ownBlock = v.ownBlock

/-- what slices.Compact leaves: w4 all, W behind the making of the iterator, w6 sorted, W2 at the call -/
def CompactAt (w4 W w6 W2 : World) (C : List Str) (e : Ending) (w7 : World) : Prop :=
  ∃ oo oc, e = .returned (.slice oo (sasc C).length oc) ∧ Strs w7 (.slice oo (sasc C).length oc) (sasc C) ∧ (∀ b o, b < W.heap.size → w7.cell? ⟨b, o, none⟩ = W.cell? ⟨b, o, none⟩) ∧ (∀ b o, b < W.heap.size → w7.frozen? ⟨b, o, none⟩ = W.frozen? ⟨b, o, none⟩) ∧
    (∀ b o, w6.heap.size ≤ b → b < W2.heap.size → w7.cell? ⟨b, o, none⟩ = W2.cell? ⟨b, o, none⟩) ∧ (∀ b o, w6.heap.size ≤ b → b < W2.heap.size → w7.frozen? ⟨b, o, none⟩ = W2.frozen? ⟨b, o, none⟩) ∧
    (∀ b, (Value.slice oo (sasc C).length oc).ownBlock = some b → W.heap.size ≤ b ∧ b < w6.heap.size) ∧ Hid (Below w4.heap.size w4 w7 ∧ Below W.heap.size W w7 ∧ (∀ b, w6.heap.size ≤ b → b < W2.heap.size → w7.heap[b]? = W2.heap[b]?) ∧ W.heap.size ≤ w6.heap.size)

theorem compact_at {w4 W w6 W2 : World} {L : List Str} {v : Value} (_h1 : Below w4.heap.size w4 w6) (h0 : Below w4.heap.size w4 W) (h2 : Below W.heap.size W w6) (h3 : ∀ b, v.ownBlock = some b → W.heap.size ≤ b ∧ b < w6.heap.size) (h4 : Below w6.heap.size w6 W2)
    (hc : Calls Try.prog 30 #[v] W2 fun e w'' => ∃ o, e = .returned o ∧ Strs w'' o (sasc L) ∧ W2.grownBy w'' v.ownBlock ∧ o.ownBlock = v.ownBlock) : Calls Try.prog 30 #[v] W2 (CompactAt w4 W w6 W2 L) := by
  refine hc.mono ?_
  rintro e w7 ⟨o, rfl, hs, hg, hob⟩
  obtain ⟨oo, oc, rfl⟩ := hs.shape
  have hbW2 : Below W.heap.size W W2 := h2.trans (h4.mono h2.size)
  have hb7 : Below W.heap.size W w7 := hbW2.grown hg hbW2.size (fun k e => (h3 k e).1)
  have hh : ∀ b, w6.heap.size ≤ b → b < W2.heap.size → w7.heap[b]? = W2.heap[b]? := fun b h5 h6 => hg.block b h6 (fun e => by have := (h3 b e.symm).2; omega)
  exact ⟨oo, oc, rfl, hs, (bcell hb7).1, (bcell hb7).2, fun b o h5 h6 => World.cell?_of_block (w := W2) (hh b h5 h6), fun b o h5 h6 => World.frozen?_of_block (w := W2) (hh b h5 h6), fun b e => h3 b (hob ▸ e), Lib.hid ⟨h0.trans (hb7.mono h0.size), hb7, hh, h2.size⟩⟩

set_option maxRecDepth 20000 in
set_option maxHeartbeats 16000000 in
theorem apply_any (ex : Bool) (at' : Int) (v : Value) (L : List Tmd) (is : Bool) (kind : Int) (g : ByteArray) (rv : Value) (C : List Str) (now mem last : Int) (w : World) (h : Tms w v L) (hr : Strs w rv C) (ha : (Lit.int .i64 at').wf = true) :
    Calls Try.prog 20 #[.agg #[.bool ex, .int .i64 at', v], .bool is, .agg #[.int .i64 kind, .string g, rv], .int .i64 now, .agg #[.int .i64 mem, .int .i64 last]] w (RetApp w (is && ex) (if is then at' else 0) (if is then L else []) kind (sasc C) C.length now mem last) := by
  obtain ⟨vo, vc, rfl⟩ := h.shape
  obtain ⟨ro, rc, rfl⟩ := hr.shape
  obtain ⟨W0, hW0⟩ : ∃ W0, W0 = ((((w.alloc (.cells #[.bool ex, .int .i64 at', .slice vo L.length vc] 24)).alloc (.cells #[.int .i64 kind, .string g, .slice ro C.length rc] 37)).alloc (.cells #[.int .i64 mem, .int .i64 last] 39)).alloc (.cells #[.bool false, .int .i64 0, .slice none 0 0] 24)).alloc (.cells #[.bool false, .slice none 0 0] 44) := ⟨_, rfl⟩
  have hb0 : Below w.heap.size w W0 := by rw [hW0]; exact (((((Below.refl _ _).alloc (Nat.le_refl _) _).alloc (by simp) _).alloc (by simp <;> omega) _).alloc (by simp <;> omega) _).alloc (by simp <;> omega) _
  have hs0 : W0.heap.size = w.heap.size + 5 := by rw [hW0]; simp
  have hbx : AppBox W0 w.heap.size ex at' (.slice vo L.length vc) kind g (.slice ro C.length rc) mem last := by
    rw [hW0]
    exact ⟨((((CBox.new _ rfl).old _).old _).old _).old _, (((CBox.new _ (by simp)).old _).old _).old _, ((CBox.new _ (by simp)).old _).old _, (CBox.new _ (by simp)).old _, CBox.new _ (by simp)⟩
  obtain ⟨e0, he0⟩ : ∃ e0, e0 = (is && ex) := ⟨_, rfl⟩
  obtain ⟨a0, ha0⟩ : ∃ a0, a0 = (if is then at' else 0) := ⟨_, rfl⟩
  obtain ⟨L0, hL0⟩ : ∃ L0, L0 = (if is then L else []) := ⟨_, rfl⟩
  obtain ⟨v0, hv0⟩ : ∃ v0 : Value, v0 = (if is then .slice vo L.length vc else .slice none 0 0) := ⟨_, rfl⟩
  rw [← he0, ← ha0, ← hL0]
  have HWA : Hid ((Lit.int .i64 a0).wf = true) := by rw [ha0]; cases is; exact Lib.hid rfl; exact Lib.hid ha
  have HE := Lib.hid (And.intro he0 (And.intro ha0 (And.intro hL0 hv0)))
  have HB0 := Lib.hid hb0; have HBX := Lib.hid hbx; have HT := Lib.hid (h.mono hb0); have HR := Lib.hid (hr.mono hb0); have HR0 := Lib.hid hr
  obtain ⟨s0, s1, s2, k0, k2, m0, m1, n0, n1, n2, o0, o1, n0f, n1f, n2f, o0f, o1f⟩ := hbx.cells
  have s0f := hbx.1.thaw 0; have s1f := hbx.1.thaw 1; have s2f := hbx.1.thaw 2
  have hrl : C.length ≤ 8796093022208 := by obtain ⟨_, _, _, _, _, _, h, _⟩ := hr; exact h
  rw [hW0] at s0 s1 s2 k0 k2 m0 m1 n0 n1 n2 o0 o1 n0f n1f n2f o0f o1f s0f s1f s2f
  clear h hr ha hb0 hbx he0 ha0 hL0 hv0
  go_enter Try.func20, Try.ntmps20
  go_upto_if 19 with fail
  go_cut [] (fun w' => AppBox w' w.heap.size e0 a0 v0 kind g (.slice ro C.length rc) mem last ∧ Tms w' v0 L0 ∧ Strs w' (.slice ro C.length rc) C ∧ Below w.heap.size w w' ∧ w.heap.size + 5 ≤ w'.heap.size)
  case first =>
    cases is
    · go_wp2_with fail
      go_meet
      case rel =>
        obtain ⟨rfl, rfl, rfl, rfl⟩ := HE.out
        obtain ⟨q1, q2⟩ := AppBox.start w false 0 (.slice none 0 0) kind g (.slice ro C.length rc) mem last
        exact ⟨q1, Tms.nil _, HR0.out.mono q2, q2, q1.lt⟩
    · go_wp2_with fail
      go_meet
      case rel =>
        obtain ⟨rfl, rfl, rfl, rfl⟩ := HE.out
        rw [← hW0]
        exact ⟨HBX.out, HT.out, HR.out, HB0.out, by omega⟩
  case rest =>
    obtain ⟨w1, rfl⟩ : ∃ w1, w1 = wc := ⟨_, rfl⟩
    obtain ⟨hA, hT, hC, hB, hz⟩ := hcut
    obtain ⟨o0', c0', rfl⟩ := hT.shape
    have A1 := Lib.hid hA; have T1 := Lib.hid hT; have C1 := Lib.hid hC; have B1 := Lib.hid hB; have Z1 := Lib.hid hz
    have HCK := Lib.hid (check_any e0 a0 _ L0 w1 hT)
    clear s0 s1 s2 k0 k2 m0 m1 n0 n1 n2 o0 o1 n0f n1f n2f o0f o1f s0f s1f s2f HE HB0 HBX HT HR HR0 hs0 hW0 W0
    obtain ⟨s0, s1, s2, _⟩ := hA.cells
    clear hA hT hC hB hz
    go_wp2_with fail
    refine HCK.out.mono ?_
    rintro e w2 ⟨rfl, hb2⟩
    have A2 := Lib.hid (A1.out.below hb2 A1.out.lt); have T2 := Lib.hid (T1.out.mono hb2); have C2 := Lib.hid (C1.out.mono hb2); have B2 := Lib.hid (B1.out.trans (hb2.mono B1.out.size)); have Z2 := Lib.hid (show w.heap.size + 5 ≤ w2.heap.size from Nat.le_trans Z1.out hb2.size)
    clear s0 s1 s2 hb2 HCK A1 T1 C1 B1 Z1
    obtain ⟨s0, s1, s2, k0, k2, m0, m1, n0, n1, n2, o0, o1, n0f, n1f, n2f, o0f, o1f⟩ := A2.out.cells
    have z2 := Z2.out
    cases hp : pcheck e0 a0 L0
    · have HP := Lib.hid hp
      go_wp2_with fail
      obtain ⟨r0, r1, r2, r3, r4⟩ := A2.out.end5 (.bool false) (.int .i64 0) (.slice none 0 0) (.bool false) (.slice none 0 0)
      have hBB := below_end5 B2.out (lo := w.heap.size) (by omega) (.bool false) (.int .i64 0) (.slice none 0 0) (.bool false) (.slice none 0 0)
      refine bodyPost_ret (v := .tuple #[noState, .bool false, noAsk, .int .i64 3]) (by simp only [results, Try.results20, go_sem, noState, noAsk]; simp [go_sem, r0, r1, r2, r3, r4]) rfl ⟨hBB, by rw [HP.out]; exact .inl ⟨by simp [verdict], rfl⟩⟩
    · have HP := Lib.hid hp
      clear hp
      obtain ⟨b1, hb1⟩ : ∃ b1, (decide (1 ≤ now) && decide (now ≤ 1099511627776)) = b1 := ⟨_, rfl⟩
      obtain ⟨b2, hb2⟩ : ∃ b2, (decide (1 ≤ mem) && decide (mem ≤ 1000000)) = b2 := ⟨_, rfl⟩
      obtain ⟨b3, hb3⟩ : ∃ b3, (decide (1 ≤ last) && decide (last ≤ 1000000)) = b3 := ⟨_, rfl⟩
      obtain ⟨b4, hb4⟩ : ∃ b4, decide (60 < C.length) = b4 := ⟨_, rfl⟩
      have G1 : Hid (∀ W, Calls Try.prog 29 #[.int .i64 now, .int .i64 1, .int .i64 1099511627776] W fun e w' => e = .returned (.bool b1) ∧ W = w') := Lib.hid (fun W => by rw [← hb1]; exact within_any now 1 1099511627776 W)
      have G2 : Hid (∀ W, Calls Try.prog 29 #[.int .i64 mem, .int .i64 1, .int .i64 1000000] W fun e w' => e = .returned (.bool b2) ∧ W = w') := Lib.hid (fun W => by rw [← hb2]; exact within_any mem 1 1000000 W)
      have G3 : Hid (∀ W, Calls Try.prog 29 #[.int .i64 last, .int .i64 1, .int .i64 1000000] W fun e w' => e = .returned (.bool b3) ∧ W = w') := Lib.hid (fun W => by rw [← hb3]; exact within_any last 1 1000000 W)
      have HV : Hid (∀ ok, verdict ok kind C.length now mem last = if ok then (if (b1 && b2 && b3) && !b4 && decide (1 ≤ kind ∧ kind ≤ 6) then 0 else 1) else 3) := Lib.hid (fun ok => by
        unfold verdict
        rw [may_eq, hb1, hb2, hb3, show decide (C.length ≤ 60) = !b4 from by rw [← hb4, ← decide_not, decide_eq_decide]; exact Nat.not_lt.symm])
      have hb4' : decide ((60 : Int) < (C.length : Int)) = b4 := by rw [← hb4, decide_eq_decide]; exact Int.ofNat_lt (n := 60)
      have HB1 := Lib.hid hb1; have HB2 := Lib.hid hb2; have HB3 := Lib.hid hb3; have HB4 := Lib.hid hb4
      clear hb1 hb2 hb3
      by_cases hall : (b1 && b2 && b3) && !b4 = true
      · obtain ⟨⟨⟨rfl, rfl⟩, rfl⟩, h4⟩ : ((b1 = true ∧ b2 = true) ∧ b3 = true) ∧ b4 = false := by simpa using hall
        subst h4
        clear hall
        have HVV : Hid (verdict (pcheck e0 a0 L0) kind C.length now mem last = if decide (1 ≤ kind ∧ kind ≤ 6) then 0 else 1) := Lib.hid (by rw [HV.out, HP.out]; simp)
        go_wp2_with (first | ((with_reducible refine (G1.out _).mono ?_); rintro e w' ⟨rfl, rfl⟩) | ((with_reducible refine (G2.out _).mono ?_); rintro e w' ⟨rfl, rfl⟩) | ((with_reducible refine (G3.out _).mono ?_); rintro e w' ⟨rfl, rfl⟩))
        have HRD := Lib.hid (read_any e0 a0 _ L0 w2 T2.out)
        refine HRD.out.mono ?_
        rintro e w3 ⟨b, rfl, hm3, hbb, hb3⟩
        obtain ⟨w4, hw4⟩ : ∃ w4, w4 = w3.alloc (.cells #[.bool e0, .int .i64 a0, .map (some b)] 60) := ⟨_, rfl⟩
        have h34 : Below w3.heap.size w3 w4 := by rw [hw4]; exact (Below.refl _ _).alloc (Nat.le_refl _) _
        have hs4 : w4.heap.size = w3.heap.size + 1 := by rw [hw4]; simp
        have h24 : Below w2.heap.size w2 w4 := hb3.trans (h34.mono hb3.size)
        have k4 : CBox w4 w3.heap.size 60 #[.bool e0, .int .i64 a0, .map (some b)] := by rw [hw4]; exact CBox.new _ rfl
        have A4 := Lib.hid (A2.out.below h24 A2.out.lt); have C4 := Lib.hid (C2.out.mono h24); have B4 := Lib.hid (B2.out.trans (h24.mono B2.out.size)); have K4 := Lib.hid k4; have M4 := Lib.hid (hm3.below h34 hm3.lt)
        have z3 := hb3.size
        have hbl := hm3.lt
        have hll : L0.length ≤ 60 := by have := HP.out; unfold pcheck at this; simp only [Bool.and_eq_true, decide_eq_true_eq] at this; omega
        have hcl : C.length ≤ 60 := by have := HB4.out; simpa [Nat.not_lt] using this
        obtain ⟨hn1, hn2, hm1, hm2, hl1, hl2⟩ : 1 ≤ now ∧ now ≤ 1099511627776 ∧ 1 ≤ mem ∧ mem ≤ 1000000 ∧ 1 ≤ last ∧ last ≤ 1000000 := by
          have h1 := HB1.out; have h2 := HB2.out; have h3 := HB3.out
          simp only [Bool.and_eq_true, decide_eq_true_eq] at h1 h2 h3
          exact ⟨h1.1, h1.2, h2.1, h2.2, h3.1, h3.2⟩
        clear s0 s1 s2 k0 k2 m0 m1 n0 n1 n2 o0 o1 n0f n1f n2f o0f o1f hm3 hb3 h34 k4 A2 T2 C2 B2 Z2 HRD G1 G2 G3 HP HV hb4 hb4' h24 HB1 HB2 HB3 HB4
        go_upto_region 9 with fail
        rw [← hw4]
        have HW4 := Lib.hid hw4; have HS4 := Lib.hid hs4
        clear hw4 hs4
        obtain ⟨s0, s1, s2, k0, k2, m0, m1, n0, n1, n2, o0, o1, n0f, n1f, n2f, o0f, o1f⟩ := A4.out.cells
        have SK := Lib.hid (show ∀ w', Below w4.heap.size w4 w' → w'.cell? ⟨w.heap.size + 1, 0, none⟩ = some (.int .i64 kind) ∧ w'.cell? ⟨w.heap.size + 1, 2, none⟩ = some (.slice ro C.length rc) ∧ w'.cell? ⟨w.heap.size + 1 + 1, 0, none⟩ = some (.int .i64 mem) from fun w' hb =>
          have q := (A4.out.below hb A4.out.lt).cells
          ⟨q.2.2.2.1, q.2.2.2.2.1, q.2.2.2.2.2.1⟩)
        have HSV := Lib.hid (fun (W : World) (Bs : Nat) (h1 : Below w4.heap.size w4 W) (h2 : Bs < W.heap.size) (h3 : W.cell? ⟨Bs, 0, none⟩ = some (.slice ro C.length rc)) => show Calls Try.prog 31 #[.func (.func 46) #[] #[.pointer (some ⟨Bs, 0, none⟩)]] W (SortedAt w4 W C) from (sortedVals w4 Bs (.slice ro C.length rc) C C4.out W h1 h2 h3).mono (fun _ _ h => ⟨h1, h⟩))
        have HVA := Lib.hid (fun W => (callsIn_wide (n := 5)).1 (vals_in 5 ro C.length rc W))
        have R0 := Lib.hid (Below.drew (Below.refl w4.heap.size w4))
        have hsum : IntKind.i64.wrap (now + mem) = now + mem := IntWalk.i64_in _ (by omega)
        go_cut [16] (fun s16 w' => ∃ X sv, s16 = .pointer (some ⟨X, 0, none⟩) ∧ CBox w' X 72 #[.int .i64 kind, sv, .int .i64 (now + mem)] ∧ Strs w' sv (sasc C) ∧ Lies w4.heap.size sv ∧ w4.heap.size ≤ X ∧ Below w4.heap.size w4 w')
        case first =>
          go_wp2_with fail
          go_region_held3 (fun w' => w'.cell? ⟨w.heap.size + 1, 0, none⟩ = some (.int .i64 kind) ∧ w'.cell? ⟨w.heap.size + 1, 2, none⟩ = some (.slice ro C.length rc) ∧ w'.cell? ⟨w.heap.size + 1 + 1, 0, none⟩ = some (.int .i64 mem)) (first | exact SK.out _ R3.out | exact SK.out _ (R3.out.alloc R3.out.size _) | exact SK.out _ R2.out | exact SK.out _ (R2.out.alloc R2.out.size _) | exact SK.out _ R0.out | exact SK.out _ ((Below.refl _ _).alloc (Nat.le_refl _) _).drew | exact SK.out _ (((Below.refl _ _).alloc (Nat.le_refl _) _).alloc (by simp) _).drew | exact SK.out _ (((R3.out.setCell R2.out.size _).setCell R2.out.size _).setCell R2.out.size _) | exact SK.out _ (((R3.out.setCell (Nat.le_refl _) _).setCell (Nat.le_refl _) _).setCell (Nat.le_refl _) _) | exact SK.out _ (((R3.out.setCell (Nat.le_succ _) _).setCell (Nat.le_succ _) _).setCell (Nat.le_succ _) _))
            (first
              | (go_at_call 30; refine (HCP.out _ (by first | exact Below.refl _ _ | exact (Below.refl _ _).alloc (Nat.le_refl _) _)).mono ?_; rintro e w7 ⟨oo, oc, rfl, ho, hc7, hf7, hc8, hf8, hlo, HX7⟩; have HO := Lib.hid ho; have HLO := Lib.hid hlo; have R3 := Lib.hid (HX7.out.1); clear ho hlo)
              | (go_at_call 31; refine (HSV.out _ _ (by first | exact ((Below.refl _ _).alloc (Nat.le_refl _) _).drew | exact (((Below.refl _ _).alloc (Nat.le_refl _) _).alloc (by simp) _).drew) (by simp <;> omega) (by simp)).mono ?_; rintro e w6 ⟨hW6, vs, rfl, hb6, hcl6, hcp⟩; obtain ⟨hc6, hf6⟩ := bcell hb6; have R2 := Lib.hid (hW6.trans (hb6.mono hW6.size)); have HCP := Lib.hid (fun (W : World) (hW : Below w6.heap.size w6 W) => compact_at (L := C) R2.out hW6 hb6 hcl6 hW (hcp W hW)); clear hcp hb6 hcl6 hW6)
              | (go_at_call 32; refine (HVA.out _).mono ?_; rintro e w5' ⟨rfl, rfl⟩))
          all_goals
            go_wp2_with fail
            go_meet
            case rel =>
            have hl : Lies w4.heap.size (.slice oo (sasc C).length oc) := fun b e => by have := (HLO.out b e).1; simp at this; omega
            first
              | exact ⟨_, _, rfl, CBox.new _ rfl, HO.out.mono ((Below.refl _ _).alloc (Nat.le_refl _) _), hl, R3.out.size, R3.out.alloc R3.out.size _⟩
              | (have q : CBox w7 w6.heap.size 72 #[.int .i64 0, .slice none 0 0, .int .i64 0] := (HX7.out.2.2.1 w6.heap.size (Nat.le_refl _) (by simp)).trans (CBox.new _ rfl)
                 have q3 := ((q.set 0 (.int .i64 kind)).set 1 (.slice oo (sasc C).length oc)).set 2 (.int .i64 (now + mem))
                 exact ⟨_, _, rfl, by simpa using q3, ((HO.out.apart (p := ⟨w6.heap.size, 0, none⟩) (fun b e => by have := HLO.out b e; simp at this ⊢; omega) _).apart (p := ⟨w6.heap.size, 1, none⟩) (fun b e => by have := HLO.out b e; simp at this ⊢; omega) _).apart (p := ⟨w6.heap.size, 2, none⟩) (fun b e => by have := HLO.out b e; simp at this ⊢; omega) _, hl, R2.out.size, ((R3.out.setCell R2.out.size _).setCell R2.out.size _).setCell R2.out.size _⟩)
              | (have q : CBox w7 (w4.heap.size + 1) 72 #[.int .i64 0, .slice none 0 0, .int .i64 0] := ((CBox.new _ (by simp)).drew).below HX7.out.2.1 (by simp <;> omega)
                 have q3 := ((q.set 0 (.int .i64 kind)).set 1 (.slice oo (sasc C).length oc)).set 2 (.int .i64 (now + mem))
                 exact ⟨_, _, rfl, by simpa using q3, ((HO.out.apart (p := ⟨(w4.heap.size + 1), 0, none⟩) (fun b e => by have := HLO.out b e; simp at this ⊢; omega) _).apart (p := ⟨(w4.heap.size + 1), 1, none⟩) (fun b e => by have := HLO.out b e; simp at this ⊢; omega) _).apart (p := ⟨(w4.heap.size + 1), 2, none⟩) (fun b e => by have := HLO.out b e; simp at this ⊢; omega) _, hl, (Nat.le_succ _), ((R3.out.setCell (Nat.le_succ _) _).setCell (Nat.le_succ _) _).setCell (Nat.le_succ _) _⟩)
              | (have q : CBox w7 w4.heap.size 72 #[.int .i64 0, .slice none 0 0, .int .i64 0] := (((CBox.new _ rfl).old _).drew).below HX7.out.2.1 (by simp <;> omega)
                 have q3 := ((q.set 0 (.int .i64 kind)).set 1 (.slice oo (sasc C).length oc)).set 2 (.int .i64 (now + mem))
                 exact ⟨_, _, rfl, by simpa using q3, ((HO.out.apart (p := ⟨w4.heap.size, 0, none⟩) (fun b e => by have := HLO.out b e; simp at this ⊢; omega) _).apart (p := ⟨w4.heap.size, 1, none⟩) (fun b e => by have := HLO.out b e; simp at this ⊢; omega) _).apart (p := ⟨w4.heap.size, 2, none⟩) (fun b e => by have := HLO.out b e; simp at this ⊢; omega) _, hl, (Nat.le_refl _), ((R3.out.setCell (Nat.le_refl _) _).setCell (Nat.le_refl _) _).setCell (Nat.le_refl _) _⟩)
        case rest =>
          obtain ⟨w8, rfl⟩ : ∃ w8, w8 = wc := ⟨_, rfl⟩
          obtain ⟨X, sv, rfl, hX, hsv, hlsv, hX4, hb8⟩ := hcut
          obtain ⟨so, sc, rfl⟩ := hsv.shape
          obtain ⟨w9, hw9⟩ : ∃ w9, w9 = w8.alloc (.cells #[.bool false, .slice none 0 0] 44) := ⟨_, rfl⟩
          have h89 : Below w8.heap.size w8 w9 := by rw [hw9]; exact (Below.refl _ _).alloc (Nat.le_refl _) _
          have h49 := hb8.trans (h89.mono hb8.size)
          have hbw4 : w3.heap.size < w4.heap.size := K4.out.lt
          have hbl : b < w4.heap.size := M4.out.lt
          have A9 := Lib.hid (A4.out.below h49 A4.out.lt); have K9 := Lib.hid (K4.out.below h49 hbw4); have M9 := Lib.hid (M4.out.below h49 hbl); have B9 := Lib.hid (B4.out.trans (h49.mono B4.out.size)); have S9 := Lib.hid (hsv.mono h89)
          have X9 := Lib.hid (hX.below h89 hX.lt)
          have Y9 := Lib.hid (show CBox w9 w8.heap.size 44 #[.bool false, .slice none 0 0] from by rw [hw9]; exact CBox.new _ rfl)
          have kk0 := A9.out.cells.2.2.2.1
          rw [hw9] at kk0
          have h48 := hb8.size
          have hs9 : w8.heap.size < w9.heap.size := Y9.out.lt
          have hnn : L0.length + (sasc C).length ≤ 8796093022200 := by have := sasc_length C; omega
          have hnn2 : L0.length + (sasc C).length ≤ 200 := by have := sasc_length C; omega
          have wfm : (Lit.int .i64 (now + mem)).wf = true := WalkArith.wf_i64 (n := now + mem) (by omega)
          have hbb5 : w.heap.size + 5 ≤ b := by omega
          have hb35 : w.heap.size + 5 ≤ w3.heap.size := by omega
          have hlsv' := hlsv
          obtain ⟨w4s, hw4s⟩ : ∃ s, s = w4.heap.size := ⟨_, rfl⟩
          rw [← hw4s] at hbw4 hbl hlsv' h48 hX4
          have hne : w3.heap.size ≠ b := K4.out.ne_mp M4.out
          obtain ⟨Bk, hBk⟩ : ∃ Bk, Bk = w3.heap.size := ⟨_, rfl⟩
          rw [← hBk] at K9 hbw4 hb35 hne
          have hBk4 := hbw4
          have z9 := B9.out.size
          clear hX hsv hlsv hb8 h89 h49 s0 s1 s2 k0 k2 m0 m1 n0 n1 n2 o0 o1 n0f n1f n2f o0f o1f SK HSV HVA R0 hsum A4 C4 B4 K4 M4 HW4 HS4 hbb z3
          go_upto_block 0 with fail
          rw [← hw9, ← hBk]
          have HW9 := Lib.hid (And.intro hw9 (And.intro hBk hw4s))
          clear hw9 hBk hw4s kk0
          by_cases hk : 1 ≤ kind ∧ kind ≤ 6
          · have HVK : Hid (verdict (pcheck e0 a0 L0) kind C.length now mem last = 0) := Lib.hid (by rw [HVV.out]; simp [hk])
            have hks : kind = 1 ∨ kind = 2 ∨ kind = 3 ∨ kind = 4 ∨ kind = 5 ∨ kind = 6 := by omega
            go_cut [] (fun w' => ∃ b1 u R lo', AppBox w' w.heap.size e0 a0 (.slice o0' L0.length c0') kind g (.slice ro C.length rc) mem last ∧ CBox w' Bk 60 #[.bool (inEx kind e0), .int .i64 (inAt kind a0 (now + mem)), .map (some b1)] ∧ Mp w' b1 (L0.length + (sasc C).length) (inF kind e0 a0 (rd L0) (sasc C) (now + mem)) ∧
              CBox w' w8.heap.size 44 #[.bool (inG kind e0), u] ∧ Strs w' u R ∧ Rises (fun a => inQ kind e0 a0 (rd L0) (sasc C) (now + mem) a) R ∧ R.length ≤ L0.length + (sasc C).length ∧ Lies lo' u ∧ b1 < lo' ∧ Bk < lo' ∧ w8.heap.size < lo' ∧ w.heap.size + 5 ≤ b1 ∧ b1 ≠ w8.heap.size ∧ Below w.heap.size w w')
            case first =>
              obtain ⟨x0, _⟩ := X9.out.at_ 0 _ rfl
              obtain ⟨x1, _⟩ := X9.out.at_ 1 _ rfl
              obtain ⟨x2, _⟩ := X9.out.at_ 2 _ rfl
              clear HVK hk
              rcases hks with rfl | rfl | rfl | rfl | rfl | rfl
              · have HC := Lib.hid (wants_in e0 a0 b L0.length Bk (rd L0) 1 (now + mem) _ (sasc C) w4s w9 (.inl rfl) K9.out M9.out hnn S9.out hlsv' hBk4 hbl wfm)
                go_wp2_with fail
                refine HC.out.mono ?_
                rintro e w10 ⟨b1, u, R, lo', rfl, hu, hR, hRn, hlu, hb1, hlo, hbb1, hk10, hm10, hbut⟩
                obtain ⟨uo, uc, rfl⟩ := hu.shape
                have hY := hbut.box Y9.out (by omega) (by omega)
                have Y10 := Lib.hid hY
                obtain ⟨q0, q0f⟩ := hY.at_ 0 _ rfl
                obtain ⟨q1, q1f⟩ := hY.at_ 1 _ rfl
                have HH := Lib.hid (And.intro hu (And.intro hR (And.intro hRn (And.intro hlu (And.intro hk10 (And.intro hm10 hbut))))))
                have hYl := hY.lt
                clear hu hR hRn hlu hk10 hm10 hbut hY HC
                go_wp2_with fail
                go_meet
                case rel =>
                obtain ⟨hu, hR, hRn, hlu, hk10, hm10, hbut⟩ := HH.out
                have q3 := (Y10.out.set 0 (.bool (inG 1 e0))).set 1 (.slice uo R.length uc)
                refine ⟨b1, .slice uo R.length uc, R, lo', ((A9.out.but hbut (by omega) (by omega)).far (by simp; omega) _).far (by simp; omega) _, (hk10.far (by simp; omega) _).far (by simp; omega) _, (hm10.set (by simp; omega) _).set (by simp; omega) _, by simpa using q3, (hu.far hlu (by simp; omega) _).far hlu (by simp; omega) _, hR, hRn, hlu, hb1, by omega, by omega, by omega, by omega, ?_⟩
                exact ((B9.out.trans ((hbut.below (lo := w.heap.size) (by omega) (by omega) (by omega)))).setCell (by simp; omega) _).setCell (by simp; omega) _
              · have HC := Lib.hid (excepts_in e0 a0 b L0.length Bk (rd L0) 2 (now + mem) _ (sasc C) w4s w9 (.inl rfl) K9.out M9.out hnn S9.out hlsv' hBk4 hbl wfm HWA.out)
                go_wp2_with fail
                refine HC.out.mono ?_
                rintro e w10 ⟨b1, u, R, lo', rfl, hu, hR, hRn, hlu, hb1, hlo, hbb1, hk10, hm10, hbut⟩
                obtain ⟨uo, uc, rfl⟩ := hu.shape
                have hY := hbut.box Y9.out (by omega) (by omega)
                have Y10 := Lib.hid hY
                obtain ⟨q0, q0f⟩ := hY.at_ 0 _ rfl
                obtain ⟨q1, q1f⟩ := hY.at_ 1 _ rfl
                have HH := Lib.hid (And.intro hu (And.intro hR (And.intro hRn (And.intro hlu (And.intro hk10 (And.intro hm10 hbut))))))
                have hYl := hY.lt
                clear hu hR hRn hlu hk10 hm10 hbut hY HC
                go_wp2_with fail
                go_meet
                case rel =>
                obtain ⟨hu, hR, hRn, hlu, hk10, hm10, hbut⟩ := HH.out
                have q3 := (Y10.out.set 0 (.bool (inG 2 e0))).set 1 (.slice uo R.length uc)
                refine ⟨b1, .slice uo R.length uc, R, lo', ((A9.out.but hbut (by omega) (by omega)).far (by simp; omega) _).far (by simp; omega) _, (hk10.far (by simp; omega) _).far (by simp; omega) _, (hm10.set (by simp; omega) _).set (by simp; omega) _, by simpa using q3, (hu.far hlu (by simp; omega) _).far hlu (by simp; omega) _, hR, hRn, hlu, hb1, by omega, by omega, by omega, by omega, ?_⟩
                exact ((B9.out.trans ((hbut.below (lo := w.heap.size) (by omega) (by omega) (by omega)))).setCell (by simp; omega) _).setCell (by simp; omega) _
              · have HC := Lib.hid (wants_in e0 a0 b L0.length Bk (rd L0) 3 (now + mem) _ (sasc C) w4s w9 (.inr (.inl rfl)) K9.out M9.out hnn S9.out hlsv' hBk4 hbl wfm)
                go_wp2_with fail
                refine HC.out.mono ?_
                rintro e w10 ⟨b1, u, R, lo', rfl, hu, hR, hRn, hlu, hb1, hlo, hbb1, hk10, hm10, hbut⟩
                obtain ⟨uo, uc, rfl⟩ := hu.shape
                have hY := hbut.box Y9.out (by omega) (by omega)
                have Y10 := Lib.hid hY
                obtain ⟨q0, q0f⟩ := hY.at_ 0 _ rfl
                obtain ⟨q1, q1f⟩ := hY.at_ 1 _ rfl
                have HH := Lib.hid (And.intro hu (And.intro hR (And.intro hRn (And.intro hlu (And.intro hk10 (And.intro hm10 hbut))))))
                have hYl := hY.lt
                clear hu hR hRn hlu hk10 hm10 hbut hY HC
                go_wp2_with fail
                go_meet
                case rel =>
                obtain ⟨hu, hR, hRn, hlu, hk10, hm10, hbut⟩ := HH.out
                have q3 := (Y10.out.set 0 (.bool (inG 3 e0))).set 1 (.slice uo R.length uc)
                refine ⟨b1, .slice uo R.length uc, R, lo', ((A9.out.but hbut (by omega) (by omega)).far (by simp; omega) _).far (by simp; omega) _, (hk10.far (by simp; omega) _).far (by simp; omega) _, (hm10.set (by simp; omega) _).set (by simp; omega) _, by simpa using q3, (hu.far hlu (by simp; omega) _).far hlu (by simp; omega) _, hR, hRn, hlu, hb1, by omega, by omega, by omega, by omega, ?_⟩
                exact ((B9.out.trans ((hbut.below (lo := w.heap.size) (by omega) (by omega) (by omega)))).setCell (by simp; omega) _).setCell (by simp; omega) _
              · have HC := Lib.hid (excepts_in e0 a0 b L0.length Bk (rd L0) 4 (now + mem) _ (sasc C) w4s w9 (.inr rfl) K9.out M9.out hnn S9.out hlsv' hBk4 hbl wfm HWA.out)
                go_wp2_with fail
                refine HC.out.mono ?_
                rintro e w10 ⟨b1, u, R, lo', rfl, hu, hR, hRn, hlu, hb1, hlo, hbb1, hk10, hm10, hbut⟩
                obtain ⟨uo, uc, rfl⟩ := hu.shape
                have hY := hbut.box Y9.out (by omega) (by omega)
                have Y10 := Lib.hid hY
                obtain ⟨q0, q0f⟩ := hY.at_ 0 _ rfl
                obtain ⟨q1, q1f⟩ := hY.at_ 1 _ rfl
                have HH := Lib.hid (And.intro hu (And.intro hR (And.intro hRn (And.intro hlu (And.intro hk10 (And.intro hm10 hbut))))))
                have hYl := hY.lt
                clear hu hR hRn hlu hk10 hm10 hbut hY HC
                go_wp2_with fail
                go_meet
                case rel =>
                obtain ⟨hu, hR, hRn, hlu, hk10, hm10, hbut⟩ := HH.out
                have q3 := (Y10.out.set 0 (.bool (inG 4 e0))).set 1 (.slice uo R.length uc)
                refine ⟨b1, .slice uo R.length uc, R, lo', ((A9.out.but hbut (by omega) (by omega)).far (by simp; omega) _).far (by simp; omega) _, (hk10.far (by simp; omega) _).far (by simp; omega) _, (hm10.set (by simp; omega) _).set (by simp; omega) _, by simpa using q3, (hu.far hlu (by simp; omega) _).far hlu (by simp; omega) _, hR, hRn, hlu, hb1, by omega, by omega, by omega, by omega, ?_⟩
                exact ((B9.out.trans ((hbut.below (lo := w.heap.size) (by omega) (by omega) (by omega)))).setCell (by simp; omega) _).setCell (by simp; omega) _
              · have HC := Lib.hid (wants_in e0 a0 b L0.length Bk (rd L0) 5 (now + mem) _ (sasc C) w4s w9 (.inr (.inr rfl)) K9.out M9.out hnn S9.out hlsv' hBk4 hbl wfm)
                go_wp2_with fail
                refine HC.out.mono ?_
                rintro e w10 ⟨b1, u, R, lo', rfl, hu, hR, hRn, hlu, hb1, hlo, hbb1, hk10, hm10, hbut⟩
                obtain ⟨uo, uc, rfl⟩ := hu.shape
                have hY := hbut.box Y9.out (by omega) (by omega)
                have Y10 := Lib.hid hY
                obtain ⟨q0, q0f⟩ := hY.at_ 0 _ rfl
                obtain ⟨q1, q1f⟩ := hY.at_ 1 _ rfl
                have HH := Lib.hid (And.intro hu (And.intro hR (And.intro hRn (And.intro hlu (And.intro hk10 (And.intro hm10 hbut))))))
                have hYl := hY.lt
                clear hu hR hRn hlu hk10 hm10 hbut hY HC
                go_wp2_with fail
                go_meet
                case rel =>
                obtain ⟨hu, hR, hRn, hlu, hk10, hm10, hbut⟩ := HH.out
                have q3 := (Y10.out.set 0 (.bool (inG 5 e0))).set 1 (.slice uo R.length uc)
                refine ⟨b1, .slice uo R.length uc, R, lo', ((A9.out.but hbut (by omega) (by omega)).far (by simp; omega) _).far (by simp; omega) _, (hk10.far (by simp; omega) _).far (by simp; omega) _, (hm10.set (by simp; omega) _).set (by simp; omega) _, by simpa using q3, (hu.far hlu (by simp; omega) _).far hlu (by simp; omega) _, hR, hRn, hlu, hb1, by omega, by omega, by omega, by omega, ?_⟩
                exact ((B9.out.trans ((hbut.below (lo := w.heap.size) (by omega) (by omega) (by omega)))).setCell (by simp; omega) _).setCell (by simp; omega) _
              · have HC := Lib.hid (refuses_in e0 a0 b L0.length Bk (rd L0) (now + mem) _ (sasc C) w4s w9 K9.out M9.out hnn S9.out (sasc_rising C) hlsv' hBk4 hbl HWA.out)
                go_wp2_with fail
                refine HC.out.mono ?_
                rintro e w10 ⟨b1, u, R, lo', rfl, hu, hR, hRn, hlu, hb1, hlo, hbb1, hk10, hm10, hbut⟩
                obtain ⟨uo, uc, rfl⟩ := hu.shape
                have hY := hbut.box Y9.out (by omega) (by omega)
                have Y10 := Lib.hid hY
                obtain ⟨q0, q0f⟩ := hY.at_ 0 _ rfl
                obtain ⟨q1, q1f⟩ := hY.at_ 1 _ rfl
                have HH := Lib.hid (And.intro hu (And.intro hR (And.intro hRn (And.intro hlu (And.intro hk10 (And.intro hm10 hbut))))))
                have hYl := hY.lt
                clear hu hR hRn hlu hk10 hm10 hbut hY HC
                go_wp2_with fail
                go_meet
                case rel =>
                obtain ⟨hu, hR, hRn, hlu, hk10, hm10, hbut⟩ := HH.out
                have q3 := (Y10.out.set 0 (.bool (inG 6 e0))).set 1 (.slice uo R.length uc)
                refine ⟨b1, .slice uo R.length uc, R, lo', ((A9.out.but hbut (by omega) (by omega)).far (by simp; omega) _).far (by simp; omega) _, (hk10.far (by simp; omega) _).far (by simp; omega) _, (hm10.set (by simp; omega) _).set (by simp; omega) _, by simpa using q3, (hu.far hlu (by simp; omega) _).far hlu (by simp; omega) _, hR, hRn, hlu, hb1, by omega, by omega, by omega, by omega, ?_⟩
                exact ((B9.out.trans ((hbut.below (lo := w.heap.size) (by omega) (by omega) (by omega)))).setCell (by simp; omega) _).setCell (by simp; omega) _
            case rest =>
              obtain ⟨w11, rfl⟩ : ∃ w11, w11 = wc := ⟨_, rfl⟩
              obtain ⟨b1, u, R, lo', hA11, hK11, hM11, hY11, hu, hR, hRn, hlu, hb1, hbk, hy, hbb1, hby, hB11⟩ := hcut
              obtain ⟨uo, uc, rfl⟩ := hu.shape
              obtain ⟨e1, he1⟩ : ∃ e1, inEx kind e0 = e1 := ⟨_, rfl⟩
              rw [he1] at hK11
              obtain ⟨K, hKs, hlen⟩ := hM11.count
              have hneB := hK11.ne_mp hM11
              have hYB : w8.heap.size ≠ Bk := by have := HW9.out.2.1; have := HW9.out.2.2; omega
              have A11 := Lib.hid hA11; have K11 := Lib.hid hK11; have M11 := Lib.hid hM11; have Y11 := Lib.hid hY11; have U11 := Lib.hid hu; have HR := Lib.hid hR; have HLU := Lib.hid hlu; have B11 := Lib.hid hB11; have HKS := Lib.hid hKs; have HE1 := Lib.hid he1
              have wfl : (Lit.int .i64 (now + last)).wf = true := WalkArith.wf_i64 (n := now + last) (by omega)
              have hsum2 : IntKind.i64.wrap (now + last) = now + last := IntWalk.i64_in _ (by omega)
              obtain ⟨s0, s1, s2, k0, k2, m0, m1, n0, n1, n2, o0, o1, n0f, n1f, n2f, o0f, o1f⟩ := hA11.cells
              obtain ⟨x0, x0f⟩ := hK11.at_ 0 _ rfl
              obtain ⟨x1, x1f⟩ := hK11.at_ 1 _ rfl
              obtain ⟨x2, x2f⟩ := hK11.at_ 2 _ rfl
              obtain ⟨y0, y0f⟩ := hY11.at_ 0 _ rfl
              obtain ⟨y1, y1f⟩ := hY11.at_ 1 _ rfl
              clear hA11 hK11 hM11 hY11 hu hR hlu hB11 hKs he1 hks hk A9 K9 M9 B9 S9 X9 Y9 HVV
              by_cases h60 : 60 < K.length
              · have d1 : decide (60 < K.length) = true := decide_eq_true h60
                have d2 : decide ((60 : Int) < (K.length : Int)) = true := decide_eq_true (by omega)
                clear hsum2
                go_wp2_with fail
                obtain ⟨r0, r1, r2, r3, r4⟩ := A11.out.end5 (.bool false) (.int .i64 0) (.slice none 0 0) (.bool false) (.slice none 0 0)
                have hBB := below_end5 B11.out (lo := w.heap.size) (by omega) (.bool false) (.int .i64 0) (.slice none 0 0) (.bool false) (.slice none 0 0)
                refine bodyPost_ret (v := .tuple #[noState, .bool false, noAsk, .int .i64 1]) (by simp only [results, Try.results20, go_sem, noState, noAsk]; simp [go_sem, r0, r1, r2, r3, r4]) rfl ⟨hBB, .inr ⟨HVK.out, K, HKS.out, .inl ⟨h60, rfl⟩⟩⟩
              · have d1 : decide (60 < K.length) = false := decide_eq_false h60
                have d2 : decide ((60 : Int) < (K.length : Int)) = false := decide_eq_false (by omega)
                cases e1
                · by_cases hK0 : K.length = 0
                  · have dz : ((K.length : Int) == 0) = true := by simp [hK0]
                    have HK0 := Lib.hid hK0
                    clear hK0 hsum2
                    go_wp2_with fail
                    obtain ⟨r0, r1, r2, r3, r4⟩ := A11.out.end5 (.bool false) (.int .i64 0) (.slice none 0 0) (.bool false) (.slice none 0 0)
                    have hBB := below_end5 B11.out (lo := w.heap.size) (by omega) (.bool false) (.int .i64 0) (.slice none 0 0) (.bool false) (.slice none 0 0)
                    refine bodyPost_ret (v := .tuple #[noState, .bool false, noAsk, .int .i64 0]) (by simp only [results, Try.results20, go_sem, noState, noAsk]; simp [go_sem, r0, r1, r2, r3, r4]) rfl ⟨hBB, .inr ⟨HVK.out, K, HKS.out, .inr (.inl ⟨by omega, ⟨HE1.out, List.length_eq_zero_iff.1 HK0.out⟩, rfl⟩)⟩⟩
                  · have dz : ((K.length : Int) == 0) = false := by rw [beq_eq_false_iff_ne]; omega
                    have HNE := Lib.hid (show ¬ (inEx kind e0 = false ∧ K = []) from fun h => hK0 (by rw [h.2]; rfl))
                    have HSO := Lib.hid (soon_any false (inAt kind a0 (now + mem)) b1 _ Bk _ (inG kind e0) (now + last) _ R lo' w11 K11.out M11.out (by omega) U11.out HLU.out hbk hb1 wfl (by omega))
                    go_wp2_with fail
                    refine HSO.out.mono ?_
                    rintro e w12 ⟨rfl, hk12, hm12, hbut⟩
                    clear s0 s1 s2 k0 k2 m0 m1 n0 n1 n2 o0 o1 n0f n1f n2f o0f o1f x0f x1f x2f y0f y1f
                    obtain ⟨a3, ha3⟩ : ∃ a3, (if inG kind e0 then min (inAt kind a0 (now + mem)) (now + last) else inAt kind a0 (now + mem)) = a3 := ⟨_, rfl⟩
                    rw [ha3] at hk12
                    have A12 := Lib.hid (A11.out.but hbut (by omega) (by omega)); have Y12 := Lib.hid (hbut.box Y11.out (by omega) (by omega)); have U12 := Lib.hid (hbut.strs U11.out HLU.out hbk hb1); have K12 := Lib.hid hk12
                    have B12 := Lib.hid (B11.out.trans (hbut.below (lo := w.heap.size) (by have := B11.out.size; omega) (by omega) (by omega)))
                    have HST := Lib.hid (fun (W : World) (hW : Below w12.heap.size w12 W) => state_any false a3 b1 _ _ W (hm12.below hW hm12.lt) (by omega))
                    have HA3 := Lib.hid ha3
                    have R0 := Lib.hid (Below.drew (Below.refl w12.heap.size w12))
                    have z12 := B12.out.size
                    have zA := A12.out.lt
                    clear ha3 hbut hm12 x0 x1 x2 y0 y1 HSO hsum2
                    obtain ⟨x0, _⟩ := hk12.at_ 0 _ rfl
                    obtain ⟨x1, _⟩ := hk12.at_ 1 _ rfl
                    obtain ⟨x2, _⟩ := hk12.at_ 2 _ rfl
                    obtain ⟨y0, _⟩ := Y12.out.at_ 0 _ rfl
                    obtain ⟨y1, _⟩ := Y12.out.at_ 1 _ rfl
                    clear hk12
                    go_wp2_with fail
                    go_region_with ((go_at_call 25; refine (HST.out _ (by first | exact Below.refl _ _ | exact Below.drew (Below.refl _ _))).mono ?_; rintro e w13 ⟨v13, L13, rfl, hT13, hA13, hl13, hlo13, hb13'⟩; have hb13 : Below w12.heap.size w12 w13 := (by first | exact hb13' | exact (Below.drew (Below.refl _ _)).trans hb13'); have hlo13 : Lies w12.heap.size _ := hlo13; obtain ⟨o13, c13, rfl⟩ := hT13.shape; have A13 := Lib.hid (A12.out.below hb13 zA); have Y13 := Lib.hid (Y12.out.below hb13 Y12.out.lt); obtain ⟨yy0, _⟩ := Y13.out.at_ 0 _ rfl; obtain ⟨yy1, _⟩ := Y13.out.at_ 1 _ rfl; obtain ⟨s0, s1, s2, k0, k2, m0, m1, n0, n1, n2, o0, o1, n0f, n1f, n2f, o0f, o1f⟩ := A13.out.cells; have U13 := Lib.hid (U12.out.mono hb13); have T13 := Lib.hid hT13; have AS13 := Lib.hid hA13; have LO13 := Lib.hid hlo13; have B13 := Lib.hid hb13; clear hT13 hA13 hl13 hlo13 hb13 hb13'))
                    all_goals
                      go_wp2_with fail
                      obtain ⟨r0, r1, r2, r3, r4⟩ := A13.out.end5 (.bool false) (.int .i64 a3) (.slice o13 L13.length c13) (.bool (inG kind e0)) (.slice uo R.length uc)
                      have hT := T13.out.end5 LO13.out (lo := w.heap.size) (by omega) (.bool false) (.int .i64 a3) (.slice o13 L13.length c13) (.bool (inG kind e0)) (.slice uo R.length uc)
                      have hU := U13.out.end5 HLU.out (lo := w.heap.size) (by omega) (.bool false) (.int .i64 a3) (.slice o13 L13.length c13) (.bool (inG kind e0)) (.slice uo R.length uc)
                      have hBB := below_end5 (B12.out.trans (B13.out.mono z12)) (lo := w.heap.size) (by omega) (.bool false) (.int .i64 a3) (.slice o13 L13.length c13) (.bool (inG kind e0)) (.slice uo R.length uc)
                      refine bodyPost_ret (v := .tuple #[.agg #[.bool false, .int .i64 a3, .slice o13 L13.length c13], .bool true, .agg #[.bool (inG kind e0), .slice uo R.length uc], .int .i64 0]) (by simp [results, Try.results20, go_sem, r0, r1, r2, r3, r4]) rfl ⟨?_, .inr ⟨HVK.out, K, HKS.out, .inr (.inr ⟨by omega, HNE.out, _, L13, _, R, by rw [HE1.out, HA3.out], ?_, ?_, HR.out, AS13.out, LO13.out.mono z12, HLU.out.mono (by omega)⟩)⟩⟩
                      · first | exact hBB | exact hBB.drew
                      · first | exact hT | exact hT.mono (Below.drew (Below.refl _ _))
                      · first | exact hU | exact hU.mono (Below.drew (Below.refl _ _))
                · skip
                  have HNE := Lib.hid (show ¬ (inEx kind e0 = false ∧ K = []) from fun h => by have := HE1.out; rw [h.1] at this; cases this)
                  have HSO := Lib.hid (soon_any true (inAt kind a0 (now + mem)) b1 _ Bk _ (inG kind e0) (now + last) _ R lo' w11 K11.out M11.out (by omega) U11.out HLU.out hbk hb1 wfl (by omega))
                  go_wp2_with fail
                  refine HSO.out.mono ?_
                  rintro e w12 ⟨rfl, hk12, hm12, hbut⟩
                  clear s0 s1 s2 k0 k2 m0 m1 n0 n1 n2 o0 o1 n0f n1f n2f o0f o1f x0f x1f x2f y0f y1f
                  obtain ⟨a3, ha3⟩ : ∃ a3, (if inG kind e0 then min (inAt kind a0 (now + mem)) (now + last) else inAt kind a0 (now + mem)) = a3 := ⟨_, rfl⟩
                  rw [ha3] at hk12
                  have A12 := Lib.hid (A11.out.but hbut (by omega) (by omega)); have Y12 := Lib.hid (hbut.box Y11.out (by omega) (by omega)); have U12 := Lib.hid (hbut.strs U11.out HLU.out hbk hb1); have K12 := Lib.hid hk12
                  have B12 := Lib.hid (B11.out.trans (hbut.below (lo := w.heap.size) (by have := B11.out.size; omega) (by omega) (by omega)))
                  have HST := Lib.hid (fun (W : World) (hW : Below w12.heap.size w12 W) => state_any true a3 b1 _ _ W (hm12.below hW hm12.lt) (by omega))
                  have HA3 := Lib.hid ha3
                  have R0 := Lib.hid (Below.drew (Below.refl w12.heap.size w12))
                  have z12 := B12.out.size
                  have zA := A12.out.lt
                  clear ha3 hbut hm12 x0 x1 x2 y0 y1 HSO hsum2
                  obtain ⟨x0, _⟩ := hk12.at_ 0 _ rfl
                  obtain ⟨x1, _⟩ := hk12.at_ 1 _ rfl
                  obtain ⟨x2, _⟩ := hk12.at_ 2 _ rfl
                  obtain ⟨y0, _⟩ := Y12.out.at_ 0 _ rfl
                  obtain ⟨y1, _⟩ := Y12.out.at_ 1 _ rfl
                  clear hk12
                  go_wp2_with fail
                  go_region_with ((go_at_call 25; refine (HST.out _ (by first | exact Below.refl _ _ | exact Below.drew (Below.refl _ _))).mono ?_; rintro e w13 ⟨v13, L13, rfl, hT13, hA13, hl13, hlo13, hb13'⟩; have hb13 : Below w12.heap.size w12 w13 := (by first | exact hb13' | exact (Below.drew (Below.refl _ _)).trans hb13'); have hlo13 : Lies w12.heap.size _ := hlo13; obtain ⟨o13, c13, rfl⟩ := hT13.shape; have A13 := Lib.hid (A12.out.below hb13 zA); have Y13 := Lib.hid (Y12.out.below hb13 Y12.out.lt); obtain ⟨yy0, _⟩ := Y13.out.at_ 0 _ rfl; obtain ⟨yy1, _⟩ := Y13.out.at_ 1 _ rfl; obtain ⟨s0, s1, s2, k0, k2, m0, m1, n0, n1, n2, o0, o1, n0f, n1f, n2f, o0f, o1f⟩ := A13.out.cells; have U13 := Lib.hid (U12.out.mono hb13); have T13 := Lib.hid hT13; have AS13 := Lib.hid hA13; have LO13 := Lib.hid hlo13; have B13 := Lib.hid hb13; clear hT13 hA13 hl13 hlo13 hb13 hb13'))
                  all_goals
                    go_wp2_with fail
                    obtain ⟨r0, r1, r2, r3, r4⟩ := A13.out.end5 (.bool true) (.int .i64 a3) (.slice o13 L13.length c13) (.bool (inG kind e0)) (.slice uo R.length uc)
                    have hT := T13.out.end5 LO13.out (lo := w.heap.size) (by omega) (.bool true) (.int .i64 a3) (.slice o13 L13.length c13) (.bool (inG kind e0)) (.slice uo R.length uc)
                    have hU := U13.out.end5 HLU.out (lo := w.heap.size) (by omega) (.bool true) (.int .i64 a3) (.slice o13 L13.length c13) (.bool (inG kind e0)) (.slice uo R.length uc)
                    have hBB := below_end5 (B12.out.trans (B13.out.mono z12)) (lo := w.heap.size) (by omega) (.bool true) (.int .i64 a3) (.slice o13 L13.length c13) (.bool (inG kind e0)) (.slice uo R.length uc)
                    refine bodyPost_ret (v := .tuple #[.agg #[.bool true, .int .i64 a3, .slice o13 L13.length c13], .bool true, .agg #[.bool (inG kind e0), .slice uo R.length uc], .int .i64 0]) (by simp [results, Try.results20, go_sem, r0, r1, r2, r3, r4]) rfl ⟨?_, .inr ⟨HVK.out, K, HKS.out, .inr (.inr ⟨by omega, HNE.out, _, L13, _, R, by rw [HE1.out, HA3.out], ?_, ?_, HR.out, AS13.out, LO13.out.mono z12, HLU.out.mono (by omega)⟩)⟩⟩
                    · first | exact hBB | exact hBB.drew
                    · first | exact hT | exact hT.mono (Below.drew (Below.refl _ _))
                    · first | exact hU | exact hU.mono (Below.drew (Below.refl _ _))
          · have HVK : Hid (verdict (pcheck e0 a0 L0) kind C.length now mem last = 1) := Lib.hid (by rw [HVV.out]; simp [hk])
            have g1 : (kind == 1) = false := by rw [beq_eq_false_iff_ne]; omega
            have g2 : (kind == 2) = false := by rw [beq_eq_false_iff_ne]; omega
            have g3 : (kind == 3) = false := by rw [beq_eq_false_iff_ne]; omega
            have g4 : (kind == 4) = false := by rw [beq_eq_false_iff_ne]; omega
            have g5 : (kind == 5) = false := by rw [beq_eq_false_iff_ne]; omega
            have g6 : (kind == 6) = false := by rw [beq_eq_false_iff_ne]; omega
            obtain ⟨s0, s1, s2, k0, k2, m0, m1, n0, n1, n2, o0, o1, n0f, n1f, n2f, o0f, o1f⟩ := A9.out.cells
            clear hk
            go_wp2_with fail
            obtain ⟨r0, r1, r2, r3, r4⟩ := A9.out.end5 (.bool false) (.int .i64 0) (.slice none 0 0) (.bool false) (.slice none 0 0)
            have hBB := below_end5 B9.out (lo := w.heap.size) (by omega) (.bool false) (.int .i64 0) (.slice none 0 0) (.bool false) (.slice none 0 0)
            refine bodyPost_ret (v := .tuple #[noState, .bool false, noAsk, .int .i64 1]) (by simp only [results, Try.results20, go_sem, noState, noAsk]; simp [go_sem, r0, r1, r2, r3, r4]) rfl ⟨hBB, by rw [HVK.out]; exact .inl ⟨by simp, rfl⟩⟩
      · have HVER : Hid (verdict (pcheck e0 a0 L0) kind C.length now mem last = 1) := Lib.hid (by rw [HV.out, HP.out]; simp at hall ⊢; intro h1 h2 h3 h4; exact absurd h4 (by simp [hall h1 h2 h3]))
        have HALL := Lib.hid hall
        clear HV hall
        go_wp2_with (first | ((with_reducible refine (G1.out _).mono ?_); rintro e w' ⟨rfl, rfl⟩) | ((with_reducible refine (G2.out _).mono ?_); rintro e w' ⟨rfl, rfl⟩) | ((with_reducible refine (G3.out _).mono ?_); rintro e w' ⟨rfl, rfl⟩))
        all_goals (first | (exfalso; refine HALL.out ?_; simp_all; done) | skip)
        all_goals
          obtain ⟨r0, r1, r2, r3, r4⟩ := A2.out.end5 (.bool false) (.int .i64 0) (.slice none 0 0) (.bool false) (.slice none 0 0)
          have hBB := below_end5 B2.out (lo := w.heap.size) (by omega) (.bool false) (.int .i64 0) (.slice none 0 0) (.bool false) (.slice none 0 0)
          refine bodyPost_ret (v := .tuple #[noState, .bool false, noAsk, .int .i64 1]) (by simp only [results, Try.results20, go_sem, noState, noAsk]; simp [go_sem, r0, r1, r2, r3, r4]) rfl ⟨hBB, by rw [HVER.out]; exact .inl ⟨by simp, rfl⟩⟩
end Go.Proofs.Ytkphgonbbhlnfaa
