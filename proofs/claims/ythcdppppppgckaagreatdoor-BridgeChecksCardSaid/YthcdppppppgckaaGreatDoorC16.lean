/- Texts joined into one file: GRefu, GRefy, GExc, GApp. -/
import Derived.Test.YthcdppppppgckaaGreatDoorC15
import Derived.Deep.CutBlock

namespace Go.Proofs.YthcdppppppgckaaGreatDoor
open Go.RowKit Go.Lib Go.Maps Go.Sort
set_option maxRecDepth 20000

def fillF (F : Str → Option Int) (Q : List Str) (z : Int) : Str → Option Int := fun a => if Q.contains a && !runF F a then some z else F a

def notBlk (F : Str → Option Int) (a : Str) : Bool := !(F a == some 0)


def excF (F : Str → Option Int) (S : List Str) (fr : Int) : Str → Option Int := fun a => if S.contains a then some ((F a).getD fr) else none
theorem CBox.drew {w : World} {b : Nat} {T : TypeId} {cs : Array Value} (h : CBox w b T cs) : CBox w.drew b T cs := h.below (Below.drew (Below.refl _ _)) h.lt
theorem Mp.drew {w : World} {b n : Nat} {F : Str → Option Int} (h : Mp w b n F) : Mp w.drew b n F := h.below (Below.drew (Below.refl _ _)) h.lt
theorem But.drew {w w' : World} {B b : Nat} (h : But w w' B b) : But w w'.drew B b := h.trans (But.of_below (Below.drew (Below.refl _ _)) B b)

def freshOf (ex t : Bool) (at' z : Int) : Int := if ex then (if t then at' else z) else 0


def inF (kind : Int) (ex : Bool) (at' : Int) (F : Str → Option Int) (S : List Str) (m : Int) : Str → Option Int :=
 if kind = 6 then (if ex then fillF F (S.filter (notBlk F)) at' else F)
 else if kind = 2 ∨ kind = 4 then excF F S (freshOf ex (kind == 4) at' m)
 else setF F S m
def inEx (kind : Int) (ex : Bool) : Bool := ex || kind == 2 || kind == 4
def inAt (kind at' m : Int) : Int := if kind = 2 ∨ kind = 4 then m else at'
def inG (kind : Int) (ex : Bool) : Bool := kind == 3 && ex
def inQ (kind : Int) (ex : Bool) (at' : Int) (F : Str → Option Int) (S : List Str) (m : Int) (a : Str) : Bool :=
 if kind = 6 then S.contains a && (if ex then notBlk F a else runF F a)
 else if kind = 2 ∨ kind = 4 then kind == 4 && runF (excF F S (freshOf ex (kind == 4) at' m)) a
 else kind == 3 && (runF F a && !S.contains a)

def may (now mem last : Int) : Bool := decide (1 ≤ now ∧ now ≤ 1099511627776 ∧ 1 ≤ mem ∧ mem ≤ 1000000 ∧ 1 ≤ last ∧ last ≤ 1000000)
def verdict (ok : Bool) (kind : Int) (n : Nat) (now mem last : Int) : Int :=
 if ok then (if may now mem last && decide (n ≤ 60) && decide (1 ≤ kind ∧ kind ≤ 6) then 0 else 1) else 3

def noState : Value := .agg #[.bool false, .int .i64 0, .slice none 0 0]
def noAsk : Value := .agg #[.bool false, .slice none 0 0]

def RetApp (w : World) (ex : Bool) (at' : Int) (L : List Tmd) (kind : Int) (S : List Str) (n : Nat) (now mem last : Int) (e : Ending) (w' : World) : Prop :=
 Below w.heap.size w w' ∧
 ((verdict (pcheck ex at' L) kind n now mem last ≠ 0 ∧ e = .returned (.tuple #[noState, .bool false, noAsk, .int .i64 (verdict (pcheck ex at' L) kind n now mem last)])) ∨
  (verdict (pcheck ex at' L) kind n now mem last = 0 ∧ ∃ K, KeysOf' (inF kind ex at' (rd L) S (now + mem)) K ∧
    ((60 < K.length ∧ e = .returned (.tuple #[noState, .bool false, noAsk, .int .i64 1])) ∨
     (K.length ≤ 60 ∧ (inEx kind ex = false ∧ K = []) ∧ e = .returned (.tuple #[noState, .bool false, noAsk, .int .i64 0])) ∨
     (K.length ≤ 60 ∧ ¬ (inEx kind ex = false ∧ K = []) ∧ ∃ v L' u R, e = .returned (.tuple #[.agg #[.bool (inEx kind ex), .int .i64 (if inG kind ex then min (inAt kind at' (now + mem)) (now + last) else inAt kind at' (now + mem)), v], .bool true, .agg #[.bool (inG kind ex), u], .int .i64 0]) ∧
       Tms w' v L' ∧ Strs w' u R ∧ Rises (inQ kind ex at' (rd L) S (now + mem)) R ∧ Asc (soonF (inF kind ex at' (rd L) S (now + mem)) R (now + last)) L' ∧ Lies w.heap.size v ∧ Lies w.heap.size u))))

theorem Mp.count {w : World} {b n : Nat} {F : Str → Option Int} (h : Mp w b n F) : ∃ K, KeysOf' F K ∧ ∀ ty, (Builtin.len_ #[260] ty #[.map (some b)]).run Tryz.prog w = .ok (.int .i64 K.length) w := by
 obtain ⟨D, h, e⟩ := h
 refine ⟨(strKeys D).mergeSort fun x y => decide (x ≤ y), keys_sorted h e (List.Perm.refl _), fun ty => ?_⟩
 have hl : (strKeys D).length = Maps.size D := by obtain ⟨es, rfl⟩ := h.isMap; simp [strKeys, Maps.size]
 rw [List.length_mergeSort, hl]
 exact h.len Tryz.underlying260 ty

-- THE WALK
def AppBox (w : World) (lo : Nat) (ex : Bool) (at' : Int) (v : Value) (kind : Int) (g : ByteArray) (rv : Value) (mem last : Int) : Prop :=
 CBox w lo 181 #[.bool ex, .int .i64 at', v] ∧ CBox w (lo + 1) 222 #[.int .i64 kind, .string g, rv] ∧ CBox w (lo + 1 + 1) 91 #[.int .i64 mem, .int .i64 last] ∧
  CBox w (lo + 1 + 1 + 1) 181 #[.bool false, .int .i64 0, .slice none 0 0] ∧ CBox w (lo + 1 + 1 + 1 + 1) 292 #[.bool false, .slice none 0 0]
section
variable {w w' : World} {lo : Nat} {ex : Bool} {at' : Int} {v : Value} {kind : Int} {g : ByteArray} {rv : Value} {mem last : Int}
theorem AppBox.cells (h : AppBox w lo ex at' v kind g rv mem last) : w.cell? ⟨lo, 0, none⟩ = some (.bool ex) ∧ w.cell? ⟨lo, 1, none⟩ = some (.int .i64 at') ∧ w.cell? ⟨lo, 2, none⟩ = some v ∧ w.cell? ⟨lo + 1, 0, none⟩ = some (.int .i64 kind) ∧ w.cell? ⟨lo + 1, 2, none⟩ = some rv ∧
 w.cell? ⟨lo + 1 + 1, 0, none⟩ = some (.int .i64 mem) ∧ w.cell? ⟨lo + 1 + 1, 1, none⟩ = some (.int .i64 last) ∧ w.cell? ⟨lo + 1 + 1 + 1, 0, none⟩ = some (.bool false) ∧ w.cell? ⟨lo + 1 + 1 + 1, 1, none⟩ = some (.int .i64 0) ∧ w.cell? ⟨lo + 1 + 1 + 1, 2, none⟩ = some (.slice none 0 0) ∧
 w.cell? ⟨lo + 1 + 1 + 1 + 1, 0, none⟩ = some (.bool false) ∧ w.cell? ⟨lo + 1 + 1 + 1 + 1, 1, none⟩ = some (.slice none 0 0) ∧ w.frozen? ⟨lo + 1 + 1 + 1, 0, none⟩ = false ∧ w.frozen? ⟨lo + 1 + 1 + 1, 1, none⟩ = false ∧ w.frozen? ⟨lo + 1 + 1 + 1, 2, none⟩ = false ∧ w.frozen? ⟨lo + 1 + 1 + 1 + 1, 0, none⟩ = false ∧ w.frozen? ⟨lo + 1 + 1 + 1 + 1, 1, none⟩ = false := by
 obtain ⟨h1, h2, h3, h4, h5⟩ := h
 exact ⟨(h1.at_ 0 _ rfl).1, (h1.at_ 1 _ rfl).1, (h1.at_ 2 _ rfl).1, (h2.at_ 0 _ rfl).1, (h2.at_ 2 _ rfl).1, (h3.at_ 0 _ rfl).1, (h3.at_ 1 _ rfl).1, (h4.at_ 0 _ rfl).1, (h4.at_ 1 _ rfl).1, (h4.at_ 2 _ rfl).1, (h5.at_ 0 _ rfl).1, (h5.at_ 1 _ rfl).1, h4.thaw 0, h4.thaw 1, h4.thaw 2, h5.thaw 0, h5.thaw 1⟩
theorem AppBox.below {B : Nat} (h : AppBox w lo ex at' v kind g rv mem last) (hb : Below B w w') (hB : lo + 4 < B) : AppBox w' lo ex at' v kind g rv mem last :=
 ⟨h.1.below hb (by omega), h.2.1.below hb (by omega), h.2.2.1.below hb (by omega), h.2.2.2.1.below hb (by omega), h.2.2.2.2.below hb (by omega)⟩
theorem AppBox.lt (h : AppBox w lo ex at' v kind g rv mem last) : lo + 4 < w.heap.size := h.2.2.2.2.lt
theorem AppBox.but {B b : Nat} (h : AppBox w lo ex at' v kind g rv mem last) (hb : But w w' B b) (h1 : lo + 4 < B) (h2 : lo + 4 < b) : AppBox w' lo ex at' v kind g rv mem last :=
 ⟨hb.box h.1 (by omega) (by omega), hb.box h.2.1 (by omega) (by omega), hb.box h.2.2.1 (by omega) (by omega), hb.box h.2.2.2.1 (by omega) (by omega), hb.box h.2.2.2.2 (by omega) (by omega)⟩
theorem AppBox.far {p : Addr} (h : AppBox w lo ex at' v kind g rv mem last) (hp : lo + 4 < p.block) (u : Value) : AppBox (w.setCell p u) lo ex at' v kind g rv mem last :=
 ⟨h.1.far (by omega) u, h.2.1.far (by omega) u, h.2.2.1.far (by omega) u, h.2.2.2.1.far (by omega) u, h.2.2.2.2.far (by omega) u⟩
theorem AppBox.start (w : World) (ex : Bool) (at' : Int) (v : Value) (kind : Int) (g : ByteArray) (rv : Value) (mem last : Int) :
 AppBox (((((w.alloc (.cells #[.bool ex, .int .i64 at', v] 181)).alloc (.cells #[.int .i64 kind, .string g, rv] 222)).alloc (.cells #[.int .i64 mem, .int .i64 last] 91)).alloc (.cells #[.bool false, .int .i64 0, .slice none 0 0] 181)).alloc (.cells #[.bool false, .slice none 0 0] 292)) w.heap.size ex at' v kind g rv mem last ∧
 Below w.heap.size w (((((w.alloc (.cells #[.bool ex, .int .i64 at', v] 181)).alloc (.cells #[.int .i64 kind, .string g, rv] 222)).alloc (.cells #[.int .i64 mem, .int .i64 last] 91)).alloc (.cells #[.bool false, .int .i64 0, .slice none 0 0] 181)).alloc (.cells #[.bool false, .slice none 0 0] 292)) :=
 ⟨⟨((((CBox.new _ rfl).old _).old _).old _).old _, (((CBox.new _ (by simp)).old _).old _).old _, ((CBox.new _ (by simp)).old _).old _, (CBox.new _ (by simp)).old _, CBox.new _ (by simp)⟩,
  (((((Below.refl _ _).alloc (Nat.le_refl _) _).alloc (by simp) _).alloc (by simp <;> omega) _).alloc (by simp <;> omega) _).alloc (by simp <;> omega) _⟩
theorem AppBox.end5 (h : AppBox w lo ex at' v kind g rv mem last) (u0 u1 u2 u3 u4 : Value) :
 (((((w.setCell ⟨lo + 1 + 1 + 1, 0, none⟩ u0).setCell ⟨lo + 1 + 1 + 1, 1, none⟩ u1).setCell ⟨lo + 1 + 1 + 1, 2, none⟩ u2).setCell ⟨lo + 1 + 1 + 1 + 1, 0, none⟩ u3).setCell ⟨lo + 1 + 1 + 1 + 1, 1, none⟩ u4).cell? ⟨lo + 1 + 1 + 1, 0, none⟩ = some u0 ∧ (((((w.setCell ⟨lo + 1 + 1 + 1, 0, none⟩ u0).setCell ⟨lo + 1 + 1 + 1, 1, none⟩ u1).setCell ⟨lo + 1 + 1 + 1, 2, none⟩ u2).setCell ⟨lo + 1 + 1 + 1 + 1, 0, none⟩ u3).setCell ⟨lo + 1 + 1 + 1 + 1, 1, none⟩ u4).cell? ⟨lo + 1 + 1 + 1, 1, none⟩ = some u1 ∧ (((((w.setCell ⟨lo + 1 + 1 + 1, 0, none⟩ u0).setCell ⟨lo + 1 + 1 + 1, 1, none⟩ u1).setCell ⟨lo + 1 + 1 + 1, 2, none⟩ u2).setCell ⟨lo + 1 + 1 + 1 + 1, 0, none⟩ u3).setCell ⟨lo + 1 + 1 + 1 + 1, 1, none⟩ u4).cell? ⟨lo + 1 + 1 + 1, 2, none⟩ = some u2 ∧ (((((w.setCell ⟨lo + 1 + 1 + 1, 0, none⟩ u0).setCell ⟨lo + 1 + 1 + 1, 1, none⟩ u1).setCell ⟨lo + 1 + 1 + 1, 2, none⟩ u2).setCell ⟨lo + 1 + 1 + 1 + 1, 0, none⟩ u3).setCell ⟨lo + 1 + 1 + 1 + 1, 1, none⟩ u4).cell? ⟨lo + 1 + 1 + 1 + 1, 0, none⟩ = some u3 ∧ (((((w.setCell ⟨lo + 1 + 1 + 1, 0, none⟩ u0).setCell ⟨lo + 1 + 1 + 1, 1, none⟩ u1).setCell ⟨lo + 1 + 1 + 1, 2, none⟩ u2).setCell ⟨lo + 1 + 1 + 1 + 1, 0, none⟩ u3).setCell ⟨lo + 1 + 1 + 1 + 1, 1, none⟩ u4).cell? ⟨lo + 1 + 1 + 1 + 1, 1, none⟩ = some u4 := by
 have RS := (((((h.2.2.2.1.set 0 u0).set 1 u1).set 2 u2).far (p := ⟨lo + 1 + 1 + 1 + 1, 0, none⟩) (by simp) u3).far (p := ⟨lo + 1 + 1 + 1 + 1, 1, none⟩) (by simp) u4)
 have RK := (((((h.2.2.2.2.far (p := ⟨lo + 1 + 1 + 1, 0, none⟩) (by simp) u0).far (p := ⟨lo + 1 + 1 + 1, 1, none⟩) (by simp) u1).far (p := ⟨lo + 1 + 1 + 1, 2, none⟩) (by simp) u2).set 0 u3).set 1 u4)
 exact ⟨(RS.at_ 0 _ rfl).1, (RS.at_ 1 _ rfl).1, (RS.at_ 2 _ rfl).1, (RK.at_ 0 _ rfl).1, (RK.at_ 1 _ rfl).1⟩
theorem Tms.end5 {w : World} {v : Value} {L : List Tmd} {l lo : Nat} (h : Tms w v L) (hl : Lies l v) (hlo : lo + 1 + 1 + 1 + 1 < l) (u0 u1 u2 u3 u4 : Value) : Tms (((((w.setCell ⟨lo + 1 + 1 + 1, 0, none⟩ u0).setCell ⟨lo + 1 + 1 + 1, 1, none⟩ u1).setCell ⟨lo + 1 + 1 + 1, 2, none⟩ u2).setCell ⟨lo + 1 + 1 + 1 + 1, 0, none⟩ u3).setCell ⟨lo + 1 + 1 + 1 + 1, 1, none⟩ u4) v L :=
 ((((h.far hl (p := ⟨lo + 1 + 1 + 1, 0, none⟩) (by simp; omega) u0).far hl (p := ⟨lo + 1 + 1 + 1, 1, none⟩) (by simp; omega) u1).far hl (p := ⟨lo + 1 + 1 + 1, 2, none⟩) (by simp; omega) u2).far hl (p := ⟨lo + 1 + 1 + 1 + 1, 0, none⟩) (by simp; omega) u3).far hl (p := ⟨lo + 1 + 1 + 1 + 1, 1, none⟩) (by simp; omega) u4
theorem Strs.end5 {w : World} {v : Value} {L : List Str} {l lo : Nat} (h : Strs w v L) (hl : Lies l v) (hlo : lo + 1 + 1 + 1 + 1 < l) (u0 u1 u2 u3 u4 : Value) : Strs (((((w.setCell ⟨lo + 1 + 1 + 1, 0, none⟩ u0).setCell ⟨lo + 1 + 1 + 1, 1, none⟩ u1).setCell ⟨lo + 1 + 1 + 1, 2, none⟩ u2).setCell ⟨lo + 1 + 1 + 1 + 1, 0, none⟩ u3).setCell ⟨lo + 1 + 1 + 1 + 1, 1, none⟩ u4) v L :=
 ((((h.far hl (p := ⟨lo + 1 + 1 + 1, 0, none⟩) (by simp; omega) u0).far hl (p := ⟨lo + 1 + 1 + 1, 1, none⟩) (by simp; omega) u1).far hl (p := ⟨lo + 1 + 1 + 1, 2, none⟩) (by simp; omega) u2).far hl (p := ⟨lo + 1 + 1 + 1 + 1, 0, none⟩) (by simp; omega) u3).far hl (p := ⟨lo + 1 + 1 + 1 + 1, 1, none⟩) (by simp; omega) u4
end

theorem Strs.apart {w : World} {v : Value} {L : List Str} (h : Strs w v L) {p : Addr} (hne : ∀ b, v.ownBlock = some b → b ≠ p.block) (u : Value) : Strs (w.setCell p u) v L := by
 obtain ⟨ao, cap, b, off, rfl, h0, h1, h2, h3⟩ := h
 refine ⟨ao, cap, b, off, rfl, h0, h1, h2, fun k hk => ?_⟩
 obtain ⟨hlt, hc⟩ := h3 k hk
 have hb : b ≠ p.block := by
  rcases h0 with rfl | rfl
  · simp at hk
  · exact hne b rfl
 refine ⟨by simpa using hlt, ?_⟩
 rw [World.cell?_setCell_other w p _ u (fun e => hb (by rw [e]))]
 exact hc

end Go.Proofs.YthcdppppppgckaaGreatDoor
