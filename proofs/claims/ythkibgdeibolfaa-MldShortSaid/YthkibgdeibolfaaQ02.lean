/- Texts joined into one file: Base, JKit, Strs, App, Boxes. -/
import Derived.Test.YthkibgdeibolfaaProg
import Derived.WalkKit
import Derived.WalkSpells
import Derived.WalkLawsBesides
import Derived.Lib.Hide
import Derived.Deep.QuietTactic
import Derived.BigQuiet
import Derived.ProofKit
import Derived.OpenShut
import Derived.SizedLaws
import Derived.Lib.SmallJoins
import Derived.Test.YthkibgdeibolfaaStrShelf
import Derived.Sort.OwnSorted
import Derived.Maps.AppendAt
import Derived.Deep.AppendLies
import Derived.OwnWalk

/- General words on memory that all texts of this seat share: a slice of integers in memory ('Ints'), and how it stays what it is while new memory is laid. -/
namespace Go.Proofs.Ythkibgdeibolfaa
open Go.RowKit
set_option maxRecDepth 20000

/-- what a walk asks of a slice's value, nil or not: its length, and where its elements lie -/
theorem run_len_any {P : Program} {T e : TypeId} (hT : P.underlying T = some (.slice e)) (ao : Option Addr) (n cap : Nat) (ty : TypeId) (w : World) :
    (Builtin.len_ #[T] ty #[.slice ao n cap]).run P w = .ok (.int .i64 n) w := by
  have h : P.underlying T = some (.slice (P.elem T)) := by simp [Program.elem, hT]
  rw [run_len_slice w T ty ao n cap h]; rfl

theorem run_index_any {P : Program} {T e : TypeId} {s : Nat} (hT : P.underlying T = some (.slice e)) (hs : ∀ w, (sizeOf e).run P w = .ok s w) (b off n cap k : Nat) (hk : k < n) (w : World) :
    (Instr.indexAt T (.slice (some ⟨b, off, none⟩) n cap) (.int .i64 k)).run P w = .ok (.pointer (some ⟨b, off + k * s, none⟩)) w := by
  have h : P.underlying T = some (.slice (P.elem T)) := by simp [Program.elem, hT]
  have he : P.elem T = e := by simp [Program.elem, hT]
  have hadd : (⟨b, off, none⟩ : Addr).add (k * s) = ⟨b, off + k * s, none⟩ := by unfold Addr.add; split <;> simp_all
  rw [run_indexAt_slice w T _ n cap _ _ h, if_pos ⟨by omega, by omega⟩, he, hs]
  simp [Result.andThen, hadd]

/-- v is a slice of ints whose elements are L. -/
def Ints (w : World) (v : Value) (L : List Int) : Prop :=
  ∃ ao cap b off, v = .slice ao L.length cap ∧ (L = [] ∨ ao = some ⟨b, off, none⟩) ∧ L.length ≤ 17592186044416 ∧ (∀ x ∈ L, (Lit.int .i64 x).wf = true) ∧
    (∀ k, k < L.length → b < w.heap.size ∧ w.cell? ⟨b, off + k, none⟩ = some (.int .i64 (L.getD k 0)))

theorem Ints.mono {w w' : World} {v : Value} {L : List Int} (h : Ints w v L) (hb : Below w.heap.size w w') : Ints w' v L := by
  obtain ⟨ao, cap, b, off, rfl, h0, h1, h2, h3⟩ := h
  refine ⟨ao, cap, b, off, rfl, h0, h1, h2, fun k hk => ?_⟩
  obtain ⟨hlt, hc⟩ := h3 k hk
  exact ⟨Nat.lt_of_lt_of_le hlt hb.size, by rw [hb.cell (p := ⟨b, off + k, none⟩) hlt]; exact hc⟩

theorem below_draws (B : Nat) {a w : World} (h : Below B a w) (n : Nat) : Below B a (w.drewN n) := ⟨h.os, h.tape, h.output, h.size, h.block⟩

theorem Ints.draws {w : World} {v : Value} {L : List Int} (h : Ints w v L) (n : Nat) : Ints (w.drewN n) v L := h.mono (below_draws _ (Below.refl _ _) n)

theorem Ints.nil (w : World) : Ints w (.slice none 0 0) [] := ⟨none, 0, 0, 0, rfl, .inl rfl, by simp, by simp, by simp⟩

/-- What the call has built is such a slice. -/
theorem Ints.own {w : World} {base : Nat} {e : TypeId} {v : Value} {L : List Int} (h : w.ownsRow base e 1 v L.length (L.map (Value.int .i64))) (hl : L.length ≤ 17592186044416) (hw : ∀ x ∈ L, (Lit.int .i64 x).wf = true) : Ints w v L := by
  rcases h.2 with ⟨rfl, h0⟩ | ⟨g, cap, cur, rfl, hb, hg, hn, hm, hs, ht⟩
  · rw [List.length_eq_zero_iff] at h0
    subst h0
    exact Ints.nil w
  · refine ⟨_, cap, g, 0, rfl, .inr rfl, hl, hw, fun k hk => ⟨(Array.getElem?_eq_some_iff.1 hg).1, ?_⟩⟩
    have := h.cells (g := g) rfl k (.int .i64 (L.getD k 0)) (by simp [List.getD_eq_getElem?_getD, hk])
    have hadd : (⟨g, 0, none⟩ : Addr).add k = ⟨g, 0 + k, none⟩ := by unfold Addr.add; split <;> simp_all
    rw [hadd] at this
    exact this

theorem Ints.wf {w : World} {v : Value} {L : List Int} (h : Ints w v L) : ∀ x ∈ L, (Lit.int .i64 x).wf = true := by
  obtain ⟨_, _, _, _, _, _, _, h, _⟩ := h
  exact h


/-- such a value takes one cell -/
theorem Ints.one {w : World} {v : Value} {L : List Int} (h : Ints w v L) : v.cells = #[v] ∧ ∀ (a : Addr) (m : Mode) (w' : World), (store a v m).run Try.prog w' = stored Try.prog w' a v m := by
  obtain ⟨ao, cap, b, off, rfl, _⟩ := h
  exact ⟨rfl, fun a m w' => run_store_slice _ _ _ _ _ _ _⟩

theorem ret_bool {a b : Bool} (h : a = b) : Ending.returned (.bool a) = .returned (.bool b) := by rw [h]

/-- a callee that leaves the world alone, inside a region that draws -/
theorem quietS {P : Program} {f : FuncId} {args : Array Value} {w : World} {n : Nat} {v : Value}
    (h : Calls P f args (w.drewN n) fun e w' => e = .returned v ∧ w.drewN n = w') : Calls P f args (w.drewN n) fun e w'' => e = .returned v ∧ ∃ m, w'' = w.drewN m :=
  Calls.quiet_of_same (h.mono fun _ _ h => ⟨h.1, h.2.symm⟩)

/-- a row of the call's own from 'base' on lies in no block below -/
theorem own_ne {w : World} {base : Nat} {e : TypeId} {size : Nat} {v : Value} {n : Nat} {xs : List Value} (h : w.ownsRow base e size v n xs) {b : Nat} (hb : b < base) : v.ownBlock = none ∨ v.ownBlock ≠ some b :=
  .inr (fun e => by have := h.lt b e; omega)

/-- a row of the call's own that is appended to: what lay below 'base' stays -/
theorem below_own {B base : Nat} {a w w' : World} {e : TypeId} {size : Nat} {v : Value} {n : Nat} {xs : List Value} (h : Below B a w) (ho : w.ownsRow base e size v n xs) (hB : B ≤ base) (hs : B ≤ w.heap.size) (hg : w.grownBy w' v.ownBlock) : Below B a w' :=
  h.grown hg hs (fun k hk => Nat.le_trans hB (ho.lt k hk).1)

theorem take_snoc {α : Type} (L : List α) (k : Nat) (h : k < L.length) : L.take (k + 1) = L.take k ++ [L[k]] :=
  List.take_succ_eq_append_getElem h

end Go.Proofs.Ythkibgdeibolfaa

/- What the last texts want of the library. -/

/- Slices of strings in memory ('Strs'), and the small functions over them. -/
namespace Go.Proofs.Ythkibgdeibolfaa
open Go.RowKit Go.Sort
set_option maxRecDepth 20000

/-- v is a slice of strings whose elements are L. -/
def Strs (w : World) (v : Value) (L : List (List UInt8)) : Prop :=
  ∃ ao cap b off, v = .slice ao L.length cap ∧ (L = [] ∨ ao = some ⟨b, off, none⟩) ∧ L.length ≤ 8796093022208 ∧ (∀ x ∈ L, x.length ≤ maxLen) ∧
    (∀ k, k < L.length → b < w.heap.size ∧ w.cell? ⟨b, off + k, none⟩ = some (encStr (L.getD k [])))

theorem Strs.mono {w w' : World} {v : Value} {L : List (List UInt8)} (h : Strs w v L) (hb : Below w.heap.size w w') : Strs w' v L := by
  obtain ⟨ao, cap, b, off, rfl, h0, h1, h2, h3⟩ := h
  refine ⟨ao, cap, b, off, rfl, h0, h1, h2, fun k hk => ?_⟩
  obtain ⟨hlt, hc⟩ := h3 k hk
  exact ⟨Nat.lt_of_lt_of_le hlt hb.size, by rw [hb.cell (p := ⟨b, off + k, none⟩) hlt]; exact hc⟩

theorem Strs.draws {w : World} {v : Value} {L : List (List UInt8)} (h : Strs w v L) (n : Nat) : Strs (w.drewN n) v L := h.mono (below_draws _ (Below.refl _ _) n)

theorem Strs.nil (w : World) : Strs w (.slice none 0 0) [] := ⟨none, 0, 0, 0, rfl, .inl rfl, by simp, by simp, by simp⟩

/-- What the call has built is such a slice. -/
theorem Strs.own {w : World} {base : Nat} {e : TypeId} {v : Value} {L : List (List UInt8)} (h : w.ownsRow base e 1 v L.length (L.map encStr)) (hl : L.length ≤ 8796093022208) (hw : ∀ x ∈ L, x.length ≤ maxLen) : Strs w v L := by
  rcases h.2 with ⟨rfl, h0⟩ | ⟨g, cap, cur, rfl, hb, hg, hn, hm, hs, ht⟩
  · rw [List.length_eq_zero_iff] at h0
    subst h0
    exact Strs.nil w
  · refine ⟨_, cap, g, 0, rfl, .inr rfl, hl, hw, fun k hk => ⟨(Array.getElem?_eq_some_iff.1 hg).1, ?_⟩⟩
    have := h.cells (g := g) rfl k (encStr (L.getD k [])) (by simp [List.getD_eq_getElem?_getD, hk])
    have hadd : (⟨g, 0, none⟩ : Addr).add k = ⟨g, 0 + k, none⟩ := by unfold Addr.add; split <;> simp_all
    rw [hadd] at this
    exact this

theorem Strs.len {w : World} {v : Value} {L : List (List UInt8)} (h : Strs w v L) : ∀ x ∈ L, x.length ≤ maxLen := by
  obtain ⟨_, _, _, _, _, _, _, h, _⟩ := h
  exact h

theorem Strs.shape {w : World} {v : Value} {L : List (List UInt8)} (h : Strs w v L) : ∃ ao cap, v = .slice ao L.length cap := by
  obtain ⟨ao, cap, _, _, h, _⟩ := h
  exact ⟨ao, cap, h⟩

/-- What a walk asks of it. -/
theorem Strs.facts {w : World} {v : Value} {L : List (List UInt8)} (h : Strs w v L) :
    ∃ b off, L.length ≤ 8796093022208 ∧ (∀ ty w', (Builtin.len_ #[26] ty #[v]).run Try.prog w' = .ok (.int .i64 L.length) w') ∧
      (∀ k, k < L.length → ∀ w', (Instr.indexAt 26 v (.int .i64 k)).run Try.prog w' = .ok (.pointer (some ⟨b, off + k, none⟩)) w') ∧
      (∀ k, k < L.length → b < w.heap.size ∧ w.cell? ⟨b, off + k, none⟩ = some (encStr (L.getD k []))) := by
  obtain ⟨ao, cap, b, off, rfl, h0, h1, h2, h3⟩ := h
  refine ⟨b, off, h1, fun ty w' => run_len_any Try.underlying26 ao L.length cap ty w', fun k hk w' => ?_, h3⟩
  rcases h0 with h0 | rfl
  · subst h0; exact absurd hk (by simp)
  · have := run_index_any (P := Try.prog) (s := 1) Try.underlying26 (fun w => by kernel_rfl) b off L.length cap k hk w'
    rw [Nat.mul_one] at this
    exact this

/-- v lies in no block below lo -/
def Lies (lo : Nat) (v : Value) : Prop := ∀ b, v.ownBlock = some b → lo ≤ b

theorem Lies.mono {lo lo' : Nat} {v : Value} (h : Lies lo v) (hl : lo' ≤ lo) : Lies lo' v := fun b hb => Nat.le_trans hl (h b hb)
theorem Lies.own {w : World} {base : Nat} {e : TypeId} {size : Nat} {v : Value} {n : Nat} {xs : List Value} (h : w.ownsRow base e size v n xs) : Lies base v := fun b hb => (h.lt b hb).1

/-- a write below leaves it as it was -/
theorem Strs.far {w : World} {v : Value} {L : List (List UInt8)} {lo : Nat} (h : Strs w v L) (hl : Lies lo v) {p : Addr} (hp : p.block < lo) (u : Value) : Strs (w.setCell p u) v L := by
  obtain ⟨ao, cap, b, off, rfl, h0, h1, h2, h3⟩ := h
  refine ⟨ao, cap, b, off, rfl, h0, h1, h2, fun k hk => ?_⟩
  obtain ⟨hlt, hc⟩ := h3 k hk
  have hb : lo ≤ b := by
    rcases h0 with rfl | rfl
    · simp at hk
    · exact hl b rfl
  refine ⟨by simpa using hlt, ?_⟩
  rw [World.cell?_setCell_other w p _ u (fun e => by subst e; simp at hp; omega)]
  exact hc

def bstr (l : List UInt8) : ByteArray := ⟨l.toArray⟩
theorem enc_bstr (l : List UInt8) : encStr l = .string (bstr l) := rfl
theorem bstr_data (l : List UInt8) : (bstr l).data.toList = l := rfl
theorem bstr_of (s : ByteArray) : s = bstr s.data.toList := by cases s; simp [bstr]
theorem bstr_size (l : List UInt8) : (bstr l).size = l.length := by simp [bstr, ByteArray.size]
theorem bstr_toList (l : List UInt8) : (bstr l).toList = l := by rw [Lib.toList_data]; rfl
theorem bstr_inj {a b : List UInt8} (h : bstr a = bstr b) : a = b := by rw [← bstr_toList a, h, bstr_toList]
attribute [irreducible] bstr

theorem mem_snoc (L : List (List UInt8)) (x : List UInt8) (k : Nat) (h : k < L.length) : (L.take (k + 1)).contains x = ((L.take k).contains x || L[k] == x) := by
  rw [take_snoc L k h, Bool.eq_iff_iff, List.contains_iff_mem, List.mem_append, Bool.or_eq_true, List.contains_iff_mem, List.mem_singleton, beq_iff_eq, eq_comm (a := x)]

theorem take_eq_snocS (A B : List (List UInt8)) (k : Nat) (ha : k < A.length) (hb : k < B.length) (h : A.take k = B.take k) : (A.take (k + 1) = B.take (k + 1)) ↔ A[k] = B[k] := by
  rw [take_snoc A k ha, take_snoc B k hb, h, List.append_cancel_left_eq]
  simp only [List.cons.injEq, and_true]

set_option maxHeartbeats 800000 in
theorem ssame_any (v u : Value) (A B : List (List UInt8)) (w : World) (h : Strs w v A) (h' : Strs w u B) :
    Calls Try.prog 27 #[v, u] w fun e w' => e = .returned (.bool (A == B)) ∧ ∃ n, w' = w.drewN n := by
  obtain ⟨b, off, hm, hlen, hidx, hc⟩ := h.facts
  obtain ⟨b', off', hm', hlen', hidx', hc'⟩ := h'.facts
  clear h h'
  have hbt := bstr_toList
  by_cases hl : A.length = B.length
  · have hne : ((A.length : Int) != (B.length : Int)) = false := by rw [hl]; simp
    have HL := Lib.hid hl
    have hle : A.length ≤ B.length := by omega
    have hle' : B.length ≤ A.length := by omega
    clear hl
    go_enter Try.func27, Try.ntmps27
    go_wp2
    go_loopw [5] (fun i wr => ∃ k : Nat, k ≤ A.length ∧ i = .int .i64 k ∧ A.take k = B.take k ∧ ∃ n, wr = w.drewN n) (fun i _ => A.length - (intOf i).toNat)
    case atStart => exact ⟨0, Nat.zero_le _, rfl, by simp, 0, rfl⟩
    case round =>
      obtain ⟨k, hk, rfl, hn, n, rfl⟩ := hrel
      have HN := Lib.hid hn
      by_cases hlt : k < A.length
      · have hlt' : k < B.length := by omega
        obtain ⟨s, hs⟩ : ∃ s, s = A.getD k [] := ⟨_, rfl⟩
        obtain ⟨t, ht⟩ : ∃ t, t = B.getD k [] := ⟨_, rfl⟩
        have hsk : A[k] = s := by rw [hs]; simp [List.getD_eq_getElem?_getD, hlt]
        have htk : B[k] = t := by rw [ht]; simp [List.getD_eq_getElem?_getD, hlt']
        have HS := Lib.hid (show A.take (k + 1) = B.take (k + 1) ↔ s = t from by rw [take_eq_snocS A B k hlt hlt' hn, hsk, htk])
        have hp := hidx k hlt
        have hcell := (hc k hlt).2
        have hp' := hidx' k hlt'
        have hcell' := (hc' k hlt').2
        rw [enc_bstr, ← hs] at hcell
        rw [enc_bstr, ← ht] at hcell'
        clear hidx hc hidx' hc' hn hs ht hsk htk
        cases hst : (s == t)
        · go_wp2
          go_quiet (fail)
          go_wp2
          go_ret
          refine ⟨ret_bool ?_, n + nq, by simp⟩
          symm
          rw [beq_eq_false_iff_ne]
          rintro rfl
          have := HS.out.1 rfl
          simp [this] at hst
        · go_wp2
          go_quiet (fail)
          go_wp2
          go_roundw
          case rel => exact ⟨k + 1, by omega, by go_num, HS.out.2 (by simpa using hst), _, rfl⟩
          case measure => simp [intOf]; omega
      · have HE : Hid (A = B) := by
          rw [List.take_of_length_le (by omega), List.take_of_length_le (by omega)] at hn
          exact hn
        clear hidx hc hidx' hc' hn
        go_wp2
        go_ret
        exact ⟨ret_bool (by simp [HE.out]), n, rfl⟩
  · have hne : ((A.length : Int) != (B.length : Int)) = true := by rw [bne_iff_ne]; omega
    have HL := Lib.hid hl
    clear hl
    go_enter Try.func27, Try.ntmps27
    go_wp2
    go_ret
    refine ⟨ret_bool ?_, 0, rfl⟩
    symm
    rw [beq_eq_false_iff_ne]
    rintro rfl
    exact HL.out rfl
end Go.Proofs.Ythkibgdeibolfaa

/- append of a whole slice, nil or not, to a row of the call's own. -/
namespace Go.Proofs.Ythkibgdeibolfaa
open Go.RowKit
set_option maxRecDepth 20000

/-- u is a slice of m elements whose cells are 'news' -/
def SliceOf (w : World) (size : Nat) (u : Value) (m : Nat) (news : List Value) : Prop :=
  ∃ A c, u = .slice A m c ∧ news.length = m * size ∧ (∀ x ∈ news, x.oneCell' = true) ∧ (m = 0 ∨ ∃ ad, A = some ad ∧ ∀ j x, news[j]? = some x → w.cell? (ad.add j) = some x)

theorem run_append_vals {P : Program} (w : World) (base : Nat) (t ty e : TypeId) (i : TypeInfo) (z : Value) (size bytes : Nat) (ht : P.underlying t = some (.slice e)) (hi : P.info? e = some i) (hz : i.zero = some z)
    (hsize : i.size = size) (hby : i.bytes = bytes) (hzs : z.cells.size = size) (hsz : 0 < size) (v : Value) (n : Nat) (xs : List Value) (hown : w.ownsRow base e size v n xs)
    (u : Value) (m : Nat) (news : List Value) (hu : SliceOf w size u m news) (h63 : n + m ≤ maxLen) (hbytes : (n + m) * bytes ≤ 140737488355328) (hbase : base ≤ w.heap.size) :
    ∃ v' w', (Builtin.append_ #[t, t] ty #[v, u]).run P w = .ok v' w' ∧ w'.ownsRow base e size v' (n + m) (xs ++ news) ∧ w.grownBy w' v.ownBlock ∧ (v'.ownBlock = v.ownBlock ∨ v'.ownBlock = some w.heap.size) := by
  obtain ⟨A, c, rfl, hl, h1, hc⟩ := hu
  by_cases hm : m = 0
  · subst hm
    obtain rfl : news = [] := List.eq_nil_of_length_eq_zero (by simpa using hl)
    cases A with
    | none =>
      refine ⟨v, w, ?_, by simpa using hown, World.grownBy.refl w _, .inl rfl⟩
      rcases hown.2 with ⟨rfl, rfl⟩ | ⟨g, cap, cur, rfl, _, _, hnc, _⟩ <;> simp [Builtin.append_, run_underlying ht, sizeOf, typeInfo, Builtin.lenOf, Builtin.firstCells, *, storeCells]
    | some ad =>
      obtain ⟨v', w', a1, a2, a3, _, a4⟩ := run_append_own_at (P := P) w base t ty e i z size bytes ht hi hz hsize hby hzs hsz v n xs hown ad 0 c [] hl (by simp) h1 h63 hbytes hbase
      exact ⟨v', w', a1, a2, a3, a4⟩
  · rcases hc with hc | ⟨ad, rfl, hc⟩
    · exact absurd hc hm
    · obtain ⟨v', w', a1, a2, a3, _, a4⟩ := run_append_own_at (P := P) w base t ty e i z size bytes ht hi hz hsize hby hzs hsz v n xs hown ad m c news hl hc h1 h63 hbytes hbase
      exact ⟨v', w', a1, a2, a3, a4⟩

theorem wpList_append_vals {P : Program} (w : World) {ops : Array Oper} {rest : List Oper} {o : Oper} {a : Act} {Q : Exit → Act → World → Prop} (hgd : o.guard = none) (s x : Operand) (t : TypeId)
    (ho : o.op = .call { callee := .builtin .append, args := #[s, x], argTypes := #[t, t] })
    (base : Nat) (e : TypeId) (i : TypeInfo) (z : Value) (size bytes : Nat) (ht : P.underlying t = some (.slice e)) (hi : P.info? e = some i) (hz : i.zero = some z)
    (hsize : i.size = size) (hby : i.bytes = bytes) (hzs : z.cells.size = size) (hsz : 0 < size) (v : Value) (n : Nat) (xs : List Value) (hs : a.eval s = v) (hown : w.ownsRow base e size v n xs)
    (u : Value) (m : Nat) (news : List Value) (hx : a.eval x = u) (hu : SliceOf w size u m news) (h63 : n + m ≤ maxLen) (hbytes : (n + m) * bytes ≤ 140737488355328) (hbase : base ≤ w.heap.size)
    (h : ∀ v' w', w'.ownsRow base e size v' (n + m) (xs ++ news) → w.grownBy w' v.ownBlock → (v'.ownBlock = v.ownBlock ∨ v'.ownBlock = some w.heap.size) → wpList P ops Q rest (a.put o.dst v') w') : wpList P ops Q (o :: rest) a w := by
  refine wpList_plain hgd fun _ hK => ?_
  obtain ⟨v', w', hrun, h2, h3, h4⟩ := run_append_vals (P := P) w base t o.type e i z size bytes ht hi hz hsize hby hzs hsz v n xs hown u m news hu h63 hbytes hbase
  unfold Oper.wp execOp
  simp only [ho, resolve, invoke, builtin, Sem.run_bind, Sem.run_pure, Result.andThen_ok, List.map_toArray, List.map_cons, List.map_nil, hs, hx, hrun]
  exact hK _ _ (h v' w' h2 h3 h4)

theorem step_append_vals {P : Program} {ops : Array Oper} {o : Oper} {a : Act} {w : World} {K : Act → World → Prop} {Q : Exit → Act → World → Prop} {E : Prop} (hgd : o.guard = none) (s x : Operand) (t : TypeId)
    (ho : o.op = .call { callee := .builtin .append, args := #[s, x], argTypes := #[t, t] })
    (base : Nat) (e : TypeId) (i : TypeInfo) (z : Value) (size bytes : Nat) (ht : P.underlying t = some (.slice e)) (hi : P.info? e = some i) (hz : i.zero = some z)
    (hsize : i.size = size) (hby : i.bytes = bytes) (hzs : z.cells.size = size) (hsz : 0 < size) (v : Value) (n : Nat) (xs : List Value) (hs : a.eval s = v) (hown : w.ownsRow base e size v n xs)
    (u : Value) (m : Nat) (news : List Value) (hx : a.eval x = u) (hu : SliceOf w size u m news) (h63 : n + m ≤ maxLen) (hbytes : (n + m) * bytes ≤ 140737488355328) (hbase : base ≤ w.heap.size)
    (h : ∀ v' w', w'.ownsRow base e size v' (n + m) (xs ++ news) → w.grownBy w' v.ownBlock → (v'.ownBlock = v.ownBlock ∨ v'.ownBlock = some w.heap.size) → K (a.put o.dst v') w') :
    if Region.wanted o (yielded ops a.tmps) = true then Oper.wp P o a w K Q else E := by
  have hw : Region.wanted o (yielded ops a.tmps) = true := by simp [Region.wanted, hgd]
  rw [if_pos hw]
  obtain ⟨v', w', hrun, h2, h3, h4⟩ := run_append_vals (P := P) w base t o.type e i z size bytes ht hi hz hsize hby hzs hsz v n xs hown u m news hu h63 hbytes hbase
  unfold Oper.wp execOp
  simp only [ho, resolve, invoke, builtin, Sem.run_bind, Sem.run_pure, Result.andThen_ok, List.map_toArray, List.map_cons, List.map_nil, hs, hx, hrun]
  exact h v' w' h2 h3 h4
end Go.Proofs.Ythkibgdeibolfaa

/- Blocks of cells, whole ('CBox'): what keeps them, what turns them. -/
namespace Go.Proofs.Ythkibgdeibolfaa
open Go.RowKit
set_option maxRecDepth 20000

/-- block b is cells of type T that read as cs -/
def CBox (w : World) (b : Nat) (T : TypeId) (cs : Array Value) : Prop := w.heap[b]? = some (.cells cs T (0, 0))
section
variable {w w' : World} {b B : Nat} {T : TypeId} {cs : Array Value}
theorem CBox.lt (h : CBox w b T cs) : b < w.heap.size := (Array.getElem?_eq_some_iff.1 h).1
theorem CBox.at_ (h : CBox w b T cs) (i : Nat) (v : Value) (hi : cs[i]? = some v) : w.cell? ⟨b, i, none⟩ = some v ∧ w.frozen? ⟨b, i, none⟩ = false := by
  have h' : w.heap[b]? = some (.cells cs T (0, 0)) := h
  exact ⟨by simp [World.cell?, h', hi], by simp [World.frozen?, h']⟩
theorem CBox.below (h : CBox w b T cs) (hb : Below B w w') (hB : b < B) : CBox w' b T cs := (hb.block b hB).trans h
theorem CBox.grown {row : Option Nat} (h : CBox w b T cs) (hg : w.grownBy w' row) (hne : some b ≠ row) : CBox w' b T cs := (hg.block b h.lt hne).trans h
theorem CBox.set (h : CBox w b T cs) (i : Nat) (u : Value) : CBox (w.setCell ⟨b, i, none⟩ u) b T (cs.setIfInBounds i u) := by
  have h' : w.heap[b]? = some (.cells cs T (0, 0)) := h
  unfold CBox
  simp [World.setCell, Array.getElem?_modify, h']
theorem CBox.far (h : CBox w b T cs) {p : Addr} (hp : b ≠ p.block) (u : Value) : CBox (w.setCell p u) b T cs := (Below.heap_setCell w p u b hp).trans h
theorem CBox.new (cs : Array Value) (hb : b = w.heap.size) : CBox (w.alloc (.cells cs T)) b T cs := by subst hb; exact heap_alloc_new w _
theorem CBox.old (h : CBox w b T cs) (o : Obj) : CBox (w.alloc o) b T cs := h.below ((Below.refl _ w).alloc (Nat.le_refl _) o) h.lt
theorem CBox.draws (h : CBox w b T cs) (n : Nat) : CBox (w.drewN n) b T cs := h.below (below_draws _ (Below.refl _ _) n) h.lt
end

theorem own_form {w : World} {base : Nat} {e : TypeId} {size : Nat} {v : Value} {n : Nat} {xs : List Value} (h : w.ownsRow base e size v n xs) : ∃ ao c, v = .slice ao n c := by
  rcases h.2 with ⟨rfl, rfl⟩ | ⟨g, cap, cur, rfl, _⟩
  · exact ⟨_, _, rfl⟩
  · exact ⟨_, _, rfl⟩

theorem grown_below {w1 wr w2 : World} {row : Option Nat} (hg : w1.grownBy wr row) (hb : Below wr.heap.size wr w2) : w1.grownBy w2 row :=
  ⟨hb.os.trans hg.os, hb.tape.trans hg.tape, hb.output.trans hg.output, Nat.le_trans hg.size hb.size, fun k hk hne => (hb.block k (Nat.lt_of_lt_of_le hk hg.size)).trans (hg.block k hk hne)⟩

theorem heap_new (w : World) (o : Obj) (b : Nat) (h : b = w.heap.size) : (w.alloc o).heap[b]? = some o := by subst h; exact heap_alloc_new w o

/-- a row of the call's own is no block of another type -/
theorem own_box {w : World} {base : Nat} {e : TypeId} {size : Nat} {v : Value} {n : Nat} {xs : List Value} {b : Nat} {T : TypeId} {cs : Array Value} (h : w.ownsRow base e size v n xs) (hd : CBox w b T cs) (hne : e ≠ T) : v.ownBlock ≠ some b := by
  rcases h.2 with ⟨rfl, _⟩ | ⟨g, cap, cur, rfl, _, hg, _⟩
  · simp [Value.ownBlock]
  · intro e'
    have : g = b := by simpa [Value.ownBlock] using e'
    subst this
    have hd' : w.heap[g]? = some (.cells cs T (0, 0)) := hd
    rw [hg] at hd'
    simp at hd'
    exact hne hd'.2
end Go.Proofs.Ythkibgdeibolfaa
