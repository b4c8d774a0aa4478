/- Texts joined into one file: Base, Strs, StrPlain. -/
import Derived.Test.YtpibmjkbebkilaaGreatProg
import Derived.WalkKit
import Derived.WalkSpells
import Derived.WalkLawsBesides
import Derived.Lib.Hide
import Derived.Deep.QuietTactic
import Derived.BigQuiet
import Derived.Test.YtpibmjkbebkilaaGreatW01
import Derived.Sort.OwnSorted
import Derived.Lib.RowBridge

namespace Go.Proofs.YtpibmjkbebkilaaGreat
open Go.RowKit
set_option maxRecDepth 20000

theorem run_len_any {P : Program} {T e : TypeId} (hT : P.underlying T = some (.slice e)) (ao : Option Addr) (n cap : Nat) (ty : TypeId) (w : World) :
 (Builtin.len_ #[T] ty #[.slice ao n cap]).run P w = .ok (.int .i64 n) w := by
 have h : P.underlying T = some (.slice (P.elem T)) := by simp [Program.elem, hT]
 rw [run_len_slice w T ty ao n cap h]; rfl

theorem run_index_any {P : Program} {T e : TypeId} {s : Nat} (hT : P.underlying T = some (.slice e)) (hs : ∀ w, (sizeOf e).run P w = .ok s w) (b off n cap k : Nat) (hk : k < n) (w : World) :
 (Instr.indexAt T (.slice (some ⟨b, off, none⟩) n cap) (.int .i64 k)).run P w = .ok (.pointer (some ⟨b, off + k * s, none⟩)) w := by
 have h : P.underlying T = some (.slice (P.elem T)) := by simp [Program.elem, hT]
 have he : P.elem T = e := by simp [Program.elem, hT]
 have hadd : (⟨b, off, none⟩ : Addr).add (k * s) = ⟨b, off + k * s, none⟩ := by unfold Addr.add; split <;> simp_all
 rw [run_indexAt_slice w T _ n cap _ _ h, if_pos ⟨by omega, by omega⟩, he, hs]
 simp [Result.andThen, hadd]

def Ints (w : World) (v : Value) (L : List Int) : Prop :=
 ∃ ao cap b off, v = .slice ao L.length cap ∧ (L = [] ∨ ao = some ⟨b, off, none⟩) ∧ L.length ≤ 17592186044416 ∧ (∀ x ∈ L, (Lit.int .i64 x).wf = true) ∧
   (∀ k, k < L.length → b < w.heap.size ∧ w.cell? ⟨b, off + k, none⟩ = some (.int .i64 (L.getD k 0)))

theorem Ints.mono {w w' : World} {v : Value} {L : List Int} (h : Ints w v L) (hb : Below w.heap.size w w') : Ints w' v L := by
 obtain ⟨ao, cap, b, off, rfl, h0, h1, h2, h3⟩ := h
 refine ⟨ao, cap, b, off, rfl, h0, h1, h2, fun k hk => ?_⟩
 obtain ⟨hlt, hc⟩ := h3 k hk
 exact ⟨Nat.lt_of_lt_of_le hlt hb.size, by rw [hb.cell (p := ⟨b, off + k, none⟩) hlt]; exact hc⟩

theorem below_draws (B : Nat) {a w : World} (h : Below B a w) (n : Nat) : Below B a (w.drewN n) := ⟨h.os, h.tape, h.output, h.size, h.block⟩

theorem Ints.draws {w : World} {v : Value} {L : List Int} (h : Ints w v L) (n : Nat) : Ints (w.drewN n) v L := h.mono (below_draws _ (Below.refl _ _) n)

theorem Ints.nil (w : World) : Ints w (.slice none 0 0) [] := ⟨none, 0, 0, 0, rfl, .inl rfl, by simp, by simp, by simp⟩

theorem Ints.own {w : World} {base : Nat} {e : TypeId} {v : Value} {L : List Int} (h : w.ownsRow base e 1 v L.length (L.map (Value.int .i64))) (hl : L.length ≤ 17592186044416) (hw : ∀ x ∈ L, (Lit.int .i64 x).wf = true) : Ints w v L := by
 rcases h.2 with ⟨rfl, h0⟩ | ⟨g, cap, cur, rfl, hb, hg, hn, hm, hs, ht⟩
 · rw [List.length_eq_zero_iff] at h0
   subst h0
   exact Ints.nil w
 · refine ⟨_, cap, g, 0, rfl, .inr rfl, hl, hw, fun k hk => ⟨(Array.getElem?_eq_some_iff.1 hg).1, ?_⟩⟩
   have := h.cells (g := g) rfl k (.int .i64 (L.getD k 0)) (by simp [List.getD_eq_getElem?_getD, hk])
   have hadd : (⟨g, 0, none⟩ : Addr).add k = ⟨g, 0 + k, none⟩ := by unfold Addr.add; split <;> simp_all
   rw [hadd] at this
   exact this

theorem Ints.wf {w : World} {v : Value} {L : List Int} (h : Ints w v L) : ∀ x ∈ L, (Lit.int .i64 x).wf = true := by
 obtain ⟨_, _, _, _, _, _, _, h, _⟩ := h
 exact h

theorem Ints.facts {w : World} {v : Value} {L : List Int} (h : Ints w v L) :
 ∃ b off, L.length ≤ 17592186044416 ∧ (∀ ty w', (Builtin.len_ #[54] ty #[v]).run Tryz.prog w' = .ok (.int .i64 L.length) w') ∧
   (∀ k, k < L.length → ∀ w', (Instr.indexAt 54 v (.int .i64 k)).run Tryz.prog w' = .ok (.pointer (some ⟨b, off + k, none⟩)) w') ∧
   (∀ k, k < L.length → b < w.heap.size ∧ w.cell? ⟨b, off + k, none⟩ = some (.int .i64 (L.getD k 0))) := by
 obtain ⟨ao, cap, b, off, rfl, h0, h1, h2, h3⟩ := h
 refine ⟨b, off, h1, fun ty w' => run_len_any Tryz.underlying54 ao L.length cap ty w', fun k hk w' => ?_, h3⟩
 rcases h0 with h0 | rfl
 · subst h0; exact absurd hk (by simp)
 · have := run_index_any (P := Tryz.prog) (s := 1) Tryz.underlying54 (fun w => by kernel_rfl) b off L.length cap k hk w'
   rw [Nat.mul_one] at this
   exact this

theorem Ints.one {w : World} {v : Value} {L : List Int} (h : Ints w v L) : v.cells = #[v] ∧ ∀ (a : Addr) (m : Mode) (w' : World), (store a v m).run Tryz.prog w' = stored Tryz.prog w' a v m := by
 obtain ⟨ao, cap, b, off, rfl, _⟩ := h
 exact ⟨rfl, fun a m w' => run_store_slice _ _ _ _ _ _ _⟩

theorem ret_bool {a b : Bool} (h : a = b) : Ending.returned (.bool a) = .returned (.bool b) := by rw [h]

theorem below_own {B base : Nat} {a w w' : World} {e : TypeId} {size : Nat} {v : Value} {n : Nat} {xs : List Value} (h : Below B a w) (ho : w.ownsRow base e size v n xs) (hB : B ≤ base) (hs : B ≤ w.heap.size) (hg : w.grownBy w' v.ownBlock) : Below B a w' :=
 h.grown hg hs (fun k hk => Nat.le_trans hB (ho.lt k hk).1)

theorem take_snoc {α : Type} (L : List α) (k : Nat) (h : k < L.length) : L.take (k + 1) = L.take k ++ [L[k]] :=
 List.take_succ_eq_append_getElem h

end Go.Proofs.YtpibmjkbebkilaaGreat

namespace Go.Proofs.YtpibmjkbebkilaaGreat
open Go.RowKit Go.Sort
set_option maxRecDepth 20000

def Strs (w : World) (v : Value) (L : List (List UInt8)) : Prop :=
 ∃ ao cap b off, v = .slice ao L.length cap ∧ (L = [] ∨ ao = some ⟨b, off, none⟩) ∧ L.length ≤ 8796093022208 ∧ (∀ x ∈ L, x.length ≤ maxLen) ∧
   (∀ k, k < L.length → b < w.heap.size ∧ w.cell? ⟨b, off + k, none⟩ = some (encStr (L.getD k [])))

theorem Strs.mono {w w' : World} {v : Value} {L : List (List UInt8)} (h : Strs w v L) (hb : Below w.heap.size w w') : Strs w' v L := by
 obtain ⟨ao, cap, b, off, rfl, h0, h1, h2, h3⟩ := h
 refine ⟨ao, cap, b, off, rfl, h0, h1, h2, fun k hk => ?_⟩
 obtain ⟨hlt, hc⟩ := h3 k hk
 exact ⟨Nat.lt_of_lt_of_le hlt hb.size, by rw [hb.cell (p := ⟨b, off + k, none⟩) hlt]; exact hc⟩

theorem Strs.draws {w : World} {v : Value} {L : List (List UInt8)} (h : Strs w v L) (n : Nat) : Strs (w.drewN n) v L := h.mono (below_draws _ (Below.refl _ _) n)

theorem Strs.nil (w : World) : Strs w (.slice none 0 0) [] := ⟨none, 0, 0, 0, rfl, .inl rfl, by simp, by simp, by simp⟩

theorem Strs.own {w : World} {base : Nat} {e : TypeId} {v : Value} {L : List (List UInt8)} (h : w.ownsRow base e 1 v L.length (L.map encStr)) (hl : L.length ≤ 8796093022208) (hw : ∀ x ∈ L, x.length ≤ maxLen) : Strs w v L := by
 rcases h.2 with ⟨rfl, h0⟩ | ⟨g, cap, cur, rfl, hb, hg, hn, hm, hs, ht⟩
 · rw [List.length_eq_zero_iff] at h0
   subst h0
   exact Strs.nil w
 · refine ⟨_, cap, g, 0, rfl, .inr rfl, hl, hw, fun k hk => ⟨(Array.getElem?_eq_some_iff.1 hg).1, ?_⟩⟩
   have := h.cells (g := g) rfl k (encStr (L.getD k [])) (by simp [List.getD_eq_getElem?_getD, hk])
   have hadd : (⟨g, 0, none⟩ : Addr).add k = ⟨g, 0 + k, none⟩ := by unfold Addr.add; split <;> simp_all
   rw [hadd] at this
   exact this

theorem Strs.len {w : World} {v : Value} {L : List (List UInt8)} (h : Strs w v L) : ∀ x ∈ L, x.length ≤ maxLen := by
 obtain ⟨_, _, _, _, _, _, _, h, _⟩ := h
 exact h

theorem Strs.shape {w : World} {v : Value} {L : List (List UInt8)} (h : Strs w v L) : ∃ ao cap, v = .slice ao L.length cap := by
 obtain ⟨ao, cap, _, _, h, _⟩ := h
 exact ⟨ao, cap, h⟩

theorem Strs.facts {w : World} {v : Value} {L : List (List UInt8)} (h : Strs w v L) :
 ∃ b off, L.length ≤ 8796093022208 ∧ (∀ ty w', (Builtin.len_ #[37] ty #[v]).run Tryz.prog w' = .ok (.int .i64 L.length) w') ∧
   (∀ k, k < L.length → ∀ w', (Instr.indexAt 37 v (.int .i64 k)).run Tryz.prog w' = .ok (.pointer (some ⟨b, off + k, none⟩)) w') ∧
   (∀ k, k < L.length → b < w.heap.size ∧ w.cell? ⟨b, off + k, none⟩ = some (encStr (L.getD k []))) := by
 obtain ⟨ao, cap, b, off, rfl, h0, h1, h2, h3⟩ := h
 refine ⟨b, off, h1, fun ty w' => run_len_any Tryz.underlying37 ao L.length cap ty w', fun k hk w' => ?_, h3⟩
 rcases h0 with h0 | rfl
 · subst h0; exact absurd hk (by simp)
 · have := run_index_any (P := Tryz.prog) (s := 1) Tryz.underlying37 (fun w => by kernel_rfl) b off L.length cap k hk w'
   rw [Nat.mul_one] at this
   exact this

def Lies (lo : Nat) (v : Value) : Prop := ∀ b, v.ownBlock = some b → lo ≤ b

theorem Lies.mono {lo lo' : Nat} {v : Value} (h : Lies lo v) (hl : lo' ≤ lo) : Lies lo' v := fun b hb => Nat.le_trans hl (h b hb)
theorem Lies.own {w : World} {base : Nat} {e : TypeId} {size : Nat} {v : Value} {n : Nat} {xs : List Value} (h : w.ownsRow base e size v n xs) : Lies base v := fun b hb => (h.lt b hb).1

theorem Strs.far {w : World} {v : Value} {L : List (List UInt8)} {lo : Nat} (h : Strs w v L) (hl : Lies lo v) {p : Addr} (hp : p.block < lo) (u : Value) : Strs (w.setCell p u) v L := by
 obtain ⟨ao, cap, b, off, rfl, h0, h1, h2, h3⟩ := h
 refine ⟨ao, cap, b, off, rfl, h0, h1, h2, fun k hk => ?_⟩
 obtain ⟨hlt, hc⟩ := h3 k hk
 have hb : lo ≤ b := by
  rcases h0 with rfl | rfl
  · simp at hk
  · exact hl b rfl
 refine ⟨by simpa using hlt, ?_⟩
 rw [World.cell?_setCell_other w p _ u (fun e => by subst e; simp at hp; omega)]
 exact hc

def bstr (l : List UInt8) : ByteArray := ⟨l.toArray⟩
theorem enc_bstr (l : List UInt8) : encStr l = .string (bstr l) := rfl
theorem bstr_data (l : List UInt8) : (bstr l).data.toList = l := rfl
theorem bstr_of (s : ByteArray) : s = bstr s.data.toList := by cases s; simp [bstr]
theorem bstr_size (l : List UInt8) : (bstr l).size = l.length := by simp [bstr, ByteArray.size]
theorem bstr_toList (l : List UInt8) : (bstr l).toList = l := by rw [Lib.toList_data]; rfl
theorem bstr_inj {a b : List UInt8} (h : bstr a = bstr b) : a = b := by rw [← bstr_toList a, h, bstr_toList]
attribute [irreducible] bstr

theorem mem_snoc (L : List (List UInt8)) (x : List UInt8) (k : Nat) (h : k < L.length) : (L.take (k + 1)).contains x = ((L.take k).contains x || L[k] == x) := by
 rw [take_snoc L k h, Bool.eq_iff_iff, List.contains_iff_mem, List.mem_append, Bool.or_eq_true, List.contains_iff_mem, List.mem_singleton, beq_iff_eq, eq_comm (a := x)]

set_option maxHeartbeats 400000 in
theorem shas_any (v : Value) (L : List (List UInt8)) (x : List UInt8) (w : World) (h : Strs w v L) :
 Calls Tryz.prog 68 #[v, .string (bstr x)] w fun e w' => e = .returned (.bool (L.contains x)) ∧ w = w' := by
 obtain ⟨b, off, hm, hlen, hidx, hc⟩ := h.facts
 clear h
 have hbt := bstr_toList
 go_enter Tryz.func68, Tryz.ntmps68
 go_wp2
 go_loop [5] (fun i => ∃ k : Nat, k ≤ L.length ∧ i = .int .i64 k ∧ (L.take k).contains x = false) (fun i => L.length - (intOf i).toNat)
 case atStart => exact ⟨0, Nat.zero_le _, rfl, by simp⟩
 case round =>
  obtain ⟨k, hk, rfl, hn⟩ := hrel
  by_cases hlt : k < L.length
  · obtain ⟨t, ht⟩ : ∃ t, t = L.getD k [] := ⟨_, rfl⟩
    have htk : L[k] = t := by rw [ht]; simp [List.getD_eq_getElem?_getD, hlt]
    have HN := Lib.hid (show (L.take (k + 1)).contains x = (t == x) by rw [mem_snoc L x k hlt, hn, htk]; rfl)
    have HM := Lib.hid (show t ∈ L from by rw [← htk]; exact List.getElem_mem hlt)
    have hp := hidx k hlt
    have hcell := (hc k hlt).2
    rw [enc_bstr, ← ht] at hcell
    clear hidx hc hn ht htk
    cases htx : (t == x)
    · go_wp2
      go_round
      case rel => exact ⟨k + 1, by omega, by go_num, HN.out.trans htx⟩
      case measure => simp [intOf]; omega
    · go_wp2
      go_ret
      have e : t = x := by simpa using htx
      exact ⟨ret_bool (by have := HM.out; rw [e] at this; simpa using this), rfl⟩
  · have HN := Lib.hid (show L.contains x = false by rw [List.take_of_length_le (by omega)] at hn; exact hn)
    clear hidx hc hn
    go_wp2
    go_ret
    exact ⟨ret_bool (by simpa using HN.out), rfl⟩

theorem scontains_any (v : Value) (L : List (List UInt8)) (x : List UInt8) (w : World) (h : Strs w v L) :
 Calls Tryz.prog 115 #[v, .string (bstr x)] w fun e w' => e = .returned (.bool (L.contains x)) ∧ w = w' := by
 obtain ⟨ao, cap, b, off, rfl, h0, h1, h2, h3⟩ := h
 rcases h0 with rfl | rfl
 · exact (Tryz.slices_Contains_addr_empty ao cap (bstr x) w).mono fun e w' h => ⟨by rw [h.1]; simp, h.2.symm⟩
 · refine (Tryz.slices_Contains_addr b off L.length cap (L.map bstr) (bstr x) w (by simp) (by omega) (fun j hj => ?_)).mono fun e w' h => ⟨?_, h.2.symm⟩
   · have hj' : j < L.length := by simpa using hj
     rw [(h3 j hj').2, enc_bstr]
     simp [List.getD_eq_getElem?_getD, hj']
   · rw [h.1]
     refine ret_bool ?_
     rw [Bool.eq_iff_iff, Lib.containsS_iff, List.contains_iff_mem, List.take_of_length_le (by simp), List.mem_map]
     exact ⟨fun ⟨y, hy, e⟩ => bstr_inj e ▸ hy, fun h => ⟨x, h, rfl⟩⟩

theorem take_eq_snocS (A B : List (List UInt8)) (k : Nat) (ha : k < A.length) (hb : k < B.length) (h : A.take k = B.take k) : (A.take (k + 1) = B.take (k + 1)) ↔ A[k] = B[k] := by
 rw [take_snoc A k ha, take_snoc B k hb, h, List.append_cancel_left_eq]
 simp only [List.cons.injEq, and_true]

set_option maxHeartbeats 800000 in
theorem ssame_any (v u : Value) (A B : List (List UInt8)) (w : World) (h : Strs w v A) (h' : Strs w u B) :
 Calls Tryz.prog 42 #[v, u] w fun e w' => e = .returned (.bool (A == B)) ∧ ∃ n, w' = w.drewN n := by
 obtain ⟨b, off, hm, hlen, hidx, hc⟩ := h.facts
 obtain ⟨b', off', hm', hlen', hidx', hc'⟩ := h'.facts
 clear h h'
 have hbt := bstr_toList
 by_cases hl : A.length = B.length
 · have hne : ((A.length : Int) != (B.length : Int)) = false := by rw [hl]; simp
   have HL := Lib.hid hl
   have hle : A.length ≤ B.length := by omega
   have hle' : B.length ≤ A.length := by omega
   clear hl
   go_enter Tryz.func42, Tryz.ntmps42
   go_wp2
   go_loopw [5] (fun i wr => ∃ k : Nat, k ≤ A.length ∧ i = .int .i64 k ∧ A.take k = B.take k ∧ ∃ n, wr = w.drewN n) (fun i _ => A.length - (intOf i).toNat)
   case atStart => exact ⟨0, Nat.zero_le _, rfl, by simp, 0, rfl⟩
   case round =>
    obtain ⟨k, hk, rfl, hn, n, rfl⟩ := hrel
    have HN := Lib.hid hn
    by_cases hlt : k < A.length
    · have hlt' : k < B.length := by omega
      obtain ⟨s, hs⟩ : ∃ s, s = A.getD k [] := ⟨_, rfl⟩
      obtain ⟨t, ht⟩ : ∃ t, t = B.getD k [] := ⟨_, rfl⟩
      have hsk : A[k] = s := by rw [hs]; simp [List.getD_eq_getElem?_getD, hlt]
      have htk : B[k] = t := by rw [ht]; simp [List.getD_eq_getElem?_getD, hlt']
      have HS := Lib.hid (show A.take (k + 1) = B.take (k + 1) ↔ s = t from by rw [take_eq_snocS A B k hlt hlt' hn, hsk, htk])
      have hp := hidx k hlt
      have hcell := (hc k hlt).2
      have hp' := hidx' k hlt'
      have hcell' := (hc' k hlt').2
      rw [enc_bstr, ← hs] at hcell
      rw [enc_bstr, ← ht] at hcell'
      clear hidx hc hidx' hc' hn hs ht hsk htk
      cases hst : (s == t)
      · go_wp2
        go_quiet (fail)
        go_wp2
        go_ret
        refine ⟨ret_bool ?_, n + nq, by simp⟩
        symm
        rw [beq_eq_false_iff_ne]
        rintro rfl
        have := HS.out.1 rfl
        simp [this] at hst
      · go_wp2
        go_quiet (fail)
        go_wp2
        go_roundw
        case rel => exact ⟨k + 1, by omega, by go_num, HS.out.2 (by simpa using hst), _, rfl⟩
        case measure => simp [intOf]; omega
    · have HE : Hid (A = B) := by
       rw [List.take_of_length_le (by omega), List.take_of_length_le (by omega)] at hn
       exact hn
      clear hidx hc hidx' hc' hn
      go_wp2
      go_ret
      exact ⟨ret_bool (by simp [HE.out]), n, rfl⟩
 · have hne : ((A.length : Int) != (B.length : Int)) = true := by rw [bne_iff_ne]; omega
   have HL := Lib.hid hl
   clear hl
   go_enter Tryz.func42, Tryz.ntmps42
   go_wp2
   go_ret
   refine ⟨ret_bool ?_, 0, rfl⟩
   symm
   rw [beq_eq_false_iff_ne]
   rintro rfl
   exact HL.out rfl
end Go.Proofs.YtpibmjkbebkilaaGreat

namespace Go.Proofs.YtpibmjkbebkilaaGreat
open Go.RowKit Go.Sort Go.Lib
set_option maxRecDepth 20000

abbrev Str := List UInt8

theorem slt_irrefl (a : Str) : ¬ a < a := List.lt_irrefl a
theorem slt_trans {a b c : Str} (h : a < b) (k : b < c) : a < c := List.lt_trans h k
theorem slt_or (a b : Str) : a < b ∨ a = b ∨ b < a := by
 by_cases h : a < b
 · exact .inl h
 · by_cases k : b < a
   · exact .inr (.inr k)
   · refine .inr (.inl ?_)
     exact List.le_antisymm (List.not_lt.1 k) (List.not_lt.1 h)
theorem sle_iff (a b : Str) : a ≤ b ↔ a < b ∨ a = b := by
 constructor
 · intro h
   rcases slt_or a b with k | k | k
   · exact .inl k
   · exact .inr k
   · exact absurd k (List.not_lt.2 h)
 · rintro (h | h)
   · exact List.le_of_lt h
   · subst h; exact List.le_refl _

theorem scompactUpTo_mem (d : Array Str) : ∀ m x, x ∈ compactUpTo d m ↔ ∃ j, j < m ∧ x = d[j]!
 | 0, x => by simp [compactUpTo]
 | m + 1, x => by
   rw [compactUpTo_succ, List.mem_append, scompactUpTo_mem d m x]
   by_cases hk : keeps d m
   · rw [if_pos hk, List.mem_singleton]
     constructor
     · rintro (⟨j, hj, e⟩ | e)
       · exact ⟨j, by omega, e⟩
       · exact ⟨m, by omega, e⟩
     · rintro ⟨j, hj, e⟩
       by_cases hjm : j = m
       · subst hjm; exact .inr e
       · exact .inl ⟨j, by omega, e⟩
   · rw [if_neg hk]
     have hk' : ¬ (m = 0 ∨ d[m]! ≠ d[m - 1]!) := by simpa [keeps] using hk
     constructor
     · rintro (⟨j, hj, e⟩ | e)
       · exact ⟨j, by omega, e⟩
       · cases e
     · rintro ⟨j, hj, e⟩
       refine .inl ?_
       by_cases hjm : j = m
       · subst hjm
         refine ⟨j - 1, by omega, ?_⟩
         rw [e]
         by_cases h0 : d[j]! = d[j - 1]!
         · exact h0
         · exact absurd (.inr h0) hk'
       · exact ⟨j, by omega, e⟩

theorem scompactUpTo_rises (d : Array Str) (hs : ∀ i j, i ≤ j → j < d.size → d[i]! ≤ d[j]!) : ∀ m, m ≤ d.size → (compactUpTo d m).Pairwise (· < ·)
 | 0, _ => by simp [compactUpTo]
 | m + 1, hm => by
   rw [compactUpTo_succ]
   refine List.pairwise_append.2 ⟨scompactUpTo_rises d hs m (by omega), ?_, ?_⟩
   · split <;> simp
   · intro x hx y hy
     by_cases hk : keeps d m
     · rw [if_pos hk, List.mem_singleton] at hy
       subst hy
       obtain ⟨j, hj, rfl⟩ := (scompactUpTo_mem d m x).1 hx
       have hk' : m = 0 ∨ d[m]! ≠ d[m - 1]! := by simpa [keeps] using hk
       have h1 := hs j (m - 1) (by omega) (by omega)
       have h2 := hs (m - 1) m (by omega) (by omega)
       rcases hk' with h | h
       · omega
       · rcases (sle_iff _ _).1 h2 with h2 | h2
         · rcases (sle_iff _ _).1 h1 with h1 | h1
           · exact slt_trans h1 h2
           · rw [h1]; exact h2
         · exact absurd h2.symm h
     · rw [if_neg hk] at hy; cases hy

theorem scompact_mem (zs : List Str) (x : Str) : x ∈ compact zs ↔ x ∈ zs := by
 unfold compact
 rw [scompactUpTo_mem]
 constructor
 · rintro ⟨j, hj, rfl⟩
   simp [hj]
 · intro h
   obtain ⟨j, hj, e⟩ := List.getElem_of_mem h
   exact ⟨j, hj, by simp [hj, e]⟩

theorem scompact_rises (zs : List Str) (h : zs.Pairwise (· ≤ ·)) : (compact zs).Pairwise (· < ·) := by
 refine scompactUpTo_rises _ (fun i j hij hj => ?_) _ (by simp)
 have hj' : j < zs.length := by simpa using hj
 by_cases e : i = j
 · subst e; exact List.le_refl _
 · simp [hj', show i < zs.length by omega]
   exact List.pairwise_iff_getElem.1 h i j (by omega) hj' (by omega)

theorem ssorted_le (zs : List Str) : (zs.mergeSort fun x y => decide (x ≤ y)).Pairwise (· ≤ ·) := by
 have := List.pairwise_mergeSort (le := fun (x y : Str) => decide (x ≤ y)) (fun a b c h1 h2 => by simp at *; exact List.le_trans h1 h2) (fun a b => by simp; exact List.le_total a b) zs
 simpa using this

theorem srising_ext : ∀ {A B : List Str}, A.Pairwise (· < ·) → B.Pairwise (· < ·) → (∀ x, x ∈ A ↔ x ∈ B) → A = B
 | [], [], _, _, _ => rfl
 | [], b :: s, _, _, h => by have := (h b).2 (by simp); simp at this
 | a :: r, [], _, _, h => by have := (h a).1 (by simp); simp at this
 | a :: r, b :: s, h1, h2, h => by
   obtain ⟨a1, a2⟩ := List.pairwise_cons.1 h1
   obtain ⟨b1, b2⟩ := List.pairwise_cons.1 h2
   have hab : a = b := by
    rcases List.mem_cons.1 ((h a).1 (by simp)) with e | ha
    · exact e
    · rcases List.mem_cons.1 ((h b).2 (by simp)) with e | hb
      · exact e.symm
      · exact absurd (slt_trans (a1 b hb) (b1 a ha)) (slt_irrefl a)
   subst hab
   rw [srising_ext a2 b2 (fun p => ⟨fun hp => by
    rcases List.mem_cons.1 ((h p).1 (by simp [hp])) with e | hp'
    · exact absurd (e ▸ a1 p hp) (slt_irrefl a)
    · exact hp', fun hp => by
    rcases List.mem_cons.1 ((h p).2 (by simp [hp])) with e | hp'
    · exact absurd (e ▸ b1 p hp) (slt_irrefl a)
    · exact hp'⟩)]

def sasc (L : List Str) : List Str := compact (L.mergeSort fun x y => decide (x ≤ y))

theorem sasc_mem (L : List Str) (y : Str) : y ∈ sasc L ↔ y ∈ L := by rw [sasc, scompact_mem]; exact List.mem_mergeSort
theorem sasc_length (L : List Str) : (sasc L).length ≤ L.length := Nat.le_trans (compact_length_le _) (by simp)
theorem sasc_rising (L : List Str) : (sasc L).Pairwise (· < ·) := scompact_rises _ (ssorted_le L)
end Go.Proofs.YtpibmjkbebkilaaGreat
