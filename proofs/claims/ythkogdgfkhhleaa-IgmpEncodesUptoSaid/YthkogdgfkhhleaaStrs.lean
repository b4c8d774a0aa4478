/- Slices of strings in memory ('Strs'), and the small functions over them. -/
import Derived.Test.YthkogdgfkhhleaaBase
import Derived.Test.YthkogdgfkhhleaaStrShelf
import Derived.Sort.OwnSorted
namespace Go.Proofs.Ythkogdgfkhhleaa
open Go.RowKit Go.Sort
set_option maxRecDepth 20000

/-- v is a slice of strings whose elements are L. -/
def Strs (w : World) (v : Value) (L : List (List UInt8)) : Prop :=
  ∃ ao cap b off, v = .slice ao L.length cap ∧ (L = [] ∨ ao = some ⟨b, off, none⟩) ∧ L.length ≤ 8796093022208 ∧ (∀ x ∈ L, x.length ≤ maxLen) ∧
    (∀ k, k < L.length → b < w.heap.size ∧ w.cell? ⟨b, off + k, none⟩ = some (encStr (L.getD k [])))

theorem Strs.mono {w w' : World} {v : Value} {L : List (List UInt8)} (h : Strs w v L) (hb : Below w.heap.size w w') : Strs w' v L := by
  obtain ⟨ao, cap, b, off, rfl, h0, h1, h2, h3⟩ := h
  refine ⟨ao, cap, b, off, rfl, h0, h1, h2, fun k hk => ?_⟩
  obtain ⟨hlt, hc⟩ := h3 k hk
  exact ⟨Nat.lt_of_lt_of_le hlt hb.size, by rw [hb.cell (p := ⟨b, off + k, none⟩) hlt]; exact hc⟩

theorem Strs.draws {w : World} {v : Value} {L : List (List UInt8)} (h : Strs w v L) (n : Nat) : Strs (w.drewN n) v L := h.mono (below_draws _ (Below.refl _ _) n)

theorem Strs.nil (w : World) : Strs w (.slice none 0 0) [] := ⟨none, 0, 0, 0, rfl, .inl rfl, by simp, by simp, by simp⟩

/-- What the call has built is such a slice. -/
theorem Strs.own {w : World} {base : Nat} {e : TypeId} {v : Value} {L : List (List UInt8)} (h : w.ownsRow base e 1 v L.length (L.map encStr)) (hl : L.length ≤ 8796093022208) (hw : ∀ x ∈ L, x.length ≤ maxLen) : Strs w v L := by
  rcases h.2 with ⟨rfl, h0⟩ | ⟨g, cap, cur, rfl, hb, hg, hn, hm, hs, ht⟩
  · rw [List.length_eq_zero_iff] at h0
    subst h0
    exact Strs.nil w
  · refine ⟨_, cap, g, 0, rfl, .inr rfl, hl, hw, fun k hk => ⟨(Array.getElem?_eq_some_iff.1 hg).1, ?_⟩⟩
    have := h.cells (g := g) rfl k (encStr (L.getD k [])) (by simp [List.getD_eq_getElem?_getD, hk])
    have hadd : (⟨g, 0, none⟩ : Addr).add k = ⟨g, 0 + k, none⟩ := by unfold Addr.add; split <;> simp_all
    rw [hadd] at this
    exact this

theorem Strs.len {w : World} {v : Value} {L : List (List UInt8)} (h : Strs w v L) : ∀ x ∈ L, x.length ≤ maxLen := by
  obtain ⟨_, _, _, _, _, _, _, h, _⟩ := h
  exact h

theorem Strs.shape {w : World} {v : Value} {L : List (List UInt8)} (h : Strs w v L) : ∃ ao cap, v = .slice ao L.length cap := by
  obtain ⟨ao, cap, _, _, h, _⟩ := h
  exact ⟨ao, cap, h⟩

/-- What a walk asks of it. -/
theorem Strs.facts {w : World} {v : Value} {L : List (List UInt8)} (h : Strs w v L) :
    ∃ b off, L.length ≤ 8796093022208 ∧ (∀ ty w', (Builtin.len_ #[24] ty #[v]).run Try.prog w' = .ok (.int .i64 L.length) w') ∧
      (∀ k, k < L.length → ∀ w', (Instr.indexAt 24 v (.int .i64 k)).run Try.prog w' = .ok (.pointer (some ⟨b, off + k, none⟩)) w') ∧
      (∀ k, k < L.length → b < w.heap.size ∧ w.cell? ⟨b, off + k, none⟩ = some (encStr (L.getD k []))) := by
  obtain ⟨ao, cap, b, off, rfl, h0, h1, h2, h3⟩ := h
  refine ⟨b, off, h1, fun ty w' => run_len_any Try.underlying24 ao L.length cap ty w', fun k hk w' => ?_, h3⟩
  rcases h0 with h0 | rfl
  · subst h0; exact absurd hk (by simp)
  · have := run_index_any (P := Try.prog) (s := 1) Try.underlying24 (fun w => by kernel_rfl) b off L.length cap k hk w'
    rw [Nat.mul_one] at this
    exact this

/-- v lies in no block below lo -/
def Lies (lo : Nat) (v : Value) : Prop := ∀ b, v.ownBlock = some b → lo ≤ b

theorem Lies.mono {lo lo' : Nat} {v : Value} (h : Lies lo v) (hl : lo' ≤ lo) : Lies lo' v := fun b hb => Nat.le_trans hl (h b hb)
theorem Lies.own {w : World} {base : Nat} {e : TypeId} {size : Nat} {v : Value} {n : Nat} {xs : List Value} (h : w.ownsRow base e size v n xs) : Lies base v := fun b hb => (h.lt b hb).1

/-- a write below leaves it as it was -/
theorem Strs.far {w : World} {v : Value} {L : List (List UInt8)} {lo : Nat} (h : Strs w v L) (hl : Lies lo v) {p : Addr} (hp : p.block < lo) (u : Value) : Strs (w.setCell p u) v L := by
  obtain ⟨ao, cap, b, off, rfl, h0, h1, h2, h3⟩ := h
  refine ⟨ao, cap, b, off, rfl, h0, h1, h2, fun k hk => ?_⟩
  obtain ⟨hlt, hc⟩ := h3 k hk
  have hb : lo ≤ b := by
    rcases h0 with rfl | rfl
    · simp at hk
    · exact hl b rfl
  refine ⟨by simpa using hlt, ?_⟩
  rw [World.cell?_setCell_other w p _ u (fun e => by subst e; simp at hp; omega)]
  exact hc

def bstr (l : List UInt8) : ByteArray := ⟨l.toArray⟩
theorem enc_bstr (l : List UInt8) : encStr l = .string (bstr l) := rfl
theorem bstr_data (l : List UInt8) : (bstr l).data.toList = l := rfl
theorem bstr_of (s : ByteArray) : s = bstr s.data.toList := by cases s; simp [bstr]
theorem bstr_size (l : List UInt8) : (bstr l).size = l.length := by simp [bstr, ByteArray.size]
theorem bstr_toList (l : List UInt8) : (bstr l).toList = l := by rw [Lib.toList_data]; rfl
theorem bstr_inj {a b : List UInt8} (h : bstr a = bstr b) : a = b := by rw [← bstr_toList a, h, bstr_toList]
attribute [irreducible] bstr

theorem mem_snoc (L : List (List UInt8)) (x : List UInt8) (k : Nat) (h : k < L.length) : (L.take (k + 1)).contains x = ((L.take k).contains x || L[k] == x) := by
  rw [take_snoc L k h, Bool.eq_iff_iff, List.contains_iff_mem, List.mem_append, Bool.or_eq_true, List.contains_iff_mem, List.mem_singleton, beq_iff_eq, eq_comm (a := x)]

theorem take_eq_snocS (A B : List (List UInt8)) (k : Nat) (ha : k < A.length) (hb : k < B.length) (h : A.take k = B.take k) : (A.take (k + 1) = B.take (k + 1)) ↔ A[k] = B[k] := by
  rw [take_snoc A k ha, take_snoc B k hb, h, List.append_cancel_left_eq]
  simp only [List.cons.injEq, and_true]

set_option maxHeartbeats 800000 in
theorem ssame_any (v u : Value) (A B : List (List UInt8)) (w : World) (h : Strs w v A) (h' : Strs w u B) :
    Calls Try.prog 32 #[v, u] w fun e w' => e = .returned (.bool (A == B)) ∧ ∃ n, w' = w.drewN n := by
  obtain ⟨b, off, hm, hlen, hidx, hc⟩ := h.facts
  obtain ⟨b', off', hm', hlen', hidx', hc'⟩ := h'.facts
  clear h h'
  have hbt := bstr_toList
  by_cases hl : A.length = B.length
  · have hne : ((A.length : Int) != (B.length : Int)) = false := by rw [hl]; simp
    have HL := Lib.hid hl
    have hle : A.length ≤ B.length := by omega
    have hle' : B.length ≤ A.length := by omega
    clear hl
    go_enter Try.func32, Try.ntmps32
    go_wp2
    go_loopw [5] (fun i wr => ∃ k : Nat, k ≤ A.length ∧ i = .int .i64 k ∧ A.take k = B.take k ∧ ∃ n, wr = w.drewN n) (fun i _ => A.length - (intOf i).toNat)
    case atStart => exact ⟨0, Nat.zero_le _, rfl, by simp, 0, rfl⟩
    case round =>
      obtain ⟨k, hk, rfl, hn, n, rfl⟩ := hrel
      have HN := Lib.hid hn
      by_cases hlt : k < A.length
      · have hlt' : k < B.length := by omega
        obtain ⟨s, hs⟩ : ∃ s, s = A.getD k [] := ⟨_, rfl⟩
        obtain ⟨t, ht⟩ : ∃ t, t = B.getD k [] := ⟨_, rfl⟩
        have hsk : A[k] = s := by rw [hs]; simp [List.getD_eq_getElem?_getD, hlt]
        have htk : B[k] = t := by rw [ht]; simp [List.getD_eq_getElem?_getD, hlt']
        have HS := Lib.hid (show A.take (k + 1) = B.take (k + 1) ↔ s = t from by rw [take_eq_snocS A B k hlt hlt' hn, hsk, htk])
        have hp := hidx k hlt
        have hcell := (hc k hlt).2
        have hp' := hidx' k hlt'
        have hcell' := (hc' k hlt').2
        rw [enc_bstr, ← hs] at hcell
        rw [enc_bstr, ← ht] at hcell'
        clear hidx hc hidx' hc' hn hs ht hsk htk
        cases hst : (s == t)
        · go_wp2
          go_quiet (fail)
          go_wp2
          go_ret
          refine ⟨ret_bool ?_, n + nq, by simp⟩
          symm
          rw [beq_eq_false_iff_ne]
          rintro rfl
          have := HS.out.1 rfl
          simp [this] at hst
        · go_wp2
          go_quiet (fail)
          go_wp2
          go_roundw
          case rel => exact ⟨k + 1, by omega, by go_num, HS.out.2 (by simpa using hst), _, rfl⟩
          case measure => simp [intOf]; omega
      · have HE : Hid (A = B) := by
          rw [List.take_of_length_le (by omega), List.take_of_length_le (by omega)] at hn
          exact hn
        clear hidx hc hidx' hc' hn
        go_wp2
        go_ret
        exact ⟨ret_bool (by simp [HE.out]), n, rfl⟩
  · have hne : ((A.length : Int) != (B.length : Int)) = true := by rw [bne_iff_ne]; omega
    have HL := Lib.hid hl
    clear hl
    go_enter Try.func32, Try.ntmps32
    go_wp2
    go_ret
    refine ⟨ret_bool ?_, 0, rfl⟩
    symm
    rw [beq_eq_false_iff_ne]
    rintro rfl
    exact HL.out rfl
end Go.Proofs.Ythkogdgfkhhleaa
