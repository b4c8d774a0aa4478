/- Texts joined into one file: Strs, StrPlain, StrSort, StrFound. -/
import Derived.Test.YthcdppppppgckaaGreatDoorC04
import Derived.Test.YthcdppppppgckaaGreatDoorC01
import Derived.Sort.OwnSorted
import Derived.Lib.RowBridge
import Derived.Test.YthcdppppppgckaaGreatDoorC05

namespace Go.Proofs.YthcdppppppgckaaGreatDoor
open Go.RowKit Go.Sort
set_option maxRecDepth 20000

def Strs (w : World) (v : Value) (L : List (List UInt8)) : Prop :=
 ∃ ao cap b off, v = .slice ao L.length cap ∧ (L = [] ∨ ao = some ⟨b, off, none⟩) ∧ L.length ≤ 8796093022208 ∧ (∀ x ∈ L, x.length ≤ maxLen) ∧
   (∀ k, k < L.length → b < w.heap.size ∧ w.cell? ⟨b, off + k, none⟩ = some (encStr (L.getD k [])))

theorem Strs.mono {w w' : World} {v : Value} {L : List (List UInt8)} (h : Strs w v L) (hb : Below w.heap.size w w') : Strs w' v L := by
 obtain ⟨ao, cap, b, off, rfl, h0, h1, h2, h3⟩ := h
 refine ⟨ao, cap, b, off, rfl, h0, h1, h2, fun k hk => ?_⟩
 obtain ⟨hlt, hc⟩ := h3 k hk
 exact ⟨Nat.lt_of_lt_of_le hlt hb.size, by rw [hb.cell (p := ⟨b, off + k, none⟩) hlt]; exact hc⟩

theorem Strs.draws {w : World} {v : Value} {L : List (List UInt8)} (h : Strs w v L) (n : Nat) : Strs (w.drewN n) v L := h.mono (below_draws _ (Below.refl _ _) n)

theorem Strs.nil (w : World) : Strs w (.slice none 0 0) [] := ⟨none, 0, 0, 0, rfl, .inl rfl, by simp, by simp, by simp⟩

theorem Strs.own {w : World} {base : Nat} {e : TypeId} {v : Value} {L : List (List UInt8)} (h : w.ownsRow base e 1 v L.length (L.map encStr)) (hl : L.length ≤ 8796093022208) (hw : ∀ x ∈ L, x.length ≤ maxLen) : Strs w v L := by
 rcases h.2 with ⟨rfl, h0⟩ | ⟨g, cap, cur, rfl, hb, hg, hn, hm, hs, ht⟩
 · rw [List.length_eq_zero_iff] at h0
   subst h0
   exact Strs.nil w
 · refine ⟨_, cap, g, 0, rfl, .inr rfl, hl, hw, fun k hk => ⟨(Array.getElem?_eq_some_iff.1 hg).1, ?_⟩⟩
   have := h.cells (g := g) rfl k (encStr (L.getD k [])) (by simp [List.getD_eq_getElem?_getD, hk])
   have hadd : (⟨g, 0, none⟩ : Addr).add k = ⟨g, 0 + k, none⟩ := by unfold Addr.add; split <;> simp_all
   rw [hadd] at this
   exact this

theorem Strs.len {w : World} {v : Value} {L : List (List UInt8)} (h : Strs w v L) : ∀ x ∈ L, x.length ≤ maxLen := by
 obtain ⟨_, _, _, _, _, _, _, h, _⟩ := h
 exact h

theorem Strs.shape {w : World} {v : Value} {L : List (List UInt8)} (h : Strs w v L) : ∃ ao cap, v = .slice ao L.length cap := by
 obtain ⟨ao, cap, _, _, h, _⟩ := h
 exact ⟨ao, cap, h⟩

theorem Strs.facts {w : World} {v : Value} {L : List (List UInt8)} (h : Strs w v L) :
 ∃ b off, L.length ≤ 8796093022208 ∧ (∀ ty w', (Builtin.len_ #[119] ty #[v]).run Tryz.prog w' = .ok (.int .i64 L.length) w') ∧
   (∀ k, k < L.length → ∀ w', (Instr.indexAt 119 v (.int .i64 k)).run Tryz.prog w' = .ok (.pointer (some ⟨b, off + k, none⟩)) w') ∧
   (∀ k, k < L.length → b < w.heap.size ∧ w.cell? ⟨b, off + k, none⟩ = some (encStr (L.getD k []))) := by
 obtain ⟨ao, cap, b, off, rfl, h0, h1, h2, h3⟩ := h
 refine ⟨b, off, h1, fun ty w' => run_len_any Tryz.underlying119 ao L.length cap ty w', fun k hk w' => ?_, h3⟩
 rcases h0 with h0 | rfl
 · subst h0; exact absurd hk (by simp)
 · have := run_index_any (P := Tryz.prog) (s := 1) Tryz.underlying119 (fun w => by kernel_rfl) b off L.length cap k hk w'
   rw [Nat.mul_one] at this
   exact this

def Lies (lo : Nat) (v : Value) : Prop := ∀ b, v.ownBlock = some b → lo ≤ b

theorem Lies.mono {lo lo' : Nat} {v : Value} (h : Lies lo v) (hl : lo' ≤ lo) : Lies lo' v := fun b hb => Nat.le_trans hl (h b hb)
theorem Lies.own {w : World} {base : Nat} {e : TypeId} {size : Nat} {v : Value} {n : Nat} {xs : List Value} (h : w.ownsRow base e size v n xs) : Lies base v := fun b hb => (h.lt b hb).1

theorem Strs.far {w : World} {v : Value} {L : List (List UInt8)} {lo : Nat} (h : Strs w v L) (hl : Lies lo v) {p : Addr} (hp : p.block < lo) (u : Value) : Strs (w.setCell p u) v L := by
 obtain ⟨ao, cap, b, off, rfl, h0, h1, h2, h3⟩ := h
 refine ⟨ao, cap, b, off, rfl, h0, h1, h2, fun k hk => ?_⟩
 obtain ⟨hlt, hc⟩ := h3 k hk
 have hb : lo ≤ b := by
  rcases h0 with rfl | rfl
  · simp at hk
  · exact hl b rfl
 refine ⟨by simpa using hlt, ?_⟩
 rw [World.cell?_setCell_other w p _ u (fun e => by subst e; simp at hp; omega)]
 exact hc

def bstr (l : List UInt8) : ByteArray := ⟨l.toArray⟩
theorem enc_bstr (l : List UInt8) : encStr l = .string (bstr l) := rfl
theorem bstr_data (l : List UInt8) : (bstr l).data.toList = l := rfl
theorem bstr_of (s : ByteArray) : s = bstr s.data.toList := by cases s; simp [bstr]
theorem bstr_size (l : List UInt8) : (bstr l).size = l.length := by simp [bstr, ByteArray.size]
theorem bstr_toList (l : List UInt8) : (bstr l).toList = l := by rw [Lib.toList_data]; rfl
theorem bstr_inj {a b : List UInt8} (h : bstr a = bstr b) : a = b := by rw [← bstr_toList a, h, bstr_toList]
attribute [irreducible] bstr

end Go.Proofs.YthcdppppppgckaaGreatDoor

namespace Go.Proofs.YthcdppppppgckaaGreatDoor
open Go.RowKit Go.Sort Go.Lib
set_option maxRecDepth 20000

abbrev Str := List UInt8

theorem slt_irrefl (a : Str) : ¬ a < a := List.lt_irrefl a
theorem slt_trans {a b c : Str} (h : a < b) (k : b < c) : a < c := List.lt_trans h k
theorem slt_or (a b : Str) : a < b ∨ a = b ∨ b < a := by
 by_cases h : a < b
 · exact .inl h
 · by_cases k : b < a
   · exact .inr (.inr k)
   · refine .inr (.inl ?_)
     exact List.le_antisymm (List.not_lt.1 k) (List.not_lt.1 h)
theorem sle_iff (a b : Str) : a ≤ b ↔ a < b ∨ a = b := by
 constructor
 · intro h
   rcases slt_or a b with k | k | k
   · exact .inl k
   · exact .inr k
   · exact absurd k (List.not_lt.2 h)
 · rintro (h | h)
   · exact List.le_of_lt h
   · subst h; exact List.le_refl _

theorem ssorted_le (zs : List Str) : (zs.mergeSort fun x y => decide (x ≤ y)).Pairwise (· ≤ ·) := by
 have := List.pairwise_mergeSort (le := fun (x y : Str) => decide (x ≤ y)) (fun a b c h1 h2 => by simp at *; exact List.le_trans h1 h2) (fun a b => by simp; exact List.le_total a b) zs
 simpa using this

theorem srising_ext : ∀ {A B : List Str}, A.Pairwise (· < ·) → B.Pairwise (· < ·) → (∀ x, x ∈ A ↔ x ∈ B) → A = B
 | [], [], _, _, _ => rfl
 | [], b :: s, _, _, h => by have := (h b).2 (by simp); simp at this
 | a :: r, [], _, _, h => by have := (h a).1 (by simp); simp at this
 | a :: r, b :: s, h1, h2, h => by
   obtain ⟨a1, a2⟩ := List.pairwise_cons.1 h1
   obtain ⟨b1, b2⟩ := List.pairwise_cons.1 h2
   have hab : a = b := by
    rcases List.mem_cons.1 ((h a).1 (by simp)) with e | ha
    · exact e
    · rcases List.mem_cons.1 ((h b).2 (by simp)) with e | hb
      · exact e.symm
      · exact absurd (slt_trans (a1 b hb) (b1 a ha)) (slt_irrefl a)
   subst hab
   rw [srising_ext a2 b2 (fun p => ⟨fun hp => by
    rcases List.mem_cons.1 ((h p).1 (by simp [hp])) with e | hp'
    · exact absurd (e ▸ a1 p hp) (slt_irrefl a)
    · exact hp', fun hp => by
    rcases List.mem_cons.1 ((h p).2 (by simp [hp])) with e | hp'
    · exact absurd (e ▸ b1 p hp) (slt_irrefl a)
    · exact hp'⟩)]

end Go.Proofs.YthcdppppppgckaaGreatDoor

namespace Go.Proofs.YthcdppppppgckaaGreatDoor
open Go.RowKit Go.Lib Go.Sort
set_option maxRecDepth 20000

theorem encs_one (L : List Str) : ∀ u ∈ L.map encStr, u.oneCell' = true := by
 intro u hu
 obtain ⟨x, _, rfl⟩ := List.mem_map.1 hu
 rfl

theorem Strs.sliceOf {w : World} {v : Value} {L : List Str} (h : Strs w v L) : SliceOf w 1 v L.length (L.map encStr) := by
 obtain ⟨ao, cap, b, off, rfl, h0, h1, h2, h3⟩ := h
 refine ⟨ao, cap, rfl, by simp, encs_one L, ?_⟩
 by_cases hz : L.length = 0
 · exact .inl hz
 · refine .inr ⟨⟨b, off, none⟩, ?_, fun j x hj => ?_⟩
   · rcases h0 with rfl | h0
     · simp at hz
     · exact h0
   · obtain ⟨hlt, e⟩ := List.getElem?_eq_some_iff.1 hj
     rw [add_lit, (h3 j (by simpa using hlt)).2, ← e]
     simp [List.getD_eq_getElem?_getD, show j < L.length by simpa using hlt]

theorem Strs.cutTo {w : World} {a : Addr} {cap : Nat} {L : List Str} (n : Nat) (hn : n ≤ L.length) (h : Strs w (.slice (some a) L.length cap) L) : Strs w (.slice (some a) n cap) (L.take n) := by
 obtain ⟨ao, cap', b, off, e, h0, h1, h2, h3⟩ := h
 have hl : (L.take n).length = n := by rw [List.length_take]; omega
 by_cases hz : n = 0
 · subst hz
   exact ⟨some a, cap, b, off, by simp, .inl (by simp), by simp, by simp, fun k hk => by simp at hk⟩
 · rcases h0 with h0 | h0
   · subst h0; simp at hn; omega
   · subst h0
     simp at e
     obtain ⟨rfl, rfl⟩ := e
     refine ⟨_, cap, b, off, by rw [hl], .inr rfl, by omega, fun x hx => h2 x (List.mem_of_mem_take hx), fun k hk => ?_⟩
     rw [hl] at hk
     obtain ⟨h4, h5⟩ := h3 k (by omega)
     refine ⟨h4, ?_⟩
     rw [h5]
     simp [List.getD_eq_getElem?_getD, hk]

end Go.Proofs.YthcdppppppgckaaGreatDoor

namespace Go.Proofs.YthcdppppppgckaaGreatDoor
open Go.RowKit
set_option maxRecDepth 20000

end Go.Proofs.YthcdppppppgckaaGreatDoor
