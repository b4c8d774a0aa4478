/- Texts joined into one file: JPlain, JCode, JMem. -/
import Derived.Test.YthcdppppppgckaaGreatDoorC10
import Derived.Laws.IdiomStrings
import Derived.Lib.AppendStr

namespace Go.Proofs.YthcdppppppgckaaGreatDoor
def big (l : Str) : Nat := l.foldl (fun n b => n * 256 + b.toNat) 0
theorem big_snoc (l : Str) (b : UInt8) : big (l ++ [b]) = big l * 256 + b.toNat := by simp [big, List.foldl_append]
theorem big_lt (l : Str) : big l < 256 ^ l.length := by
 have gen : ∀ (l : Str) (n : Nat), l.foldl (fun n b => n * 256 + b.toNat) n < (n + 1) * 256 ^ l.length := by
  intro l
  induction l with
  | nil => intro n; simp
  | cons b r ih =>
    intro n
    simp only [List.foldl_cons, List.length_cons]
    refine Nat.lt_of_lt_of_le (ih _) ?_
    have hb := b.toNat_lt
    have : n * 256 + b.toNat + 1 ≤ (n + 1) * 256 := by omega
    calc (n * 256 + b.toNat + 1) * 256 ^ r.length ≤ ((n + 1) * 256) * 256 ^ r.length := Nat.mul_le_mul_right _ this
     _ = (n + 1) * 256 ^ (r.length + 1) := by rw [Nat.pow_succ, Nat.mul_assoc, Nat.mul_comm 256]
 simpa [big] using gen l 0
def ofN (n : Nat) : Nat → Str
 | 0 => []
 | k + 1 => ofN (n / 256) k ++ [UInt8.ofNat n]
theorem ofN_length (k : Nat) : ∀ n, (ofN n k).length = k := by
 induction k with
 | zero => intro n; rfl
 | succ k ih => intro n; simp [ofN, ih]
def numAt (s : Str) (i n : Nat) : Nat := big ((s.drop i).take n)

abbrev Rec := Int × Str × List Str
structure Msg where
 kind : Int
 version : Int
 group : Str
 max : Int
 quiet : Bool
 robust : Int
 every : Int
 sources : List Str
 records : List Rec
deriving DecidableEq

def Msg.zero : Msg := ⟨0, 0, [], 0, false, 0, 0, [], []⟩

/-! ### sums -/

end Go.Proofs.YthcdppppppgckaaGreatDoor

namespace Go.Proofs.YthcdppppppgckaaGreatDoor
open Go.RowKit Go.Sort
set_option maxRecDepth 20000
set_option maxRecDepth 20000

theorem bstr_lit (l : Str) : (⟨l.toArray⟩ : ByteArray) = bstr l := by unfold bstr; rfl
theorem bstr_eq (l : Str) : bstr l = ⟨l.toArray⟩ := by unfold bstr; rfl
theorem bstr_nil : bstr [] = ⟨#[]⟩ := by unfold bstr; rfl
theorem bstr_extract (l : Str) (a b : Nat) : (bstr l).extract a b = bstr ((l.drop a).take (b - a)) := by
 rw [bstr_eq, bstr_eq]; exact ByteArray.extract_mk l a b
theorem bstr_append (x y : Str) : bstr x ++ bstr y = bstr (x ++ y) := by
 rw [bstr_eq, bstr_eq, bstr_eq]; exact ByteArray.mk_append_mk x y
theorem bstr_get (l : Str) (k : Nat) (h : k < (bstr l).size) : ((bstr l)[k]'h) = l.getD k 0 := by
 have h' : k < l.length := by rw [← bstr_size l]; exact h
 have : ∀ (s : ByteArray) (e : s = ⟨l.toArray⟩) (h : k < s.size), s[k]'h = l.getD k 0 := by
  intro s e h
  subst e
  simp [List.getD_eq_getElem?_getD, h']
  rfl
 exact this _ (bstr_eq l) h

section
variable {P : Program} (w : World) (T : TypeId) (hT : P.underlying T = some .string) (l : Str)
include hT
theorem run_len_b (ty : TypeId) : (Builtin.len_ #[T] ty #[.string (bstr l)]).run P w = .ok (.int .i64 l.length) w := by
 rw [run_len_string w T ty _ hT, bstr_size]; rfl
theorem run_slice_b (k k' : IntKind) (i j : Nat) (hij : i ≤ j) (hj : j ≤ l.length) : (Instr.slice T (.string (bstr l)) (some (.int k i)) (some (.int k' j)) none).run P w = .ok (.string (bstr ((l.drop i).take (j - i)))) w := by
 rw [run_slice_string_if w T _ k k' _ _ hT, if_pos ⟨by omega, by rw [bstr_size]; omega⟩, if_pos ⟨by omega, by omega⟩, bstr_extract]; rfl
theorem run_from_b (k : IntKind) (i : Nat) (hi : i ≤ l.length) : (Instr.slice T (.string (bstr l)) (some (.int k i)) none none).run P w = .ok (.string (bstr (l.drop i))) w := by
 rw [run_slice_string_from_if w T _ k _ hT, if_pos ⟨by omega, by rw [bstr_size]; omega⟩, bstr_extract, bstr_size, List.take_of_length_le (by simp)]; rfl
theorem run_to_b (k : IntKind) (j : Nat) (hj : j ≤ l.length) : (Instr.slice T (.string (bstr l)) none (some (.int k j)) none).run P w = .ok (.string (bstr (l.take j))) w := by
 rw [run_slice_string_to_if w T _ k _ hT, if_pos ⟨by omega, by rw [bstr_size]; omega⟩, bstr_extract]; rfl
end
theorem run_sadd_b {P : Program} (w : World) (a b : Str) (h : a.length + b.length ≤ 9223372036854775807) : (Op.stringOp .add (bstr a) (bstr b)).run P w = .ok (.string (bstr (a ++ b))) w := by
 rw [run_string_add_sum w _ _ (by rw [bstr_size, bstr_size]; exact h), bstr_append]

def Bytes (w : World) (b : Nat) (l : Str) : Prop := ∀ j, j < l.length → b < w.heap.size ∧ w.cell? ⟨b, j, none⟩ = some (.int .u8 (l.getD j 0).toNat)
theorem Bytes.below {w w' : World} {b B : Nat} {l : Str} (h : Bytes w b l) (hb : Below B w w') (hB : b < B) : Bytes w' b l := fun j hj => ⟨Nat.lt_of_lt_of_le (h j hj).1 hb.size, (hb.cell (p := ⟨b, j, none⟩) hB).trans (h j hj).2⟩

theorem run_bytes_b {P : Program} (w : World) (src dst e : TypeId) (l : Str) (hs : P.underlying src = some .string) (hd : P.underlying dst = some (.slice e)) (he : P.underlying e = some (.int .u8)) :
 ∃ cap w', (convert src dst (.string (bstr l))).run P w = .ok (.slice (some ⟨w.heap.size, 0, none⟩) l.length cap) w' ∧ Below w.heap.size w w' ∧ w'.heap.size = w.heap.size + 1 ∧ Bytes w' w.heap.size l ∧ ∀ j, j < l.length → w'.frozen? ⟨w.heap.size, j, none⟩ = false := by
 have hrun := run_bytes_of_string w src dst e (bstr l) hs hd he
 rw [bstr_size] at hrun
 obtain ⟨C, hC⟩ : ∃ C, C = bytesRow (bstr l) (grownCap w l.length 0 e) := ⟨_, rfl⟩
 rw [← hC] at hrun
 have hsz : (bstr l).data.size = l.length := bstr_size l
 have hCs : l.length ≤ C.size := by rw [hC]; simp [bytesRow, hsz]
 refine ⟨_, _, hrun, (Below.drew (Below.refl _ _)).alloc (Nat.le_refl _) _, World.size_alloc _ _, fun j hj => ⟨Nat.lt_of_lt_of_eq (Nat.lt_succ_self _) (World.size_alloc w.drew _).symm, ?_⟩, fun j hj => ?_⟩
 · have : (w.drew.alloc (.cells C e (C.size, C.size + 1))).cell? ⟨w.heap.size, j, none⟩ = C[j]? := World.cell?_alloc_mark w.drew C e _ j
   have hj' : j < (bstr l).data.size := by omega
   rw [this, hC, bytesRow_at _ _ j hj', ← bstr_get l j (by rw [bstr_size]; exact hj)]
   rfl
 · have : (w.drew.alloc (.cells C e (C.size, C.size + 1))).frozen? ⟨w.heap.size, j, none⟩ = (decide (C.size ≤ j) && decide (j < C.size + 1)) := World.frozen?_alloc_mark w.drew C e _ _ j
   rw [this, decide_eq_false (by omega)]
   rfl

theorem run_string_b {P : Program} (w : World) (src dst e : TypeId) (b cap : Nat) (l : Str) (hs : P.underlying src = some (.slice e)) (he : P.underlying e = some (.int .u8)) (hd : P.underlying dst = some .string) (h : Bytes w b l) :
 (convert src dst (.slice (some ⟨b, 0, none⟩) l.length cap)).run P w = .ok (.string (bstr l)) w := by
 rw [run_convert_bytes_back w src dst e ⟨b, 0, none⟩ cap l hs he hd (fun j hj => by
  have hadd : (⟨b, 0, none⟩ : Addr).add j = ⟨b, j, none⟩ := by unfold Addr.add; split <;> simp_all
  rw [hadd, (h j hj).2]; simp [List.getD_eq_getElem?_getD, hj])]
 rw [bstr_lit]
end Go.Proofs.YthcdppppppgckaaGreatDoor
