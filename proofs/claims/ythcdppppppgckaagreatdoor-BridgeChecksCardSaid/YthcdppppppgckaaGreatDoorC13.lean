/- Texts joined into one file: GKeys, GRead, GState, GTurn. -/
import Derived.Test.YthcdppppppgckaaGreatDoorC12
import Derived.Shelf.SlIter.Nil
import Derived.Shelf.SlIter.Sorted

namespace Go.Proofs.YthcdppppppgckaaGreatDoor
open Go.RowKit Go.Maps Go.Sort Go.Shelf
set_option maxRecDepth 20000

theorem mem_strKeys {w : World} {b n : Nat} {D : DataW Unit} (h : w.ownsMap Tryz.prog 25 mpT b n D) (a : Str) : a ∈ strKeys D ↔ has D (.string a) = true := by
 obtain ⟨es, rfl, hk⟩ := h.keysOf
 show a ∈ es.map (fun p => strOf p.1) ↔ _
 rw [has_eq, List.any_eq_true, List.mem_map]
 constructor
 · rintro ⟨p, hp, rfl⟩
   refine ⟨p, hp, ?_⟩
   obtain ⟨v, hv⟩ := hk p hp
   obtain ⟨x, _, e, _⟩ := Maps.keyOf_str Tryz.underlying25 hv
   rw [e]
   exact WideAt.sameKey_self (isKey_str x)
 · rintro ⟨p, hp, hs⟩
   refine ⟨p, hp, ?_⟩
   obtain ⟨v, hv⟩ := hk p hp
   obtain ⟨x, _, e, _⟩ := Maps.keyOf_str Tryz.underlying25 hv
   rw [e] at hs ⊢
   by_cases ex : x = a
   · exact ex
   · rw [Maps.sameKey_ne (fun h => ex (by injection h))] at hs
     cases hs

theorem nodup_strKeys {w : World} {b n : Nat} {D : DataW Unit} (h : w.ownsMap Tryz.prog 25 mpT b n D) : (strKeys D).Nodup := by
 obtain ⟨es0, e0, hp⟩ := h.tidy lawS
 obtain ⟨es, rfl, hk⟩ := h.keysOf
 injection e0 with e0
 subst e0
 show (es.map fun p => strOf p.1).Nodup
 refine List.pairwise_map.2 (hp.imp_of_mem fun {p q} hp' hq' hne e => hne ?_)
 obtain ⟨v, hv⟩ := hk p hp'
 obtain ⟨x, _, ex, _⟩ := Maps.keyOf_str Tryz.underlying25 hv
 obtain ⟨u, hu⟩ := hk q hq'
 obtain ⟨y, _, ey, _⟩ := Maps.keyOf_str Tryz.underlying25 hu
 rw [ex, ey] at e ⊢
 exact congrArg _ e

theorem look_has {w : World} {b n : Nat} {D : DataW Unit} (h : w.ownsMap Tryz.prog 25 mpT b n D) (a : Str) : has D (.string a) = true ↔ look D a ≠ none := by
 constructor
 · intro hh
   have ha : a.length ≤ maxLen := strKeys_le h Tryz.underlying25 a ((mem_strKeys h a).2 hh)
   obtain ⟨c, _, hat, _⟩ := h.lookup_int lawS Tryz.underlying260 Tryz.underlying3 (Tryz.zeroValue3 w) (keyOf_bstr ha)
   simp [look, hh, hat]
 · intro hl
   by_cases hh : has D (.string a) = true
   · exact hh
   · simp [look, hh] at hl

def KeysOf' (F : Str → Option Int) (K : List Str) : Prop := K.Pairwise (· < ·) ∧ ∀ a, a ∈ K ↔ F a ≠ none

theorem keys_sorted {w : World} {b n : Nat} {D : DataW Unit} {F : Str → Option Int} (h : w.ownsMap Tryz.prog 25 mpT b n D) (e : ∀ a, look D a = F a) {ss : List Str} (hp : ss.Perm (strKeys D)) :
 KeysOf' F (ss.mergeSort fun x y => decide (x ≤ y)) := by
 refine ⟨?_, fun a => ?_⟩
 · have h1 := ssorted_le ss
   have h2 : (ss.mergeSort fun x y => decide (x ≤ y)).Nodup := (List.mergeSort_perm ss _).nodup_iff.2 (hp.nodup_iff.2 (nodup_strKeys h))
   exact h1.imp₂ (fun x y hle hne => ((sle_iff x y).1 hle).resolve_right hne) h2
 · rw [List.mem_mergeSort, hp.mem_iff, mem_strKeys h, look_has h, e]

theorem addrSorts (m : Nat) : AnyZ.SortsIn Tryz.prog Tryz.addrSorted_ren Fence.wide m :=
 ⟨fun blk off cap ss W hH hblk hsz => callsIn_wide.2 (AnyM.slices_Sort_string Tryz.addrSort blk off cap ss W hH hblk hsz),
  fun p cap W => callsIn_wide.2 (AnyM.slices_Sort_string_none Tryz.addrSort p cap W)⟩

theorem keys_any (mb : Option Nat) (w : World) : Calls Tryz.prog 252 #[.map mb] w fun e w' =>
 e = .returned (.func (.func 292) #[] #[.pointer (some ⟨w.heap.size, 0, none⟩)]) ∧ w' = w.alloc (.cells #[.map mb] 260) :=
 (callsIn_wide (n := 5)).1 (AnyZ.keys_in Tryz.addrKeys Fence.wide 5 trivial rfl mb w)

set_option maxHeartbeats 1000000 in
theorem sortedKeys_any {w : World} {b n : Nat} {F : Str → Option Int} (h : Mp w b n F) (hn : n ≤ 8796093022208) :
 Calls Tryz.prog 251 #[.func (.func 292) #[] #[.pointer (some ⟨w.heap.size, 0, none⟩)]] (w.alloc (.cells #[.map (some b)] 260)) fun e w' =>
  ∃ v K, e = .returned v ∧ Strs w' v K ∧ KeysOf' F K ∧ K.length ≤ n ∧ Lies (w.heap.size + 1) v ∧ Below (w.heap.size + 1) (w.alloc (.cells #[.map (some b)] 260)) w' := by
 obtain ⟨D, hown, e⟩ := h
 have hbl := hown.lt
 have hsz : Maps.size D ≤ n := hown.size_le
 have hmax : Maps.size D ≤ maxLen := by unfold maxLen; omega
 have hseq : SeqGives Fence.wide 2 Tryz.prog 292 #[.pointer (some ⟨w.heap.size, 0, none⟩)] encStr (fun ss => ss.Perm (strKeys D)) (Maps.size D) (w.alloc (.cells #[.map (some b)] 260)) :=
  AnyZ.keys_gives (ρ := Tryz.addrKeys_ren) { Tryz.addrKeys with } Fence.wide _ trivial rfl (by omega) w.heap.size b n D _ (by simp) (by simp) (hown.alloc _)
 refine ((callsIn_wide (n := 5)).1 (AnyZ.sorted_in Tryz.addrSorted Fence.wide 5 trivial trivial trivial trivial rfl (by omega) (addrSorts _) (enters_of Tryz.func291 (by kernel_rfl) rfl) 292 #[.pointer (some ⟨w.heap.size, 0, none⟩)] trivial (enters_of Tryz.func292 (by kernel_rfl) rfl) _ _ hmax (by omega) _ hseq)).mono ?_
 rintro e' w' ⟨v, ss, rfl, hp, hrow, _, hb⟩
 have hl : (ss.mergeSort fun x y => decide (x ≤ y)).length = ss.length := by simp
 have hls : ss.length ≤ n := by
  rw [hp.length_eq]
  obtain ⟨es, rfl⟩ := hown.isMap
  simpa [strKeys, Maps.size] using hsz
 refine ⟨v, ss.mergeSort fun x y => decide (x ≤ y), rfl, Strs.own (by rw [hl]; exact hrow) (by rw [hl]; omega) (fun x hx => ?_), keys_sorted hown e hp, by rw [hl]; exact hls, ?_, ?_⟩
 · exact strKeys_le hown Tryz.underlying25 x (hp.mem_iff.1 (List.mem_mergeSort.1 hx))
 · have := Lies.own hrow
   simpa using this
 · simpa using hb
end Go.Proofs.YthcdppppppgckaaGreatDoor

namespace Go.Proofs.YthcdppppppgckaaGreatDoor
open Go.RowKit Go.Lib Go.Maps Go.Sort
set_option maxRecDepth 20000

def rd (L : List Tmd) : Str → Option Int := L.foldl (fun F t => upd F t.1 t.2) (fun _ => none)
theorem rd_snoc (L : List Tmd) (t : Tmd) : rd (L ++ [t]) = upd (rd L) t.1 t.2 := by simp [rd]

def RetKn (w : World) (ex : Bool) (at' : Int) (n : Nat) (F : Str → Option Int) (e : Ending) (w' : World) : Prop :=
 ∃ b, e = .returned (.agg #[.bool ex, .int .i64 at', .map (some b)]) ∧ Mp w' b n F ∧ w.heap.size ≤ b ∧ Below w.heap.size w w'

set_option maxRecDepth 20000 in
set_option maxHeartbeats 1000000 in
theorem read_any (ex : Bool) (at' : Int) (v : Value) (L : List Tmd) (w : World) (h : Tms w v L) :
 Calls Tryz.prog 154 #[.agg #[.bool ex, .int .i64 at', v]] w (RetKn w ex at' L.length (rd L)) := by
 obtain ⟨ao, cap, rfl⟩ := h.shape
 obtain ⟨b, off, hm, hlen, hidx, hc⟩ := h.facts
 have HWF := Lib.hid h.wfs
 obtain ⟨W0, hW0⟩ : ∃ W0, W0 = (((w.alloc (.cells #[.bool ex, .int .i64 at', .slice ao L.length cap] 181)).alloc (.cells #[.bool false, .int .i64 0, .map none] 262)).alloc (.map #[] 0)).alloc (.cells #[.bool ex, .int .i64 at', .map (some (w.heap.size + 1 + 1))] 262) := ⟨_, rfl⟩
 have hba : Below w.heap.size w W0 := by rw [hW0]; exact ((((Below.refl _ _).alloc (Nat.le_refl _) _).alloc (by simp) _).alloc (by simp <;> omega) _).alloc (by simp <;> omega) _
 have hs0 : W0.heap.size = w.heap.size + 4 := by rw [hW0]; simp
 have s2 : CBox W0 (w.heap.size + 1) 262 #[.bool false, .int .i64 0, .map none] := by rw [hW0]; exact ((CBox.new _ (by simp)).old _).old _
 have s3 : CBox W0 (w.heap.size + 1 + 1 + 1) 262 #[.bool ex, .int .i64 at', .map (some (w.heap.size + 1 + 1))] := by rw [hW0]; exact CBox.new _ (by simp)
 have hmp : Mp W0 (w.heap.size + 1 + 1) 0 (fun _ => none) := by
  rw [hW0]
  have := Mp.made ((w.alloc (.cells #[.bool ex, .int .i64 at', .slice ao L.length cap] 181)).alloc (.cells #[.bool false, .int .i64 0, .map none] 262))
  rw [World.size_alloc, World.size_alloc] at this
  exact this.below ((Below.refl _ _).alloc (Nat.le_refl _) _) (by simp)
 clear h
 have hmm := @run_makeMap Tryz.prog
 go_enter Tryz.func154, Tryz.ntmps154
 go_wp2_with fail
 rw [← hW0]
 clear hW0
 go_loopw [15] (fun i wr => ∃ k : Nat, k ≤ L.length ∧ i = .int .i64 k ∧ Mp wr (w.heap.size + 1 + 1) k (rd (L.take k)) ∧ CBox wr (w.heap.size + 1) 262 #[.bool false, .int .i64 0, .map none] ∧ CBox wr (w.heap.size + 1 + 1 + 1) 262 #[.bool ex, .int .i64 at', .map (some (w.heap.size + 1 + 1))] ∧ Below w.heap.size w wr ∧ W0.heap.size ≤ wr.heap.size) (fun i _ => L.length - (intOf i).toNat)
 case atStart => exact ⟨0, Nat.zero_le _, rfl, hmp, s2, s3, hba, Nat.le_refl _⟩
 case round =>
  clear hmp s2 s3 hba
  obtain ⟨k, hk, rfl, hmp, s2, s3, hbel, hsz⟩ := hrel
  have HM := Lib.hid hmp; have S2 := Lib.hid s2; have S3 := Lib.hid s3; have HB := Lib.hid hbel
  obtain ⟨z0, _⟩ := s3.at_ 0 _ rfl
  obtain ⟨z1, _⟩ := s3.at_ 1 _ rfl
  obtain ⟨z2, _⟩ := s3.at_ 2 _ rfl
  have hlt3 := s3.lt
  by_cases hlt : k < L.length
  · obtain ⟨⟨s, n⟩, hs⟩ : ∃ s, L.getD k default = s := ⟨_, rfl⟩
    obtain ⟨hlb, c0, c1⟩ := hc k hlt
    rw [hs] at c0 c1
    have d0 := (hbel.cell (p := ⟨b, off + k * 2, none⟩) hlb).trans c0
    have d1 := (hbel.cell (p := ⟨b, off + k * 2 + 1, none⟩) hlb).trans c1
    have hp := hidx k hlt
    have hL : L[k] = (s, n) := by rw [← hs]; simp [List.getD_eq_getElem?_getD, hlt]
    have hw := HWF.out (s, n) (hL ▸ List.getElem_mem hlt)
    have HT := Lib.hid (show rd (L.take (k + 1)) = upd (rd (L.take k)) s n from by rw [take_snoc L k hlt, rd_snoc, hL])
    obtain ⟨w2, hr, hm2, hg2⟩ := (hmp.below ((Below.refl _ wr).alloc (Nat.le_refl _) (.cells #[.string (bstr s), .int .i64 n] 333)) hmp.lt).put s hw.1 n hw.2 (by unfold maxLen; omega)
    have HM2 := Lib.hid hm2; have HG2 := Lib.hid hg2
    clear hidx hc c0 c1 hs hL hw hmp s2 s3 hbel hm2 hg2
    have HH := Lib.hid (And.intro hlt3 hsz)
    go_wp2
    go_roundw
    case rel =>
     have h1 := HG2.out.size
     have h2 : Below w.heap.size w (wr.alloc (.cells #[.string (bstr s), .int .i64 n] 333)) := HB.out.alloc HB.out.size _
     refine ⟨k + 1, by omega, by go_num, by rw [HT.out]; exact HM2.out, (S2.out.old _).grown HG2.out (by simp), (S3.out.old _).grown HG2.out (by simp), h2.grown HG2.out h2.size (fun j e => by cases e; omega), ?_⟩
     simp at h1
     have := HH.out.2
     omega
    case measure => simp [intOf]; omega
  · have HT := Lib.hid (show L.take k = L from List.take_of_length_le (by omega))
    have hk' : k = L.length := by omega
    obtain ⟨y0, _⟩ := s2.at_ 0 _ rfl
    obtain ⟨y1, _⟩ := s2.at_ 1 _ rfl
    obtain ⟨y2, _⟩ := s2.at_ 2 _ rfl
    clear hidx hc hmp s2 s3 hbel
    go_wp2
    have R := fun u1 u2 u3 => ((S2.out.set 0 u1).set 1 u2).set 2 u3
    have r0 := fun u1 u2 u3 => ((R u1 u2 u3).at_ 0 _ rfl).1
    have r1 := fun u1 u2 u3 => ((R u1 u2 u3).at_ 1 _ rfl).1
    have r2 := fun u1 u2 u3 => ((R u1 u2 u3).at_ 2 _ rfl).1
    refine bodyPost_ret (v := .agg #[.bool ex, .int .i64 at', .map (some (w.heap.size + 1 + 1))]) (by simp [results, Tryz.results154, go_sem, r0, r1, r2]) rfl ⟨_, rfl, ?_, by omega, ((HB.out.setCell (by simp) _).setCell (by simp) _).setCell (by simp) _⟩
    have := HM.out
    rw [HT.out, hk'] at this
    exact ((this.set (by simp) _).set (by simp) _).set (by simp) _


def Asc (F : Str → Option Int) (L : List Tmd) : Prop := KeysOf' F (L.map Prod.fst) ∧ ∀ t ∈ L, F t.1 = some t.2

def RetAsc (w : World) (ex : Bool) (at' : Int) (n : Nat) (F : Str → Option Int) (e : Ending) (w' : World) : Prop :=
 ∃ v L, e = .returned (.agg #[.bool ex, .int .i64 at', v]) ∧ Tms w' v L ∧ Asc F L ∧ L.length ≤ n ∧ Lies w.heap.size v ∧ Below w.heap.size w w'

def withF (F : Str → Option Int) (K : List Str) : List Tmd := K.map fun a => (a, (F a).getD 0)

theorem asc_with {F : Str → Option Int} {K : List Str} (h : KeysOf' F K) : Asc F (withF F K) := by
 refine ⟨?_, fun t ht => ?_⟩
 · have : (withF F K).map Prod.fst = K := by unfold withF; rw [List.map_map]; exact List.map_id K
   rw [this]; exact h
 · obtain ⟨a, ha, rfl⟩ := List.mem_map.1 ht
   have := (h.2 a).1 ha
   obtain ⟨z, hz⟩ := Option.ne_none_iff_exists'.1 this
   simp [hz]

theorem cell_same {w w' : World} {b : Nat} (h : w'.heap[b]? = w.heap[b]?) (j : Nat) : w'.cell? ⟨b, j, none⟩ = w.cell? ⟨b, j, none⟩ := by simp [World.cell?, h]
theorem Mp.same {w w' : World} {b n : Nat} {F : Str → Option Int} (h : Mp w b n F) (e : w'.heap[b]? = w.heap[b]?) : Mp w' b n F := by
 obtain ⟨D, ⟨es, clock, h1, h2⟩, e'⟩ := h
 exact ⟨D, ⟨es, clock, e.trans h1, h2⟩, e'⟩

theorem sliceOf_tmd (w : World) (a : Str) (z : Int) : SliceOf (w.alloc (.cells #[.string (bstr a), .int .i64 z] 333)) 2 (.slice (some ⟨w.heap.size, 0, none⟩) 1 1) 1 [.string (bstr a), .int .i64 z] := by
 refine ⟨_, _, rfl, rfl, by simp [Value.oneCell'], .inr ⟨_, rfl, fun j x hj => ?_⟩⟩
 rw [add_lit, cell_of_row _ w.heap.size (0 + j) _ _ (0, 0) (heap_alloc_new w _)]
 rw [Nat.zero_add]
 rw [← hj]
 simp

theorem Strs.factsL {w : World} {v : Value} {L : List Str} {lo : Nat} (h : Strs w v L) (hl : Lies lo v) :
 ∃ b off, L.length ≤ 8796093022208 ∧ (∀ ty w', (Builtin.len_ #[119] ty #[v]).run Tryz.prog w' = .ok (.int .i64 L.length) w') ∧
   (∀ k, k < L.length → ∀ w', (Instr.indexAt 119 v (.int .i64 k)).run Tryz.prog w' = .ok (.pointer (some ⟨b, off + k, none⟩)) w') ∧
   (∀ k, k < L.length → lo ≤ b ∧ b < w.heap.size ∧ w.cell? ⟨b, off + k, none⟩ = some (encStr (L.getD k []))) := by
 obtain ⟨ao, cap, b, off, rfl, h0, h1, h2, h3⟩ := h
 refine ⟨b, off, h1, fun ty w' => run_len_any Tryz.underlying119 ao L.length cap ty w', fun k hk w' => ?_, fun k hk => ⟨?_, h3 k hk⟩⟩
 · rcases h0 with h0 | rfl
   · subst h0; exact absurd hk (by simp)
   · have := run_index_any (P := Tryz.prog) (s := 1) Tryz.underlying119 (fun w => by kernel_rfl) b off L.length cap k hk w'
     rw [Nat.mul_one] at this
     exact this
 · rcases h0 with h0 | rfl
   · subst h0; exact absurd hk (by simp)
   · exact hl b rfl

theorem with_snoc (F : Str → Option Int) (K : List Str) (k : Nat) (h : k < K.length) : withF F (K.take (k + 1)) = withF F (K.take k) ++ [(K.getD k [], (F (K.getD k [])).getD 0)] := by
 unfold withF
 rw [take_snoc K k h, List.map_append]
 simp [List.getD_eq_getElem?_getD, h]

set_option maxRecDepth 20000 in
set_option maxHeartbeats 1000000 in
theorem state_any (ex : Bool) (at' : Int) (b n : Nat) (F : Str → Option Int) (w : World) (h : Mp w b n F) (hn : n ≤ 1099511627775) :
 Calls Tryz.prog 194 #[.agg #[.bool ex, .int .i64 at', .map (some b)]] w (RetAsc w ex at' n F) := by
 obtain ⟨i0, hi, hz0, hz1, hz2⟩ := info_parts infoTmd
 have hbl := h.lt
 obtain ⟨W1, hW1⟩ : ∃ W1, W1 = ((w.alloc (.cells #[.bool ex, .int .i64 at', .map (some b)] 262)).alloc (.cells #[.bool false, .int .i64 0, .slice none 0 0] 181)).alloc (.cells #[.bool ex, .int .i64 at', .slice none 0 0] 181) := ⟨_, rfl⟩
 have hb1 : Below w.heap.size w W1 := by rw [hW1]; exact (((Below.refl _ _).alloc (Nat.le_refl _) _).alloc (by simp) _).alloc (by simp <;> omega) _
 have hs1 : W1.heap.size = w.heap.size + 1 + 1 + 1 := by rw [hW1]; simp
 have s1 : CBox W1 w.heap.size 262 #[.bool ex, .int .i64 at', .map (some b)] := by rw [hW1]; exact ((CBox.new _ rfl).old _).old _
 have s2 : CBox W1 (w.heap.size + 1) 181 #[.bool false, .int .i64 0, .slice none 0 0] := by rw [hW1]; exact (CBox.new _ (by simp)).old _
 have s3 : CBox W1 (w.heap.size + 1 + 1) 181 #[.bool ex, .int .i64 at', .slice none 0 0] := by rw [hW1]; exact CBox.new _ (by simp)
 have hm1 := h.below hb1 hbl
 have HK := Lib.hid (keys_any (some b) W1)
 have HS : Hid (Calls Tryz.prog 251 #[.func (.func 292) #[] #[.pointer (some ⟨w.heap.size + 1 + 1 + 1, 0, none⟩)]] (W1.alloc (.cells #[.map (some b)] 260)) fun e w2 =>
  ∃ ko kc K, e = .returned (.slice ko K.length kc) ∧ Strs w2 (.slice ko K.length kc) K ∧ KeysOf' F K ∧ K.length ≤ n ∧ Lies (w.heap.size + 3) (.slice ko K.length kc) ∧ Mp w2 b n F ∧ CBox w2 w.heap.size 262 #[.bool ex, .int .i64 at', .map (some b)] ∧ CBox w2 (w.heap.size + 1) 181 #[.bool false, .int .i64 0, .slice none 0 0] ∧
    CBox w2 (w.heap.size + 1 + 1) 181 #[.bool ex, .int .i64 at', .slice none 0 0] ∧ Below w.heap.size w w2 ∧ w.heap.size + 3 ≤ w2.heap.size) := by
  have := sortedKeys_any hm1 (by omega)
  rw [hs1] at this
  refine this.mono ?_
  rintro e w2 ⟨vk, K, rfl, hk, hks, hkn, hkl, hkb⟩
  obtain ⟨ko, kc, rfl⟩ := hk.shape
  have hb2 : Below W1.heap.size W1 w2 := by rw [hs1]; exact ((Below.refl _ W1).alloc (by omega) _).trans (hkb.mono (by omega))
  exact ⟨ko, kc, K, rfl, hk, hks, hkn, hkl.mono (by omega), hm1.below hb2 (by omega), s1.below hb2 (by omega), s2.below hb2 (by omega), s3.below hb2 (by omega), hb1.trans (hb2.mono (by omega)), by have := hb2.size; omega⟩
 rw [hW1] at HK HS
 clear h hm1 hb1 s1 s2 s3 hs1 hW1 W1
 go_enter Tryz.func194, Tryz.ntmps194
 go_wp2_with (first
  | (with_reducible refine HK.out.mono ?_; rintro e w1 ⟨rfl, rfl⟩)
  | (with_reducible refine HS.out.mono ?_; rintro e w2 ⟨ko, kc, K, rfl, hk, hks, hkn, hkl, hm2, s1, s2, s3, hb2, hz2⟩))
 obtain ⟨kb, koff, hkm, hklen, hkidx, hkc⟩ := hk.factsL hkl
 have hkw := hk.len
 have HKS := Lib.hid hks
 have HM2 := Lib.hid hm2; have HB2 := Lib.hid hb2; have S1 := Lib.hid s1; have S2 := Lib.hid s2; have S3 := Lib.hid s3; have HZ := Lib.hid hz2
 clear HK HS hks hm2 hb2 s1 s2 s3 hk hkl hz2
 go_loopw [16] (fun i wr => ∃ k v', k ≤ K.length ∧ i = .int .i64 (k : Nat) ∧ (∀ j, j < w2.heap.size → j ≠ w.heap.size + 1 + 1 → wr.heap[j]? = w2.heap[j]?) ∧ CBox wr (w.heap.size + 1 + 1) 181 #[.bool ex, .int .i64 at', v'] ∧ wr.ownsRow w2.heap.size 333 2 v' k ((withF F (K.take k)).flatMap tcells) ∧ Below w.heap.size w wr ∧ w2.heap.size ≤ wr.heap.size) (fun i _ => K.length - (intOf i).toNat)
 case atStart => exact ⟨0, _, Nat.zero_le _, rfl, fun _ _ _ => rfl, S3.out, World.ownsRow_nil _ _ _ _, HB2.out, Nat.le_refl _⟩
 case round =>
  obtain ⟨k, v', hk, rfl, hsame, hs3, hown, hbel, hsz⟩ := hrel
  obtain ⟨vo, vc, rfl⟩ := own_form hown
  have hzz := HZ.out
  have t1 : CBox wr w.heap.size 262 #[.bool ex, .int .i64 at', .map (some b)] := (hsame _ S1.out.lt (by omega)).trans S1.out
  have t2 : CBox wr (w.heap.size + 1) 181 #[.bool false, .int .i64 0, .slice none 0 0] := (hsame _ S2.out.lt (by omega)).trans S2.out
  have hm : Mp wr b n F := HM2.out.same (hsame b (by omega) (by omega))
  have HM := Lib.hid hm
  have T2 := Lib.hid t2; have T3 := Lib.hid hs3; have HO := Lib.hid hown; have HB := Lib.hid hbel; have HSM := Lib.hid hsame; have HSZ := Lib.hid hsz
  obtain ⟨x2, _⟩ := t1.at_ 2 _ rfl
  obtain ⟨z0, _⟩ := hs3.at_ 0 _ rfl
  obtain ⟨z1, _⟩ := hs3.at_ 1 _ rfl
  obtain ⟨z2, _⟩ := hs3.at_ 2 _ rfl
  have hl3 := hs3.lt
  by_cases hlt : k < K.length
  · obtain ⟨hkb1, hkb2, hcell⟩ := hkc k hlt
    have HW := Lib.hid (with_snoc F K k hlt)
    obtain ⟨a, ha⟩ : ∃ a, K.getD k [] = a := ⟨_, rfl⟩
    have hal : a.length ≤ maxLen := by rw [← ha]; simp only [List.getD_eq_getElem?_getD, List.getElem?_eq_getElem hlt, Option.getD_some]; exact hkw _ (List.getElem_mem hlt)
    rw [enc_bstr, ha] at hcell
    rw [ha] at HW
    have hc : wr.cell? ⟨kb, koff + k, none⟩ = some (.string (bstr a)) := (cell_same (hsame kb hkb2 (by omega)) _).trans hcell
    have hp := hkidx k hlt
    have hget := hm.get a hal
    obtain ⟨z, hz⟩ : ∃ z, (F a).getD 0 = z := ⟨_, rfl⟩
    rw [hz] at hget HW
    have HSL := Lib.hid (sliceOf_tmd wr a z)
    have h1 : k + 1 ≤ maxLen := by unfold maxLen; omega
    have h2 : (k + 1) * 24 ≤ 140737488355328 := by omega
    have h3 : w2.heap.size ≤ (wr.alloc (.cells #[.string (bstr a), .int .i64 z] 333)).heap.size := by simp; omega
    clear hkidx hkc hkw ha hal hcell hm hz hs3 t1 t2 hown hbel hsame hsz
    go_wp2_with (at_builtin; refine wpList_append_vals _ rfl _ _ 179 rfl w2.heap.size 333 i0 (.agg #[.string ⟨#[]⟩, .int .i64 0]) 2 24 Tryz.underlying179 hi hz0 hz1 hz2 rfl (by decide) (.slice vo k vc) k _ rfl (HO.out.alloc _) (.slice (some ⟨wr.heap.size, 0, none⟩) 1 1) 1 [.string (bstr a), .int .i64 z] rfl HSL.out h1 h2 h3 ?_; intro v2 w3 hown3 hg3 _; obtain ⟨o2, c2, rfl⟩ := own_form hown3; have U3 := Lib.hid ((T3.out.old (.cells #[.string (bstr a), .int .i64 z] 333)).grown hg3 (fun e => by have := (HO.out.lt _ e.symm).1; omega)); obtain ⟨y0, _⟩ := U3.out.at_ 0 _ rfl; obtain ⟨y1, _⟩ := U3.out.at_ 1 _ rfl; obtain ⟨y2, _⟩ := U3.out.at_ 2 _ rfl; have HO3 := Lib.hid hown3; have HG3 := Lib.hid hg3; clear hown3 hg3)
    go_roundw
    case rel =>
     have g1 := HG3.out.size
     have q1 := HSZ.out
     have g2 : Below w.heap.size w (wr.alloc (.cells #[.string (bstr a), .int .i64 z] 333)) := HB.out.alloc HB.out.size _
     have g3 := g2.grown HG3.out g2.size (fun j e => Nat.le_trans (by have := HB2.out.size; omega) (HO.out.lt j e).1)
     refine ⟨k + 1, _, by omega, by go_num, fun j hj hne => ?_, U3.out.set 2 _, ?_, g3.setCell (by simp <;> omega) _, by simp; simp at g1; omega⟩
     · rw [Below.heap_setCell _ _ _ j (by simpa using hne), HG3.out.block j (by simp; omega) (fun e => by have := (HO.out.lt _ e.symm).1; omega), Below.heap_alloc _ _ j (by omega)]
       exact HSM.out j hj hne
     · rw [HW.out, List.flatMap_append]
       refine ownsRow_setCell_below ?_ (by simp; omega) _
       simpa [tcells] using HO3.out
    case measure => simp [intOf]; omega
  · have HT := Lib.hid (show K.take k = K from List.take_of_length_le (by omega))
    have hk' : k = K.length := by omega
    obtain ⟨y0, _⟩ := t2.at_ 0 _ rfl
    obtain ⟨y1, _⟩ := t2.at_ 1 _ rfl
    obtain ⟨y2, _⟩ := t2.at_ 2 _ rfl
    clear hkidx hkc hm hs3 t1 t2 hown hbel hsame hsz
    go_wp2
    have R := fun u1 u2 u3 => ((T2.out.set 0 u1).set 1 u2).set 2 u3
    have r0 := fun u1 u2 u3 => ((R u1 u2 u3).at_ 0 _ rfl).1
    have r1 := fun u1 u2 u3 => ((R u1 u2 u3).at_ 1 _ rfl).1
    have r2 := fun u1 u2 u3 => ((R u1 u2 u3).at_ 2 _ rfl).1
    have HTM : Tms wr (.slice vo k vc) (withF F K) := by
     have := HO.out
     rw [HT.out] at this
     refine Tms.own (by rw [show (withF F K).length = k from by simp [withF]; omega]; exact this) (by simp [withF]; omega) (fun t ht => ?_)
     obtain ⟨a, ha, rfl⟩ := List.mem_map.1 ht
     obtain ⟨z, hz⟩ := Option.ne_none_iff_exists'.1 ((HKS.out.2 a).1 ha)
     exact ⟨hkw a ha, by rw [hz]; exact HM.out.wf a (hkw a ha) z hz⟩
    have HL : Lies w2.heap.size (.slice vo k vc) := Lies.own HO.out
    refine bodyPost_ret (v := .agg #[.bool ex, .int .i64 at', .slice vo k vc]) (by simp [results, Tryz.results194, go_sem, r0, r1, r2]; omega) rfl ⟨_, withF F K, rfl, ?_, asc_with HKS.out, by simp [withF]; omega, HL.mono (by omega), ((HB.out.setCell (by simp) _).setCell (by simp) _).setCell (by simp) _⟩
    exact ((HTM.far HL (by simp <;> omega) _).far HL (by simp <;> omega) _).far HL (by simp <;> omega) _
end Go.Proofs.YthcdppppppgckaaGreatDoor

namespace Go.Proofs.YthcdppppppgckaaGreatDoor
open Go.RowKit
set_option maxRecDepth 20000
open Go.Maps (Keyed has has_eq)
open Go.ChangeMaps Go.MapKept Go.WideShapes
open Go.WideElems (Fit rd rg pl rd_key rd_val rg_of rd_mk other_key)

theorem ranges_turn {H : Type} {P : Program} {k : TypeId} {R : Value → Option (DataW H × List MemPlace)} {w : World} {b r n : Nat} {D : DataW H} {left : Lit → Bool} {cnt : Nat} {t e : TypeId}
 (h : w.ranges P k R b r n D left cnt) (K : Keyed P k) (ht : P.underlying t = some (.map k e)) (hn : n < maxLen) {key val : Value} {kl : Lit} {d : DataW H} {ps : List MemPlace} (hkey : keyOf P k key = some kl) (hv : R val = some (d, ps)) (hin : has D kl = true) :
 ∃ w', (Instr.mapUpdate t (.map (some b)) key val).run P w = .ok () w' ∧ w'.ranges P k R b r n (D.put kl d) left cnt ∧ w.mapTurned w' b := by
 have hne := h.ne
 obtain ⟨es, clock, since, seen, c0, hb, F, hs, rfl, hr, hold, rfl, hl1, hl2, hsc, hsk⟩ := h
 obtain ⟨es', clock', hrun, F', hput, _⟩ := Maps.fit_store (R' := R) K ht hb F (Nat.lt_of_le_of_lt hs hn) (fun _ _ _ _ hz => hz) hkey hv
 rcases K.find w hkey es.toList F.keys with ⟨h1, h2⟩ | ⟨j, e0, h1, h2, h3⟩
 · exfalso
   rw [has_eq, List.any_eq_true] at hin
   obtain ⟨p, hp, hsame⟩ := hin
   rw [mem_sorted, List.mem_map] at hp
   obtain ⟨x, hx, rfl⟩ := hp
   obtain ⟨y, hy⟩ := F.reads x hx
   have hkx : keyOf P k x.key = some (rg P k R x).1 := by rw [rg_of hy]; exact rd_key hy
   by_cases ek : (rg P k R x).1 = kl
   · rw [ek] at hkx
     exact h2 x hx (K.inj hkx hkey)
   · rw [Maps.sameKey_ne ek] at hsame
     cases hsame
 · have hj : es[j]? = some e0 := by simpa using h2
   have hm0 : e0 ∈ es.toList := List.mem_of_getElem? h2
   obtain ⟨f, hf⟩ : ∃ f : MapEntry → MapEntry, f = fun e' => { e' with key := key, val := val } := ⟨_, rfl⟩
   have hlist : (es.modify j f).toList = es.toList.set j (f e0) := by rw [Array.toList_modify, ChangeMaps.modify_eq_set _ _ _ _ h2]
   have hrun2 : (Instr.mapUpdate t (.map (some b)) key val).run P w = .ok () (setBlock w b (.map (es.modify j f) clock)) := by
    subst hf
    simp [Instr.mapUpdate, run_underlying ht, MapKept.run_getObj_map hb, K.check w false hkey, h1, hj, h3, K.stays w hkey, MapKept.run_setObj_map _ hb, Result.andThen, setBlock]
   have hbk : Obj.map es' clock' = Obj.map (es.modify j f) clock := by
    rw [hrun] at hrun2
    injection hrun2 with _ hw
    have a := heap_setBlock_same hb (.map es' clock')
    rw [hw, heap_setBlock_same hb] at a
    injection a with a
    exact a.symm
   injection hbk with e1 e2
   subst e1; subst e2
   have hborn : (f e0).born = e0.born := by rw [hf]
   have hrg0 : (rg P k R e0).1 = kl := by
    obtain ⟨y, hy⟩ := F.reads e0 hm0
    have := rd_key hy
    rw [h3, hkey] at this
    rw [rg_of hy]
    exact (Option.some.inj this).symm
   have hrg1 : (rg P k R (f e0)).1 = kl := by
    have : Go.WideElems.rd P k R (f e0) = some (kl, d) := by rw [hf]; exact rd_mk hkey hv
    rw [rg_of this]
   have hmap : (es.toList.set j (f e0)).map (fun x : MapEntry => x.born) = es.toList.map (fun x : MapEntry => x.born) := by
    rw [List.map_set]
    apply List.ext_getElem?
    intro i
    rw [List.getElem?_set]
    split
    · rename_i hij
      subst hij
      split
      · rw [List.getElem?_map, h2, hborn]; rfl
      · rename_i hlt
        rw [List.getElem?_eq_none (by omega)]
    · rfl
   have e1 : ∀ a : Array MapEntry, (leftOf a seen).size = ((a.toList.map fun x : MapEntry => x.born).filter fun x => !seen.contains x).length := fun a => by
    unfold leftOf
    rw [← Array.length_toList, Array.toList_filter, List.filter_map, List.length_map]
    rfl
   refine ⟨_, hrun, ⟨es.modify j f, _, since, seen, c0, heap_setBlock_same hb _, F', by simpa using hs, by rw [DataW.put_eq, hput], (heap_setBlock_other hb _ hne).trans hr, fun x hx => ?_, by rw [e1, e1, hlist, hmap], fun x hx => ?_, fun kl' hk' => ?_, hsc, hsk⟩, ⟨es, _, _, _, hb, rfl⟩⟩
   · rw [hlist] at hx
     rcases List.mem_or_eq_of_mem_set hx with hx | rfl
     · exact hold x hx
     · rw [hborn]; exact hold e0 hm0
   · rw [hlist] at hx
     rcases List.mem_or_eq_of_mem_set hx with hx | rfl
     · exact hl1 x hx
     · rw [hrg1, hborn, ← hrg0]; exact hl1 e0 hm0
   · obtain ⟨x, hx, rfl⟩ := hl2 kl' hk'
     rw [hlist]
     have hjl : j < es.toList.length := (List.getElem?_eq_some_iff.1 h2).1
     obtain ⟨i, hi⟩ := List.getElem?_of_mem hx
     by_cases hij : i = j
     · subst hij
       rw [h2] at hi
       cases hi
       exact ⟨f e0, List.mem_of_getElem? (i := i) (by rw [List.getElem?_set_self hjl]), by rw [hrg1, hrg0]⟩
     · exact ⟨x, List.mem_of_getElem? (i := i) (by rw [List.getElem?_set_ne (by omega)]; exact hi), rfl⟩
end Go.Proofs.YthcdppppppgckaaGreatDoor
