/- Texts joined into one file: GKeys, GCop, GChk. -/
import Derived.Test.YtfloipdkhmgibaaS08
import Derived.Shelf.SlIter.Nil
import Derived.Shelf.SlIter.Sorted
import Derived.Test.YtfloipdkhmgibaaS04

/- slices.Sorted over maps.Keys of a map by addresses: its addresses, rising. -/
namespace Go.Proofs.Ytfloipdkhmgibaa
open Go.RowKit Go.Maps Go.Sort Go.Shelf
set_option maxRecDepth 20000

theorem mem_strKeys {w : World} {b n : Nat} {D : DataW Unit} (h : w.ownsMap Try.prog 44 mpT b n D) (a : Str) : a ∈ strKeys D ↔ has D (.string a) = true := by
  obtain ⟨es, rfl, hk⟩ := h.keysOf
  show a ∈ es.map (fun p => strOf p.1) ↔ _
  rw [has_eq, List.any_eq_true, List.mem_map]
  constructor
  · rintro ⟨p, hp, rfl⟩
    refine ⟨p, hp, ?_⟩
    obtain ⟨v, hv⟩ := hk p hp
    obtain ⟨x, _, e, _⟩ := Maps.keyOf_str Try.underlying44 hv
    rw [e]
    exact WideAt.sameKey_self (isKey_str x)
  · rintro ⟨p, hp, hs⟩
    refine ⟨p, hp, ?_⟩
    obtain ⟨v, hv⟩ := hk p hp
    obtain ⟨x, _, e, _⟩ := Maps.keyOf_str Try.underlying44 hv
    rw [e] at hs ⊢
    by_cases ex : x = a
    · exact ex
    · rw [Maps.sameKey_ne (fun h => ex (by injection h))] at hs
      cases hs

theorem nodup_strKeys {w : World} {b n : Nat} {D : DataW Unit} (h : w.ownsMap Try.prog 44 mpT b n D) : (strKeys D).Nodup := by
  obtain ⟨es0, e0, hp⟩ := h.tidy lawS
  obtain ⟨es, rfl, hk⟩ := h.keysOf
  injection e0 with e0
  subst e0
  show (es.map fun p => strOf p.1).Nodup
  refine List.pairwise_map.2 (hp.imp_of_mem fun {p q} hp' hq' hne e => hne ?_)
  obtain ⟨v, hv⟩ := hk p hp'
  obtain ⟨x, _, ex, _⟩ := Maps.keyOf_str Try.underlying44 hv
  obtain ⟨u, hu⟩ := hk q hq'
  obtain ⟨y, _, ey, _⟩ := Maps.keyOf_str Try.underlying44 hu
  rw [ex, ey] at e ⊢
  exact congrArg _ e

theorem look_has {w : World} {b n : Nat} {D : DataW Unit} (h : w.ownsMap Try.prog 44 mpT b n D) (a : Str) : has D (.string a) = true ↔ look D a ≠ none := by
  constructor
  · intro hh
    have ha : a.length ≤ maxLen := strKeys_le h Try.underlying44 a ((mem_strKeys h a).2 hh)
    obtain ⟨c, _, hat, _⟩ := h.lookup_int lawS Try.underlying90 Try.underlying3 (Try.zeroValue3 w) (keyOf_bstr ha)
    simp [look, hh, hat]
  · intro hl
    by_cases hh : has D (.string a) = true
    · exact hh
    · simp [look, hh] at hl

/-- a list of addresses that rises and holds just those of which something is known -/
def KeysOf' (F : Str → Option Int) (K : List Str) : Prop := K.Pairwise (· < ·) ∧ ∀ a, a ∈ K ↔ F a ≠ none

theorem keys_sorted {w : World} {b n : Nat} {D : DataW Unit} {F : Str → Option Int} (h : w.ownsMap Try.prog 44 mpT b n D) (e : ∀ a, look D a = F a) {ss : List Str} (hp : ss.Perm (strKeys D)) :
    KeysOf' F (ss.mergeSort fun x y => decide (x ≤ y)) := by
  refine ⟨?_, fun a => ?_⟩
  · have h1 := ssorted_le ss
    have h2 : (ss.mergeSort fun x y => decide (x ≤ y)).Nodup := (List.mergeSort_perm ss _).nodup_iff.2 (hp.nodup_iff.2 (nodup_strKeys h))
    exact h1.imp₂ (fun x y hle hne => ((sle_iff x y).1 hle).resolve_right hne) h2
  · rw [List.mem_mergeSort, hp.mem_iff, mem_strKeys h, look_has h, e]

theorem addrSorts (m : Nat) : AnyZ.SortsIn Try.prog Try.addrSorted_ren Fence.wide m :=
  ⟨fun blk off cap ss W hH hblk hsz => callsIn_wide.2 (AnyM.slices_Sort_string Try.addrSort blk off cap ss W hH hblk hsz),
   fun p cap W => callsIn_wide.2 (AnyM.slices_Sort_string_none Try.addrSort p cap W)⟩

theorem keys_any (mb : Option Nat) (w : World) : Calls Try.prog 73 #[.map mb] w fun e w' =>
    e = .returned (.func (.func 83) #[] #[.pointer (some ⟨w.heap.size, 0, none⟩)]) ∧ w' = w.alloc (.cells #[.map mb] 90) :=
  (callsIn_wide (n := 5)).1 (AnyZ.keys_in Try.addrKeys Fence.wide 5 trivial rfl mb w)

set_option maxHeartbeats 1000000 in
/-- in whatever world: the iterator's box B holds the map -/
theorem sortedKeys_at {w : World} {b n B : Nat} {F : Str → Option Int} (h : Mp w b n F) (hn : n ≤ 8796093022208) (hB : B < w.heap.size) (hc : w.cell? ⟨B, 0, none⟩ = some (.map (some b))) :
    Calls Try.prog 72 #[.func (.func 83) #[] #[.pointer (some ⟨B, 0, none⟩)]] w fun e w' =>
      ∃ v K, e = .returned v ∧ Strs w' v K ∧ KeysOf' F K ∧ K.length ≤ n ∧ Lies w.heap.size v ∧ Below w.heap.size w w' := by
  obtain ⟨D, hown, e⟩ := h
  have hsz : Maps.size D ≤ n := hown.size_le
  have hmax : Maps.size D ≤ maxLen := by unfold maxLen; omega
  have hseq : SeqGives Fence.wide 2 Try.prog 83 #[.pointer (some ⟨B, 0, none⟩)] encStr (fun ss => ss.Perm (strKeys D)) (Maps.size D) w :=
    AnyZ.keys_gives (ρ := Try.addrKeys_ren) { Try.addrKeys with } Fence.wide _ trivial rfl (by omega) B b n D _ hB hc hown
  refine ((callsIn_wide (n := 5)).1 (AnyZ.sorted_in Try.addrSorted Fence.wide 5 trivial trivial trivial trivial rfl (by omega) (addrSorts _) (enters_of Try.func69 (by kernel_rfl) rfl) 83 #[.pointer (some ⟨B, 0, none⟩)] trivial (enters_of Try.func83 (by kernel_rfl) rfl) _ _ hmax (by omega) _ hseq)).mono ?_
  rintro e' w' ⟨v, ss, rfl, hp, hrow, _, hb⟩
  have hl : (ss.mergeSort fun x y => decide (x ≤ y)).length = ss.length := by simp
  have hls : ss.length ≤ n := by
    rw [hp.length_eq]
    obtain ⟨es, rfl⟩ := hown.isMap
    simpa [strKeys, Maps.size] using hsz
  refine ⟨v, ss.mergeSort fun x y => decide (x ≤ y), rfl, Strs.own (by rw [hl]; exact hrow) (by rw [hl]; omega) (fun x hx => ?_), keys_sorted hown e hp, by rw [hl]; exact hls, ?_, ?_⟩
  · exact strKeys_le hown Try.underlying44 x (hp.mem_iff.1 (List.mem_mergeSort.1 hx))
  · have := Lies.own hrow
    simpa using this
  · simpa using hb

set_option maxHeartbeats 1000000 in
theorem sortedKeys_any {w : World} {b n : Nat} {F : Str → Option Int} (h : Mp w b n F) (hn : n ≤ 8796093022208) :
    Calls Try.prog 72 #[.func (.func 83) #[] #[.pointer (some ⟨w.heap.size, 0, none⟩)]] (w.alloc (.cells #[.map (some b)] 90)) fun e w' =>
      ∃ v K, e = .returned v ∧ Strs w' v K ∧ KeysOf' F K ∧ K.length ≤ n ∧ Lies (w.heap.size + 1) v ∧ Below (w.heap.size + 1) (w.alloc (.cells #[.map (some b)] 90)) w' := by
  obtain ⟨D, hown, e⟩ := h
  have hbl := hown.lt
  have hsz : Maps.size D ≤ n := hown.size_le
  have hmax : Maps.size D ≤ maxLen := by unfold maxLen; omega
  have hseq : SeqGives Fence.wide 2 Try.prog 83 #[.pointer (some ⟨w.heap.size, 0, none⟩)] encStr (fun ss => ss.Perm (strKeys D)) (Maps.size D) (w.alloc (.cells #[.map (some b)] 90)) :=
    AnyZ.keys_gives (ρ := Try.addrKeys_ren) { Try.addrKeys with } Fence.wide _ trivial rfl (by omega) w.heap.size b n D _ (by simp) (by simp) (hown.alloc _)
  refine ((callsIn_wide (n := 5)).1 (AnyZ.sorted_in Try.addrSorted Fence.wide 5 trivial trivial trivial trivial rfl (by omega) (addrSorts _) (enters_of Try.func69 (by kernel_rfl) rfl) 83 #[.pointer (some ⟨w.heap.size, 0, none⟩)] trivial (enters_of Try.func83 (by kernel_rfl) rfl) _ _ hmax (by omega) _ hseq)).mono ?_
  rintro e' w' ⟨v, ss, rfl, hp, hrow, _, hb⟩
  have hl : (ss.mergeSort fun x y => decide (x ≤ y)).length = ss.length := by simp
  have hls : ss.length ≤ n := by
    rw [hp.length_eq]
    obtain ⟨es, rfl⟩ := hown.isMap
    simpa [strKeys, Maps.size] using hsz
  refine ⟨v, ss.mergeSort fun x y => decide (x ≤ y), rfl, Strs.own (by rw [hl]; exact hrow) (by rw [hl]; omega) (fun x hx => ?_), keys_sorted hown e hp, by rw [hl]; exact hls, ?_, ?_⟩
  · exact strKeys_le hown Try.underlying44 x (hp.mem_iff.1 (List.mem_mergeSort.1 hx))
  · have := Lies.own hrow
    simpa using this
  · simpa using hb
end Go.Proofs.Ytfloipdkhmgibaa

/- siphonlaw17.copied: a state of its own. -/
namespace Go.Proofs.Ytfloipdkhmgibaa
open Go.RowKit Go.Lib Go.Sort
set_option maxRecDepth 20000

theorem infoTmd : (Try.prog.info? 65).map (fun i => (i.zero, i.size, i.bytes)) = some (some (.agg #[.string ⟨#[]⟩, .int .i64 0]), 2, 24) := by kernel_rfl

/-- a call that hands back a state, and writes nothing that was there -/
def RetSt (w : World) (ex : Bool) (at' : Int) (L : List Tmd) (e : Ending) (w' : World) : Prop :=
  ∃ v, e = .returned (.agg #[.bool ex, .int .i64 at', v]) ∧ Tms w' v L ∧ Below w.heap.size w w' ∧ Lies w.heap.size v

end Go.Proofs.Ytfloipdkhmgibaa

/- group.Check: whether a state may be. -/
namespace Go.Proofs.Ytfloipdkhmgibaa
open Go.RowKit Go.Lib Go.Sort
set_option maxRecDepth 20000

def okAt (ex : Bool) (L : List Tmd) (k : Nat) : Bool :=
  decide (0 ≤ (L.getD k default).2) && (ex || decide ((L.getD k default).2 ≠ 0)) && (k == 0 || decide ((L.getD (k - 1) default).1 < (L.getD k default).1))

def pcheck (ex : Bool) (at' : Int) (L : List Tmd) : Bool :=
  decide (L.length ≤ 60) && decide (0 ≤ at') && (ex == decide (0 < at')) && (List.range L.length).all (okAt ex L)

theorem all_not {ex : Bool} {L : List Tmd} {k : Nat} (hk : k < L.length) (h : okAt ex L k = false) : (List.range L.length).all (okAt ex L) = false := by
  rw [List.all_eq_false]
  exact ⟨k, by simpa using hk, by simp [h]⟩

theorem all_up {g : Nat → Bool} {k : Nat} (h : ∀ j, j < k → g j = true) (h' : g k = true) : ∀ j, j < k + 1 → g j = true := by
  intro j hj
  rcases Nat.lt_succ_iff_lt_or_eq.1 hj with hj | rfl
  · exact h j hj
  · exact h'

theorem ret_code {a b : Int} (h : a = b) : Ending.returned (.int .i64 a) = .returned (.int .i64 b) := by rw [h]

set_option maxRecDepth 20000 in
set_option maxHeartbeats 1000000 in
theorem check_any (ex : Bool) (at' : Int) (v : Value) (L : List Tmd) (w : World) (h : Tms w v L) :
    Calls Try.prog 52 #[.agg #[.bool ex, .int .i64 at', v]] w fun e w' => e = .returned (.int .i64 (if pcheck ex at' L then 0 else 3)) ∧ Below w.heap.size w w' := by
  obtain ⟨ao, cap, rfl⟩ := h.shape
  obtain ⟨W0, hW0⟩ : ∃ W0, W0 = w.alloc (.cells #[.bool ex, .int .i64 at', .slice ao L.length cap] 32) := ⟨_, rfl⟩
  have hba : Below w.heap.size w W0 := by rw [hW0]; exact (Below.refl _ _).alloc (Nat.le_refl _) _
  have s1 : CBox W0 w.heap.size 32 #[.bool ex, .int .i64 at', .slice ao L.length cap] := by rw [hW0]; exact CBox.new _ rfl
  have hs0 : W0.heap.size = w.heap.size + 1 := by rw [hW0]; simp
  obtain ⟨b, off, hm, hlen, hidx, hc⟩ := (h.mono hba).facts
  have HBA := Lib.hid hba
  have HS1 := Lib.hid s1
  clear h hba
  obtain ⟨x0, _⟩ := s1.at_ 0 _ rfl
  obtain ⟨x1, _⟩ := s1.at_ 1 _ rfl
  obtain ⟨x2, _⟩ := s1.at_ 2 _ rfl
  clear s1
  have hbt := bstr_toList
  obtain ⟨cd, hcd⟩ : ∃ cd : Int, cd = (if pcheck ex at' L then 0 else 3) := ⟨_, rfl⟩
  rw [← hcd]
  have HCD := Lib.hid hcd
  clear hcd
  by_cases he : L.length ≤ 60 ∧ 0 ≤ at' ∧ ex = decide (0 < at')
  · obtain ⟨h1, h2, h3⟩ := he
    have HE := Lib.hid (show cd = if (List.range L.length).all (okAt ex L) then 0 else 3 from by rw [HCD.out]; unfold pcheck; simp [h1, h2, ← h3])
    clear HCD
    obtain ⟨g, hg⟩ : ∃ g, g = okAt ex L := ⟨_, rfl⟩
    have HG := Lib.hid hg
    clear hg
    cases ex
    · simp at h3
      go_enter Try.func52, Try.ntmps52
      go_wp2_with fail
      rw [← hW0]
      clear hW0
      go_loopw [25] (fun i wr => ∃ k : Nat, k ≤ L.length ∧ i = .int .i64 k ∧ (∀ j, j < k → g j = true) ∧ Below W0.heap.size W0 wr) (fun i _ => L.length - (intOf i).toNat)
      case atStart => exact ⟨0, Nat.zero_le _, rfl, by simp, Below.refl _ _⟩
      case round =>
        obtain ⟨k, hk, rfl, hn, hbr⟩ := hrel
        have HN := Lib.hid hn
        have HBR := Lib.hid hbr
        have S := Lib.hid (HS1.out.below hbr (by omega))
        have hsz : w.heap.size < wr.heap.size := S.out.lt
        obtain ⟨z0, _⟩ := S.out.at_ 0 _ rfl
        obtain ⟨z1, _⟩ := S.out.at_ 1 _ rfl
        obtain ⟨z2, _⟩ := S.out.at_ 2 _ rfl
        have hcs : ∀ k, k < L.length → wr.cell? ⟨b, off + k * 2, none⟩ = some (.string (bstr (L.getD k default).1)) ∧ wr.cell? ⟨b, off + k * 2 + 1, none⟩ = some (.int .i64 (L.getD k default).2) := fun k hk => ⟨(hbr.cell (p := ⟨b, off + k * 2, none⟩) (hc k hk).1).trans (hc k hk).2.1, (hbr.cell (p := ⟨b, off + k * 2 + 1, none⟩) (hc k hk).1).trans (hc k hk).2.2⟩
        have hbb : ∀ k, k < L.length → b < W0.heap.size := fun k hk => (hc k hk).1
        clear x0 x1 x2 hc hn hbr
        by_cases hlt : k < L.length
        · obtain ⟨⟨s, n⟩, hs⟩ : ∃ s, L.getD k default = s := ⟨_, rfl⟩
          obtain ⟨c0, c1⟩ := hcs k hlt
          rw [hs] at c0 c1
          have hp := hidx k hlt
          cases q1 : decide (n < 0)
          rotate_left
          · have r1 : n < 0 := by simpa using q1
            have HF := Lib.hid (show g k = false from by rw [HG.out]; unfold okAt; rw [hs]; simp [show ¬ 0 ≤ n by omega])
            clear hs hidx hcs hbb
            go_wp2
            go_quiet (fail)
            go_wp2
            go_ret
            exact ⟨ret_code (by rw [HE.out, all_not hlt (HG.out ▸ HF.out)]; rfl), below_draws _ (HBA.out.trans ((HBR.out.mono (by omega)).alloc (by have := HBR.out.size; omega) _)) _⟩
          · have r1 : ¬ n < 0 := by simpa using q1
            have R1 := Lib.hid (show 0 ≤ n by omega)
            clear r1
            cases q2 : (n == 0)
            rotate_left
            · have r2 : n = 0 := by simpa using q2
              have HF := Lib.hid (show g k = false from by rw [HG.out]; unfold okAt; rw [hs]; simp [r2])
              clear hs hidx hcs hbb r2
              go_wp2
              go_quiet (fail)
              go_wp2
              go_ret
              exact ⟨ret_code (by rw [HE.out, all_not hlt (HG.out ▸ HF.out)]; rfl), below_draws _ (HBA.out.trans ((HBR.out.mono (by omega)).alloc (by have := HBR.out.size; omega) _)) _⟩
            · have R2 := Lib.hid (show n ≠ 0 by simpa using q2)
              cases q3 : decide (0 < k)
              · have R3 := Lib.hid (show k = 0 by simpa using q3)
                have HF := Lib.hid (show g k = true from by rw [HG.out]; unfold okAt; rw [hs]; simp [R1.out, R3.out, R2.out])
                clear hs hidx hcs hbb
                go_wp2
                go_quiet (fail)
                go_wp2
                go_roundw
                case rel => exact ⟨k + 1, by omega, by go_num, all_up HN.out HF.out, below_draws _ (HBR.out.alloc HBR.out.size _) _⟩
                case measure => simp [intOf]; omega
              · have R3 := Lib.hid (show k ≠ 0 by have := of_decide_eq_true q3; omega)
                obtain ⟨m, hmk⟩ : ∃ m, m = k - 1 := ⟨_, rfl⟩
                have hm1 : m + 1 = k := by have := R3.out; omega
                obtain ⟨⟨s', n'⟩, hs'⟩ : ∃ s', L.getD m default = s' := ⟨_, rfl⟩
                obtain ⟨d0, d1⟩ := hcs m (by omega)
                rw [hs'] at d0 d1
                have hp' : ∀ w', (Instr.indexAt 30 (.slice ao L.length cap) (.int .i64 ((k : Int) - 1))).run Try.prog w' = .ok (.pointer (some ⟨b, off + m * 2, none⟩)) w' := by
                  have := hidx m (by omega)
                  rwa [show (m : Int) = (k : Int) - 1 from by omega] at this
                have hbl : b < wr.heap.size := Nat.lt_of_lt_of_le (hbb m (by omega)) HBR.out.size
                have hk1 : 0 < k := by omega
                cases q4 : Op.bytesLess s' s
                · have R4 := Lib.hid ((Go.Proofs.bytesLess_eq s' s).symm.trans q4)
                  have HF := Lib.hid (show g k = false from by rw [HG.out]; unfold okAt; rw [← hmk, hs, hs']; rw [R4.out]; simp [R3.out])
                  clear hs hidx hcs hbb hs' hmk hm1
                  go_wp2
                  go_quiet (fail)
                  go_wp2
                  go_ret
                  exact ⟨ret_code (by rw [HE.out, all_not hlt (HG.out ▸ HF.out)]; rfl), below_draws _ (HBA.out.trans ((HBR.out.mono (by omega)).alloc (by have := HBR.out.size; omega) _)) _⟩
                · have R4 := Lib.hid ((Go.Proofs.bytesLess_eq s' s).symm.trans q4)
                  have HF := Lib.hid (show g k = true from by rw [HG.out]; unfold okAt; rw [← hmk, hs, hs', R4.out]; simp [R1.out, R2.out])
                  clear hs hidx hcs hbb hs' hmk hm1
                  go_wp2
                  go_quiet (fail)
                  go_wp2
                  go_roundw
                  case rel => exact ⟨k + 1, by omega, by go_num, all_up HN.out HF.out, below_draws _ (HBR.out.alloc HBR.out.size _) _⟩
                  case measure => simp [intOf]; omega
        · have HT := Lib.hid (show (List.range L.length).all g = true from by rw [List.all_eq_true]; intro j hj; exact HN.out j (by simp at hj; omega))
          clear hidx hcs
          go_wp2
          go_ret
          exact ⟨ret_code (by rw [HE.out, ← HG.out, HT.out]; rfl), HBA.out.trans (HBR.out.mono (by omega))⟩
    · simp at h3
      go_enter Try.func52, Try.ntmps52
      go_wp2_with fail
      rw [← hW0]
      clear hW0
      go_loopw [25] (fun i wr => ∃ k : Nat, k ≤ L.length ∧ i = .int .i64 k ∧ (∀ j, j < k → g j = true) ∧ Below W0.heap.size W0 wr) (fun i _ => L.length - (intOf i).toNat)
      case atStart => exact ⟨0, Nat.zero_le _, rfl, by simp, Below.refl _ _⟩
      case round =>
        obtain ⟨k, hk, rfl, hn, hbr⟩ := hrel
        have HN := Lib.hid hn
        have HBR := Lib.hid hbr
        have S := Lib.hid (HS1.out.below hbr (by omega))
        have hsz : w.heap.size < wr.heap.size := S.out.lt
        obtain ⟨z0, _⟩ := S.out.at_ 0 _ rfl
        obtain ⟨z1, _⟩ := S.out.at_ 1 _ rfl
        obtain ⟨z2, _⟩ := S.out.at_ 2 _ rfl
        have hcs : ∀ k, k < L.length → wr.cell? ⟨b, off + k * 2, none⟩ = some (.string (bstr (L.getD k default).1)) ∧ wr.cell? ⟨b, off + k * 2 + 1, none⟩ = some (.int .i64 (L.getD k default).2) := fun k hk => ⟨(hbr.cell (p := ⟨b, off + k * 2, none⟩) (hc k hk).1).trans (hc k hk).2.1, (hbr.cell (p := ⟨b, off + k * 2 + 1, none⟩) (hc k hk).1).trans (hc k hk).2.2⟩
        have hbb : ∀ k, k < L.length → b < W0.heap.size := fun k hk => (hc k hk).1
        clear x0 x1 x2 hc hn hbr
        by_cases hlt : k < L.length
        · obtain ⟨⟨s, n⟩, hs⟩ : ∃ s, L.getD k default = s := ⟨_, rfl⟩
          obtain ⟨c0, c1⟩ := hcs k hlt
          rw [hs] at c0 c1
          have hp := hidx k hlt
          cases q1 : decide (n < 0)
          rotate_left
          · have r1 : n < 0 := by simpa using q1
            have HF := Lib.hid (show g k = false from by rw [HG.out]; unfold okAt; rw [hs]; simp [show ¬ 0 ≤ n by omega])
            clear hs hidx hcs hbb
            go_wp2
            go_quiet (fail)
            go_wp2
            go_ret
            exact ⟨ret_code (by rw [HE.out, all_not hlt (HG.out ▸ HF.out)]; rfl), below_draws _ (HBA.out.trans ((HBR.out.mono (by omega)).alloc (by have := HBR.out.size; omega) _)) _⟩
          · have r1 : ¬ n < 0 := by simpa using q1
            have R1 := Lib.hid (show 0 ≤ n by omega)
            clear r1
            cases q3 : decide (0 < k)
            · have R3 := Lib.hid (show k = 0 by simpa using q3)
              have HF := Lib.hid (show g k = true from by rw [HG.out]; unfold okAt; rw [hs]; simp [R1.out, R3.out])
              clear hs hidx hcs hbb
              go_wp2
              go_quiet (fail)
              go_wp2
              go_roundw
              case rel => exact ⟨k + 1, by omega, by go_num, all_up HN.out HF.out, below_draws _ (HBR.out.alloc HBR.out.size _) _⟩
              case measure => simp [intOf]; omega
            · have R3 := Lib.hid (show k ≠ 0 by have := of_decide_eq_true q3; omega)
              obtain ⟨m, hmk⟩ : ∃ m, m = k - 1 := ⟨_, rfl⟩
              have hm1 : m + 1 = k := by have := R3.out; omega
              obtain ⟨⟨s', n'⟩, hs'⟩ : ∃ s', L.getD m default = s' := ⟨_, rfl⟩
              obtain ⟨d0, d1⟩ := hcs m (by omega)
              rw [hs'] at d0 d1
              have hp' : ∀ w', (Instr.indexAt 30 (.slice ao L.length cap) (.int .i64 ((k : Int) - 1))).run Try.prog w' = .ok (.pointer (some ⟨b, off + m * 2, none⟩)) w' := by
                have := hidx m (by omega)
                rwa [show (m : Int) = (k : Int) - 1 from by omega] at this
              have hbl : b < wr.heap.size := Nat.lt_of_lt_of_le (hbb m (by omega)) HBR.out.size
              have hk1 : 0 < k := by omega
              cases q4 : Op.bytesLess s' s
              · have R4 := Lib.hid ((Go.Proofs.bytesLess_eq s' s).symm.trans q4)
                have HF := Lib.hid (show g k = false from by rw [HG.out]; unfold okAt; rw [← hmk, hs, hs']; rw [R4.out]; simp [R3.out])
                clear hs hidx hcs hbb hs' hmk hm1
                go_wp2
                go_quiet (fail)
                go_wp2
                go_ret
                exact ⟨ret_code (by rw [HE.out, all_not hlt (HG.out ▸ HF.out)]; rfl), below_draws _ (HBA.out.trans ((HBR.out.mono (by omega)).alloc (by have := HBR.out.size; omega) _)) _⟩
              · have R4 := Lib.hid ((Go.Proofs.bytesLess_eq s' s).symm.trans q4)
                have HF := Lib.hid (show g k = true from by rw [HG.out]; unfold okAt; rw [← hmk, hs, hs', R4.out]; simp [R1.out])
                clear hs hidx hcs hbb hs' hmk hm1
                go_wp2
                go_quiet (fail)
                go_wp2
                go_roundw
                case rel => exact ⟨k + 1, by omega, by go_num, all_up HN.out HF.out, below_draws _ (HBR.out.alloc HBR.out.size _) _⟩
                case measure => simp [intOf]; omega
        · have HT := Lib.hid (show (List.range L.length).all g = true from by rw [List.all_eq_true]; intro j hj; exact HN.out j (by simp at hj; omega))
          clear hidx hcs
          go_wp2
          go_ret
          exact ⟨ret_code (by rw [HE.out, ← HG.out, HT.out]; rfl), HBA.out.trans (HBR.out.mono (by omega))⟩
  · have HE := Lib.hid (show 3 = cd from by
      rw [HCD.out, if_neg]
      intro h
      unfold pcheck at h
      simp only [Bool.and_eq_true, decide_eq_true_eq, beq_iff_eq] at h
      exact he ⟨h.1.1.1, h.1.1.2, h.1.2⟩)
    subst hW0
    clear x0 x1 x2 hidx hc HCD HS1
    by_cases p1 : L.length ≤ 60
    · by_cases p2 : 0 ≤ at'
      · cases ex
        · have p3 : 0 < at' := by
            rcases Int.lt_or_le 0 at' with h | h
            · exact h
            · exact absurd ⟨p1, p2, by simp; omega⟩ he
          clear he
          go_enter Try.func52, Try.ntmps52
          go_wp2
          go_ret
          exact ⟨ret_code HE.out, HBA.out⟩
        · have p3 : at' ≤ 0 := by
            rcases Int.lt_or_le 0 at' with h | h
            · exact absurd ⟨p1, p2, by simp; omega⟩ he
            · exact h
          have p3' : at' = 0 := by omega
          subst p3'
          clear he
          go_enter Try.func52, Try.ntmps52
          go_wp2
          go_ret
          exact ⟨ret_code HE.out, HBA.out⟩
      · clear he
        have p2' : at' < 0 := by omega
        go_enter Try.func52, Try.ntmps52
        go_wp2
        go_ret
        exact ⟨ret_code HE.out, HBA.out⟩
    · clear he
      have p1' : 60 < (L.length : Int) := by omega
      go_enter Try.func52, Try.ntmps52
      go_wp2
      go_ret
      exact ⟨ret_code HE.out, HBA.out⟩
end Go.Proofs.Ytfloipdkhmgibaa
