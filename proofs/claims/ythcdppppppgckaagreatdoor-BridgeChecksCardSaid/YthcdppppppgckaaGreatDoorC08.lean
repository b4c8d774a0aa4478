/- Texts joined into one file: BDrop, BSet, BLink. -/
import Derived.Test.YthcdppppppgckaaGreatDoorC07

namespace Go.Proofs.YthcdppppppgckaaGreatDoor
open Go.RowKit Go.Lib Go.Sort
set_option maxRecDepth 20000
set_option maxRecDepth 20000

def RetTree (w : World) (p g cap : Nat) (t : Tre) (e : Ending) (w' : World) : Prop := e = .returned (.tuple #[]) ∧ TreeAt w' p g cap t ∧ Turn (tfoot p g) w w'
def part (f : Prt → Prt) (l : List Prt) (k : Nat) : List Prt := (l.take k).map f ++ l.drop k
theorem part_len (f : Prt → Prt) (l : List Prt) (k : Nat) : (part f l k).length = l.length := by unfold part; simp; omega
theorem part_at (f : Prt → Prt) {l : List Prt} {k : Nat} (h : k < l.length) : (part f l k)[k]'(by rw [part_len]; exact h) = l[k] := by
 unfold part
 rw [List.getElem_append_right (by simp; omega)]
 simp [Nat.min_eq_left (Nat.le_of_lt h)]
theorem part_set (f : Prt → Prt) {l : List Prt} {k : Nat} (h : k < l.length) : (part f l k).set k (f l[k]) = part f l (k + 1) := by
 unfold part
 rw [List.set_append_right _ _ (by simp; omega), List.take_succ_eq_append_getElem h, List.map_append, List.append_assoc]
 congr 1
 rw [List.length_map, List.length_take, Nat.min_eq_left (by omega), Nat.sub_self, List.drop_eq_getElem_cons h]
 rfl
theorem part_zero (f : Prt → Prt) (l : List Prt) : part f l 0 = l := by simp [part]
theorem part_all (f : Prt → Prt) (l : List Prt) : part f l l.length = l.map f := by simp [part]

set_option maxHeartbeats 4000000 in
theorem tdrop_any (p g cap : Nat) (t : Tre) (w : World) (h : TreeAt w p g cap t) (ok : TreOk t) :
 Calls Tryz.prog 107 #[.pointer (some ⟨p, 0, none⟩)] w (RetTree w p g cap t.drop) := by
 obtain ⟨hlen, hidx, _⟩ := h.facts
 have hx := h.1
 unfold tcellsOf at hx
 obtain ⟨x1, _⟩ := hx.at_ 1 _ rfl
 have HIX := Lib.hid hidx; have HT := Lib.hid h; have HOK := Lib.hid ok
 have hn := ok.len
 obtain ⟨n, hnn⟩ : ∃ n, t.ports.length = n := ⟨_, rfl⟩
 have HN := Lib.hid hnn
 rw [hnn] at hlen x1 HIX hn
 clear hx hidx h ok hnn
 go_enter Tryz.func107, Tryz.ntmps107
 go_wp2
 go_loopw [9] (fun i wr => ∃ k, k ≤ n ∧ i = .int .i64 (k : Nat) ∧ TreeAt wr p g cap { t with ports := part (drop1 t.now) t.ports k } ∧ Turn (tfoot p g) w wr) (fun i _ => n - (intOf i).toNat)
 case atStart => exact ⟨0, Nat.zero_le _, rfl, by rw [part_zero]; exact HT.out, Turn.refl _ _⟩
 case round =>
  obtain ⟨k, hk, rfl, ht, htu⟩ := hrel
  have HTR := Lib.hid ht; have HTU := Lib.hid htu
  clear x1
  by_cases hlt : k < n
  · have hk' : k < t.ports.length := by rw [HN.out]; exact hlt
    obtain ⟨_, _, hc⟩ := ht.facts
    have hbx := ht.1
    unfold tcellsOf at hbx
    dsimp only at hbx hc
    rw [part_len, HN.out] at hbx
    have hkp : k < (part (drop1 t.now) t.ports k).length := by rw [part_len]; exact hk'
    have hcc := hc k hkp
    rw [part_at (drop1 t.now) hk'] at hcc
    have hst := fun (x : Value) (hy : pcell (drop1 t.now t.ports[k]) = (pcell t.ports[k]).set 4 x) (W : World) (hW : TreeAt W p g cap { t with ports := part (drop1 t.now) t.ports k }) => hW.port (k := k) (i := 4) hkp (by decide) x (drop1 t.now t.ports[k]) (by dsimp only; rw [part_at (drop1 t.now) hk']; exact hy)
    dsimp only at hst
    rw [part_set (drop1 t.now) hk'] at hst
    have HST := Lib.hid hst
    have HPK := Lib.hid (HOK.out.ports _ (List.getElem_mem hk'))
    have hp := HIX.out k hlt
    obtain ⟨⟨pc, pr, ps, pu, pk, pf, ⟨pv, pa, p11, p12, p13⟩, pat⟩, hq⟩ : ∃ x, x = t.ports[k] := ⟨_, rfl⟩
    rw [← hq] at hcc HST HPK
    have c4 := hcc 4 (by decide); have c10 := hcc 10 (by decide); have c14 := hcc 14 (by decide)
    simp only [pcell, List.getElem?_cons_zero, List.getElem?_cons_succ] at c4 c10 c14
    obtain ⟨y1, _⟩ := hbx.at_ 1 _ rfl
    obtain ⟨y2, _⟩ := hbx.at_ 2 _ rfl
    have hs6 : IntKind.i64.wrap (pat + 6) = pat + 6 := by have := HPK.out.at_; dsimp only at this; rw [IntKind.wrap_i64]; omega
    obtain ⟨kk, hkk⟩ : ∃ b, (pk && decide (t.now < pat + 6) && decide (pa < 20)) = b := ⟨_, rfl⟩
    have HS := Lib.hid (fun W hW => HST.out (.bool kk) (by unfold drop1 pcell; dsimp only; rw [hkk]; rfl) W hW)
    obtain ⟨tn, htn⟩ : ∃ x, t.now = x := ⟨_, rfl⟩
    rw [htn] at y2 hkk
    obtain ⟨Z, hZ⟩ : ∃ W, wr.drew = W := ⟨_, rfl⟩
    have hbz : Below wr.heap.size wr Z := by rw [← hZ]; exact Below.drew (Below.refl _ _)
    obtain ⟨s1, s2⟩ := HS.out Z (HTR.out.below hbz)
    have HV := Lib.hid (And.intro s1 ((HTU.out.after hbz).trans s2))
    have hlt2 := HTR.out.lt
    have z1 := (hbz.cell (p := ⟨p, 1, none⟩) hlt2.1).trans y1
    have z2 := (hbz.cell (p := ⟨p, 2, none⟩) hlt2.1).trans y2
    have z4 := (hbz.cell (p := ⟨g, k * 15 + 4, none⟩) hlt2.2).trans c4.1
    have z4f := (hbz.frozen (p := ⟨g, k * 15 + 4, none⟩) hlt2.2).trans c4.2
    have z10 := (hbz.cell (p := ⟨g, k * 15 + 10, none⟩) hlt2.2).trans c10.1
    have z14 := (hbz.cell (p := ⟨g, k * 15 + 14, none⟩) hlt2.2).trans c14.1
    have hne := HTR.out.ne
    have HZ := Lib.hid hZ
    clear c4 c10 c14 hcc hc hst hbx ht htu hq hZ hbz s1 s2 hlt2 htn HST
    go_upto_region 4 with fail
    have HF := Lib.hid (fun (wq : World) (h : wq.cell? ⟨p, 2, none⟩ = some (.int .i64 tn) ∧ wq.cell? ⟨g, k * 15 + 10, none⟩ = some (.int .i64 pa) ∧ wq.cell? ⟨g, k * 15 + 14, none⟩ = some (.int .i64 pat)) => h)
    have SV := Lib.hid (fun (x : Value) => show (Z.setCell ⟨g, k * 15 + 4, none⟩ x).cell? ⟨p, 2, none⟩ = some (.int .i64 tn) ∧ (Z.setCell ⟨g, k * 15 + 4, none⟩ x).cell? ⟨g, k * 15 + 10, none⟩ = some (.int .i64 pa) ∧ (Z.setCell ⟨g, k * 15 + 4, none⟩ x).cell? ⟨g, k * 15 + 14, none⟩ = some (.int .i64 pat) from
     ⟨by rw [World.cell?_setCell_other Z _ _ _ (fun e => by injection e with e _; exact hne e)]; exact z2, by rw [World.cell?_setCell_other Z _ _ _ (fun e => by injection e with _ e _; omega)]; exact z10, by rw [World.cell?_setCell_other Z _ _ _ (fun e => by injection e with _ e _; omega)]; exact z14⟩)
    cases pk
    · refine wp_region_held_drew (S := fun wq => wq.cell? ⟨p, 2, none⟩ = some (.int .i64 tn) ∧ wq.cell? ⟨g, k * 15 + 10, none⟩ = some (.int .i64 pa) ∧ wq.cell? ⟨g, k * 15 + 14, none⟩ = some (.int .i64 pat)) (by kernel_rfl) (by rw [HZ.out]; exact ⟨z2, z10, z14⟩) (fun hHeld => ?_)
      rw [HZ.out] at hHeld ⊢
      refine tkL 0 (v := ?_) rfl (by kernel_rfl) (fun _ _ _ => id) (Or.inl ⟨by rfl, ?_⟩) (by assumption) ?_; rotate_left; (focus (intro wq hSq; go_simp <;> with_reducible rfl)); simp only [Act.put, pA, pB, pC]
      refine tkL 1 (v := ?_) rfl (by kernel_rfl) (fun _ _ _ => id) (Or.inl ⟨by rfl, ?_⟩) (by assumption) ?_; rotate_left; (focus (intro wq hSq; go_simp <;> with_reducible rfl)); simp only [Act.put, pA, pB, pC]
      refine tkL 2 (v := ?_) rfl (by kernel_rfl) (fun _ _ _ => id) (Or.inl ⟨by rfl, ?_⟩) (by assumption) ?_; rotate_left; (focus (intro wq hSq; go_simp <;> with_reducible rfl)); simp only [Act.put, pA, pB, pC]
      refine tkL 3 (v := ?_) rfl (by kernel_rfl) (fun _ _ _ => id) (Or.inl ⟨by rfl, ?_⟩) (by assumption) ?_; rotate_left; (focus (intro wq hSq; go_simp <;> with_reducible rfl)); simp only [Act.put, pA, pB, pC]
      refine wpAnyH_ready (rs := [4]) (by kernel_rfl) (by simp) (nextL 4 rfl (fun Kr hKr => ?_) AllReadyH.nil)
      rw [if_pos (by rfl)]
      go_simp
      refine hKr.out _ _ ⟨z2, z10, z14⟩ (fun _ => ?_)
      clear hKr
      refine tkL 5 (v := ?_) rfl (by kernel_rfl) (fun _ _ _ => id) (Or.inl ⟨by rfl, ?_⟩) (by assumption) ?_; rotate_left; (focus (intro wq hSq; go_simp <;> with_reducible rfl)); simp only [Act.put, pA, pB, pC]
      refine tkL 6 (v := undef) rfl (by kernel_rfl) (fun _ _ _ h => h) (Or.inr ⟨by rfl, rfl⟩) (by assumption) ?_; simp only [Act.put, pA, pB, pC]
      refine tkL 7 (v := undef) rfl (by kernel_rfl) (fun _ _ _ h => h) (Or.inr ⟨by rfl, rfl⟩) (by assumption) ?_; simp only [Act.put, pA, pB, pC]
      refine tkL 8 (v := undef) rfl (by kernel_rfl) (fun _ _ _ h => h) (Or.inr ⟨by rfl, rfl⟩) (by assumption) ?_; simp only [Act.put, pA, pB, pC]
      refine tkL 9 (v := undef) rfl (by kernel_rfl) (fun _ _ _ h => h) (Or.inr ⟨by rfl, rfl⟩) (by assumption) ?_; simp only [Act.put, pA, pB, pC]
      refine tkL 10 (v := undef) rfl (by kernel_rfl) (fun _ _ _ h => h) (Or.inr ⟨by rfl, rfl⟩) (by assumption) ?_; simp only [Act.put, pA, pB, pC]
      refine tkL 11 (v := undef) rfl (by kernel_rfl) (fun _ _ _ h => h) (Or.inr ⟨by rfl, rfl⟩) (by assumption) ?_; simp only [Act.put, pA, pB, pC]
      refine tkL 12 (v := undef) rfl (by kernel_rfl) (fun _ _ _ h => h) (Or.inr ⟨by rfl, rfl⟩) (by assumption) ?_; simp only [Act.put, pA, pB, pC]
      refine tkL 13 (v := undef) rfl (by kernel_rfl) (fun _ _ _ h => h) (Or.inr ⟨by rfl, rfl⟩) (by assumption) ?_; simp only [Act.put, pA, pB, pC]
      refine tkL 14 (v := undef) rfl (by kernel_rfl) (fun _ _ _ h => h) (Or.inr ⟨by rfl, rfl⟩) (by assumption) ?_; simp only [Act.put, pA, pB, pC]
      refine tkL 15 (v := undef) rfl (by kernel_rfl) (fun _ _ _ h => h) (Or.inr ⟨by rfl, rfl⟩) (by assumption) ?_; simp only [Act.put, pA, pB, pC]
      refine tkL 16 (v := ?_) rfl (by kernel_rfl) (fun _ _ _ => id) (Or.inl ⟨by rfl, ?_⟩) (by assumption) ?_; rotate_left; (focus (intro wq hSq; go_simp <;> with_reducible rfl)); simp only [Act.put, pA, pB, pC]
      refine tkL 17 (v := ?_) rfl (by kernel_rfl) (fun _ _ _ => id) (Or.inl ⟨by rfl, ?_⟩) (by assumption) ?_; rotate_left; (focus (intro wq hSq; go_simp <;> with_reducible rfl)); simp only [Act.put, pA, pB, pC]
      refine tkL 18 (v := undef) rfl (by kernel_rfl) (fun _ _ _ h => h) (Or.inr ⟨by rfl, rfl⟩) (by assumption) ?_; simp only [Act.put, pA, pB, pC]
      refine tkL 19 (v := undef) rfl (by kernel_rfl) (fun _ _ _ h => h) (Or.inr ⟨by rfl, rfl⟩) (by assumption) ?_; simp only [Act.put, pA, pB, pC]
      refine tkL 20 (v := undef) rfl (by kernel_rfl) (fun _ _ _ h => h) (Or.inr ⟨by rfl, rfl⟩) (by assumption) ?_; simp only [Act.put, pA, pB, pC]
      refine tkL 21 (v := undef) rfl (by kernel_rfl) (fun _ _ _ h => h) (Or.inr ⟨by rfl, rfl⟩) (by assumption) ?_; simp only [Act.put, pA, pB, pC]
      refine tkL 22 (v := undef) rfl (by kernel_rfl) (fun _ _ _ h => h) (Or.inr ⟨by rfl, rfl⟩) (by assumption) ?_; simp only [Act.put, pA, pB, pC]
      refine tkL 23 (v := undef) rfl (by kernel_rfl) (fun _ _ _ h => h) (Or.inr ⟨by rfl, rfl⟩) (by assumption) ?_; simp only [Act.put, pA, pB, pC]
      refine tkL 24 (v := ?_) rfl (by kernel_rfl) (fun _ _ _ => id) (Or.inl ⟨by rfl, ?_⟩) (by assumption) ?_; rotate_left; (focus (intro wq hSq; go_simp <;> with_reducible rfl)); simp only [Act.put, pA, pB, pC]
      refine tkL 25 (v := ?_) rfl (by kernel_rfl) (fun _ _ _ => id) (Or.inl ⟨by rfl, ?_⟩) (by assumption) ?_; rotate_left; (focus (intro wq hSq; go_simp <;> with_reducible rfl)); simp only [Act.put, pA, pB, pC]
      refine tkL 26 (v := ?_) rfl (by kernel_rfl) (fun _ _ _ => id) (Or.inl ⟨by rfl, ?_⟩) (by assumption) ?_; rotate_left; (focus (intro wq hSq; go_simp <;> with_reducible rfl)); simp only [Act.put, pA, pB, pC]
      refine wpAnyH_ready (rs := [27]) (by kernel_rfl) (by simp) (nextL 27 rfl (fun Kr hKr => ?_) AllReadyH.nil)
      rw [if_pos (by rfl)]
      go_simp
      refine hKr.out _ _ (SV.out _) (fun _ => ?_)
      refine wpAnyH_done (by kernel_rfl) ?_ _
      clear hKr hHeld z1 z2 z4 z4f z10 z14 y1 y2 hp hs6
      go_wp2_with fail
      go_roundw
      case rel => exact ⟨k + 1, by omega, by go_num, by have := HV.out.1; rw [← hkk] at this; exact this, by have := HV.out.2; rw [← hkk] at this; exact this⟩
      case measure => simp [intOf]; omega
    · cases d1 : decide (tn < pat + 6)
      · refine wp_region_held_drew (S := fun wq => wq.cell? ⟨p, 2, none⟩ = some (.int .i64 tn) ∧ wq.cell? ⟨g, k * 15 + 10, none⟩ = some (.int .i64 pa) ∧ wq.cell? ⟨g, k * 15 + 14, none⟩ = some (.int .i64 pat)) (by kernel_rfl) (by rw [HZ.out]; exact ⟨z2, z10, z14⟩) (fun hHeld => ?_)
        rw [HZ.out] at hHeld ⊢
        refine tkL 0 (v := ?_) rfl (by kernel_rfl) (fun _ _ _ => id) (Or.inl ⟨by rfl, ?_⟩) (by assumption) ?_; rotate_left; (focus (intro wq hSq; go_simp <;> with_reducible rfl)); simp only [Act.put, pA, pB, pC]
        refine tkL 1 (v := ?_) rfl (by kernel_rfl) (fun _ _ _ => id) (Or.inl ⟨by rfl, ?_⟩) (by assumption) ?_; rotate_left; (focus (intro wq hSq; go_simp <;> with_reducible rfl)); simp only [Act.put, pA, pB, pC]
        refine tkL 2 (v := ?_) rfl (by kernel_rfl) (fun _ _ _ => id) (Or.inl ⟨by rfl, ?_⟩) (by assumption) ?_; rotate_left; (focus (intro wq hSq; go_simp <;> with_reducible rfl)); simp only [Act.put, pA, pB, pC]
        refine tkL 3 (v := ?_) rfl (by kernel_rfl) (fun _ _ _ => id) (Or.inl ⟨by rfl, ?_⟩) (by assumption) ?_; rotate_left; (focus (intro wq hSq; go_simp <;> with_reducible rfl)); simp only [Act.put, pA, pB, pC]
        refine wpAnyH_ready (rs := [4]) (by kernel_rfl) (by simp) (nextL 4 rfl (fun Kr hKr => ?_) AllReadyH.nil)
        rw [if_pos (by rfl)]
        go_simp
        refine hKr.out _ _ ⟨z2, z10, z14⟩ (fun _ => ?_)
        clear hKr
        refine tkL 5 (v := ?_) rfl (by kernel_rfl) (fun _ _ _ => id) (Or.inl ⟨by rfl, ?_⟩) (by assumption) ?_; rotate_left; (focus (intro wq hSq; go_simp <;> with_reducible rfl)); simp only [Act.put, pA, pB, pC]
        refine tkL 6 (v := ?_) rfl (by kernel_rfl) (fun _ _ _ => id) (Or.inl ⟨by rfl, ?_⟩) (by assumption) ?_; rotate_left; (focus (intro wq hSq; have f := HF.out wq hSq; go_simp <;> with_reducible rfl)); simp only [Act.put, pA, pB, pC]
        refine tkL 7 (v := ?_) rfl (by kernel_rfl) (fun _ _ _ => id) (Or.inl ⟨by rfl, ?_⟩) (by assumption) ?_; rotate_left; (focus (intro wq hSq; have f := HF.out wq hSq; go_simp <;> with_reducible rfl)); simp only [Act.put, pA, pB, pC]
        refine tkL 8 (v := ?_) rfl (by kernel_rfl) (fun _ _ _ => id) (Or.inl ⟨by rfl, ?_⟩) (by assumption) ?_; rotate_left; (focus (intro wq hSq; have f := HF.out wq hSq; go_simp <;> with_reducible rfl)); simp only [Act.put, pA, pB, pC]
        refine tkL 9 (v := ?_) rfl (by kernel_rfl) (fun _ _ _ => id) (Or.inl ⟨by rfl, ?_⟩) (by assumption) ?_; rotate_left; (focus (intro wq hSq; have f := HF.out wq hSq; go_simp <;> with_reducible rfl)); simp only [Act.put, pA, pB, pC]
        refine tkL 10 (v := ?_) rfl (by kernel_rfl) (fun _ _ _ => id) (Or.inl ⟨by rfl, ?_⟩) (by assumption) ?_; rotate_left; (focus (intro wq hSq; have f := HF.out wq hSq; go_simp <;> with_reducible rfl)); simp only [Act.put, pA, pB, pC]
        refine tkL 11 (v := ?_) rfl (by kernel_rfl) (fun _ _ _ => id) (Or.inl ⟨by rfl, ?_⟩) (by assumption) ?_; rotate_left; (focus (intro wq hSq; have f := HF.out wq hSq; go_simp <;> with_reducible rfl)); simp only [Act.put, pA, pB, pC]
        refine tkL 12 (v := ?_) rfl (by kernel_rfl) (fun _ _ _ => id) (Or.inl ⟨by rfl, ?_⟩) (by assumption) ?_; rotate_left; (focus (intro wq hSq; have f := HF.out wq hSq; go_simp <;> with_reducible rfl)); simp only [Act.put, pA, pB, pC]
        refine tkL 13 (v := ?_) rfl (by kernel_rfl) (fun _ _ _ => id) (Or.inl ⟨by rfl, ?_⟩) (by assumption) ?_; rotate_left; (focus (intro wq hSq; have f := HF.out wq hSq; go_simp <;> with_reducible rfl)); simp only [Act.put, pA, pB, pC]
        refine tkL 14 (v := ?_) rfl (by kernel_rfl) (fun _ _ _ => id) (Or.inl ⟨by rfl, ?_⟩) (by assumption) ?_; rotate_left; (focus (intro wq hSq; have f := HF.out wq hSq; go_simp <;> with_reducible rfl)); simp only [Act.put, pA, pB, pC]
        refine tkL 15 (v := ?_) rfl (by kernel_rfl) (fun _ _ _ => id) (Or.inl ⟨by rfl, ?_⟩) (by assumption) ?_; rotate_left; (focus (intro wq hSq; have f := HF.out wq hSq; go_simp <;> with_reducible rfl)); simp only [Act.put, pA, pB, pC]
        refine tkL 16 (v := ?_) rfl (by kernel_rfl) (fun _ _ _ => id) (Or.inl ⟨by rfl, ?_⟩) (by assumption) ?_; rotate_left; (focus (intro wq hSq; go_simp <;> with_reducible rfl)); simp only [Act.put, pA, pB, pC]
        refine tkL 17 (v := ?_) rfl (by kernel_rfl) (fun _ _ _ => id) (Or.inl ⟨by rfl, ?_⟩) (by assumption) ?_; rotate_left; (focus (intro wq hSq; go_simp <;> with_reducible rfl)); simp only [Act.put, pA, pB, pC]
        refine tkL 18 (v := undef) rfl (by kernel_rfl) (fun _ _ _ h => h) (Or.inr ⟨by rfl, rfl⟩) (by assumption) ?_; simp only [Act.put, pA, pB, pC]
        refine tkL 19 (v := undef) rfl (by kernel_rfl) (fun _ _ _ h => h) (Or.inr ⟨by rfl, rfl⟩) (by assumption) ?_; simp only [Act.put, pA, pB, pC]
        refine tkL 20 (v := undef) rfl (by kernel_rfl) (fun _ _ _ h => h) (Or.inr ⟨by rfl, rfl⟩) (by assumption) ?_; simp only [Act.put, pA, pB, pC]
        refine tkL 21 (v := undef) rfl (by kernel_rfl) (fun _ _ _ h => h) (Or.inr ⟨by rfl, rfl⟩) (by assumption) ?_; simp only [Act.put, pA, pB, pC]
        refine tkL 22 (v := undef) rfl (by kernel_rfl) (fun _ _ _ h => h) (Or.inr ⟨by rfl, rfl⟩) (by assumption) ?_; simp only [Act.put, pA, pB, pC]
        refine tkL 23 (v := undef) rfl (by kernel_rfl) (fun _ _ _ h => h) (Or.inr ⟨by rfl, rfl⟩) (by assumption) ?_; simp only [Act.put, pA, pB, pC]
        refine tkL 24 (v := ?_) rfl (by kernel_rfl) (fun _ _ _ => id) (Or.inl ⟨by rfl, ?_⟩) (by assumption) ?_; rotate_left; (focus (intro wq hSq; go_simp <;> with_reducible rfl)); simp only [Act.put, pA, pB, pC]
        refine tkL 25 (v := ?_) rfl (by kernel_rfl) (fun _ _ _ => id) (Or.inl ⟨by rfl, ?_⟩) (by assumption) ?_; rotate_left; (focus (intro wq hSq; go_simp <;> with_reducible rfl)); simp only [Act.put, pA, pB, pC]
        refine tkL 26 (v := ?_) rfl (by kernel_rfl) (fun _ _ _ => id) (Or.inl ⟨by rfl, ?_⟩) (by assumption) ?_; rotate_left; (focus (intro wq hSq; go_simp <;> with_reducible rfl)); simp only [Act.put, pA, pB, pC]
        refine wpAnyH_ready (rs := [27]) (by kernel_rfl) (by simp) (nextL 27 rfl (fun Kr hKr => ?_) AllReadyH.nil)
        rw [if_pos (by rfl)]
        go_simp
        refine hKr.out _ _ (SV.out _) (fun _ => ?_)
        refine wpAnyH_done (by kernel_rfl) ?_ _
        clear hKr hHeld z1 z2 z4 z4f z10 z14 y1 y2 hp hs6
        go_wp2_with fail
        go_roundw
        case rel => exact ⟨k + 1, by omega, by go_num, by have := HV.out.1; rw [← hkk, d1] at this; exact this, by have := HV.out.2; rw [← hkk, d1] at this; exact this⟩
        case measure => simp [intOf]; omega
      · cases d2 : decide (pa < 20)
        · refine wp_region_held_drew (S := fun wq => wq.cell? ⟨p, 2, none⟩ = some (.int .i64 tn) ∧ wq.cell? ⟨g, k * 15 + 10, none⟩ = some (.int .i64 pa) ∧ wq.cell? ⟨g, k * 15 + 14, none⟩ = some (.int .i64 pat)) (by kernel_rfl) (by rw [HZ.out]; exact ⟨z2, z10, z14⟩) (fun hHeld => ?_)
          rw [HZ.out] at hHeld ⊢
          refine tkL 0 (v := ?_) rfl (by kernel_rfl) (fun _ _ _ => id) (Or.inl ⟨by rfl, ?_⟩) (by assumption) ?_; rotate_left; (focus (intro wq hSq; go_simp <;> with_reducible rfl)); simp only [Act.put, pA, pB, pC]
          refine tkL 1 (v := ?_) rfl (by kernel_rfl) (fun _ _ _ => id) (Or.inl ⟨by rfl, ?_⟩) (by assumption) ?_; rotate_left; (focus (intro wq hSq; go_simp <;> with_reducible rfl)); simp only [Act.put, pA, pB, pC]
          refine tkL 2 (v := ?_) rfl (by kernel_rfl) (fun _ _ _ => id) (Or.inl ⟨by rfl, ?_⟩) (by assumption) ?_; rotate_left; (focus (intro wq hSq; go_simp <;> with_reducible rfl)); simp only [Act.put, pA, pB, pC]
          refine tkL 3 (v := ?_) rfl (by kernel_rfl) (fun _ _ _ => id) (Or.inl ⟨by rfl, ?_⟩) (by assumption) ?_; rotate_left; (focus (intro wq hSq; go_simp <;> with_reducible rfl)); simp only [Act.put, pA, pB, pC]
          refine wpAnyH_ready (rs := [4]) (by kernel_rfl) (by simp) (nextL 4 rfl (fun Kr hKr => ?_) AllReadyH.nil)
          rw [if_pos (by rfl)]
          go_simp
          refine hKr.out _ _ ⟨z2, z10, z14⟩ (fun _ => ?_)
          clear hKr
          refine tkL 5 (v := ?_) rfl (by kernel_rfl) (fun _ _ _ => id) (Or.inl ⟨by rfl, ?_⟩) (by assumption) ?_; rotate_left; (focus (intro wq hSq; go_simp <;> with_reducible rfl)); simp only [Act.put, pA, pB, pC]
          refine tkL 6 (v := ?_) rfl (by kernel_rfl) (fun _ _ _ => id) (Or.inl ⟨by rfl, ?_⟩) (by assumption) ?_; rotate_left; (focus (intro wq hSq; have f := HF.out wq hSq; go_simp <;> with_reducible rfl)); simp only [Act.put, pA, pB, pC]
          refine tkL 7 (v := ?_) rfl (by kernel_rfl) (fun _ _ _ => id) (Or.inl ⟨by rfl, ?_⟩) (by assumption) ?_; rotate_left; (focus (intro wq hSq; have f := HF.out wq hSq; go_simp <;> with_reducible rfl)); simp only [Act.put, pA, pB, pC]
          refine tkL 8 (v := ?_) rfl (by kernel_rfl) (fun _ _ _ => id) (Or.inl ⟨by rfl, ?_⟩) (by assumption) ?_; rotate_left; (focus (intro wq hSq; have f := HF.out wq hSq; go_simp <;> with_reducible rfl)); simp only [Act.put, pA, pB, pC]
          refine tkL 9 (v := ?_) rfl (by kernel_rfl) (fun _ _ _ => id) (Or.inl ⟨by rfl, ?_⟩) (by assumption) ?_; rotate_left; (focus (intro wq hSq; have f := HF.out wq hSq; go_simp <;> with_reducible rfl)); simp only [Act.put, pA, pB, pC]
          refine tkL 10 (v := ?_) rfl (by kernel_rfl) (fun _ _ _ => id) (Or.inl ⟨by rfl, ?_⟩) (by assumption) ?_; rotate_left; (focus (intro wq hSq; have f := HF.out wq hSq; go_simp <;> with_reducible rfl)); simp only [Act.put, pA, pB, pC]
          refine tkL 11 (v := ?_) rfl (by kernel_rfl) (fun _ _ _ => id) (Or.inl ⟨by rfl, ?_⟩) (by assumption) ?_; rotate_left; (focus (intro wq hSq; have f := HF.out wq hSq; go_simp <;> with_reducible rfl)); simp only [Act.put, pA, pB, pC]
          refine tkL 12 (v := ?_) rfl (by kernel_rfl) (fun _ _ _ => id) (Or.inl ⟨by rfl, ?_⟩) (by assumption) ?_; rotate_left; (focus (intro wq hSq; have f := HF.out wq hSq; go_simp <;> with_reducible rfl)); simp only [Act.put, pA, pB, pC]
          refine tkL 13 (v := ?_) rfl (by kernel_rfl) (fun _ _ _ => id) (Or.inl ⟨by rfl, ?_⟩) (by assumption) ?_; rotate_left; (focus (intro wq hSq; have f := HF.out wq hSq; go_simp <;> with_reducible rfl)); simp only [Act.put, pA, pB, pC]
          refine tkL 14 (v := ?_) rfl (by kernel_rfl) (fun _ _ _ => id) (Or.inl ⟨by rfl, ?_⟩) (by assumption) ?_; rotate_left; (focus (intro wq hSq; have f := HF.out wq hSq; go_simp <;> with_reducible rfl)); simp only [Act.put, pA, pB, pC]
          refine tkL 15 (v := ?_) rfl (by kernel_rfl) (fun _ _ _ => id) (Or.inl ⟨by rfl, ?_⟩) (by assumption) ?_; rotate_left; (focus (intro wq hSq; have f := HF.out wq hSq; go_simp <;> with_reducible rfl)); simp only [Act.put, pA, pB, pC]
          refine tkL 16 (v := ?_) rfl (by kernel_rfl) (fun _ _ _ => id) (Or.inl ⟨by rfl, ?_⟩) (by assumption) ?_; rotate_left; (focus (intro wq hSq; go_simp <;> with_reducible rfl)); simp only [Act.put, pA, pB, pC]
          refine tkL 17 (v := ?_) rfl (by kernel_rfl) (fun _ _ _ => id) (Or.inl ⟨by rfl, ?_⟩) (by assumption) ?_; rotate_left; (focus (intro wq hSq; go_simp <;> with_reducible rfl)); simp only [Act.put, pA, pB, pC]
          refine tkL 18 (v := ?_) rfl (by kernel_rfl) (fun _ _ _ => id) (Or.inl ⟨by rfl, ?_⟩) (by assumption) ?_; rotate_left; (focus (intro wq hSq; have f := HF.out wq hSq; go_simp <;> with_reducible rfl)); simp only [Act.put, pA, pB, pC]
          refine tkL 19 (v := ?_) rfl (by kernel_rfl) (fun _ _ _ => id) (Or.inl ⟨by rfl, ?_⟩) (by assumption) ?_; rotate_left; (focus (intro wq hSq; have f := HF.out wq hSq; go_simp <;> with_reducible rfl)); simp only [Act.put, pA, pB, pC]
          refine tkL 20 (v := ?_) rfl (by kernel_rfl) (fun _ _ _ => id) (Or.inl ⟨by rfl, ?_⟩) (by assumption) ?_; rotate_left; (focus (intro wq hSq; have f := HF.out wq hSq; go_simp <;> with_reducible rfl)); simp only [Act.put, pA, pB, pC]
          refine tkL 21 (v := ?_) rfl (by kernel_rfl) (fun _ _ _ => id) (Or.inl ⟨by rfl, ?_⟩) (by assumption) ?_; rotate_left; (focus (intro wq hSq; have f := HF.out wq hSq; go_simp <;> with_reducible rfl)); simp only [Act.put, pA, pB, pC]
          refine tkL 22 (v := ?_) rfl (by kernel_rfl) (fun _ _ _ => id) (Or.inl ⟨by rfl, ?_⟩) (by assumption) ?_; rotate_left; (focus (intro wq hSq; have f := HF.out wq hSq; go_simp <;> with_reducible rfl)); simp only [Act.put, pA, pB, pC]
          refine tkL 23 (v := ?_) rfl (by kernel_rfl) (fun _ _ _ => id) (Or.inl ⟨by rfl, ?_⟩) (by assumption) ?_; rotate_left; (focus (intro wq hSq; have f := HF.out wq hSq; go_simp <;> with_reducible rfl)); simp only [Act.put, pA, pB, pC]
          refine tkL 24 (v := ?_) rfl (by kernel_rfl) (fun _ _ _ => id) (Or.inl ⟨by rfl, ?_⟩) (by assumption) ?_; rotate_left; (focus (intro wq hSq; go_simp <;> with_reducible rfl)); simp only [Act.put, pA, pB, pC]
          refine tkL 25 (v := ?_) rfl (by kernel_rfl) (fun _ _ _ => id) (Or.inl ⟨by rfl, ?_⟩) (by assumption) ?_; rotate_left; (focus (intro wq hSq; go_simp <;> with_reducible rfl)); simp only [Act.put, pA, pB, pC]
          refine tkL 26 (v := ?_) rfl (by kernel_rfl) (fun _ _ _ => id) (Or.inl ⟨by rfl, ?_⟩) (by assumption) ?_; rotate_left; (focus (intro wq hSq; go_simp <;> with_reducible rfl)); simp only [Act.put, pA, pB, pC]
          refine wpAnyH_ready (rs := [27]) (by kernel_rfl) (by simp) (nextL 27 rfl (fun Kr hKr => ?_) AllReadyH.nil)
          rw [if_pos (by rfl)]
          go_simp
          refine hKr.out _ _ (SV.out _) (fun _ => ?_)
          refine wpAnyH_done (by kernel_rfl) ?_ _
          clear hKr hHeld z1 z2 z4 z4f z10 z14 y1 y2 hp hs6
          go_wp2_with fail
          go_roundw
          case rel => exact ⟨k + 1, by omega, by go_num, by have := HV.out.1; rw [← hkk, d1, d2] at this; exact this, by have := HV.out.2; rw [← hkk, d1, d2] at this; exact this⟩
          case measure => simp [intOf]; omega
        · refine wp_region_held_drew (S := fun wq => wq.cell? ⟨p, 2, none⟩ = some (.int .i64 tn) ∧ wq.cell? ⟨g, k * 15 + 10, none⟩ = some (.int .i64 pa) ∧ wq.cell? ⟨g, k * 15 + 14, none⟩ = some (.int .i64 pat)) (by kernel_rfl) (by rw [HZ.out]; exact ⟨z2, z10, z14⟩) (fun hHeld => ?_)
          rw [HZ.out] at hHeld ⊢
          refine tkL 0 (v := ?_) rfl (by kernel_rfl) (fun _ _ _ => id) (Or.inl ⟨by rfl, ?_⟩) (by assumption) ?_; rotate_left; (focus (intro wq hSq; go_simp <;> with_reducible rfl)); simp only [Act.put, pA, pB, pC]
          refine tkL 1 (v := ?_) rfl (by kernel_rfl) (fun _ _ _ => id) (Or.inl ⟨by rfl, ?_⟩) (by assumption) ?_; rotate_left; (focus (intro wq hSq; go_simp <;> with_reducible rfl)); simp only [Act.put, pA, pB, pC]
          refine tkL 2 (v := ?_) rfl (by kernel_rfl) (fun _ _ _ => id) (Or.inl ⟨by rfl, ?_⟩) (by assumption) ?_; rotate_left; (focus (intro wq hSq; go_simp <;> with_reducible rfl)); simp only [Act.put, pA, pB, pC]
          refine tkL 3 (v := ?_) rfl (by kernel_rfl) (fun _ _ _ => id) (Or.inl ⟨by rfl, ?_⟩) (by assumption) ?_; rotate_left; (focus (intro wq hSq; go_simp <;> with_reducible rfl)); simp only [Act.put, pA, pB, pC]
          refine wpAnyH_ready (rs := [4]) (by kernel_rfl) (by simp) (nextL 4 rfl (fun Kr hKr => ?_) AllReadyH.nil)
          rw [if_pos (by rfl)]
          go_simp
          refine hKr.out _ _ ⟨z2, z10, z14⟩ (fun _ => ?_)
          clear hKr
          refine tkL 5 (v := ?_) rfl (by kernel_rfl) (fun _ _ _ => id) (Or.inl ⟨by rfl, ?_⟩) (by assumption) ?_; rotate_left; (focus (intro wq hSq; go_simp <;> with_reducible rfl)); simp only [Act.put, pA, pB, pC]
          refine tkL 6 (v := ?_) rfl (by kernel_rfl) (fun _ _ _ => id) (Or.inl ⟨by rfl, ?_⟩) (by assumption) ?_; rotate_left; (focus (intro wq hSq; have f := HF.out wq hSq; go_simp <;> with_reducible rfl)); simp only [Act.put, pA, pB, pC]
          refine tkL 7 (v := ?_) rfl (by kernel_rfl) (fun _ _ _ => id) (Or.inl ⟨by rfl, ?_⟩) (by assumption) ?_; rotate_left; (focus (intro wq hSq; have f := HF.out wq hSq; go_simp <;> with_reducible rfl)); simp only [Act.put, pA, pB, pC]
          refine tkL 8 (v := ?_) rfl (by kernel_rfl) (fun _ _ _ => id) (Or.inl ⟨by rfl, ?_⟩) (by assumption) ?_; rotate_left; (focus (intro wq hSq; have f := HF.out wq hSq; go_simp <;> with_reducible rfl)); simp only [Act.put, pA, pB, pC]
          refine tkL 9 (v := ?_) rfl (by kernel_rfl) (fun _ _ _ => id) (Or.inl ⟨by rfl, ?_⟩) (by assumption) ?_; rotate_left; (focus (intro wq hSq; have f := HF.out wq hSq; go_simp <;> with_reducible rfl)); simp only [Act.put, pA, pB, pC]
          refine tkL 10 (v := ?_) rfl (by kernel_rfl) (fun _ _ _ => id) (Or.inl ⟨by rfl, ?_⟩) (by assumption) ?_; rotate_left; (focus (intro wq hSq; have f := HF.out wq hSq; go_simp <;> with_reducible rfl)); simp only [Act.put, pA, pB, pC]
          refine tkL 11 (v := ?_) rfl (by kernel_rfl) (fun _ _ _ => id) (Or.inl ⟨by rfl, ?_⟩) (by assumption) ?_; rotate_left; (focus (intro wq hSq; have f := HF.out wq hSq; go_simp <;> with_reducible rfl)); simp only [Act.put, pA, pB, pC]
          refine tkL 12 (v := ?_) rfl (by kernel_rfl) (fun _ _ _ => id) (Or.inl ⟨by rfl, ?_⟩) (by assumption) ?_; rotate_left; (focus (intro wq hSq; have f := HF.out wq hSq; go_simp <;> with_reducible rfl)); simp only [Act.put, pA, pB, pC]
          refine tkL 13 (v := ?_) rfl (by kernel_rfl) (fun _ _ _ => id) (Or.inl ⟨by rfl, ?_⟩) (by assumption) ?_; rotate_left; (focus (intro wq hSq; have f := HF.out wq hSq; go_simp <;> with_reducible rfl)); simp only [Act.put, pA, pB, pC]
          refine tkL 14 (v := ?_) rfl (by kernel_rfl) (fun _ _ _ => id) (Or.inl ⟨by rfl, ?_⟩) (by assumption) ?_; rotate_left; (focus (intro wq hSq; have f := HF.out wq hSq; go_simp <;> with_reducible rfl)); simp only [Act.put, pA, pB, pC]
          refine tkL 15 (v := ?_) rfl (by kernel_rfl) (fun _ _ _ => id) (Or.inl ⟨by rfl, ?_⟩) (by assumption) ?_; rotate_left; (focus (intro wq hSq; have f := HF.out wq hSq; go_simp <;> with_reducible rfl)); simp only [Act.put, pA, pB, pC]
          refine tkL 16 (v := ?_) rfl (by kernel_rfl) (fun _ _ _ => id) (Or.inl ⟨by rfl, ?_⟩) (by assumption) ?_; rotate_left; (focus (intro wq hSq; go_simp <;> with_reducible rfl)); simp only [Act.put, pA, pB, pC]
          refine tkL 17 (v := ?_) rfl (by kernel_rfl) (fun _ _ _ => id) (Or.inl ⟨by rfl, ?_⟩) (by assumption) ?_; rotate_left; (focus (intro wq hSq; go_simp <;> with_reducible rfl)); simp only [Act.put, pA, pB, pC]
          refine tkL 18 (v := ?_) rfl (by kernel_rfl) (fun _ _ _ => id) (Or.inl ⟨by rfl, ?_⟩) (by assumption) ?_; rotate_left; (focus (intro wq hSq; have f := HF.out wq hSq; go_simp <;> with_reducible rfl)); simp only [Act.put, pA, pB, pC]
          refine tkL 19 (v := ?_) rfl (by kernel_rfl) (fun _ _ _ => id) (Or.inl ⟨by rfl, ?_⟩) (by assumption) ?_; rotate_left; (focus (intro wq hSq; have f := HF.out wq hSq; go_simp <;> with_reducible rfl)); simp only [Act.put, pA, pB, pC]
          refine tkL 20 (v := ?_) rfl (by kernel_rfl) (fun _ _ _ => id) (Or.inl ⟨by rfl, ?_⟩) (by assumption) ?_; rotate_left; (focus (intro wq hSq; have f := HF.out wq hSq; go_simp <;> with_reducible rfl)); simp only [Act.put, pA, pB, pC]
          refine tkL 21 (v := ?_) rfl (by kernel_rfl) (fun _ _ _ => id) (Or.inl ⟨by rfl, ?_⟩) (by assumption) ?_; rotate_left; (focus (intro wq hSq; have f := HF.out wq hSq; go_simp <;> with_reducible rfl)); simp only [Act.put, pA, pB, pC]
          refine tkL 22 (v := ?_) rfl (by kernel_rfl) (fun _ _ _ => id) (Or.inl ⟨by rfl, ?_⟩) (by assumption) ?_; rotate_left; (focus (intro wq hSq; have f := HF.out wq hSq; go_simp <;> with_reducible rfl)); simp only [Act.put, pA, pB, pC]
          refine tkL 23 (v := ?_) rfl (by kernel_rfl) (fun _ _ _ => id) (Or.inl ⟨by rfl, ?_⟩) (by assumption) ?_; rotate_left; (focus (intro wq hSq; have f := HF.out wq hSq; go_simp <;> with_reducible rfl)); simp only [Act.put, pA, pB, pC]
          refine tkL 24 (v := ?_) rfl (by kernel_rfl) (fun _ _ _ => id) (Or.inl ⟨by rfl, ?_⟩) (by assumption) ?_; rotate_left; (focus (intro wq hSq; go_simp <;> with_reducible rfl)); simp only [Act.put, pA, pB, pC]
          refine tkL 25 (v := ?_) rfl (by kernel_rfl) (fun _ _ _ => id) (Or.inl ⟨by rfl, ?_⟩) (by assumption) ?_; rotate_left; (focus (intro wq hSq; go_simp <;> with_reducible rfl)); simp only [Act.put, pA, pB, pC]
          refine tkL 26 (v := ?_) rfl (by kernel_rfl) (fun _ _ _ => id) (Or.inl ⟨by rfl, ?_⟩) (by assumption) ?_; rotate_left; (focus (intro wq hSq; go_simp <;> with_reducible rfl)); simp only [Act.put, pA, pB, pC]
          refine wpAnyH_ready (rs := [27]) (by kernel_rfl) (by simp) (nextL 27 rfl (fun Kr hKr => ?_) AllReadyH.nil)
          rw [if_pos (by rfl)]
          go_simp
          refine hKr.out _ _ (SV.out _) (fun _ => ?_)
          refine wpAnyH_done (by kernel_rfl) ?_ _
          clear hKr hHeld z1 z2 z4 z4f z10 z14 y1 y2 hp hs6
          go_wp2_with fail
          go_roundw
          case rel => exact ⟨k + 1, by omega, by go_num, by have := HV.out.1; rw [← hkk, d1, d2] at this; exact this, by have := HV.out.2; rw [← hkk, d1, d2] at this; exact this⟩
          case measure => simp [intOf]; omega
  · obtain rfl : k = n := by omega
    go_wp2_with fail
    go_end0
    refine ⟨rfl, ?_, HTU.out⟩
    have := HTR.out
    rw [← HN.out, part_all] at this
    exact this

theorem infoHeard : (Tryz.prog.info? 266).map (fun i => (i.zero, i.size, i.bytes)) = some (some (.agg #[.bool false, .int .u64 0, .int .i64 0, .int .u64 0, .int .i64 0, .int .i64 0]), 6, 48) := by kernel_rfl
theorem drop1_ok {now : Int} {p : Prt} (h : PrtOk p) : PrtOk (drop1 now p) := ⟨h.cost, h.since, h.at_, h.age⟩
theorem TreeAt.cells {w : World} {p g cap : Nat} {t : Tre} (h : TreeAt w p g cap t) {k : Nat} (hk : k < t.ports.length) {q : Prt} (hq : t.ports[k] = q) :
 (w.cell? ⟨g, k * 15, none⟩ = some (.int .i64 q.cost) ∧ w.cell? ⟨g, k * 15 + 1, none⟩ = some (.int .i64 q.role) ∧ w.cell? ⟨g, k * 15 + 2, none⟩ = some (.int .i64 q.since) ∧ w.cell? ⟨g, k * 15 + 3, none⟩ = some (.bool q.up) ∧ w.cell? ⟨g, k * 15 + 4, none⟩ = some (.bool q.keeps) ∧ w.cell? ⟨g, k * 15 + 5, none⟩ = some (.bool q.fwd)) ∧
 (w.cell? ⟨g, k * 15 + 6, none⟩ = some (.int .u64 q.kept.v.root) ∧ w.cell? ⟨g, k * 15 + 7, none⟩ = some (.int .i64 q.kept.v.cost) ∧ w.cell? ⟨g, k * 15 + 8, none⟩ = some (.int .u64 q.kept.v.bridge) ∧ w.cell? ⟨g, k * 15 + 9, none⟩ = some (.int .i64 q.kept.v.port)) ∧
 (w.cell? ⟨g, k * 15 + 10, none⟩ = some (.int .i64 q.kept.age) ∧ w.cell? ⟨g, k * 15 + 11, none⟩ = some (.bool q.kept.change) ∧ w.cell? ⟨g, k * 15 + 12, none⟩ = some (.bool q.kept.learn) ∧ w.cell? ⟨g, k * 15 + 13, none⟩ = some (.bool q.kept.fwd) ∧ w.cell? ⟨g, k * 15 + 14, none⟩ = some (.int .i64 q.at_)) ∧
 (∀ j, j < 15 → w.frozen? ⟨g, k * 15 + j, none⟩ = false) := by
 obtain ⟨_, _, hc⟩ := h.facts
 have e := fun j (hj : j < 15) => hc k hk j hj
 rw [hq] at e
 have f := fun j (hj : j < 15) => (e j hj).1
 exact ⟨⟨f 0 (by decide), f 1 (by decide), f 2 (by decide), f 3 (by decide), f 4 (by decide), f 5 (by decide)⟩, ⟨f 6 (by decide), f 7 (by decide), f 8 (by decide), f 9 (by decide)⟩, ⟨f 10 (by decide), f 11 (by decide), f 12 (by decide), f 13 (by decide), f 14 (by decide)⟩, fun j hj => (e j hj).2⟩
theorem TreeAt.boxc {w : World} {p g cap : Nat} {t : Tre} (h : TreeAt w p g cap t) : CBox w p 143 #[.int .u64 t.bridge, .slice (some ⟨g, 0, none⟩) t.ports.length cap, .int .i64 t.now, .int .i64 t.root, .int .i64 t.change, .int .u64 t.best.root, .int .i64 t.best.cost, .int .u64 t.best.bridge, .int .i64 t.best.port] := h.1
theorem TreeAt.best {w : World} {p g cap : Nat} {t : Tre} (h : TreeAt w p g cap t) (r : Int) (v : Vec) : TreeAt (((((w.setCell ⟨p, 3, none⟩ (.int .i64 r)).setCell ⟨p, 5, none⟩ (.int .u64 v.root)).setCell ⟨p, 6, none⟩ (.int .i64 v.cost)).setCell ⟨p, 7, none⟩ (.int .u64 v.bridge)).setCell ⟨p, 8, none⟩ (.int .i64 v.port)) p g cap { t with root := r, best := v } ∧
 Turn (tfoot p g) w (((((w.setCell ⟨p, 3, none⟩ (.int .i64 r)).setCell ⟨p, 5, none⟩ (.int .u64 v.root)).setCell ⟨p, 6, none⟩ (.int .i64 v.cost)).setCell ⟨p, 7, none⟩ (.int .u64 v.bridge)).setCell ⟨p, 8, none⟩ (.int .i64 v.port)) := by
 obtain ⟨a1, a2⟩ := h.box 3 (.int .i64 r) { t with root := r } rfl rfl
 obtain ⟨b1, b2⟩ := a1.box 5 (.int .u64 v.root) { t with root := r, best := { t.best with root := v.root } } rfl rfl
 obtain ⟨c1, c2⟩ := b1.box 6 (.int .i64 v.cost) { t with root := r, best := { t.best with root := v.root, cost := v.cost } } rfl rfl
 obtain ⟨d1, d2⟩ := c1.box 7 (.int .u64 v.bridge) { t with root := r, best := { t.best with root := v.root, cost := v.cost, bridge := v.bridge } } rfl rfl
 obtain ⟨e1, e2⟩ := d1.box 8 (.int .i64 v.port) { t with root := r, best := v } rfl rfl
 exact ⟨e1, (((a2.trans b2).trans c2).trans d2).trans e2⟩

theorem int_row {w : World} {base : Nat} {v : Value} {L : List Int} (h : w.ownsRow base 3 1 v L.length (L.map (Value.int .i64))) : ∃ g, (∀ k, k < L.length → ∀ w', (Instr.indexAt 23 v (.int .i64 k)).run Tryz.prog w' = .ok (.pointer (some ⟨g, k, none⟩)) w') ∧
 (∀ k, (hk : k < L.length) → base ≤ g ∧ g < w.heap.size ∧ v.ownBlock = some g ∧ w.cell? ⟨g, k, none⟩ = some (.int .i64 L[k])) := by
 have hf : ∀ L : List Int, (L.map (Value.int .i64)) = L.flatMap (fun x => [Value.int .i64 x]) := fun L => by
  induction L with
  | nil => rfl
  | cons a l ih => rw [List.map_cons, List.flatMap_cons, ih]; rfl
 rw [hf] at h
 obtain ⟨g, _, h2, h3⟩ := gfacts (cell := fun x => [Value.int .i64 x]) Tryz.underlying23 (fun w => by kernel_rfl) (fun _ => rfl) h
 refine ⟨g, fun k hk w' => by have := h2 k hk w'; rwa [Nat.mul_one] at this, fun k hk => ?_⟩
 obtain ⟨a, b, c, d⟩ := h3 k hk
 have := (d 0 (by decide)).1
 rw [show L.getD k default = L[k] from by simp [List.getD_eq_getElem?_getD, hk], Nat.mul_one, Nat.add_zero] at this
 exact ⟨a, b, c, this⟩
theorem TreeAt.port2 {w : World} {p g cap : Nat} {t : Tre} {L : List Prt} {k i : Nat} {y0 : Prt} (h : TreeAt w p g cap { t with ports := L.set k y0 }) (hk : k < L.length) (hi : i < 15) (x : Value) (y : Prt) (hy : pcell y = (pcell y0).set i x) :
 TreeAt (w.setCell ⟨g, k * 15 + i, none⟩ x) p g cap { t with ports := L.set k y } ∧ Turn (tfoot p g) w (w.setCell ⟨g, k * 15 + i, none⟩ x) := by
 have := h.port (k := k) (i := i) (by dsimp only; rw [List.length_set]; exact hk) hi x y (by dsimp only; rw [List.getElem_set_self]; exact hy)
 dsimp only at this
 rwa [List.set_set] at this
def spart (now : Int) (P : List Prt) (R : List Int) (k : Nat) : List Prt := settle2 now (P.take k) (R.take k) ++ P.drop k
theorem settle2_len (now : Int) (P : List Prt) (R : List Int) : (settle2 now P R).length = min P.length R.length := by simp [settle2]
theorem spart_len (now : Int) {P : List Prt} {R : List Int} (hR : R.length = P.length) {k : Nat} (hk : k ≤ P.length) : (spart now P R k).length = P.length := by
 unfold spart
 rw [List.length_append, settle2_len, List.length_take, List.length_take, List.length_drop, hR]
 omega
theorem spart_at (now : Int) {P : List Prt} {R : List Int} (hR : R.length = P.length) {k : Nat} (h : k < P.length) : (spart now P R k)[k]'(by rw [spart_len now hR (by omega)]; exact h) = P[k] := by
 unfold spart
 have hl : (settle2 now (P.take k) (R.take k)).length = k := by rw [settle2_len, List.length_take, List.length_take, hR]; omega
 rw [List.getElem_append_right (by omega)]
 simp [hl]
theorem spart_set (now : Int) {P : List Prt} {R : List Int} (hR : R.length = P.length) {k : Nat} (h : k < P.length) : (spart now P R k).set k (set1 now (R[k]'(by omega)) P[k]) = spart now P R (k + 1) := by
 have hl : (settle2 now (P.take k) (R.take k)).length = k := by rw [settle2_len, List.length_take, List.length_take, hR]; omega
 have e : settle2 now (P.take (k + 1)) (R.take (k + 1)) = settle2 now (P.take k) (R.take k) ++ [set1 now (R[k]'(by omega)) P[k]] := by
  unfold settle2
  rw [List.take_succ_eq_append_getElem h, List.take_succ_eq_append_getElem (show k < R.length by omega), List.zip_append (by rw [List.length_take, List.length_take, hR]), List.map_append]
  rfl
 unfold spart
 rw [e, List.set_append_right _ _ (by omega), hl, Nat.sub_self, List.append_assoc, List.drop_eq_getElem_cons h]
 rfl
theorem spart_zero (now : Int) (P : List Prt) (R : List Int) : spart now P R 0 = P := by simp [spart, settle2]
theorem spart_all (now : Int) {P : List Prt} {R : List Int} (hR : R.length = P.length) : spart now P R P.length = settle2 now P R := by
 unfold spart
 rw [List.take_length, List.drop_length, List.append_nil, ← hR, List.take_length]
theorem began_snoc (now : Int) {P : List Prt} {R : List Int} (hR : R.length = P.length) {k : Nat} (h : k < P.length) : began now (P.take (k + 1)) (R.take (k + 1)) = (began now (P.take k) (R.take k) || ((set1 now (R[k]'(by omega)) P[k]).fwd && !P[k].fwd)) := by
 unfold began
 rw [List.take_succ_eq_append_getElem h, List.take_succ_eq_append_getElem (show k < R.length by omega), List.zip_append (by rw [List.length_take, List.length_take, hR]), List.any_append]
 simp

theorem TreeAt.box2 {w : World} {p g cap k : Nat} {u : Tre} {L : List Prt} {y : Prt} (h : TreeAt w p g cap { u with ports := L.set k y }) : CBox w p 143 #[.int .u64 u.bridge, .slice (some ⟨g, 0, none⟩) L.length cap, .int .i64 u.now, .int .i64 u.root, .int .i64 u.change, .int .u64 u.best.root, .int .i64 u.best.cost, .int .u64 u.best.bridge, .int .i64 u.best.port] := by
 have := h.boxc
 dsimp only at this
 rwa [List.length_set] at this
theorem TreeAt.cells2 {w : World} {p g cap k : Nat} {u : Tre} {L : List Prt} {y : Prt} (h : TreeAt w p g cap { u with ports := L.set k y }) (hk : k < L.length) :
 (w.cell? ⟨g, k * 15 + 1, none⟩ = some (.int .i64 y.role) ∧ w.cell? ⟨g, k * 15 + 2, none⟩ = some (.int .i64 y.since) ∧ w.cell? ⟨g, k * 15 + 3, none⟩ = some (.bool y.up) ∧ w.cell? ⟨g, k * 15 + 5, none⟩ = some (.bool y.fwd)) ∧
 (w.frozen? ⟨g, k * 15 + 1, none⟩ = false ∧ w.frozen? ⟨g, k * 15 + 2, none⟩ = false ∧ w.frozen? ⟨g, k * 15 + 5, none⟩ = false) := by
 obtain ⟨⟨_, c1, c2, c3, _, c5⟩, _, _, cf⟩ := h.cells (k := k) (by dsimp only; rw [List.length_set]; exact hk) (q := y) (by dsimp only; rw [List.getElem_set_self])
 exact ⟨⟨c1, c2, c3, c5⟩, cf 1 (by decide), cf 2 (by decide), cf 5 (by decide)⟩

set_option maxHeartbeats 16000000 in
theorem tsettle_any (p g cap : Nat) (t : Tre) (w : World) (h : TreeAt w p g cap t) (ok : TreOk t) :
 Calls Tryz.prog 95 #[.pointer (some ⟨p, 0, none⟩)] w (RetTree w p g cap t.settle) := by
 obtain ⟨i0, hi0, hz0, hz1, hz2⟩ := info_parts23 infoHeard
 have HD := Lib.hid (tdrop_any p g cap t w h ok)
 obtain ⟨P, hP⟩ : ∃ P, t.ports.map (drop1 t.now) = P := ⟨_, rfl⟩
 have HSE := Lib.hid (show t.settle = { t with ports := settle2 t.now P (proles t.bridge (P.map hrd)), root := (pbest t.bridge (P.map hrd)).1, best := (pbest t.bridge (P.map hrd)).2, change := if began t.now P (proles t.bridge (P.map hrd)) then t.now else t.change } from by
  unfold Tre.settle Tre.drop
  dsimp only
  rw [hP])
 have hPL : P.length = t.ports.length := by rw [← hP, List.length_map]
 have HPO := Lib.hid (show ∀ x ∈ P, PrtOk x from fun x hx => by
  rw [← hP] at hx
  obtain ⟨y, hy, rfl⟩ := List.mem_map.1 hx
  exact drop1_ok (ok.ports y hy))
 have hn16 : P.length ≤ 16 := by rw [hPL]; exact ok.len.2
 have hdr : t.drop = { t with ports := P } := by unfold Tre.drop; rw [hP]
 rw [hdr] at HD
 have HNW := Lib.hid ok.now
 clear h ok hPL hdr hP
 go_enter Tryz.func95, Tryz.ntmps95
 go_upto_region 1 with ((with_reducible refine HD.out.mono ?_); rintro e w1 ⟨rfl, ht1, hu1⟩; have HT1 := Lib.hid ht1; have HU1 := Lib.hid hu1; clear ht1 hu1)
 obtain ⟨hlen, hidx, _⟩ := HT1.out.facts
 have hbx := HT1.out.boxc
 dsimp only at hlen hidx hbx
 obtain ⟨x1, _⟩ := hbx.at_ 1 _ rfl
 have HIX := Lib.hid hidx
 clear hidx hbx HD
 go_wp2_with fail
 go_loopw [2, 16] (fun r i wr => ∃ k, k ≤ P.length ∧ i = .int .i64 (k : Nat) ∧ wr.ownsRow w1.heap.size 266 6 r k (((P.take k).map hrd).flatMap hcell) ∧ Below w1.heap.size w1 wr) (fun _ i _ => P.length - (intOf i).toNat)
 case atStart => exact ⟨0, Nat.zero_le _, rfl, World.ownsRow_nil _ _ _ _, Below.refl _ _⟩
 case round =>
  obtain ⟨k, hk, rfl, hrow, hb⟩ := hrel
  have HRW := Lib.hid hrow; have HB := Lib.hid hb
  clear hrow hb x1
  by_cases hlt : k < P.length
  · have hp := HIX.out k hlt
    obtain ⟨⟨pc, pr, ps, pu, pk, pf, ⟨⟨vr, vc, vb, vp⟩, pa, p11, p12, p13⟩, pat⟩, hq⟩ : ∃ x, x = P[k] := ⟨_, rfl⟩
    obtain ⟨⟨c0, c1, c2, c3, c4, c5⟩, ⟨c6, c7, c8, c9⟩, ⟨c10, c11, c12, c13, c14⟩, _⟩ := (HT1.out.below HB.out).cells (k := k) hlt (q := ⟨pc, pr, ps, pu, pk, pf, ⟨⟨vr, vc, vb, vp⟩, pa, p11, p12, p13⟩, pat⟩) hq.symm
    dsimp only at c0 c1 c2 c3 c4 c5 c6 c7 c8 c9 c10 c11 c12 c13 c14
    have HSN := Lib.hid (show ((P.take (k + 1)).map hrd).flatMap hcell = ((P.take k).map hrd).flatMap hcell ++ [.bool (pu && pk), .int .u64 vr, .int .i64 vc, .int .u64 vb, .int .i64 vp, .int .i64 pc] from by
     rw [List.take_succ_eq_append_getElem hlt, List.map_append, List.flatMap_append, ← hq]
     rfl)
    clear hq
    go_upto_region 5 with fail
    obtain ⟨W3, hW3⟩ : ∃ W, wr.alloc (.cells #[.int .i64 pc, .int .i64 pr, .int .i64 ps, .bool pu, .bool pk, .bool pf, .int .u64 vr, .int .i64 vc, .int .u64 vb, .int .i64 vp, .int .i64 pa, .bool p11, .bool p12, .bool p13, .int .i64 pat] 145) = W := ⟨_, rfl⟩
    obtain ⟨pb, hpb⟩ : ∃ n, wr.heap.size = n := ⟨_, rfl⟩
    have hb3 : Below wr.heap.size wr W3 := by rw [← hW3]; exact (Below.refl _ _).alloc (Nat.le_refl _) _
    have X4 := Lib.hid (show CBox W3 pb 145 #[.int .i64 pc, .int .i64 pr, .int .i64 ps, .bool pu, .bool pk, .bool pf, .int .u64 vr, .int .i64 vc, .int .u64 vb, .int .i64 vp, .int .i64 pa, .bool p11, .bool p12, .bool p13, .int .i64 pat] from by rw [← hW3]; exact CBox.new _ hpb.symm)
    have R3 := Lib.hid (gown_bel HRW.out hb3); have B3 := Lib.hid (HB.out.trans (hb3.mono HB.out.size))
    rw [hW3, hpb]
    clear hW3 hpb hb3 c0 c1 c2 c3 c4 c5 c6 c7 c8 c9 c10 c11 c12 c13 c14 hp HRW HB
    obtain ⟨x0, xf0⟩ := CBox.at_ X4.out 0 _ rfl
    obtain ⟨x1, xf1⟩ := CBox.at_ X4.out 1 _ rfl
    obtain ⟨x2, xf2⟩ := CBox.at_ X4.out 2 _ rfl
    obtain ⟨x3, xf3⟩ := CBox.at_ X4.out 3 _ rfl
    obtain ⟨x4, xf4⟩ := CBox.at_ X4.out 4 _ rfl
    obtain ⟨x5, xf5⟩ := CBox.at_ X4.out 5 _ rfl
    obtain ⟨x6, xf6⟩ := CBox.at_ X4.out 6 _ rfl
    obtain ⟨x7, xf7⟩ := CBox.at_ X4.out 7 _ rfl
    obtain ⟨x8, xf8⟩ := CBox.at_ X4.out 8 _ rfl
    obtain ⟨x9, xf9⟩ := CBox.at_ X4.out 9 _ rfl
    obtain ⟨x10, xf10⟩ := CBox.at_ X4.out 10 _ rfl
    obtain ⟨x11, xf11⟩ := CBox.at_ X4.out 11 _ rfl
    obtain ⟨x12, xf12⟩ := CBox.at_ X4.out 12 _ rfl
    obtain ⟨x13, xf13⟩ := CBox.at_ X4.out 13 _ rfl
    obtain ⟨x14, xf14⟩ := CBox.at_ X4.out 14 _ rfl
    cases pu
    · have T1 := Lib.hid (R3.out.alloc (.cells #[.bool false, .int .u64 vr, .int .i64 vc, .int .u64 vb, .int .i64 vp, .int .i64 pc] 266))
      have T2 := Lib.hid (sliceOf_block (size := 6) (m := 1) (c := 1) (heap_new W3 (.cells #[.bool false, .int .u64 vr, .int .i64 vc, .int .u64 vb, .int .i64 vp, .int .i64 pc] 266) _ rfl) rfl (by simp [Value.oneCell']))
      have T3 := Lib.hid (show w1.heap.size ≤ (W3.alloc (.cells #[.bool false, .int .u64 vr, .int .i64 vc, .int .u64 vb, .int .i64 vp, .int .i64 pc] 266)).heap.size from by have := B3.out.size; rw [World.size_alloc]; omega)
      have T4 := Lib.hid (show Below w1.heap.size w1 (W3.alloc (.cells #[.bool false, .int .u64 vr, .int .i64 vc, .int .u64 vb, .int .i64 vp, .int .i64 pc] 266)) from B3.out.alloc B3.out.size _)
      go_wp2_with (at_builtin; refine wpList_append_vals _ rfl _ _ 264 rfl w1.heap.size 266 i0 _ 6 48 Tryz.underlying264 hi0 hz0 hz1 hz2 rfl (by decide) _ k (((P.take k).map hrd).flatMap hcell) rfl T1.out _ 1 [.bool false, .int .u64 vr, .int .i64 vc, .int .u64 vb, .int .i64 vp, .int .i64 pc] rfl T2.out (by unfold maxLen; omega) (by omega) T3.out ?_; intro v' w7 ho hg hv; have H7 := Lib.hid (And.intro ho hg); clear ho hg hv)
      go_roundw
      case rel => exact ⟨k + 1, by omega, by go_num, by rw [HSN.out]; exact H7.out.1, below_own T4.out T1.out (Nat.le_refl _) T3.out H7.out.2⟩
      case measure => simp [intOf]; omega
    · have T1 := Lib.hid (R3.out.alloc (.cells #[.bool pk, .int .u64 vr, .int .i64 vc, .int .u64 vb, .int .i64 vp, .int .i64 pc] 266))
      have T2 := Lib.hid (sliceOf_block (size := 6) (m := 1) (c := 1) (heap_new W3 (.cells #[.bool pk, .int .u64 vr, .int .i64 vc, .int .u64 vb, .int .i64 vp, .int .i64 pc] 266) _ rfl) rfl (by simp [Value.oneCell']))
      have T3 := Lib.hid (show w1.heap.size ≤ (W3.alloc (.cells #[.bool pk, .int .u64 vr, .int .i64 vc, .int .u64 vb, .int .i64 vp, .int .i64 pc] 266)).heap.size from by have := B3.out.size; rw [World.size_alloc]; omega)
      have T4 := Lib.hid (show Below w1.heap.size w1 (W3.alloc (.cells #[.bool pk, .int .u64 vr, .int .i64 vc, .int .u64 vb, .int .i64 vp, .int .i64 pc] 266)) from B3.out.alloc B3.out.size _)
      go_wp2_with (at_builtin; refine wpList_append_vals _ rfl _ _ 264 rfl w1.heap.size 266 i0 _ 6 48 Tryz.underlying264 hi0 hz0 hz1 hz2 rfl (by decide) _ k (((P.take k).map hrd).flatMap hcell) rfl T1.out _ 1 [.bool pk, .int .u64 vr, .int .i64 vc, .int .u64 vb, .int .i64 vp, .int .i64 pc] rfl T2.out (by unfold maxLen; omega) (by omega) T3.out ?_; intro v' w7 ho hg hv; have H7 := Lib.hid (And.intro ho hg); clear ho hg hv)
      go_roundw
      case rel => exact ⟨k + 1, by omega, by go_num, by rw [HSN.out]; exact H7.out.1, below_own T4.out T1.out (Nat.le_refl _) T3.out H7.out.2⟩
      case measure => simp [intOf]; omega
  · obtain rfl : k = P.length := by omega
    have HL := Lib.hid (show (P.take P.length).map hrd = P.map hrd from by rw [List.take_length])
    rw [HL.out] at HRW
    have hrl : (P.map hrd).length = P.length := by simp
    have HOKL := Lib.hid (show ∀ x ∈ P.map hrd, hrdOk x from fun x hx => by
     obtain ⟨y, hy, rfl⟩ := List.mem_map.1 hx
     have := (HPO.out y hy).cost
     unfold hrdOk hrd
     dsimp only
     omega)
    have HBE := Lib.hid (best_any t.bridge u2 (P.map hrd) w1.heap.size wr (by rw [hrl]; exact HRW.out) (by rw [hrl]; omega) HOKL.out)
    obtain ⟨R, hR⟩ : ∃ R, proles t.bridge (P.map hrd) = R := ⟨_, rfl⟩
    have HRL := Lib.hid (show R.length = P.length from by rw [← hR, proles_len, hrl])
    have HRO := Lib.hid (fun W hW => roles_any t.bridge u2 (P.map hrd) w1.heap.size W (by rw [hrl]; exact hW) (by rw [hrl]; omega) HOKL.out)
    rw [hR] at HRO HSE
    obtain ⟨⟨bp, ⟨br, bc, bb, bo⟩⟩, hps⟩ : ∃ s, pbest t.bridge (P.map hrd) = s := ⟨_, rfl⟩
    rw [hps] at HBE HSE
    unfold RetBest vagg at HBE
    dsimp only at HBE HSE
    have TR := Lib.hid (HT1.out.below HB.out)
    obtain ⟨z0, _⟩ := TR.out.boxc.at_ 0 _ rfl
    have HTF := Lib.hid (fun (w5 : World) (h5 : Below wr.heap.size wr w5) => (TR.out.below h5).boxc)
    clear hR hps hrl HOKL hlen
    go_upto_region 8 with ((with_reducible refine HBE.out.mono ?_); rintro e w5 ⟨rfl, hb5⟩; have H5 := Lib.hid hb5; obtain ⟨y3, yf3⟩ := (HTF.out w5 hb5).at_ 3 _ rfl; obtain ⟨y5, yf5⟩ := (HTF.out w5 hb5).at_ 5 _ rfl; obtain ⟨y6, yf6⟩ := (HTF.out w5 hb5).at_ 6 _ rfl; obtain ⟨y7, yf7⟩ := (HTF.out w5 hb5).at_ 7 _ rfl; obtain ⟨y8, yf8⟩ := (HTF.out w5 hb5).at_ 8 _ rfl; clear hb5)
    obtain ⟨V, hV⟩ : ∃ W, ((((w5.setCell ⟨p, 3, none⟩ (.int .i64 bp)).setCell ⟨p, 5, none⟩ (.int .u64 br)).setCell ⟨p, 6, none⟩ (.int .i64 bc)).setCell ⟨p, 7, none⟩ (.int .u64 bb)).setCell ⟨p, 8, none⟩ (.int .i64 bo) = W := ⟨_, rfl⟩
    obtain ⟨v1, v2⟩ := (TR.out.below H5.out).best bp ⟨br, bc, bb, bo⟩
    dsimp only at v1 v2
    rw [hV] at v1 v2 ⊢
    have TV := Lib.hid v1
    have UV := Lib.hid (((HU1.out.after HB.out).after H5.out).trans v2)
    have hlt1 := HT1.out.lt
    have RV := Lib.hid (v2.row (gown_bel HRW.out H5.out) (fun g' hg' hf => by
     have := (own_type HRW.out hg').1
     rcases hf with rfl | rfl <;> omega))
    clear hV v1 v2 z0 y3 yf3 y5 yf5 y6 yf6 y7 yf7 y8 yf8 hlt1 HBE HTF TR
    obtain ⟨z0, _⟩ := TV.out.boxc.at_ 0 _ rfl
    have HR2 := Lib.hid (HRO.out V RV.out)
    go_upto_region 9 with ((with_reducible refine HR2.out.mono ?_); rintro e w8 ⟨ru, rfl, hru, hb8⟩; obtain ⟨ro, rc, hrs⟩ := own_form hru; rw [HRL.out] at hrs; subst hrs; have H8 := Lib.hid (And.intro hru hb8); clear hru hb8)
    obtain ⟨tn, htn⟩ : ∃ x, t.now = x := ⟨_, rfl⟩
    obtain ⟨rg, hri, hrc⟩ := int_row H8.out.1
    have hlen2 := fun ty w' => run_len_any (P := Tryz.prog) Tryz.underlying23 ro P.length rc ty w'
    have HRI := Lib.hid hri; have HRC := Lib.hid hrc
    have T8 := Lib.hid (TV.out.below H8.out.2)
    have hpg := TV.out.lt
    have HPG := Lib.hid hpg
    have HTN := Lib.hid htn
    clear hri hrc hpg z0 HRO HR2 RV HRW HB
    go_wp2_with fail
    go_loopw [58] (fun i wr => ∃ k ch, k ≤ P.length ∧ i = .int .i64 (k : Nat) ∧ ch = (if began tn (P.take k) (R.take k) then tn else t.change) ∧ TreeAt wr p g cap { t with ports := spart tn P R k, root := bp, best := ⟨br, bc, bb, bo⟩, change := ch } ∧ Turn (tfoot p g) w8 wr) (fun i _ => P.length - (intOf i).toNat)
    case atStart => exact ⟨0, t.change, Nat.zero_le _, rfl, by simp [began], by rw [spart_zero]; exact T8.out, Turn.refl _ _⟩
    case round =>
     obtain ⟨k, ch, hk, rfl, hch, ht, hu⟩ := hrel
     have HCH := Lib.hid hch; have HTR := Lib.hid ht; have HU := Lib.hid hu
     clear hch ht hu
     by_cases hlt : k < P.length
     · have hkR : k < R.length := by rw [HRL.out]; exact hlt
       obtain ⟨hr1, hr2, hr3, hr4⟩ := HRC.out k hkR
       have hp2 := HRI.out k hkR
       have d0 : wr.cell? ⟨rg, k, none⟩ = some (.int .i64 R[k]) := by
        rw [World.cell?_of_block (a := ⟨rg, k, none⟩) (HU.out.block rg hr2 (fun hf => by have := HPG.out; rcases hf with rfl | rfl <;> omega))]
        exact hr4
       have HSET := Lib.hid (spart_set tn HRL.out hlt)
       have HBS := Lib.hid (began_snoc tn HRL.out hlt)
       have hat := spart_at tn HRL.out hlt
       have hsl := spart_len tn HRL.out (k := k) (by omega)
       have HRGN := Lib.hid (HPO.out _ (List.getElem_mem hlt)).since
       obtain ⟨rk, hrk⟩ : ∃ r, R[k] = r := ⟨_, rfl⟩
       obtain ⟨⟨pc, pr, ps, pu, pk, pf, ke, pat⟩, hq⟩ : ∃ x, P[k] = x := ⟨_, rfl⟩
       obtain ⟨L, hL⟩ : ∃ L, spart tn P R k = L := ⟨_, rfl⟩
       rw [hq] at HSET HBS HRGN
       rw [hrk] at HSET HBS d0
       simp only [hL] at hat hsl HSET
       rw [hq] at hat
       obtain ⟨u, hu⟩ : ∃ u : Tre, { t with root := bp, best := ⟨br, bc, bb, bo⟩, change := ch } = u := ⟨_, rfl⟩
       have HKL := Lib.hid (show k < L.length from by rw [hsl]; exact hlt)
       have HTK := Lib.hid (show TreeAt wr p g cap { u with ports := L.set k ⟨pc, pr, ps, pu, pk, pf, ke, pat⟩ } from by
        rw [← hu, ← hat, List.set_getElem_self]
        have := HTR.out
        rw [hL] at this
        exact this)
       have HUN := Lib.hid (show u.now = tn ∧ L.length = P.length from ⟨by rw [← hu]; exact HTN.out, hsl⟩)
       have HUU := Lib.hid (show ∀ (W : World) (L' : List Prt), TreeAt W p g cap { u with ports := L' } → TreeAt W p g cap { t with ports := L', root := bp, best := ⟨br, bc, bb, bo⟩, change := ch } from fun W L' h => by rw [← hu] at h; exact h)
       have HUC := Lib.hid (show ∀ (W : World) (L' : List Prt), TreeAt W p g cap { u with ports := L', change := tn } → TreeAt W p g cap { t with ports := L', root := bp, best := ⟨br, bc, bb, bo⟩, change := tn } from fun W L' h => by rw [← hu] at h; exact h)
       have HRG := Lib.hid (show (-1 ≤ ps ∧ ps ≤ 1099511627776) ∧ 0 ≤ tn ∧ tn ≤ 1099511627776 from ⟨HRGN.out, by rw [← HTN.out]; exact HNW.out⟩)
       have hp := HIX.out k hlt
       obtain ⟨b1, _⟩ := HTK.out.box2.at_ 1 _ rfl
       rw [HUN.out.2] at b1
       clear hr1 hr2 hr3 hr4 hat hrk hq hL hu HTR HRGN
       obtain ⟨⟨c1, c2, c3, c5⟩, f1, f2, f5⟩ := HTK.out.cells2 HKL.out
       dsimp only at c1 c2 c3 c5
       go_upto_region 13 with fail
       obtain ⟨V1, hV⟩ : ∃ W, wr.setCell ⟨g, k * 15 + 1, none⟩ (.int .i64 rk) = W := ⟨_, rfl⟩
       obtain ⟨q1, q2⟩ := TreeAt.port2 (t := u) HTK.out HKL.out (show 1 < 15 by decide) (.int .i64 rk) ⟨pc, rk, ps, pu, pk, pf, ke, pat⟩ rfl
       rw [hV] at q1 q2 ⊢
       have HTA := Lib.hid q1; replace HU := Lib.hid (HU.out.trans q2)
       clear hV q1 q2
       clear c1 c2 c3 c5 f1 f2 f5
       obtain ⟨⟨c1, c2, c3, c5⟩, f1, f2, f5⟩ := HTA.out.cells2 HKL.out
       dsimp only at c1 c2 c3 c5
       cases pu
       · have HAC := Lib.hid (fun (W : World) (h : W.cell? ⟨g, k * 15 + 1, none⟩ = some (.int .i64 0)) => active_any g (k * 15) 0 W h)
         rw [show (((0 : Int) == 1) || ((0 : Int) == 2)) = false from rfl] at HAC
         go_upto_region 15 with fail
         obtain ⟨V2, hV⟩ : ∃ W, V1.setCell ⟨g, k * 15 + 1, none⟩ (.int .i64 0) = W := ⟨_, rfl⟩
         obtain ⟨q1, q2⟩ := TreeAt.port2 (t := u) HTA.out HKL.out (show 1 < 15 by decide) (.int .i64 0) ⟨pc, 0, ps, false, pk, pf, ke, pat⟩ rfl
         rw [hV] at q1 q2 ⊢
         have HTB := Lib.hid q1; replace HU := Lib.hid (HU.out.trans q2)
         clear hV q1 q2
         clear c1 c2 c3 c5 f1 f2 f5
         obtain ⟨⟨c1, c2, c3, c5⟩, f1, f2, f5⟩ := HTB.out.cells2 HKL.out
         dsimp only at c1 c2 c3 c5
         go_upto_region 19 with ((with_reducible refine (HAC.out V2 c1).mono ?_); rintro e wz ⟨rfl, hwz⟩; subst wz)
         obtain ⟨V3, hV⟩ : ∃ W, V2.setCell ⟨g, k * 15 + 2, none⟩ (.int .i64 (-1)) = W := ⟨_, rfl⟩
         obtain ⟨q1, q2⟩ := TreeAt.port2 (t := u) HTB.out HKL.out (show 2 < 15 by decide) (.int .i64 (-1)) ⟨pc, 0, (-1), false, pk, pf, ke, pat⟩ rfl
         rw [hV] at q1 q2 ⊢
         have HTC := Lib.hid q1; replace HU := Lib.hid (HU.out.trans q2)
         clear hV q1 q2
         clear c1 c2 c3 c5 f1 f2 f5
         obtain ⟨⟨c1, c2, c3, c5⟩, f1, f2, f5⟩ := HTC.out.cells2 HKL.out
         dsimp only at c1 c2 c3 c5
         go_upto_region 20 with fail
         obtain ⟨Z, hZ⟩ : ∃ W, V3.drew = W := ⟨_, rfl⟩
         have hbz : Below V3.heap.size V3 Z := by rw [← hZ]; exact Below.drew (Below.refl _ _)
         have HTZ := Lib.hid (HTC.out.below hbz); have HZ := Lib.hid hZ
         replace HU := Lib.hid (HU.out.after hbz)
         clear c1 c2 c3 c5 f1 f2 f5 hZ hbz
         obtain ⟨⟨c1, c2, c3, c5⟩, f1, f2, f5⟩ := HTZ.out.cells2 HKL.out
         dsimp only at c1 c2 c3 c5
         obtain ⟨b2, _⟩ := HTZ.out.box2.at_ 2 _ rfl
         rw [HUN.out.1] at b2
         have HF := Lib.hid (fun (wq : World) (h : wq.cell? ⟨p, 2, none⟩ = some (.int .i64 tn) ∧ wq.cell? ⟨g, k * 15 + 2, none⟩ = some (.int .i64 (-1))) => h)
         refine wp_region_held_drew (S := fun wq => wq.cell? ⟨p, 2, none⟩ = some (.int .i64 tn) ∧ wq.cell? ⟨g, k * 15 + 2, none⟩ = some (.int .i64 (-1))) (by kernel_rfl) (by rw [HZ.out]; exact ⟨b2, c2⟩) (fun hHeld => ?_)
         rw [HZ.out] at hHeld ⊢
         refine tkL 0 (v := ?_) rfl (by kernel_rfl) (fun _ _ _ => id) (Or.inl ⟨by rfl, ?_⟩) (by assumption) ?_; rotate_left; (focus (intro wq hSq; go_simp <;> with_reducible rfl)); simp only [Act.put, pA, pB, pC]
         refine tkL 1 (v := ?_) rfl (by kernel_rfl) (fun _ _ _ => id) (Or.inl ⟨by rfl, ?_⟩) (by assumption) ?_; rotate_left; (focus (intro wq hSq; go_simp <;> with_reducible rfl)); simp only [Act.put, pA, pB, pC]
         refine wpAnyH_ready (rs := [2]) (by kernel_rfl) (by simp) (nextL 2 rfl (fun Kr hKr => ?_) AllReadyH.nil)
         rw [if_pos (by rfl)]
         go_simp
         refine (HAC.out Z c1).mono ?_
         rintro e wz ⟨rfl, hwz⟩
         subst wz
         refine hKr.out _ _ ⟨b2, c2⟩ (fun _ => ?_)
         clear hKr
         refine tkL 3 (v := ?_) rfl (by kernel_rfl) (fun _ _ _ => id) (Or.inl ⟨by rfl, ?_⟩) (by assumption) ?_; rotate_left; (focus (intro wq hSq; go_simp <;> with_reducible rfl)); simp only [Act.put, pA, pB, pC]
         refine tkL 4 (v := undef) rfl (by kernel_rfl) (fun _ _ _ h => h) (Or.inr ⟨by rfl, rfl⟩) (by assumption) ?_; simp only [Act.put, pA, pB, pC]
         refine tkL 5 (v := undef) rfl (by kernel_rfl) (fun _ _ _ h => h) (Or.inr ⟨by rfl, rfl⟩) (by assumption) ?_; simp only [Act.put, pA, pB, pC]
         refine tkL 6 (v := undef) rfl (by kernel_rfl) (fun _ _ _ h => h) (Or.inr ⟨by rfl, rfl⟩) (by assumption) ?_; simp only [Act.put, pA, pB, pC]
         refine tkL 7 (v := undef) rfl (by kernel_rfl) (fun _ _ _ h => h) (Or.inr ⟨by rfl, rfl⟩) (by assumption) ?_; simp only [Act.put, pA, pB, pC]
         refine tkL 8 (v := undef) rfl (by kernel_rfl) (fun _ _ _ h => h) (Or.inr ⟨by rfl, rfl⟩) (by assumption) ?_; simp only [Act.put, pA, pB, pC]
         refine tkL 9 (v := undef) rfl (by kernel_rfl) (fun _ _ _ h => h) (Or.inr ⟨by rfl, rfl⟩) (by assumption) ?_; simp only [Act.put, pA, pB, pC]
         refine tkL 10 (v := undef) rfl (by kernel_rfl) (fun _ _ _ h => h) (Or.inr ⟨by rfl, rfl⟩) (by assumption) ?_; simp only [Act.put, pA, pB, pC]
         refine tkL 11 (v := undef) rfl (by kernel_rfl) (fun _ _ _ h => h) (Or.inr ⟨by rfl, rfl⟩) (by assumption) ?_; simp only [Act.put, pA, pB, pC]
         refine tkL 12 (v := undef) rfl (by kernel_rfl) (fun _ _ _ h => h) (Or.inr ⟨by rfl, rfl⟩) (by assumption) ?_; simp only [Act.put, pA, pB, pC]
         refine tkL 13 (v := undef) rfl (by kernel_rfl) (fun _ _ _ h => h) (Or.inr ⟨by rfl, rfl⟩) (by assumption) ?_; simp only [Act.put, pA, pB, pC]
         refine tkL 14 (v := ?_) rfl (by kernel_rfl) (fun _ _ _ => id) (Or.inl ⟨by rfl, ?_⟩) (by assumption) ?_; rotate_left; (focus (intro wq hSq; go_simp <;> with_reducible rfl)); simp only [Act.put, pA, pB, pC]
         refine tkL 15 (v := ?_) rfl (by kernel_rfl) (fun _ _ _ => id) (Or.inl ⟨by rfl, ?_⟩) (by assumption) ?_; rotate_left; (focus (intro wq hSq; go_simp <;> with_reducible rfl)); simp only [Act.put, pA, pB, pC]
         refine tkL 16 (v := ?_) rfl (by kernel_rfl) (fun _ _ _ => id) (Or.inl ⟨by rfl, ?_⟩) (by assumption) ?_; rotate_left; (focus (intro wq hSq; go_simp <;> with_reducible rfl)); simp only [Act.put, pA, pB, pC]
         refine wpAnyH_ready (rs := [17]) (by kernel_rfl) (by simp) (nextL 17 rfl (fun Kr hKr => ?_) AllReadyH.nil)
         rw [if_pos (by rfl)]
         go_simp
         obtain ⟨V4, hV⟩ : ∃ W, Z.setCell ⟨g, k * 15 + 5, none⟩ (.bool false) = W := ⟨_, rfl⟩
         obtain ⟨q1, q2⟩ := TreeAt.port2 (t := u) HTZ.out HKL.out (show 5 < 15 by decide) (.bool false) ⟨pc, 0, (-1), false, pk, false, ke, pat⟩ rfl
         rw [hV] at q1 q2 ⊢
         have HT4 := Lib.hid q1; replace HU := Lib.hid (HU.out.trans q2)
         obtain ⟨⟨e1, e2, e3, e5⟩, _⟩ := q1.cells2 HKL.out
         dsimp only at e1 e2 e3 e5
         obtain ⟨g2, _⟩ := q1.box2.at_ 2 _ rfl
         rw [HUN.out.1] at g2
         refine hKr.out _ _ ⟨g2, e2⟩ (fun _ => ?_)
         refine wpAnyH_done (by kernel_rfl) ?_ _
         clear hKr hV q1 q2 hHeld b2 c1 c2 c3 c5 f1 f2 f5
         have HY := Lib.hid (show set1 tn rk ⟨pc, pr, ps, false, pk, pf, ke, pat⟩ = ⟨pc, 0, (-1), false, pk, false, ke, pat⟩ from by unfold set1; simp)
         go_wp2_with fail
         go_roundw
         case rel => exact ⟨k + 1, ch, by omega, by go_num, by rw [HBS.out, HY.out]; simp [HCH.out.symm], by rw [← HSET.out, HY.out]; exact HUU.out _ _ HT4.out, HU.out⟩
         case measure => simp [intOf]; omega
       · have HAC := Lib.hid (fun (W : World) (h : W.cell? ⟨g, k * 15 + 1, none⟩ = some (.int .i64 rk)) => active_any g (k * 15) rk W h)
         cases ha : ((rk == 1) || (rk == 2))
         · rw [ha] at HAC
           have HA := Lib.hid ha
           clear ha
           go_upto_region 19 with ((with_reducible refine (HAC.out V1 c1).mono ?_); rintro e wz ⟨rfl, hwz⟩; subst wz)
           obtain ⟨V2, hV⟩ : ∃ W, V1.setCell ⟨g, k * 15 + 2, none⟩ (.int .i64 (-1)) = W := ⟨_, rfl⟩
           obtain ⟨q1, q2⟩ := TreeAt.port2 (t := u) HTA.out HKL.out (show 2 < 15 by decide) (.int .i64 (-1)) ⟨pc, rk, (-1), true, pk, pf, ke, pat⟩ rfl
           rw [hV] at q1 q2 ⊢
           have HTB := Lib.hid q1; replace HU := Lib.hid (HU.out.trans q2)
           clear hV q1 q2
           clear c1 c2 c3 c5 f1 f2 f5
           obtain ⟨⟨c1, c2, c3, c5⟩, f1, f2, f5⟩ := HTB.out.cells2 HKL.out
           dsimp only at c1 c2 c3 c5
           go_upto_region 20 with fail
           obtain ⟨Z, hZ⟩ : ∃ W, V2.drew = W := ⟨_, rfl⟩
           have hbz : Below V2.heap.size V2 Z := by rw [← hZ]; exact Below.drew (Below.refl _ _)
           have HTZ := Lib.hid (HTB.out.below hbz); have HZ := Lib.hid hZ
           replace HU := Lib.hid (HU.out.after hbz)
           clear c1 c2 c3 c5 f1 f2 f5 hZ hbz
           obtain ⟨⟨c1, c2, c3, c5⟩, f1, f2, f5⟩ := HTZ.out.cells2 HKL.out
           dsimp only at c1 c2 c3 c5
           obtain ⟨b2, _⟩ := HTZ.out.box2.at_ 2 _ rfl
           rw [HUN.out.1] at b2
           have HF := Lib.hid (fun (wq : World) (h : wq.cell? ⟨p, 2, none⟩ = some (.int .i64 tn) ∧ wq.cell? ⟨g, k * 15 + 2, none⟩ = some (.int .i64 (-1))) => h)
           refine wp_region_held_drew (S := fun wq => wq.cell? ⟨p, 2, none⟩ = some (.int .i64 tn) ∧ wq.cell? ⟨g, k * 15 + 2, none⟩ = some (.int .i64 (-1))) (by kernel_rfl) (by rw [HZ.out]; exact ⟨b2, c2⟩) (fun hHeld => ?_)
           rw [HZ.out] at hHeld ⊢
           refine tkL 0 (v := ?_) rfl (by kernel_rfl) (fun _ _ _ => id) (Or.inl ⟨by rfl, ?_⟩) (by assumption) ?_; rotate_left; (focus (intro wq hSq; go_simp <;> with_reducible rfl)); simp only [Act.put, pA, pB, pC]
           refine tkL 1 (v := ?_) rfl (by kernel_rfl) (fun _ _ _ => id) (Or.inl ⟨by rfl, ?_⟩) (by assumption) ?_; rotate_left; (focus (intro wq hSq; go_simp <;> with_reducible rfl)); simp only [Act.put, pA, pB, pC]
           refine wpAnyH_ready (rs := [2]) (by kernel_rfl) (by simp) (nextL 2 rfl (fun Kr hKr => ?_) AllReadyH.nil)
           rw [if_pos (by rfl)]
           go_simp
           refine (HAC.out Z c1).mono ?_
           rintro e wz ⟨rfl, hwz⟩
           subst wz
           refine hKr.out _ _ ⟨b2, c2⟩ (fun _ => ?_)
           clear hKr
           refine tkL 3 (v := ?_) rfl (by kernel_rfl) (fun _ _ _ => id) (Or.inl ⟨by rfl, ?_⟩) (by assumption) ?_; rotate_left; (focus (intro wq hSq; go_simp <;> with_reducible rfl)); simp only [Act.put, pA, pB, pC]
           refine tkL 4 (v := undef) rfl (by kernel_rfl) (fun _ _ _ h => h) (Or.inr ⟨by rfl, rfl⟩) (by assumption) ?_; simp only [Act.put, pA, pB, pC]
           refine tkL 5 (v := undef) rfl (by kernel_rfl) (fun _ _ _ h => h) (Or.inr ⟨by rfl, rfl⟩) (by assumption) ?_; simp only [Act.put, pA, pB, pC]
           refine tkL 6 (v := undef) rfl (by kernel_rfl) (fun _ _ _ h => h) (Or.inr ⟨by rfl, rfl⟩) (by assumption) ?_; simp only [Act.put, pA, pB, pC]
           refine tkL 7 (v := undef) rfl (by kernel_rfl) (fun _ _ _ h => h) (Or.inr ⟨by rfl, rfl⟩) (by assumption) ?_; simp only [Act.put, pA, pB, pC]
           refine tkL 8 (v := undef) rfl (by kernel_rfl) (fun _ _ _ h => h) (Or.inr ⟨by rfl, rfl⟩) (by assumption) ?_; simp only [Act.put, pA, pB, pC]
           refine tkL 9 (v := undef) rfl (by kernel_rfl) (fun _ _ _ h => h) (Or.inr ⟨by rfl, rfl⟩) (by assumption) ?_; simp only [Act.put, pA, pB, pC]
           refine tkL 10 (v := undef) rfl (by kernel_rfl) (fun _ _ _ h => h) (Or.inr ⟨by rfl, rfl⟩) (by assumption) ?_; simp only [Act.put, pA, pB, pC]
           refine tkL 11 (v := undef) rfl (by kernel_rfl) (fun _ _ _ h => h) (Or.inr ⟨by rfl, rfl⟩) (by assumption) ?_; simp only [Act.put, pA, pB, pC]
           refine tkL 12 (v := undef) rfl (by kernel_rfl) (fun _ _ _ h => h) (Or.inr ⟨by rfl, rfl⟩) (by assumption) ?_; simp only [Act.put, pA, pB, pC]
           refine tkL 13 (v := undef) rfl (by kernel_rfl) (fun _ _ _ h => h) (Or.inr ⟨by rfl, rfl⟩) (by assumption) ?_; simp only [Act.put, pA, pB, pC]
           refine tkL 14 (v := ?_) rfl (by kernel_rfl) (fun _ _ _ => id) (Or.inl ⟨by rfl, ?_⟩) (by assumption) ?_; rotate_left; (focus (intro wq hSq; go_simp <;> with_reducible rfl)); simp only [Act.put, pA, pB, pC]
           refine tkL 15 (v := ?_) rfl (by kernel_rfl) (fun _ _ _ => id) (Or.inl ⟨by rfl, ?_⟩) (by assumption) ?_; rotate_left; (focus (intro wq hSq; go_simp <;> with_reducible rfl)); simp only [Act.put, pA, pB, pC]
           refine tkL 16 (v := ?_) rfl (by kernel_rfl) (fun _ _ _ => id) (Or.inl ⟨by rfl, ?_⟩) (by assumption) ?_; rotate_left; (focus (intro wq hSq; go_simp <;> with_reducible rfl)); simp only [Act.put, pA, pB, pC]
           refine wpAnyH_ready (rs := [17]) (by kernel_rfl) (by simp) (nextL 17 rfl (fun Kr hKr => ?_) AllReadyH.nil)
           rw [if_pos (by rfl)]
           go_simp
           obtain ⟨V4, hV⟩ : ∃ W, Z.setCell ⟨g, k * 15 + 5, none⟩ (.bool false) = W := ⟨_, rfl⟩
           obtain ⟨q1, q2⟩ := TreeAt.port2 (t := u) HTZ.out HKL.out (show 5 < 15 by decide) (.bool false) ⟨pc, rk, (-1), true, pk, false, ke, pat⟩ rfl
           rw [hV] at q1 q2 ⊢
           have HT4 := Lib.hid q1; replace HU := Lib.hid (HU.out.trans q2)
           obtain ⟨⟨e1, e2, e3, e5⟩, _⟩ := q1.cells2 HKL.out
           dsimp only at e1 e2 e3 e5
           obtain ⟨g2, _⟩ := q1.box2.at_ 2 _ rfl
           rw [HUN.out.1] at g2
           refine hKr.out _ _ ⟨g2, e2⟩ (fun _ => ?_)
           refine wpAnyH_done (by kernel_rfl) ?_ _
           clear hKr hV q1 q2 hHeld b2 c1 c2 c3 c5 f1 f2 f5
           have HY := Lib.hid (show set1 tn rk ⟨pc, pr, ps, true, pk, pf, ke, pat⟩ = ⟨pc, rk, (-1), true, pk, false, ke, pat⟩ from by unfold set1; simp [HA.out])
           go_wp2_with fail
           go_roundw
           case rel => exact ⟨k + 1, ch, by omega, by go_num, by rw [HBS.out, HY.out]; simp [HCH.out.symm], by rw [← HSET.out, HY.out]; exact HUU.out _ _ HT4.out, HU.out⟩
           case measure => simp [intOf]; omega
         · rw [ha] at HAC
           have HA := Lib.hid ha
           clear ha
           cases hps : (ps == -1)
           · have HPS := Lib.hid hps
             go_upto_region 19 with ((with_reducible refine (HAC.out V1 c1).mono ?_); rintro e wz ⟨rfl, hwz⟩; subst wz)
             clear hps
             clear c1 c2 c3 c5 f1 f2 f5
             obtain ⟨⟨c1, c2, c3, c5⟩, f1, f2, f5⟩ := HTA.out.cells2 HKL.out
             dsimp only at c1 c2 c3 c5
             go_upto_region 20 with fail
             obtain ⟨Z, hZ⟩ : ∃ W, V1.drew = W := ⟨_, rfl⟩
             have hbz : Below V1.heap.size V1 Z := by rw [← hZ]; exact Below.drew (Below.refl _ _)
             have HTZ := Lib.hid (HTA.out.below hbz); have HZ := Lib.hid hZ
             replace HU := Lib.hid (HU.out.after hbz)
             clear c1 c2 c3 c5 f1 f2 f5 hZ hbz
             obtain ⟨⟨c1, c2, c3, c5⟩, f1, f2, f5⟩ := HTZ.out.cells2 HKL.out
             dsimp only at c1 c2 c3 c5
             obtain ⟨b2, _⟩ := HTZ.out.box2.at_ 2 _ rfl
             rw [HUN.out.1] at b2
             have HF := Lib.hid (fun (wq : World) (h : wq.cell? ⟨p, 2, none⟩ = some (.int .i64 tn) ∧ wq.cell? ⟨g, k * 15 + 2, none⟩ = some (.int .i64 ps)) => h)
             refine wp_region_held_drew (S := fun wq => wq.cell? ⟨p, 2, none⟩ = some (.int .i64 tn) ∧ wq.cell? ⟨g, k * 15 + 2, none⟩ = some (.int .i64 ps)) (by kernel_rfl) (by rw [HZ.out]; exact ⟨b2, c2⟩) (fun hHeld => ?_)
             rw [HZ.out] at hHeld ⊢
             refine tkL 0 (v := ?_) rfl (by kernel_rfl) (fun _ _ _ => id) (Or.inl ⟨by rfl, ?_⟩) (by assumption) ?_; rotate_left; (focus (intro wq hSq; go_simp <;> with_reducible rfl)); simp only [Act.put, pA, pB, pC]
             refine tkL 1 (v := ?_) rfl (by kernel_rfl) (fun _ _ _ => id) (Or.inl ⟨by rfl, ?_⟩) (by assumption) ?_; rotate_left; (focus (intro wq hSq; go_simp <;> with_reducible rfl)); simp only [Act.put, pA, pB, pC]
             refine wpAnyH_ready (rs := [2]) (by kernel_rfl) (by simp) (nextL 2 rfl (fun Kr hKr => ?_) AllReadyH.nil)
             rw [if_pos (by rfl)]
             go_simp
             refine (HAC.out Z c1).mono ?_
             rintro e wz ⟨rfl, hwz⟩
             subst wz
             refine hKr.out _ _ ⟨b2, c2⟩ (fun _ => ?_)
             clear hKr
             refine tkL 3 (v := ?_) rfl (by kernel_rfl) (fun _ _ _ => id) (Or.inl ⟨by rfl, ?_⟩) (by assumption) ?_; rotate_left; (focus (intro wq hSq; go_simp <;> with_reducible rfl)); simp only [Act.put, pA, pB, pC]
             have hsub : IntKind.i64.wrap (tn - ps) = tn - ps := by rw [IntKind.wrap_i64]; have := HRG.out; omega
             cases d30 : decide (30 ≤ tn - ps)
             · skip
               refine tkL 4 (v := ?_) rfl (by kernel_rfl) (fun _ _ _ => id) (Or.inl ⟨by rfl, ?_⟩) (by assumption) ?_; rotate_left; (focus (intro wq hSq; have f := HF.out wq hSq; go_simp <;> with_reducible rfl)); simp only [Act.put, pA, pB, pC]
               refine tkL 5 (v := ?_) rfl (by kernel_rfl) (fun _ _ _ => id) (Or.inl ⟨by rfl, ?_⟩) (by assumption) ?_; rotate_left; (focus (intro wq hSq; have f := HF.out wq hSq; go_simp <;> with_reducible rfl)); simp only [Act.put, pA, pB, pC]
               refine tkL 6 (v := ?_) rfl (by kernel_rfl) (fun _ _ _ => id) (Or.inl ⟨by rfl, ?_⟩) (by assumption) ?_; rotate_left; (focus (intro wq hSq; have f := HF.out wq hSq; go_simp <;> with_reducible rfl)); simp only [Act.put, pA, pB, pC]
               refine tkL 7 (v := ?_) rfl (by kernel_rfl) (fun _ _ _ => id) (Or.inl ⟨by rfl, ?_⟩) (by assumption) ?_; rotate_left; (focus (intro wq hSq; have f := HF.out wq hSq; go_simp <;> with_reducible rfl)); simp only [Act.put, pA, pB, pC]
               refine tkL 8 (v := ?_) rfl (by kernel_rfl) (fun _ _ _ => id) (Or.inl ⟨by rfl, ?_⟩) (by assumption) ?_; rotate_left; (focus (intro wq hSq; have f := HF.out wq hSq; go_simp <;> with_reducible rfl)); simp only [Act.put, pA, pB, pC]
               refine tkL 9 (v := ?_) rfl (by kernel_rfl) (fun _ _ _ => id) (Or.inl ⟨by rfl, ?_⟩) (by assumption) ?_; rotate_left; (focus (intro wq hSq; have f := HF.out wq hSq; go_simp <;> with_reducible rfl)); simp only [Act.put, pA, pB, pC]
               refine tkL 10 (v := ?_) rfl (by kernel_rfl) (fun _ _ _ => id) (Or.inl ⟨by rfl, ?_⟩) (by assumption) ?_; rotate_left; (focus (intro wq hSq; have f := HF.out wq hSq; go_simp <;> with_reducible rfl)); simp only [Act.put, pA, pB, pC]
               refine tkL 11 (v := ?_) rfl (by kernel_rfl) (fun _ _ _ => id) (Or.inl ⟨by rfl, ?_⟩) (by assumption) ?_; rotate_left; (focus (intro wq hSq; have f := HF.out wq hSq; go_simp <;> with_reducible rfl)); simp only [Act.put, pA, pB, pC]
               refine tkL 12 (v := ?_) rfl (by kernel_rfl) (fun _ _ _ => id) (Or.inl ⟨by rfl, ?_⟩) (by assumption) ?_; rotate_left; (focus (intro wq hSq; have f := HF.out wq hSq; go_simp <;> with_reducible rfl)); simp only [Act.put, pA, pB, pC]
               refine tkL 13 (v := ?_) rfl (by kernel_rfl) (fun _ _ _ => id) (Or.inl ⟨by rfl, ?_⟩) (by assumption) ?_; rotate_left; (focus (intro wq hSq; have f := HF.out wq hSq; go_simp <;> with_reducible rfl)); simp only [Act.put, pA, pB, pC]
               refine tkL 14 (v := ?_) rfl (by kernel_rfl) (fun _ _ _ => id) (Or.inl ⟨by rfl, ?_⟩) (by assumption) ?_; rotate_left; (focus (intro wq hSq; go_simp <;> with_reducible rfl)); simp only [Act.put, pA, pB, pC]
               refine tkL 15 (v := ?_) rfl (by kernel_rfl) (fun _ _ _ => id) (Or.inl ⟨by rfl, ?_⟩) (by assumption) ?_; rotate_left; (focus (intro wq hSq; go_simp <;> with_reducible rfl)); simp only [Act.put, pA, pB, pC]
               refine tkL 16 (v := ?_) rfl (by kernel_rfl) (fun _ _ _ => id) (Or.inl ⟨by rfl, ?_⟩) (by assumption) ?_; rotate_left; (focus (intro wq hSq; go_simp <;> with_reducible rfl)); simp only [Act.put, pA, pB, pC]
               refine wpAnyH_ready (rs := [17]) (by kernel_rfl) (by simp) (nextL 17 rfl (fun Kr hKr => ?_) AllReadyH.nil)
               rw [if_pos (by rfl)]
               go_simp
               obtain ⟨V4, hV⟩ : ∃ W, Z.setCell ⟨g, k * 15 + 5, none⟩ (.bool false) = W := ⟨_, rfl⟩
               obtain ⟨q1, q2⟩ := TreeAt.port2 (t := u) HTZ.out HKL.out (show 5 < 15 by decide) (.bool false) ⟨pc, rk, ps, true, pk, false, ke, pat⟩ rfl
               rw [hV] at q1 q2 ⊢
               have HT4 := Lib.hid q1; replace HU := Lib.hid (HU.out.trans q2)
               obtain ⟨⟨e1, e2, e3, e5⟩, _⟩ := q1.cells2 HKL.out
               dsimp only at e1 e2 e3 e5
               obtain ⟨g2, _⟩ := q1.box2.at_ 2 _ rfl
               rw [HUN.out.1] at g2
               refine hKr.out _ _ ⟨g2, e2⟩ (fun _ => ?_)
               refine wpAnyH_done (by kernel_rfl) ?_ _
               clear hKr hV q1 q2 hHeld b2 c1 c2 c3 c5 f1 f2 f5
               clear hsub
               have HY := Lib.hid (show set1 tn rk ⟨pc, pr, ps, true, pk, pf, ke, pat⟩ = ⟨pc, rk, ps, true, pk, false, ke, pat⟩ from by unfold set1; have h30 := d30; simp at h30; simp [HA.out, HPS.out] <;> omega)
               go_wp2_with fail
               go_roundw
               case rel => exact ⟨k + 1, ch, by omega, by go_num, by rw [HBS.out, HY.out]; simp [HCH.out.symm], by rw [← HSET.out, HY.out]; exact HUU.out _ _ HT4.out, HU.out⟩
               case measure => simp [intOf]; omega
             · skip
               refine tkL 4 (v := ?_) rfl (by kernel_rfl) (fun _ _ _ => id) (Or.inl ⟨by rfl, ?_⟩) (by assumption) ?_; rotate_left; (focus (intro wq hSq; have f := HF.out wq hSq; go_simp <;> with_reducible rfl)); simp only [Act.put, pA, pB, pC]
               refine tkL 5 (v := ?_) rfl (by kernel_rfl) (fun _ _ _ => id) (Or.inl ⟨by rfl, ?_⟩) (by assumption) ?_; rotate_left; (focus (intro wq hSq; have f := HF.out wq hSq; go_simp <;> with_reducible rfl)); simp only [Act.put, pA, pB, pC]
               refine tkL 6 (v := ?_) rfl (by kernel_rfl) (fun _ _ _ => id) (Or.inl ⟨by rfl, ?_⟩) (by assumption) ?_; rotate_left; (focus (intro wq hSq; have f := HF.out wq hSq; go_simp <;> with_reducible rfl)); simp only [Act.put, pA, pB, pC]
               refine tkL 7 (v := ?_) rfl (by kernel_rfl) (fun _ _ _ => id) (Or.inl ⟨by rfl, ?_⟩) (by assumption) ?_; rotate_left; (focus (intro wq hSq; have f := HF.out wq hSq; go_simp <;> with_reducible rfl)); simp only [Act.put, pA, pB, pC]
               refine tkL 8 (v := ?_) rfl (by kernel_rfl) (fun _ _ _ => id) (Or.inl ⟨by rfl, ?_⟩) (by assumption) ?_; rotate_left; (focus (intro wq hSq; have f := HF.out wq hSq; go_simp <;> with_reducible rfl)); simp only [Act.put, pA, pB, pC]
               refine tkL 9 (v := ?_) rfl (by kernel_rfl) (fun _ _ _ => id) (Or.inl ⟨by rfl, ?_⟩) (by assumption) ?_; rotate_left; (focus (intro wq hSq; have f := HF.out wq hSq; go_simp <;> with_reducible rfl)); simp only [Act.put, pA, pB, pC]
               refine tkL 10 (v := ?_) rfl (by kernel_rfl) (fun _ _ _ => id) (Or.inl ⟨by rfl, ?_⟩) (by assumption) ?_; rotate_left; (focus (intro wq hSq; have f := HF.out wq hSq; go_simp <;> with_reducible rfl)); simp only [Act.put, pA, pB, pC]
               refine tkL 11 (v := ?_) rfl (by kernel_rfl) (fun _ _ _ => id) (Or.inl ⟨by rfl, ?_⟩) (by assumption) ?_; rotate_left; (focus (intro wq hSq; have f := HF.out wq hSq; go_simp <;> with_reducible rfl)); simp only [Act.put, pA, pB, pC]
               refine tkL 12 (v := ?_) rfl (by kernel_rfl) (fun _ _ _ => id) (Or.inl ⟨by rfl, ?_⟩) (by assumption) ?_; rotate_left; (focus (intro wq hSq; have f := HF.out wq hSq; go_simp <;> with_reducible rfl)); simp only [Act.put, pA, pB, pC]
               refine tkL 13 (v := ?_) rfl (by kernel_rfl) (fun _ _ _ => id) (Or.inl ⟨by rfl, ?_⟩) (by assumption) ?_; rotate_left; (focus (intro wq hSq; have f := HF.out wq hSq; go_simp <;> with_reducible rfl)); simp only [Act.put, pA, pB, pC]
               refine tkL 14 (v := ?_) rfl (by kernel_rfl) (fun _ _ _ => id) (Or.inl ⟨by rfl, ?_⟩) (by assumption) ?_; rotate_left; (focus (intro wq hSq; go_simp <;> with_reducible rfl)); simp only [Act.put, pA, pB, pC]
               refine tkL 15 (v := ?_) rfl (by kernel_rfl) (fun _ _ _ => id) (Or.inl ⟨by rfl, ?_⟩) (by assumption) ?_; rotate_left; (focus (intro wq hSq; go_simp <;> with_reducible rfl)); simp only [Act.put, pA, pB, pC]
               refine tkL 16 (v := ?_) rfl (by kernel_rfl) (fun _ _ _ => id) (Or.inl ⟨by rfl, ?_⟩) (by assumption) ?_; rotate_left; (focus (intro wq hSq; go_simp <;> with_reducible rfl)); simp only [Act.put, pA, pB, pC]
               refine wpAnyH_ready (rs := [17]) (by kernel_rfl) (by simp) (nextL 17 rfl (fun Kr hKr => ?_) AllReadyH.nil)
               rw [if_pos (by rfl)]
               go_simp
               obtain ⟨V4, hV⟩ : ∃ W, Z.setCell ⟨g, k * 15 + 5, none⟩ (.bool true) = W := ⟨_, rfl⟩
               obtain ⟨q1, q2⟩ := TreeAt.port2 (t := u) HTZ.out HKL.out (show 5 < 15 by decide) (.bool true) ⟨pc, rk, ps, true, pk, true, ke, pat⟩ rfl
               rw [hV] at q1 q2 ⊢
               have HT4 := Lib.hid q1; replace HU := Lib.hid (HU.out.trans q2)
               obtain ⟨⟨e1, e2, e3, e5⟩, _⟩ := q1.cells2 HKL.out
               dsimp only at e1 e2 e3 e5
               obtain ⟨g2, _⟩ := q1.box2.at_ 2 _ rfl
               rw [HUN.out.1] at g2
               refine hKr.out _ _ ⟨g2, e2⟩ (fun _ => ?_)
               refine wpAnyH_done (by kernel_rfl) ?_ _
               clear hKr hV q1 q2 hHeld b2 c1 c2 c3 c5 f1 f2 f5
               clear hsub
               have HY := Lib.hid (show set1 tn rk ⟨pc, pr, ps, true, pk, pf, ke, pat⟩ = ⟨pc, rk, ps, true, pk, true, ke, pat⟩ from by unfold set1; have h30 := d30; simp at h30; simp [HA.out, HPS.out] <;> omega)
               cases pf
               · obtain ⟨b4, bf4⟩ := HT4.out.box2.at_ 4 _ rfl
                 obtain ⟨b2, _⟩ := HT4.out.box2.at_ 2 _ rfl
                 rw [HUN.out.1] at b2
                 go_upto_region 23 with fail
                 obtain ⟨V5, hV⟩ : ∃ W, V4.setCell ⟨p, 4, none⟩ (.int .i64 tn) = W := ⟨_, rfl⟩
                 obtain ⟨q1, q2⟩ := HT4.out.box 4 (.int .i64 tn) { u with ports := L.set k ⟨pc, rk, ps, true, pk, true, ke, pat⟩, change := tn } rfl rfl
                 rw [hV] at q1 q2 ⊢
                 have HT5 := Lib.hid q1; replace HU := Lib.hid (HU.out.trans q2)
                 clear hV q1 q2 b4 bf4 b2 g2 e1 e2 e3 e5
                 go_wp2_with fail
                 go_roundw
                 case rel => exact ⟨k + 1, tn, by omega, by go_num, by rw [HBS.out, HY.out]; simp, by rw [← HSET.out, HY.out]; exact HUC.out _ _ HT5.out, HU.out⟩
                 case measure => simp [intOf]; omega
               · go_wp2_with fail
                 go_roundw
                 case rel => exact ⟨k + 1, ch, by omega, by go_num, by rw [HBS.out, HY.out]; simp [HCH.out.symm], by rw [← HSET.out, HY.out]; exact HUU.out _ _ HT4.out, HU.out⟩
                 case measure => simp [intOf]; omega
           · have HPS := Lib.hid hps
             obtain ⟨b2, _⟩ := HTA.out.box2.at_ 2 _ rfl
             rw [HUN.out.1] at b2
             go_upto_region 19 with ((with_reducible refine (HAC.out V1 c1).mono ?_); rintro e wz ⟨rfl, hwz⟩; subst wz)
             clear hps b2
             obtain ⟨V2, hV⟩ : ∃ W, V1.setCell ⟨g, k * 15 + 2, none⟩ (.int .i64 tn) = W := ⟨_, rfl⟩
             obtain ⟨q1, q2⟩ := TreeAt.port2 (t := u) HTA.out HKL.out (show 2 < 15 by decide) (.int .i64 tn) ⟨pc, rk, tn, true, pk, pf, ke, pat⟩ rfl
             rw [hV] at q1 q2 ⊢
             have HTB := Lib.hid q1; replace HU := Lib.hid (HU.out.trans q2)
             clear hV q1 q2
             clear c1 c2 c3 c5 f1 f2 f5
             obtain ⟨⟨c1, c2, c3, c5⟩, f1, f2, f5⟩ := HTB.out.cells2 HKL.out
             dsimp only at c1 c2 c3 c5
             go_upto_region 20 with fail
             obtain ⟨Z, hZ⟩ : ∃ W, V2.drew = W := ⟨_, rfl⟩
             have hbz : Below V2.heap.size V2 Z := by rw [← hZ]; exact Below.drew (Below.refl _ _)
             have HTZ := Lib.hid (HTB.out.below hbz); have HZ := Lib.hid hZ
             replace HU := Lib.hid (HU.out.after hbz)
             clear c1 c2 c3 c5 f1 f2 f5 hZ hbz
             obtain ⟨⟨c1, c2, c3, c5⟩, f1, f2, f5⟩ := HTZ.out.cells2 HKL.out
             dsimp only at c1 c2 c3 c5
             obtain ⟨b2, _⟩ := HTZ.out.box2.at_ 2 _ rfl
             rw [HUN.out.1] at b2
             have HF := Lib.hid (fun (wq : World) (h : wq.cell? ⟨p, 2, none⟩ = some (.int .i64 tn) ∧ wq.cell? ⟨g, k * 15 + 2, none⟩ = some (.int .i64 tn)) => h)
             refine wp_region_held_drew (S := fun wq => wq.cell? ⟨p, 2, none⟩ = some (.int .i64 tn) ∧ wq.cell? ⟨g, k * 15 + 2, none⟩ = some (.int .i64 tn)) (by kernel_rfl) (by rw [HZ.out]; exact ⟨b2, c2⟩) (fun hHeld => ?_)
             rw [HZ.out] at hHeld ⊢
             refine tkL 0 (v := ?_) rfl (by kernel_rfl) (fun _ _ _ => id) (Or.inl ⟨by rfl, ?_⟩) (by assumption) ?_; rotate_left; (focus (intro wq hSq; go_simp <;> with_reducible rfl)); simp only [Act.put, pA, pB, pC]
             refine tkL 1 (v := ?_) rfl (by kernel_rfl) (fun _ _ _ => id) (Or.inl ⟨by rfl, ?_⟩) (by assumption) ?_; rotate_left; (focus (intro wq hSq; go_simp <;> with_reducible rfl)); simp only [Act.put, pA, pB, pC]
             refine wpAnyH_ready (rs := [2]) (by kernel_rfl) (by simp) (nextL 2 rfl (fun Kr hKr => ?_) AllReadyH.nil)
             rw [if_pos (by rfl)]
             go_simp
             refine (HAC.out Z c1).mono ?_
             rintro e wz ⟨rfl, hwz⟩
             subst wz
             refine hKr.out _ _ ⟨b2, c2⟩ (fun _ => ?_)
             clear hKr
             refine tkL 3 (v := ?_) rfl (by kernel_rfl) (fun _ _ _ => id) (Or.inl ⟨by rfl, ?_⟩) (by assumption) ?_; rotate_left; (focus (intro wq hSq; go_simp <;> with_reducible rfl)); simp only [Act.put, pA, pB, pC]
             have hsub : IntKind.i64.wrap 0 = 0 := by rfl
             have hd0 : decide ((30 : Int) ≤ 0) = false := rfl
             refine tkL 4 (v := ?_) rfl (by kernel_rfl) (fun _ _ _ => id) (Or.inl ⟨by rfl, ?_⟩) (by assumption) ?_; rotate_left; (focus (intro wq hSq; have f := HF.out wq hSq; go_simp <;> with_reducible rfl)); simp only [Act.put, pA, pB, pC]
             refine tkL 5 (v := ?_) rfl (by kernel_rfl) (fun _ _ _ => id) (Or.inl ⟨by rfl, ?_⟩) (by assumption) ?_; rotate_left; (focus (intro wq hSq; have f := HF.out wq hSq; go_simp <;> with_reducible rfl)); simp only [Act.put, pA, pB, pC]
             refine tkL 6 (v := ?_) rfl (by kernel_rfl) (fun _ _ _ => id) (Or.inl ⟨by rfl, ?_⟩) (by assumption) ?_; rotate_left; (focus (intro wq hSq; have f := HF.out wq hSq; go_simp <;> with_reducible rfl)); simp only [Act.put, pA, pB, pC]
             refine tkL 7 (v := ?_) rfl (by kernel_rfl) (fun _ _ _ => id) (Or.inl ⟨by rfl, ?_⟩) (by assumption) ?_; rotate_left; (focus (intro wq hSq; have f := HF.out wq hSq; go_simp <;> with_reducible rfl)); simp only [Act.put, pA, pB, pC]
             refine tkL 8 (v := ?_) rfl (by kernel_rfl) (fun _ _ _ => id) (Or.inl ⟨by rfl, ?_⟩) (by assumption) ?_; rotate_left; (focus (intro wq hSq; have f := HF.out wq hSq; go_simp <;> with_reducible rfl)); simp only [Act.put, pA, pB, pC]
             refine tkL 9 (v := ?_) rfl (by kernel_rfl) (fun _ _ _ => id) (Or.inl ⟨by rfl, ?_⟩) (by assumption) ?_; rotate_left; (focus (intro wq hSq; have f := HF.out wq hSq; go_simp <;> with_reducible rfl)); simp only [Act.put, pA, pB, pC]
             refine tkL 10 (v := ?_) rfl (by kernel_rfl) (fun _ _ _ => id) (Or.inl ⟨by rfl, ?_⟩) (by assumption) ?_; rotate_left; (focus (intro wq hSq; have f := HF.out wq hSq; go_simp <;> with_reducible rfl)); simp only [Act.put, pA, pB, pC]
             refine tkL 11 (v := ?_) rfl (by kernel_rfl) (fun _ _ _ => id) (Or.inl ⟨by rfl, ?_⟩) (by assumption) ?_; rotate_left; (focus (intro wq hSq; have f := HF.out wq hSq; go_simp <;> with_reducible rfl)); simp only [Act.put, pA, pB, pC]
             refine tkL 12 (v := ?_) rfl (by kernel_rfl) (fun _ _ _ => id) (Or.inl ⟨by rfl, ?_⟩) (by assumption) ?_; rotate_left; (focus (intro wq hSq; have f := HF.out wq hSq; go_simp <;> with_reducible rfl)); simp only [Act.put, pA, pB, pC]
             refine tkL 13 (v := ?_) rfl (by kernel_rfl) (fun _ _ _ => id) (Or.inl ⟨by rfl, ?_⟩) (by assumption) ?_; rotate_left; (focus (intro wq hSq; have f := HF.out wq hSq; go_simp <;> with_reducible rfl)); simp only [Act.put, pA, pB, pC]
             refine tkL 14 (v := ?_) rfl (by kernel_rfl) (fun _ _ _ => id) (Or.inl ⟨by rfl, ?_⟩) (by assumption) ?_; rotate_left; (focus (intro wq hSq; go_simp <;> with_reducible rfl)); simp only [Act.put, pA, pB, pC]
             refine tkL 15 (v := ?_) rfl (by kernel_rfl) (fun _ _ _ => id) (Or.inl ⟨by rfl, ?_⟩) (by assumption) ?_; rotate_left; (focus (intro wq hSq; go_simp <;> with_reducible rfl)); simp only [Act.put, pA, pB, pC]
             refine tkL 16 (v := ?_) rfl (by kernel_rfl) (fun _ _ _ => id) (Or.inl ⟨by rfl, ?_⟩) (by assumption) ?_; rotate_left; (focus (intro wq hSq; go_simp <;> with_reducible rfl)); simp only [Act.put, pA, pB, pC]
             refine wpAnyH_ready (rs := [17]) (by kernel_rfl) (by simp) (nextL 17 rfl (fun Kr hKr => ?_) AllReadyH.nil)
             rw [if_pos (by rfl)]
             go_simp
             obtain ⟨V4, hV⟩ : ∃ W, Z.setCell ⟨g, k * 15 + 5, none⟩ (.bool false) = W := ⟨_, rfl⟩
             obtain ⟨q1, q2⟩ := TreeAt.port2 (t := u) HTZ.out HKL.out (show 5 < 15 by decide) (.bool false) ⟨pc, rk, tn, true, pk, false, ke, pat⟩ rfl
             rw [hV] at q1 q2 ⊢
             have HT4 := Lib.hid q1; replace HU := Lib.hid (HU.out.trans q2)
             obtain ⟨⟨e1, e2, e3, e5⟩, _⟩ := q1.cells2 HKL.out
             dsimp only at e1 e2 e3 e5
             obtain ⟨g2, _⟩ := q1.box2.at_ 2 _ rfl
             rw [HUN.out.1] at g2
             refine hKr.out _ _ ⟨g2, e2⟩ (fun _ => ?_)
             refine wpAnyH_done (by kernel_rfl) ?_ _
             clear hKr hV q1 q2 hHeld b2 c1 c2 c3 c5 f1 f2 f5
             clear hsub hd0
             have HY := Lib.hid (show set1 tn rk ⟨pc, pr, ps, true, pk, pf, ke, pat⟩ = ⟨pc, rk, tn, true, pk, false, ke, pat⟩ from by unfold set1; simp [HA.out, HPS.out])
             go_wp2_with fail
             go_roundw
             case rel => exact ⟨k + 1, ch, by omega, by go_num, by rw [HBS.out, HY.out]; simp [HCH.out.symm], by rw [← HSET.out, HY.out]; exact HUU.out _ _ HT4.out, HU.out⟩
             case measure => simp [intOf]; omega
     · obtain rfl : k = P.length := by omega
       go_wp2_with fail
       go_end0
       refine ⟨rfl, ?_, (UV.out.after H8.out.2).trans HU.out⟩
       have := HTR.out
       rw [HCH.out, spart_all tn HRL.out, List.take_length, ← HRL.out, List.take_length] at this
       rw [← HTN.out] at this
       rw [HSE.out]
       exact this

theorem drop_ok {t : Tre} (h : TreOk t) : TreOk t.drop := by
 refine ⟨h.now, ?_, h.change, fun p hp => ?_⟩
 · show 1 ≤ (t.ports.map (drop1 t.now)).length ∧ (t.ports.map (drop1 t.now)).length ≤ 16
   rw [List.length_map]
   exact h.len
 · obtain ⟨y, hy, rfl⟩ := List.mem_map.1 (show p ∈ t.ports.map (drop1 t.now) from hp)
   exact drop1_ok (h.ports y hy)
theorem set1_ok {now r : Int} {p : Prt} (h : PrtOk p) (hn : 0 ≤ now ∧ now ≤ 1099511627776) : PrtOk (set1 now r p) := by
 refine ⟨h.cost, ?_, h.at_, h.age⟩
 have hs := h.since
 unfold set1
 dsimp only
 split <;> (split <;> (try split)) <;> omega
theorem settle_ok {t : Tre} (h : TreOk t) : TreOk t.settle := by
 have hl : (proles t.bridge (t.drop.ports.map hrd)).length = t.drop.ports.length := by rw [proles_len, List.length_map]
 have hd := drop_ok h
 refine ⟨h.now, ?_, ?_, fun p hp => ?_⟩
 · show 1 ≤ (settle2 t.now t.drop.ports _).length ∧ (settle2 t.now t.drop.ports _).length ≤ 16
   rw [settle2_len, hl, Nat.min_self]
   exact hd.len
 · show -1 ≤ (if began t.now t.drop.ports (proles t.bridge (t.drop.ports.map hrd)) then t.now else t.drop.change) ∧ _
   split
   · have := h.now
     exact ⟨by omega, by show (if began t.now t.drop.ports (proles t.bridge (t.drop.ports.map hrd)) then t.now else t.drop.change) ≤ _; split <;> first | exact h.now.2 | exact h.change.2⟩
   · exact ⟨h.change.1, by show (if began t.now t.drop.ports (proles t.bridge (t.drop.ports.map hrd)) then t.now else t.drop.change) ≤ _; split <;> first | exact h.now.2 | exact h.change.2⟩
 · obtain ⟨⟨q, r⟩, hq, rfl⟩ := List.mem_map.1 (show p ∈ settle2 t.now t.drop.ports (proles t.bridge (t.drop.ports.map hrd)) from hp)
   exact set1_ok (hd.ports q (List.of_mem_zip hq).1) h.now
theorem okAt_iff {t : Tre} {i now : Int} : t.okAt i now = true ↔ (0 ≤ now ∧ now ≤ 1099511627776) ∧ 0 ≤ i ∧ i < t.ports.length := by
 unfold Tre.okAt
 simp [and_assoc]
theorem modify_set {L : List Prt} {k : Nat} (f : Prt → Prt) (h : k < L.length) : L.modify k f = L.set k (f L[k]) := by
 refine List.ext_getElem (by simp) fun j h1 h2 => ?_
 rw [List.getElem_modify, List.getElem_set]
 split
 · rename_i e
   subst e
   rfl
 · rfl
theorem link_pre {t : Tre} {k : Nat} {up : Bool} {now : Int} (h : TreOk t) (hn : 0 ≤ now ∧ now ≤ 1099511627776) (hk : k < t.ports.length) : TreOk { t with now := max t.now now, ports := t.ports.modify k fun p => { p with up := up, keeps := p.keeps && up } } := by
 refine ⟨?_, by rw [List.length_modify]; exact h.len, h.change, fun p hp => ?_⟩
 · have := h.now
   dsimp only
   omega
 · dsimp only at hp
   rw [modify_set _ hk] at hp
   rcases List.mem_or_eq_of_mem_set hp with hp | rfl
   · exact h.ports p hp
   · have := h.ports _ (List.getElem_mem hk)
     exact ⟨this.cost, this.since, this.at_, this.age⟩
theorem link_ok {t : Tre} {i now : Int} {up : Bool} (h : TreOk t) : TreOk (t.link i up now) := by
 unfold Tre.link
 split
 · rename_i hc
   obtain ⟨h1, h2, h3⟩ := okAt_iff.1 hc
   exact settle_ok (link_pre h h1 (by omega))
 · exact h

set_option maxHeartbeats 4000000 in
theorem tlink_any (p g cap : Nat) (t : Tre) (i now : Int) (up : Bool) (w : World) (h : TreeAt w p g cap t) (ok : TreOk t) :
 Calls Tryz.prog 49 #[.pointer (some ⟨p, 0, none⟩), .int .i64 i, .bool up, .int .i64 now] w (RetTree w p g cap (t.link i up now)) := by
 have HA := Lib.hid (tat_any p g cap t i now w h)
 have HT := Lib.hid h
 cases hc : t.okAt i now
 · rw [hc] at HA
   have HL := Lib.hid (show t.link i up now = t from by unfold Tre.link; rw [hc]; rfl)
   clear hc h ok
   go_enter Tryz.func49, Tryz.ntmps49
   go_wp2_with ((with_reducible refine HA.out.mono ?_); rintro e w1 ⟨rfl, hw1⟩; subst w1)
   go_end0
   exact ⟨rfl, by rw [HL.out]; exact HT.out, Turn.refl _ _⟩
 · rw [hc] at HA
   obtain ⟨h1, h2, h3⟩ := okAt_iff.1 hc
   obtain ⟨k, rfl⟩ := Int.eq_ofNat_of_zero_le h2
   have hk : k < t.ports.length := by omega
   have HLI := Lib.hid (show t.link (k : Nat) up now = Tre.settle { t with now := max t.now now, ports := t.ports.modify k fun p => { p with up := up, keeps := p.keeps && up } } from by unfold Tre.link; rw [hc]; rfl)
   rw [if_pos rfl, Int.toNat_natCast] at HA
   obtain ⟨mx, hmx⟩ : ∃ m, max t.now now = m := ⟨_, rfl⟩
   have HP := Lib.hid (link_pre (up := up) ok h1 hk)
   rw [hmx] at HLI HP
   obtain ⟨⟨pc, pr, ps, pu, pk, pf, ke, pat⟩, hq⟩ : ∃ x, t.ports[k] = x := ⟨_, rfl⟩
   have hms : (t.ports.modify k fun p => { p with up := up, keeps := p.keeps && up }) = t.ports.set k ⟨pc, pr, ps, up, pk && up, pf, ke, pat⟩ := by rw [modify_set _ hk, hq]
   rw [hms] at HLI HP
   have HQ := Lib.hid hq
   have hb := h.boxc
   obtain ⟨b2, bf2⟩ := hb.at_ 2 _ rfl
   have HK := Lib.hid hk
   have hor : (t.now < now ∧ mx = now) ∨ (¬ t.now < now ∧ mx = t.now) := by
    rw [← hmx]
    by_cases q : t.now < now
    · exact .inl ⟨q, by omega⟩
    · exact .inr ⟨q, by omega⟩
   clear hc h ok h1 h2 h3 hb hmx hms hq
   rcases hor with ⟨hd, hm⟩ | ⟨hd, hm⟩
   all_goals
    have HM := Lib.hid hm
    clear hm
    go_enter Tryz.func49, Tryz.ntmps49
    go_upto_region 3 with ((with_reducible refine HA.out.mono ?_); rintro e w1 ⟨rfl, hw1⟩; subst w1)
    first | rw [← HM.out] | skip
    obtain ⟨W1, hW1⟩ : ∃ W, w.setCell ⟨p, 2, none⟩ (.int .i64 mx) = W := ⟨_, rfl⟩
    obtain ⟨q1, q2⟩ := HT.out.box 2 (.int .i64 mx) { t with now := mx } rfl rfl
    rw [hW1] at q1 q2 ⊢
    have T1 := Lib.hid q1; have U1 := Lib.hid q2
    clear hW1 q1 q2 b2 bf2 HA
    have hq := HQ.out
    obtain ⟨u, hu⟩ : ∃ u : Tre, { t with now := mx } = u := ⟨_, rfl⟩
    have T2 := Lib.hid (show TreeAt W1 p g cap { u with ports := t.ports.set k ⟨pc, pr, ps, pu, pk, pf, ke, pat⟩ } from by
     rw [← hu, ← hq, List.set_getElem_self]
     exact T1.out)
    obtain ⟨⟨_, _, _, c3, c4, _⟩, _, _, cf⟩ := T2.out.cells (k := k) (by dsimp only; rw [List.length_set]; exact HK.out) (q := ⟨pc, pr, ps, pu, pk, pf, ke, pat⟩) (by dsimp only; rw [List.getElem_set_self])
    dsimp only at c3 c4
    have f3 := cf 3 (by decide); have f4 := cf 4 (by decide)
    have HU := Lib.hid hu
    clear cf hq hu
    have HSL := Lib.hid (tsettle_any p g cap { t with now := mx, ports := t.ports.set k ⟨pc, pr, ps, up, pk && up, pf, ke, pat⟩ })
    have fin : ∀ V, (W1.setCell ⟨g, k * 15 + 3, none⟩ (.bool up)).setCell ⟨g, k * 15 + 4, none⟩ (.bool (pk && up)) = V → TreeAt V p g cap { t with now := mx, ports := t.ports.set k ⟨pc, pr, ps, up, pk && up, pf, ke, pat⟩ } ∧ Turn (tfoot p g) w V := by
     rintro V rfl
     obtain ⟨a1, a2⟩ := TreeAt.port2 (t := u) T2.out HK.out (show 3 < 15 by decide) (.bool up) ⟨pc, pr, ps, up, pk, pf, ke, pat⟩ rfl
     obtain ⟨b1, b2⟩ := TreeAt.port2 (t := u) a1 HK.out (show 4 < 15 by decide) (.bool (pk && up)) ⟨pc, pr, ps, up, pk && up, pf, ke, pat⟩ rfl
     rw [← HU.out] at b1
     exact ⟨b1, (U1.out.trans a2).trans b2⟩
    have FIN := Lib.hid fin
    clear fin
    have step : ∀ b : Bool, (pk && up) = b → ∃ V, (W1.setCell ⟨g, k * 15 + 3, none⟩ (.bool up)).setCell ⟨g, k * 15 + 4, none⟩ (.bool b) = V ∧ Calls Tryz.prog 95 #[.pointer (some ⟨p, 0, none⟩)] V (RetTree w p g cap (t.link (k : Nat) up now)) := fun b hb => by
     subst hb
     refine ⟨_, rfl, ?_⟩
     obtain ⟨v1, v2⟩ := FIN.out _ rfl
     refine (HSL.out _ v1 HP.out).mono fun e w' ⟨he, h1, h2⟩ => ⟨he, ?_, v2.trans h2⟩
     rw [HLI.out]
     exact h1
    have STEP := Lib.hid step
    clear step
    cases pk
    · obtain ⟨V, hV, hcl⟩ := STEP.out false rfl
      have HV := Lib.hid hV; have HCL := Lib.hid hcl
      clear hV hcl
      go_upto_region 4 with fail
      rw [HV.out]
      go_wp2_with ((with_reducible refine HCL.out.mono ?_); rintro e w2 ⟨rfl, h1, h2⟩; have H2 := Lib.hid (And.intro h1 h2); clear h1 h2)
      go_end0
      exact ⟨rfl, H2.out⟩
    · obtain ⟨V, hV, hcl⟩ := STEP.out up (by cases up <;> rfl)
      have HV := Lib.hid hV; have HCL := Lib.hid hcl
      clear hV hcl
      go_upto_region 4 with fail
      rw [HV.out]
      go_wp2_with ((with_reducible refine HCL.out.mono ?_); rintro e w2 ⟨rfl, h1, h2⟩; have H2 := Lib.hid (And.intro h1 h2); clear h1 h2)
      go_end0
      exact ⟨rfl, H2.out⟩

theorem TreeAt.getD {w : World} {p g cap k : Nat} {t : Tre} (h : TreeAt w p g cap t) (hk : k < t.ports.length) : w.cell? ⟨g, k * 15 + 1, none⟩ = some (.int .i64 (t.ports.getD k default).role) ∧ w.cell? ⟨g, k * 15 + 2, none⟩ = some (.int .i64 (t.ports.getD k default).since) ∧ w.cell? ⟨g, k * 15 + 3, none⟩ = some (.bool (t.ports.getD k default).up) ∧ w.cell? ⟨g, k * 15 + 5, none⟩ = some (.bool (t.ports.getD k default).fwd) := by
 obtain ⟨⟨_, c1, c2, c3, _, c5⟩, _⟩ := h.cells hk (q := t.ports.getD k default) (by simp [List.getD_eq_getElem?_getD, hk])
 exact ⟨c1, c2, c3, c5⟩
theorem trole_any (p g cap : Nat) (t : Tre) (i : Int) (w : World) (h : TreeAt w p g cap t) :
 Calls Tryz.prog 56 #[.pointer (some ⟨p, 0, none⟩), .int .i64 i] w fun e w' => e = .returned (.int .i64 (t.roleOf i)) ∧ w' = w := by
 have HA := Lib.hid (tat_any p g cap t i 0 w h)
 unfold Tre.roleOf
 cases hc : t.okAt i 0
 · rw [hc] at HA
   clear hc h
   go_enter Tryz.func56, Tryz.ntmps56
   go_wp2_with ((with_reducible refine HA.out.mono ?_); rintro e w1 ⟨rfl, hw1⟩; subst w1)
   go_ret
   exact ⟨rfl, rfl⟩
 · rw [hc] at HA
   obtain ⟨h1, h2, h3⟩ := okAt_iff.1 hc
   obtain ⟨k, rfl⟩ := Int.eq_ofNat_of_zero_le h2
   obtain ⟨c1, _⟩ := h.getD (k := k) (by omega)
   rw [if_pos rfl, Int.toNat_natCast] at HA ⊢
   clear hc h h1 h2 h3
   go_enter Tryz.func56, Tryz.ntmps56
   go_wp2_with ((with_reducible refine HA.out.mono ?_); rintro e w1 ⟨rfl, hw1⟩; subst w1)
   go_ret
   exact ⟨rfl, rfl⟩
theorem tforwards_any (p g cap : Nat) (t : Tre) (i : Int) (w : World) (h : TreeAt w p g cap t) :
 Calls Tryz.prog 44 #[.pointer (some ⟨p, 0, none⟩), .int .i64 i] w fun e w' => e = .returned (.bool (t.forwards i)) ∧ w' = w := by
 have HA := Lib.hid (tat_any p g cap t i 0 w h)
 unfold Tre.forwards
 cases hc : t.okAt i 0
 · rw [hc] at HA
   clear hc h
   go_enter Tryz.func44, Tryz.ntmps44
   go_wp2_with ((with_reducible refine HA.out.mono ?_); rintro e w1 ⟨rfl, hw1⟩; subst w1)
   go_ret
   exact ⟨rfl, rfl⟩
 · rw [hc] at HA
   obtain ⟨h1, h2, h3⟩ := okAt_iff.1 hc
   obtain ⟨k, rfl⟩ := Int.eq_ofNat_of_zero_le h2
   obtain ⟨_, _, _, c5⟩ := h.getD (k := k) (by omega)
   rw [if_pos rfl] at HA
   rw [Int.toNat_natCast] at HA ⊢
   clear hc h h1 h2 h3
   go_enter Tryz.func44, Tryz.ntmps44
   go_wp2_with ((with_reducible refine HA.out.mono ?_); rintro e w1 ⟨rfl, hw1⟩; subst w1)
   go_ret
   exact ⟨rfl, rfl⟩
theorem tchanged_any (p g cap : Nat) (t : Tre) (w : World) (h : TreeAt w p g cap t) :
 Calls Tryz.prog 96 #[.pointer (some ⟨p, 0, none⟩)] w fun e w' => e = .returned (.int .i64 t.change) ∧ w' = w := by
 obtain ⟨b4, _⟩ := h.boxc.at_ 4 _ rfl
 clear h
 go_enter Tryz.func96, Tryz.ntmps96
 go_wp2
 go_ret
 exact ⟨rfl, rfl⟩
end Go.Proofs.YthcdppppppgckaaGreatDoor
