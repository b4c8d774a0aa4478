/- Texts joined into one file: BFKey, BFd1, BFd2. -/
import Derived.Test.YthcdppppppgckaaGreatDoorA25
import Derived.Test.YthcdppppppgckaaGreatDoorA33
import Derived.DeepKeys4
import Derived.Test.YthcdppppppgckaaGreatDoorA36
import Derived.Test.YthcdppppppgckaaGreatDoorA05
import Derived.Deep.DeepCutAuto

namespace Go.Proofs.YthcdppppppgckaaGreatDoor
open Go.RowKit Go.Lib Go.Maps
set_option maxRecDepth 20000

theorem fk_wide : (match Tryz.prog.underlying 202 with | some (.array _ _) | some (.struct _) => true | _ => false) = true := by kernel_rfl
theorem fk_laid : laidOutB Tryz.prog = true := by kernel_rfl
theorem fk_row : 202 < Tryz.prog.types.size := of_decide_eq_true (by kernel_rfl)
set_option maxRecDepth 100000 in
theorem fk_law : Keyed Tryz.prog 202 := Keyed.of_law (deep_law_laid fk_laid (m := 9) (by decide) fk_row (by kernel_rfl) fk_wide)
theorem fk_is : Tryz.prog.keyType 202 = true := by kernel_rfl
theorem fk_cells : Tryz.prog.cellsOf 202 = 2 := by kernel_rfl
theorem fk_ci : Tryz.prog.cellsOf 3 = 1 := by kernel_rfl
theorem fk_ca : Tryz.prog.cellsOf 46 = 1 := by kernel_rfl
theorem fk_size : ∃ n, Tryz.prog.types.size = n + 1 := ⟨Tryz.prog.types.size - 1, by kernel_rfl⟩

def encFK (x : Int × Str) : Value := .agg #[.int .i64 x.1, .string (bstr x.2)]
def okFK (x : Int × Str) : Prop := (Lit.int .i64 x.1).wf = true ∧ x.2.length ≤ maxLen
def litFK (x : Int × Str) : Lit := .string (keyBytes [.int .i64 x.1, .string x.2])

set_option maxRecDepth 100000 in
theorem fk_reads (x : Int × Str) (h : okFK x) : keyOf Tryz.prog 202 (encFK x) = some (litFK x) := by
 obtain ⟨n, hn⟩ := fk_size
 have hs : (bstr x.2).size ≤ maxLen := by rw [bstr_size]; exact h.2
 have hd : (bstr x.2).data.toList = x.2 := bstr_data x.2
 unfold keyOf encFK litFK
 rw [Tryz.underlying202]
 simp only [fk_is, Bool.true_and]
 have hf : Value.formed Tryz.prog 202 (.agg #[.int .i64 x.1, .string (bstr x.2)]) = true := by
  simp [Value.formed, Tryz.underlying202, fk_cells]
 rw [if_pos hf, hn]
 simp [Program.keyLits, Value.cells, Tryz.underlying202, fk_cells, fk_ci, fk_ca, Tryz.underlying3, Tryz.underlying46, h.1, hs, hd]

set_option maxRecDepth 100000 in
theorem fk_all (v : Value) (l : Lit) (h : keyOf Tryz.prog 202 v = some l) : ∃ x, okFK x ∧ v = encFK x := by
 obtain ⟨n, hn⟩ := fk_size
 unfold keyOf at h
 rw [Tryz.underlying202] at h
 simp only [fk_is, Bool.true_and] at h
 split at h
 · rename_i hf
   cases v <;> simp [Value.formed, Tryz.underlying202, fk_cells] at hf
   rename_i cs
   obtain ⟨a, b, rfl⟩ : ∃ a b, cs = #[a, b] := by
    obtain ⟨l⟩ := cs
    match l, hf with
    | [a, b], _ => exact ⟨a, b, rfl⟩
   rw [hn] at h
   simp [Program.keyLits, Value.cells, Tryz.underlying202, fk_cells, fk_ci, fk_ca, Tryz.underlying3, Tryz.underlying46] at h
   cases a <;> simp at h
   rename_i q z
   by_cases hq : q = .i64 ∧ (Lit.int .i64 z).wf = true
   · rw [if_pos hq] at h
     obtain ⟨rfl, hz⟩ := hq
     cases b <;> simp at h
     rename_i t
     by_cases ht : t.size ≤ maxLen
     · exact ⟨(z, t.data.toList), ⟨hz, by simpa using ht⟩, by simp [encFK, bstr]⟩
     · rw [if_neg ht] at h; simp at h
   · rw [if_neg hq] at h; simp at h
 · cases h

theorem fk_inj (x y : Int × Str) (h : encFK x = encFK y) : x = y := by
 obtain ⟨a, b⟩ := x
 obtain ⟨c, d⟩ := y
 simp only [encFK] at h
 have h1 : a = c := by injection h with h; simp at h; exact h.1
 have h2 : bstr b = bstr d := by injection h with h; simp at h; exact h.2
 rw [h1, bstr_inj h2]

def KF : KeyEnc Tryz.prog 202 (Int × Str) := ⟨encFK, okFK, litFK, fk_reads, fk_all, fk_inj, fk_law⟩
end Go.Proofs.YthcdppppppgckaaGreatDoor

namespace Go.Proofs.YthcdppppppgckaaGreatDoor
open Go.RowKit Go.Lib Go.Sort
set_option maxRecDepth 20000
set_option maxRecDepth 20000

abbrev Fdb := Int × Str → Option (Int × Int)
def encE (k : Int × Str) (e : Int × Int) : Value := .agg #[.int .i64 k.1, .string (bstr k.2), .int .i64 e.1, .int .i64 e.2]
def encV (F : Fdb) : Int × Str → Option Value := fun k => (F k).map (encE k)
structure FdAt (w : World) (p m n : Nat) (room age : Int) (F : Fdb) : Prop where
 box : CBox w p 151 #[.int .i64 room, .int .i64 age, .map (some m)]
 map : VMap KF w m n (encV F)
section
variable {w w' : World} {p m n : Nat} {room age : Int} {F : Fdb}
theorem FdAt.lt (h : FdAt w p m n room age F) : p < w.heap.size ∧ m < w.heap.size := ⟨h.box.lt, h.map.lt⟩
theorem FdAt.isMap (h : FdAt w p m n room age F) : ∃ es c, w.heap[m]? = some (.map es c) := by
 obtain ⟨_, D, ⟨es, clock, hb, _⟩, _⟩ := h.map
 exact ⟨es, clock, hb⟩
theorem FdAt.ne (h : FdAt w p m n room age F) : p ≠ m := fun e => by
 obtain ⟨es, c, hm⟩ := h.isMap
 have hb : w.heap[p]? = some _ := h.box
 rw [e, hm] at hb
 cases hb
theorem FdAt.same (h : FdAt w p m n room age F) (h1 : w'.heap[p]? = w.heap[p]?) (h2 : w'.heap[m]? = w.heap[m]?) : FdAt w' p m n room age F := ⟨h1.trans h.box, h.map.same h2⟩
theorem FdAt.below (h : FdAt w p m n room age F) (hb : Below w.heap.size w w') : FdAt w' p m n room age F := h.same (hb.block _ h.lt.1) (hb.block _ h.lt.2)
theorem FdAt.up {n' : Nat} (h : FdAt w p m n room age F) (hn : n ≤ n') : FdAt w p m n' room age F := ⟨h.box, h.map.up hn⟩
end
def cutF (F : Fdb) (pr : Int × Str → Int × Int → Bool) : Fdb := fun k => match F k with | some e => if pr k e then none else some e | none => none
def mixD (F : Fdb) (pr : Int × Str → Int × Int → Bool) (lf : Int × Str → Bool) : Fdb := fun k => if lf k then F k else cutF F pr k
theorem encV_ne {F : Fdb} {k : Int × Str} (h : F k ≠ none) : encV F k ≠ none := fun e => h (by unfold encV at e; cases hF : F k <;> first | rfl | (rw [hF] at e; cases e))
theorem mixD_start (F : Fdb) (pr : Int × Str → Int × Int → Bool) : mixD F pr (fun k => (encV F k).isSome) = F := by
 funext k
 unfold mixD cutF encV
 cases h : F k <;> simp [h]
theorem mixD_end (F : Fdb) (pr : Int × Str → Int × Int → Bool) {lf : Int × Str → Bool} (h : ∀ k, okFK k → lf k = false) (ho : ∀ k, F k ≠ none → okFK k) : mixD F pr lf = cutF F pr := by
 funext k
 unfold mixD
 by_cases hk : okFK k
 · rw [h k hk]; rfl
 · have : F k = none := by
    cases hF : F k
    · rfl
    · exact absurd (ho k (by rw [hF]; simp)) hk
   unfold cutF
   rw [this]
   simp
theorem mixD_keep {F : Fdb} {pr : Int × Str → Int × Int → Bool} {lf : Int × Str → Bool} {x : Int × Str} {e : Int × Int} (hF : F x = some e) (hp : pr x e = false) : mixD F pr (strikeK lf x) = mixD F pr lf := by
 funext k
 unfold mixD strikeK cutF
 by_cases h : k = x
 · subst h
   rw [hF]
   simp [hp]
 · simp [h]
theorem mixD_drop {F : Fdb} {pr : Int × Str → Int × Int → Bool} {lf : Int × Str → Bool} {x : Int × Str} {e : Int × Int} (hF : F x = some e) (hp : pr x e = true) : encV (mixD F pr (strikeK lf x)) = delV (encV (mixD F pr lf)) x := by
 funext k
 unfold encV delV mixD strikeK cutF
 by_cases h : k = x
 · subst h
   rw [hF]
   simp [hp]
 · simp [h]
theorem mixD_at {F : Fdb} {pr : Int × Str → Int × Int → Bool} {lf : Int × Str → Bool} {x : Int × Str} {c : Value} (h : encV (mixD F pr lf) x = some c) (hl : lf x = true) : ∃ e, F x = some e ∧ c = encE x e := by
 unfold encV mixD at h
 rw [hl] at h
 cases hF : F x
 · rw [hF] at h; cases h
 · rw [hF] at h
   exact ⟨_, rfl, by simpa using h.symm⟩
def RetFd (w : World) (p m n : Nat) (room age : Int) (F : Fdb) (e : Ending) (w' : World) : Prop := (∃ i : Int, e = .returned (.int .i64 i)) ∧ FdAt w' p m n room age F ∧ Turn (fun k => k = m) w w'
theorem fd_turn {w w' : World} {m : Nat} (h : ∃ es c, w.heap[m]? = some (Obj.map es c)) (hg : w.grownBy w' (some m)) : Turn (fun k => k = m) w w' :=
 Turn.of_grown hg fun r hr => by cases hr; exact ⟨rfl, h⟩
set_option maxHeartbeats 4000000 in
set_option maxRecDepth 100000 in
theorem ftake_any (f : Nat) (caps : Array Value) (pr : Int × Str → Int × Int → Bool) (p m n : Nat) (room age : Int) (F : Fdb) (w : World) (h : FdAt w p m n room age F) (hcf : ∀ args w', (callFunc f args).run Tryz.prog w' = .ok (.enter f args) w')
 (hf : ∀ k e W, F k = some e → w.grownBy W (some m) → Calls Tryz.prog f (#[encE k e] ++ caps) W fun e' w'' => e' = .returned (.bool (pr k e)) ∧ Below W.heap.size W w'') :
 Calls Tryz.prog 97 #[.pointer (some ⟨p, 0, none⟩), .func (.func f) #[] caps] w (RetFd w p m n room age (cutF F pr)) := by
 obtain ⟨c2, _⟩ := h.box.at_ 2 _ rfl
 obtain ⟨L, hL, hLn, hlen⟩ := h.map.count Tryz.underlying149
 have H := Lib.hid h
 have HF := Lib.hid hf
 clear h hf
 go_enter Tryz.func97, Tryz.ntmps97
 go_wp2_with (first
  | (at_range; refine wpList_range_v _ rfl _ 149 187 rfl Tryz.underlying149 KF m n (encV F) rfl H.out.map ?_; intro w0 cnt0 hrg0 hb0 hs0)
  | go_in)
 go_frame
 have HRG0 := Lib.hid hrg0; have HB0 := Lib.hid hb0
 clear hrg0 hb0 hs0 hlen c2
 go_loopw [6, 7] (fun _ _ wr => ∃ (lf : Int × Str → Bool) (cnt : Nat), VRg KF wr m w.heap.size n (encV (mixD F pr lf)) lf cnt ∧ w.grownBy wr (some m)) (fun _ _ wr => wr.rangeLeft m w.heap.size)
 case atStart => exact ⟨_, cnt0, by rw [mixD_start]; exact HRG0.out, grown_below (World.grownBy.refl _ _) HB0.out⟩
 case round =>
  obtain ⟨lf, cnt, hrg, hg⟩ := hrel
  have HRG := Lib.hid hrg; have HG := Lib.hid hg
  clear hrg hg HRG0 HB0
  go_wp2_with (first
   | (at_next; refine wpList_next_b _ rfl _ rfl KF m w.heap.size n _ _ _ rfl HRG.out ?_ ?_)
   | go_in)
  · intro hdone
    have HM := Lib.hid (show VMap KF wr m n (encV (cutF F pr)) from by
     have := HRG.out.map
     rw [mixD_end F pr hdone (fun k hk => H.out.map.1 k (encV_ne hk))] at this
     exact this)
    obtain ⟨L', _, _, hlen'⟩ := HM.out.count Tryz.underlying149
    have hbx : CBox wr p 151 #[.int .i64 room, .int .i64 age, .map (some m)] := H.out.box.grown HG.out (by have := H.out.ne; simpa using this)
    obtain ⟨c2, _⟩ := hbx.at_ 2 _ rfl
    have HR := Lib.hid (show FdAt wr p m n room age (cutF F pr) ∧ Turn (fun k => k = m) w wr from ⟨⟨hbx, HM.out⟩, fd_turn H.out.isMap HG.out⟩)
    clear hdone hbx
    go_wp2_with fail
    go_ret
    exact ⟨⟨_, rfl⟩, HR.out⟩
  · rintro ⟨x⟩ c w2 cnt2 hxk hx hlf hrg2 hlt hg2 hs2 hen
    obtain ⟨e, hFx, rfl⟩ := mixD_at hx hlf
    have hG2 : w.grownBy w2 (some m) := HG.out.andThen hg2 (fun j hj => by cases hj; exact .inl (Nat.le_refl _))
    obtain ⟨x1, x2⟩ := x
    replace hen : (Instr.entry (.pointer (some ⟨w.heap.size, 0, none⟩))).run Tryz.prog w2 = .ok (.tuple #[.agg #[.int .i64 x1, .string (bstr x2)], .agg #[.int .i64 x1, .string (bstr x2), .int .i64 e.1, .int .i64 e.2]]) w2 := hen
    obtain ⟨W4, hW4⟩ : ∃ W, (w2.alloc (.cells #[.int .i64 x1, .string (bstr x2)] 202)).alloc (.cells #[.int .i64 x1, .string (bstr x2), .int .i64 e.1, .int .i64 e.2] 187) = W := ⟨_, rfl⟩
    have hb4 : Below w2.heap.size w2 W4 := by rw [← hW4]; exact ((Below.refl _ _).alloc (Nat.le_refl _) _).alloc (by simp) _
    obtain ⟨q0, hq0⟩ : ∃ q, w2.heap.size = q := ⟨_, rfl⟩
    have K4 := Lib.hid (show CBox W4 q0 202 #[.int .i64 x1, .string (bstr x2)] from by rw [← hW4]; exact (CBox.new _ hq0.symm).old _)
    have E4 := Lib.hid (show CBox W4 (q0 + 1) 187 #[.int .i64 x1, .string (bstr x2), .int .i64 e.1, .int .i64 e.2] from by rw [← hW4]; exact CBox.new _ (by rw [World.size_alloc, hq0]))
    have HG4 := Lib.hid (grown_below hG2 hb4)
    have HR4 := Lib.hid (hrg2.below hb4)
    have HC := Lib.hid (HF.out (x1, x2) e W4 hFx HG4.out)
    have HLT := Lib.hid (show cnt2 < wr.rangeLeft m w.heap.size from by rw [HRG.out.left]; exact hlt)
    have HFX := Lib.hid hFx; have HOK := Lib.hid hxk
    have HW4 := Lib.hid hW4; have HQ0 := Lib.hid hq0
    obtain ⟨e1, e2⟩ := e
    obtain ⟨d, hd⟩ : ∃ d, pr (x1, x2) (e1, e2) = d := ⟨_, rfl⟩
    have HD := Lib.hid hd
    rw [hd] at HC
    unfold encE at HC
    dsimp only at HC E4 HW4 hen
    have HPB := Lib.hid (fun (W : World) (hW : w.grownBy W (some m)) => (show CBox W p 151 #[.int .i64 room, .int .i64 age, .map (some m)] from H.out.box.grown hW (by have := H.out.ne; simpa using this)))
    obtain ⟨y0, yf0⟩ := CBox.at_ E4.out 0 _ rfl
    obtain ⟨y1, yf1⟩ := CBox.at_ E4.out 1 _ rfl
    obtain ⟨y2, yf2⟩ := CBox.at_ E4.out 2 _ rfl
    obtain ⟨y3, yf3⟩ := CBox.at_ E4.out 3 _ rfl
    clear hx hlf hrg2 hlt hg2 hs2 hFx hxk hG2 hW4 hb4 hq0 hd
    cases d
    · have HMX := Lib.hid (mixD_keep (lf := lf) HFX.out HD.out)
      go_upto_region 5 with fail
      rw [HW4.out, HQ0.out]
      go_wp2_with ((with_reducible refine HC.out.mono ?_); rintro e' w5 ⟨rfl, hb5⟩; have HB5 := Lib.hid hb5; clear hb5)
      go_roundw
      case rel => exact ⟨_, cnt2, by rw [HMX.out]; exact HR4.out.below HB5.out, grown_below HG4.out HB5.out⟩
      case measure => rw [(HR4.out.below HB5.out).left]; exact HLT.out
    · have HMX := Lib.hid (mixD_drop (lf := lf) HFX.out HD.out)
      go_upto_region 5 with fail
      rw [HW4.out, HQ0.out]
      go_upto_region 6 with ((with_reducible refine HC.out.mono ?_); rintro e' w5 ⟨rfl, hb5⟩; have HB5 := Lib.hid hb5; clear hb5)
      obtain ⟨V, hV⟩ : ∃ W, w5.drew = W := ⟨_, rfl⟩
      have hbv : Below w5.heap.size w5 V := by rw [← hV]; exact Below.drew (Below.refl _ _)
      have HV := Lib.hid hV
      have KV := Lib.hid ((K4.out.below HB5.out K4.out.lt).below hbv (K4.out.below HB5.out K4.out.lt).lt)
      have GV := Lib.hid (grown_below (grown_below HG4.out HB5.out) hbv)
      have RV := Lib.hid ((HR4.out.below HB5.out).below hbv)
      obtain ⟨w7, cnt7, hrun, hrg7, hle7, hturn7⟩ := RV.out.drop Tryz.underlying149 (x1, x2) HOK.out 0
      replace hrun : (Builtin.delete_ #[149, 202] 0 #[.map (some m), .agg #[.int .i64 x1, .string (bstr x2)]]).run Tryz.prog V = .ok (.tuple #[]) w7 := hrun
      have HQM := Lib.hid (show q0 ≠ m from fun q => by
       obtain ⟨es, c, hm⟩ := (show ∃ es c, V.heap[m]? = some (Obj.map es c) from by obtain ⟨_, D, ⟨es, clock, hb, _⟩, _⟩ := RV.out.map; exact ⟨es, clock, hb⟩)
       have hk : V.heap[q0]? = some _ := KV.out
       rw [q, hm] at hk
       cases hk)
      have G7 := Lib.hid (show w.grownBy w7 (some m) from GV.out.andThen hturn7.grown (fun j hj => by cases hj; exact .inr rfl))
      have R7 := Lib.hid (show VRg KF w7 m w.heap.size n (encV (mixD F pr (strikeK lf (x1, x2)))) (strikeK (strikeK lf (x1, x2)) (x1, x2)) cnt7 from by rw [HMX.out]; exact hrg7)
      have T7 := Lib.hid hturn7.grown
      have HMS := Lib.hid (show mixD F pr (strikeK (strikeK lf (x1, x2)) (x1, x2)) = mixD F pr (strikeK lf (x1, x2)) from by
       congr 1
       funext k
       unfold strikeK
       cases lf k <;> cases decide (k = (x1, x2)) <;> rfl)
      have HLE7 := Lib.hid hle7
      clear hbv hV hrg7 hle7 hturn7
      have HF1 := Lib.hid (fun (wq : World) (h : CBox wq p 151 #[.int .i64 room, .int .i64 age, .map (some m)] ∧ CBox wq q0 202 #[.int .i64 x1, .string (bstr x2)]) => And.intro (h.1.at_ 2 _ rfl).1 (And.intro (h.2.at_ 0 _ rfl).1 (h.2.at_ 1 _ rfl).1))
      have HF := HF1
      refine wp_region_held_drew (S := fun wq => CBox wq p 151 #[.int .i64 room, .int .i64 age, .map (some m)] ∧ CBox wq q0 202 #[.int .i64 x1, .string (bstr x2)]) (by kernel_rfl) (by rw [HV.out]; exact ⟨HPB.out _ GV.out, KV.out⟩) (fun hHeld => ?_)
      rw [HV.out] at hHeld ⊢
      have hrunH := Lib.hid hrun
      clear hrun y0 yf0 y1 yf1 y2 yf2 y3 yf3
      iterate 5 (first | (refine takeO 6 (v := ?_) rfl (by kernel_rfl) (fun _ _ _ h => h) (Or.inl ⟨by rfl, ?_⟩) (by assumption) ?_; rotate_left; (focus (intro wq hSq; have f := HF.out wq hSq; go_simp <;> with_reducible rfl)); simp only [Act.put, List.setIfInBounds_toArray, List.set_cons_zero, List.set_cons_succ]) | (refine takeO 6 (v := undef) rfl (by kernel_rfl) (fun _ _ _ h => h) (Or.inr ⟨by rfl, rfl⟩) (by assumption) ?_; simp only [Act.put, List.setIfInBounds_toArray, List.set_cons_zero, List.set_cons_succ]))
      have hrun := hrunH.out
      refine wpAnyH_ready (rs := [5]) (by kernel_rfl) (by simp) (nextL 5 rfl (fun Kr hKr => ?_) AllReadyH.nil)
      rw [if_pos (by rfl)]
      go_simp
      refine hKr.out _ _ ⟨HPB.out _ G7.out, KV.out.grown T7.out (by have := HQM.out; simpa using this)⟩ (fun _ => ?_)
      clear hKr hrun
      refine wpAnyH_done (by kernel_rfl) ?_ _
      clear hHeld
      go_wp2_with fail
      go_roundw
      case rel => exact ⟨_, cnt7, by rw [HMS.out]; exact R7.out, G7.out⟩
      case measure => rw [R7.out.left]; exact Nat.lt_of_le_of_lt HLE7.out HLT.out

def inBetween (n a b : Int) : Bool := decide (a ≤ n) && decide (n ≤ b)
theorem fwithin_any (n a b : Int) (w : World) :
 Calls Tryz.prog 112 #[.int .i64 n, .int .i64 a, .int .i64 b] w fun e w' => e = .returned (.bool (inBetween n a b)) ∧ w = w' := by
 unfold inBetween
 cases q1 : decide (a ≤ n)
 · go_enter Tryz.func112, Tryz.ntmps112
   go_wp2
   go_ret
   exact ⟨rfl, rfl⟩
 · cases q2 : decide (n ≤ b)
   · go_enter Tryz.func112, Tryz.ntmps112
     go_wp2
     go_ret
     exact ⟨rfl, rfl⟩
   · go_enter Tryz.func112, Tryz.ntmps112
     go_wp2
     go_ret
     exact ⟨rfl, rfl⟩

theorem callFlush1 (args : Array Value) (w : World) : (callFunc 98 args).run Tryz.prog w = .ok (.enter 98 args) w := by kernel_rfl
theorem callFExpire1 (args : Array Value) (w : World) : (callFunc 131 args).run Tryz.prog w = .ok (.enter 131 args) w := by kernel_rfl
theorem flush1_any (k : Int × Str) (e : Int × Int) (port : Int) (b : Nat) (w : World) (hb : b < w.heap.size) (h : w.cell? ⟨b, 0, none⟩ = some (.int .i64 port)) :
 Calls Tryz.prog 98 #[encE k e, .pointer (some ⟨b, 0, none⟩)] w fun e' w' => e' = .returned (.bool (e.1 == port)) ∧ Below w.heap.size w w' := by
 obtain ⟨k1, k2⟩ := k
 obtain ⟨e1, e2⟩ := e
 unfold encE
 dsimp only
 have hbl : Below w.heap.size w (w.alloc (.cells #[.int .i64 k1, .string (bstr k2), .int .i64 e1, .int .i64 e2] 187)) := (Below.refl _ _).alloc (Nat.le_refl _) _
 have h' := (hbl.cell (p := ⟨b, 0, none⟩) hb).trans h
 have HB := Lib.hid hbl
 clear h hbl
 go_enter Tryz.func98, Tryz.ntmps98
 go_wp2
 go_ret
 exact ⟨rfl, HB.out⟩
structure FdOk (F : Fdb) : Prop where
 at_ : ∀ k e, F k = some e → (0 ≤ e.1 ∧ e.1 ≤ 15) ∧ (0 ≤ e.2 ∧ e.2 ≤ 1099511627776)
theorem fold_any (k : Int × Str) (e : Int × Int) (p : Nat) (v0 v2 : Value) (age now : Int) (w : World) (hx : CBox w p 151 #[v0, .int .i64 age, v2]) (he : 0 ≤ e.2 ∧ e.2 ≤ 1099511627776) (ha : 0 ≤ age ∧ age ≤ 1000000) :
 Calls Tryz.prog 132 #[.pointer (some ⟨p, 0, none⟩), encE k e, .int .i64 now] w fun e' w' => e' = .returned (.bool (decide (e.2 + age ≤ now))) ∧ Below w.heap.size w w' := by
 obtain ⟨k1, k2⟩ := k
 obtain ⟨e1, e2⟩ := e
 unfold encE
 dsimp only at he ⊢
 obtain ⟨W1, hW1⟩ : ∃ W, w.alloc (.cells #[.int .i64 k1, .string (bstr k2), .int .i64 e1, .int .i64 e2] 187) = W := ⟨_, rfl⟩
 have hb1 : Below w.heap.size w W1 := by rw [← hW1]; exact (Below.refl _ _).alloc (Nat.le_refl _) _
 obtain ⟨q0, hq0⟩ : ∃ q, w.heap.size = q := ⟨_, rfl⟩
 have hx1 : CBox W1 q0 187 #[.int .i64 k1, .string (bstr k2), .int .i64 e1, .int .i64 e2] := by rw [← hW1]; exact CBox.new _ hq0.symm
 obtain ⟨Z, hZ⟩ : ∃ W, W1.drew = W := ⟨_, rfl⟩
 have hbz : Below W1.heap.size W1 Z := by rw [← hZ]; exact Below.drew (Below.refl _ _)
 have XZ := Lib.hid (hx1.below hbz hx1.lt); have PZ := Lib.hid ((hx.below hb1 hx.lt).below hbz (hx.below hb1 hx.lt).lt); have BZ := Lib.hid (hb1.trans (hbz.mono hb1.size))
 have hsum : IntKind.i64.wrap (e2 + age) = e2 + age := by rw [IntKind.wrap_i64]; omega
 have HW1 := Lib.hid hW1; have HQ0 := Lib.hid hq0; have HZ := Lib.hid hZ
 have HF := Lib.hid (fun (wq : World) (h : CBox wq q0 187 #[.int .i64 k1, .string (bstr k2), .int .i64 e1, .int .i64 e2] ∧ CBox wq p 151 #[v0, .int .i64 age, v2]) => And.intro (h.1.at_ 3 _ rfl).1 (h.2.at_ 1 _ rfl).1)
 clear hx hx1 hb1 hbz hW1 hq0 hZ he ha
 go_enter Tryz.func132, Tryz.ntmps132
 go_upto_region 1 with fail
 rw [HW1.out, HQ0.out]
 refine wp_region_held_drew (S := fun wq => CBox wq q0 187 #[.int .i64 k1, .string (bstr k2), .int .i64 e1, .int .i64 e2] ∧ CBox wq p 151 #[v0, .int .i64 age, v2]) (by kernel_rfl) (by rw [HZ.out]; exact ⟨XZ.out, PZ.out⟩) (fun hHeld => ?_)
 rw [HZ.out] at hHeld ⊢
 iterate 10 (first | (refine takeO 10 (v := ?_) rfl (by kernel_rfl) (fun _ _ _ h => h) (Or.inl ⟨by rfl, ?_⟩) (by assumption) ?_; rotate_left; (focus (intro wq hSq; have f := HF.out wq hSq; go_simp <;> with_reducible rfl)); simp only [Act.put, List.setIfInBounds_toArray, List.set_cons_zero, List.set_cons_succ]) | (refine takeO 10 (v := undef) rfl (by kernel_rfl) (fun _ _ _ h => h) (Or.inr ⟨by rfl, rfl⟩) (by assumption) ?_; simp only [Act.put, List.setIfInBounds_toArray, List.set_cons_zero, List.set_cons_succ]))
 refine wpAnyH_done (by kernel_rfl) ?_ _
 clear hHeld HF
 go_wp2_with fail
 go_ret
 exact ⟨rfl, BZ.out⟩
theorem fexpire1_any (k : Int × Str) (e : Int × Int) (p b0 b1 : Nat) (v0 v2 : Value) (age now : Int) (w : World) (hx : CBox w p 151 #[v0, .int .i64 age, v2]) (he : 0 ≤ e.2 ∧ e.2 ≤ 1099511627776) (ha : 0 ≤ age ∧ age ≤ 1000000)
 (h0 : b0 < w.heap.size ∧ w.cell? ⟨b0, 0, none⟩ = some (.pointer (some ⟨p, 0, none⟩))) (h1 : b1 < w.heap.size ∧ w.cell? ⟨b1, 0, none⟩ = some (.int .i64 now)) :
 Calls Tryz.prog 131 #[encE k e, .pointer (some ⟨b0, 0, none⟩), .pointer (some ⟨b1, 0, none⟩)] w fun e' w' => e' = .returned (.bool (decide (e.2 + age ≤ now))) ∧ Below w.heap.size w w' := by
 obtain ⟨k1, k2⟩ := k
 obtain ⟨e1, e2⟩ := e
 have HO := Lib.hid (fun W (hW : Below w.heap.size w W) => fold_any (k1, k2) (e1, e2) p v0 v2 age now W (hx.below hW hx.lt) he ha)
 unfold encE at HO ⊢
 dsimp only at HO ⊢
 have hbl : Below w.heap.size w (w.alloc (.cells #[.int .i64 k1, .string (bstr k2), .int .i64 e1, .int .i64 e2] 187)) := (Below.refl _ _).alloc (Nat.le_refl _) _
 have g0 := (hbl.cell (p := ⟨b0, 0, none⟩) h0.1).trans h0.2
 have g1 := (hbl.cell (p := ⟨b1, 0, none⟩) h1.1).trans h1.2
 have HB := Lib.hid hbl
 clear hx he ha h0 h1 hbl
 go_enter Tryz.func131, Tryz.ntmps131
 go_wp2_with ((with_reducible refine (HO.out _ HB.out).mono ?_); rintro e' w2 ⟨rfl, hb2⟩; have HB2 := Lib.hid (HB.out.trans (hb2.mono HB.out.size)); clear hb2)
 go_ret
 exact ⟨rfl, HB2.out⟩

def flushF (F : Fdb) (port : Int) : Fdb := cutF F fun _ e => e.1 == port
def fexpF (F : Fdb) (age now : Int) : Fdb := cutF F fun _ e => decide (e.2 + age ≤ now)
theorem flush_any (p m n : Nat) (room age port : Int) (F : Fdb) (w : World) (h : FdAt w p m n room age F) :
 Calls Tryz.prog 51 #[.pointer (some ⟨p, 0, none⟩), .int .i64 port] w (RetFd w p m n room age (flushF F port)) := by
 have hb : Below w.heap.size w (w.alloc (.cells #[.int .i64 port] 3)) := (Below.refl _ _).alloc (Nat.le_refl _) _
 have hc : (w.alloc (.cells #[.int .i64 port] 3)).cell? ⟨w.heap.size, 0, none⟩ = some (.int .i64 port) := ((CBox.new #[.int .i64 port] rfl : CBox (w.alloc (.cells #[.int .i64 port] 3)) w.heap.size 3 _).at_ 0 _ rfl).1
 have hl := h.lt
 have HC := Lib.hid (ftake_any 98 #[.pointer (some ⟨w.heap.size, 0, none⟩)] (fun _ e => e.1 == port) p m n room age F _ (h.below hb) callFlush1 (fun k e W _ hW =>
  flush1_any k e port w.heap.size W (Nat.lt_of_lt_of_le (by simp) hW.size) ((World.cell?_of_block (a := ⟨w.heap.size, 0, none⟩) (hW.block w.heap.size (by simp) (by simp; omega))).trans hc)))
 have HB := Lib.hid hb
 clear h hb hc hl
 go_enter Tryz.func51, Tryz.ntmps51
 go_wp2_with ((with_reducible refine HC.out.mono ?_); rintro e w' ⟨⟨i, rfl⟩, hf, ht⟩; have HR := Lib.hid (And.intro hf ht); clear hf ht)
 go_ret
 exact ⟨⟨i, rfl⟩, HR.out.1, Turn.ahead HB.out HR.out.2⟩
theorem fexpire_any (p m n : Nat) (room age now : Int) (F : Fdb) (w : World) (h : FdAt w p m n room age F) (ok : FdOk F) (ha : 0 ≤ age ∧ age ≤ 1000000) (hn : 0 ≤ now ∧ now ≤ 1099511627776) :
 Calls Tryz.prog 69 #[.pointer (some ⟨p, 0, none⟩), .int .i64 now] w (RetFd w p m n room age (fexpF F age now)) := by
 have hb0 : Below w.heap.size w (w.alloc (.cells #[.pointer (some ⟨p, 0, none⟩)] 80)) := (Below.refl _ _).alloc (Nat.le_refl _) _
 have hb := hb0.alloc (by simp) (.cells #[.int .i64 now] 3)
 obtain ⟨W2, hW2⟩ : ∃ W, (w.alloc (.cells #[.pointer (some ⟨p, 0, none⟩)] 80)).alloc (.cells #[.int .i64 now] 3) = W := ⟨_, rfl⟩
 obtain ⟨q0, hq0⟩ : ∃ q, w.heap.size = q := ⟨_, rfl⟩
 have x0 : CBox W2 q0 80 #[.pointer (some ⟨p, 0, none⟩)] := by rw [← hW2]; exact (CBox.new _ hq0.symm).old _
 have x1 : CBox W2 (q0 + 1) 3 #[.int .i64 now] := by rw [← hW2]; exact CBox.new _ (by rw [World.size_alloc, hq0])
 rw [hW2] at hb
 have hl := h.lt
 have h2 := h.below hb
 have HWI := Lib.hid (fwithin_any now 0 1099511627776 W2)
 rw [show inBetween now 0 1099511627776 = true from by unfold inBetween; rw [decide_eq_true hn.1, decide_eq_true hn.2]; rfl] at HWI
 have hkeep : ∀ (W : World), W2.grownBy W (some m) → CBox W q0 80 #[.pointer (some ⟨p, 0, none⟩)] ∧ CBox W (q0 + 1) 3 #[.int .i64 now] := fun W hW => ⟨x0.grown hW (by simp; omega), x1.grown hW (by simp; omega)⟩
 have HC := Lib.hid (ftake_any 131 #[.pointer (some ⟨q0, 0, none⟩), .pointer (some ⟨q0 + 1, 0, none⟩)] (fun _ e => decide (e.2 + age ≤ now)) p m n room age F W2 h2 callFExpire1 (fun k e W hk hW =>
  fexpire1_any k e p q0 (q0 + 1) _ _ age now W (h2.box.grown hW (by have := h2.ne; simpa using this)) (ok.at_ k e hk).2 ha ⟨(hkeep W hW).1.lt, ((hkeep W hW).1.at_ 0 _ rfl).1⟩ ⟨(hkeep W hW).2.lt, ((hkeep W hW).2.at_ 0 _ rfl).1⟩))
 have HB := Lib.hid hb; have HW2 := Lib.hid hW2; have HQ0 := Lib.hid hq0
 obtain ⟨c0, _⟩ := x0.at_ 0 _ rfl
 obtain ⟨c1, _⟩ := x1.at_ 0 _ rfl
 clear h hb0 hb hl h2 hkeep hW2 hq0 x0 x1 hn ha
 go_enter Tryz.func69, Tryz.ntmps69
 go_upto_region 1 with fail
 rw [HW2.out, HQ0.out]
 go_wp2_with (first | ((with_reducible refine HWI.out.mono ?_); rintro e w3 ⟨rfl, hw3⟩; subst w3) | ((with_reducible refine HC.out.mono ?_); rintro e w' ⟨⟨i, rfl⟩, hf, ht⟩; have HR := Lib.hid (And.intro hf ht); clear hf ht))
 go_ret
 exact ⟨⟨i, rfl⟩, HR.out.1, Turn.ahead HB.out HR.out.2⟩
end Go.Proofs.YthcdppppppgckaaGreatDoor
