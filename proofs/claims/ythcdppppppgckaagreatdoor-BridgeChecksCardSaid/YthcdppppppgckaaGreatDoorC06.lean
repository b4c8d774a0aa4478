/- Texts joined into one file: BPrio, BCmp, BBest, BRoles. -/
import Derived.Test.YthcdppppppgckaaGreatDoorC04
import Derived.Test.YthcdppppppgckaaGreatDoorC05
import Derived.Deep.DeepCutAuto
import Derived.Sort.OwnSorted

namespace Go.Proofs.YthcdppppppgckaaGreatDoor
open Go.RowKit Go.Lib
set_option maxRecDepth 20000

structure Vec where
 root : Int
 cost : Int
 bridge : Int
 port : Int
deriving DecidableEq
instance : Inhabited Vec := ⟨⟨0, 0, 0, 0⟩⟩
def cmpZ (a b : Int) : Int := if a < b then -1 else if b < a then 1 else 0
def firstL (L : List Int) : Int := (L.find? fun x => !(x == 0)).getD 0
def vcmp (a b : Vec) : Int := firstL [cmpZ a.root b.root, cmpZ a.cost b.cost, cmpZ a.bridge b.bridge, cmpZ a.port b.port]
def vown (b : Int) : Vec := ⟨b, 0, b, 0⟩
def vzero : Vec := ⟨0, 0, 0, 0⟩
def thruOk (v : Vec) (c : Int) : Bool := !(decide (c < 1) || decide (200000000 < c) || decide (v.cost < 0) || decide (4294967295 < v.cost))
def thru (v : Vec) (c : Int) : Vec × Int := if thruOk v c then (⟨v.root, min (v.cost + c) 4294967295, v.bridge, v.port⟩, 0) else (vzero, 1)
structure Hrd where
 is : Bool
 v : Vec
 cost : Int
deriving DecidableEq
instance : Inhabited Hrd := ⟨⟨false, vzero, 0⟩⟩
def better (b : Int) (h : Hrd) (best : Vec) : Bool := h.is && !(h.v.bridge == b) && thruOk h.v h.cost && decide (vcmp (thru h.v h.cost).1 best < 0)
def bstep (b : Int) (s : Int × Vec) (i : Nat) (h : Hrd) : Int × Vec := if better b h s.2 then ((i : Int), (thru h.v h.cost).1) else s
def pbestGo (b : Int) : Nat → Int × Vec → List Hrd → Int × Vec
 | _, s, [] => s
 | i, s, h :: l => pbestGo b (i + 1) (bstep b s i h) l
def pbest (b : Int) (l : List Hrd) : Int × Vec := pbestGo b 0 (-1, vown b) l
theorem pbestGo_snoc (b : Int) : ∀ (l : List Hrd) (i : Nat) (s : Int × Vec) (h : Hrd), pbestGo b i s (l ++ [h]) = bstep b (pbestGo b i s l) (i + l.length) h
 | [], i, s, h => by simp [pbestGo]
 | x :: l, i, s, h => by
   show pbestGo b (i + 1) (bstep b s i x) (l ++ [h]) = _
   rw [pbestGo_snoc b l (i + 1)]
   have e : i + 1 + l.length = i + (x :: l).length := by simp; omega
   rw [e]
   rfl
theorem pbest_take {b : Int} {l : List Hrd} {k : Nat} (h : k < l.length) : pbest b (l.take (k + 1)) = bstep b (pbest b (l.take k)) k l[k] := by
 unfold pbest
 rw [List.take_succ_eq_append_getElem h, pbestGo_snoc, List.length_take, Nat.min_eq_left (by omega), Nat.zero_add]
def role1 (p : Int) (best : Vec) (i : Nat) (h : Hrd) : Int := if (i : Int) = p then 1 else if !h.is || decide (vcmp ⟨best.root, best.cost, best.bridge, i⟩ h.v ≤ 0) then 2 else 3
def prolesGo (p : Int) (best : Vec) : Nat → List Hrd → List Int
 | _, [] => []
 | i, h :: l => role1 p best i h :: prolesGo p best (i + 1) l
def proles (b : Int) (l : List Hrd) : List Int := prolesGo (pbest b l).1 ⟨(pbest b l).2.root, (pbest b l).2.cost, b, (pbest b l).2.port⟩ 0 l
theorem prolesGo_snoc (p : Int) (best : Vec) : ∀ (l : List Hrd) (i : Nat) (h : Hrd), prolesGo p best i (l ++ [h]) = prolesGo p best i l ++ [role1 p best (i + l.length) h]
 | [], i, h => by simp [prolesGo]
 | x :: l, i, h => by
   have e : i + 1 + l.length = i + (x :: l).length := by simp; omega
   show role1 p best i x :: prolesGo p best (i + 1) (l ++ [h]) = _
   rw [prolesGo_snoc p best l (i + 1), e]
   rfl
theorem prolesGo_len (p : Int) (best : Vec) : ∀ (l : List Hrd) (i : Nat), (prolesGo p best i l).length = l.length
 | [], _ => rfl
 | _ :: l, i => by simp [prolesGo, prolesGo_len p best l (i + 1)]
theorem proles_len (b : Int) (l : List Hrd) : (proles b l).length = l.length := prolesGo_len _ _ _ _

structure Bpd where
 v : Vec
 age : Int
 change : Bool
 learn : Bool
 fwd : Bool
deriving DecidableEq
instance : Inhabited Bpd := ⟨⟨vzero, 0, false, false, false⟩⟩
structure Prt where
 cost : Int
 role : Int
 since : Int
 up : Bool
 keeps : Bool
 fwd : Bool
 kept : Bpd
 at_ : Int
deriving DecidableEq
instance : Inhabited Prt := ⟨⟨0, 0, 0, false, false, false, default, 0⟩⟩
structure Tre where
 bridge : Int
 ports : List Prt
 now : Int
 root : Int
 change : Int
 best : Vec
deriving DecidableEq
def Prt.active (p : Prt) : Bool := (p.role == 1) || (p.role == 2)
def drop1 (now : Int) (p : Prt) : Prt := { p with keeps := p.keeps && decide (now < p.at_ + 6) && decide (p.kept.age < 20) }
def Tre.drop (t : Tre) : Tre := { t with ports := t.ports.map (drop1 t.now) }
def hrd (p : Prt) : Hrd := ⟨p.up && p.keeps, p.kept.v, p.cost⟩
def set1 (now role : Int) (p : Prt) : Prt :=
 let r := if p.up then role else 0
 let a := (r == 1) || (r == 2)
 let s := if !a then -1 else if p.since == -1 then now else p.since
 { p with role := r, since := s, fwd := a && decide (30 ≤ now - s) }
def settle2 (now : Int) (ports : List Prt) (roles : List Int) : List Prt := (ports.zip roles).map fun q => set1 now q.2 q.1
def began (now : Int) (ports : List Prt) (roles : List Int) : Bool := (ports.zip roles).any fun q => (set1 now q.2 q.1).fwd && !q.1.fwd
def Tre.settle (t : Tre) : Tre :=
 let d := t.drop
 let l := d.ports.map hrd
 let r := proles t.bridge l
 { d with ports := settle2 t.now d.ports r, root := (pbest t.bridge l).1, best := (pbest t.bridge l).2, change := if began t.now d.ports r then t.now else t.change }
def Tre.okAt (t : Tre) (i now : Int) : Bool := decide (0 ≤ now) && decide (now ≤ 1099511627776) && decide (0 ≤ i) && decide (i < t.ports.length)
def Tre.link (t : Tre) (i : Int) (up : Bool) (now : Int) : Tre :=
 if t.okAt i now then
  Tre.settle { t with now := max t.now now, ports := t.ports.modify i.toNat fun p => { p with up := up, keeps := p.keeps && up } }
 else t
def Tre.learns (t : Tre) (i : Int) : Bool := t.okAt i 0 && !((t.ports.getD i.toNat default).since == -1) && decide (15 ≤ t.now - (t.ports.getD i.toNat default).since)
def Tre.forwards (t : Tre) (i : Int) : Bool := t.okAt i 0 && (t.ports.getD i.toNat default).fwd
def Tre.roleOf (t : Tre) (i : Int) : Int := if t.okAt i 0 then (t.ports.getD i.toNat default).role else 0
def Tre.age (t : Tre) : Int := if t.root = -1 then 0 else (t.ports.getD t.root.toNat default).kept.age + 1
def Tre.tick1 (t : Tre) (i : Nat) (p : Prt) : Int × Bpd := (i, ⟨⟨t.best.root, t.best.cost, t.bridge, i⟩, t.age, !(t.change == -1) && decide (t.now - t.change < 4), t.learns i, p.fwd⟩)
def Tre.ticksGo (t : Tre) : Nat → List Prt → List (Int × Bpd)
 | _, [] => []
 | i, p :: l => (if p.role == 2 then [t.tick1 i p] else []) ++ t.ticksGo (i + 1) l
def Tre.tick (t : Tre) (now : Int) : Tre × List (Int × Bpd) :=
 if t.okAt 0 now then
  let s := Tre.settle { t with now := max t.now now }
  (s, if now % 2 == 1 || decide (20 ≤ s.age) then [] else s.ticksGo 0 s.ports)
 else (t, [])
def newTree (b : Int) (costs : List Int) : Tre := ⟨b, costs.map fun c => ⟨c, 0, -1, false, false, false, default, 0⟩, 0, -1, -1, vown b⟩
def costsOk (costs : List Int) : Bool := decide (1 ≤ costs.length) && decide (costs.length ≤ 16) && costs.all fun c => decide (1 ≤ c) && decide (c ≤ 200000000)
end Go.Proofs.YthcdppppppgckaaGreatDoor

namespace Go.Proofs.YthcdppppppgckaaGreatDoor
open Go.RowKit Go.Lib
set_option maxRecDepth 20000
set_option maxRecDepth 20000

theorem nan_int (x : Int) (w : World) : Calls Tryz.prog 234 #[.int .i64 x] w fun e w' => e = .returned (.bool false) ∧ w' = w := by
 go_enter Tryz.func234, Tryz.ntmps234
 go_wp2
 go_ret
 exact ⟨by simp, rfl⟩
theorem nan_u64 (x : Int) (w : World) : Calls Tryz.prog 233 #[.int .u64 x] w fun e w' => e = .returned (.bool false) ∧ w' = w := by
 go_enter Tryz.func233, Tryz.ntmps233
 go_wp2
 go_ret
 exact ⟨by simp, rfl⟩
theorem cmpz_any (a b : Int) (w : World) : Calls Tryz.prog 169 #[.int .i64 a, .int .i64 b] w fun e w' => e = .returned (.int .i64 (cmpZ a b)) ∧ w' = w := by
 have HN := Lib.hid (fun x => nan_int x w)
 cases h1 : decide (a < b) <;> cases h2 : decide (b < a)
 all_goals
  have HE := Lib.hid (And.intro h1 h2)
  go_enter Tryz.func169, Tryz.ntmps169
  go_wp2_with ((with_reducible refine (HN.out _).mono ?_); rintro e w' ⟨rfl, hw'⟩; subst w')
  go_ret
  obtain ⟨q1, q2⟩ := HE.out
  simp at q1 q2
  refine ⟨?_, rfl⟩
  unfold cmpZ
  first | (rw [if_pos (by omega)]; rfl) | (rw [if_neg (by omega), if_pos (by omega)]; rfl) | (rw [if_neg (by omega), if_neg (by omega)]; rfl)
theorem cmpu_any (a b : Int) (w : World) : Calls Tryz.prog 168 #[.int .u64 a, .int .u64 b] w fun e w' => e = .returned (.int .i64 (cmpZ a b)) ∧ w' = w := by
 have HN := Lib.hid (fun x => nan_u64 x w)
 cases h1 : decide (a < b) <;> cases h2 : decide (b < a)
 all_goals
  have HE := Lib.hid (And.intro h1 h2)
  go_enter Tryz.func168, Tryz.ntmps168
  go_wp2_with ((with_reducible refine (HN.out _).mono ?_); rintro e w' ⟨rfl, hw'⟩; subst w')
  go_ret
  obtain ⟨q1, q2⟩ := HE.out
  simp at q1 q2
  refine ⟨?_, rfl⟩
  unfold cmpZ
  first | (rw [if_pos (by omega)]; rfl) | (rw [if_neg (by omega), if_pos (by omega)]; rfl) | (rw [if_neg (by omega), if_neg (by omega)]; rfl)

theorem firstL_at {L : List Int} {k : Nat} (h : k < L.length) (h0 : ∀ j, (hj : j < k) → L[j]'(by omega) = 0) (hk : L[k] ≠ 0) : firstL L = L[k] := by
 unfold firstL
 have : L.find? (fun x => !(x == 0)) = some L[k] := by
  rw [List.find?_eq_some_iff_getElem]
  exact ⟨by simpa using hk, k, h, rfl, fun j hj => by simpa using h0 j hj⟩
 rw [this]
 rfl
theorem firstL_none {L : List Int} (h0 : ∀ j, (hj : j < L.length) → L[j] = 0) : firstL L = 0 := by
 unfold firstL
 have : L.find? (fun x => !(x == 0)) = none := by
  rw [List.find?_eq_none]
  intro x hx
  obtain ⟨j, hj, rfl⟩ := List.mem_iff_getElem.1 hx
  simpa using h0 j hj
 rw [this]
 rfl
set_option maxHeartbeats 1000000 in
theorem first_any (b cap : Nat) (L : List Int) (w : World) (hn : L.length ≤ 1000000) (hL : ∀ k, (h : k < L.length) → w.cell? ⟨b, k, none⟩ = some (.int .i64 L[k])) :
 Calls Tryz.prog 167 #[.slice (some ⟨b, 0, none⟩) L.length cap] w fun e w' => e = .returned (.int .i64 (firstL L)) ∧ w' = w := by
 have hlen := fun ty w' => run_len_any (P := Tryz.prog) Tryz.underlying23 (some ⟨b, 0, none⟩) L.length cap ty w'
 have HIX := Lib.hid (fun (k : Nat) (hk : k < L.length) (w' : World) => run_index_any (P := Tryz.prog) (s := 1) Tryz.underlying23 (fun w => by kernel_rfl) b 0 L.length cap k hk w')
 have HL := Lib.hid hL
 clear hL
 go_enter Tryz.func167, Tryz.ntmps167
 go_wp2
 go_loop [2, 8] (fun o i => ∃ k : Nat, k ≤ L.length ∧ i = .int .i64 k ∧ o = .int .i64 0 ∧ ∀ j, (hj : j < L.length) → j < k → L[j] = 0) (fun _ i => L.length - (intOf i).toNat)
 case atStart => exact ⟨0, Nat.zero_le _, rfl, rfl, fun j hj hk => absurd hk (by omega)⟩
 case round =>
  obtain ⟨k, hk, rfl, rfl, h0⟩ := hrel
  have H0 := Lib.hid h0
  clear h0
  by_cases hlt : k < L.length
  · have c0 := HL.out k hlt
    have hp := HIX.out k hlt
    rw [Nat.mul_one, Nat.zero_add] at hp
    have HF := Lib.hid (firstL_at hlt (fun j hj => H0.out j (by omega) hj))
    obtain ⟨x, hx⟩ : ∃ x, L[k] = x := ⟨_, rfl⟩
    have HX := Lib.hid hx
    rw [hx] at c0 HF
    clear hx
    cases q : (x != 0)
    · have HE := Lib.hid (show x = 0 from by simpa using q)
      go_wp2_with fail
      go_round
      case rel =>
       refine ⟨k + 1, by omega, by go_num, rfl, fun j hj hjk => ?_⟩
       rcases Nat.lt_or_ge j k with h | h
       · exact H0.out j hj h
       · obtain rfl : j = k := by omega
         rw [HX.out, HE.out]
      case measure => simp [intOf]; omega
    · have HE := Lib.hid (show x ≠ 0 from by simpa using q)
      go_wp2_with fail
      go_ret
      exact ⟨by rw [HF.out HE.out]; rfl, rfl⟩
  · obtain rfl : k = L.length := by omega
    have HF := Lib.hid (firstL_none (fun j hj => H0.out j hj hj))
    go_wp2_with fail
    go_ret
    exact ⟨by rw [HF.out]; rfl, rfl⟩

def vagg (v : Vec) : Value := .agg #[.int .u64 v.root, .int .i64 v.cost, .int .u64 v.bridge, .int .i64 v.port]

set_option maxHeartbeats 4000000 in
theorem vcmp_any (a b : Vec) (w : World) : Calls Tryz.prog 108 #[vagg a, vagg b] w fun e w' => e = .returned (.int .i64 (vcmp a b)) ∧ Below w.heap.size w w' := by
 obtain ⟨ar, ac, ab, ap⟩ := a
 obtain ⟨br, bc, bb, bp⟩ := b
 unfold vagg vcmp
 dsimp only
 obtain ⟨W0, hW0⟩ : ∃ W, (w.alloc (.cells #[.int .u64 ar, .int .i64 ac, .int .u64 ab, .int .i64 ap] 108)).alloc (.cells #[.int .u64 br, .int .i64 bc, .int .u64 bb, .int .i64 bp] 108) = W := ⟨_, rfl⟩
 obtain ⟨n, hn⟩ : ∃ n, w.heap.size = n := ⟨_, rfl⟩
 have X1 := Lib.hid (show CBox W0 n 108 #[.int .u64 ar, .int .i64 ac, .int .u64 ab, .int .i64 ap] from by rw [← hW0]; exact (CBox.new _ hn.symm).old _)
 have X2 := Lib.hid (show CBox W0 (n + 1) 108 #[.int .u64 br, .int .i64 bc, .int .u64 bb, .int .i64 bp] from by rw [← hW0]; exact CBox.new _ (by simp [hn]))
 have HB0 := Lib.hid (show Below w.heap.size w W0 from by rw [← hW0]; exact ((Below.refl _ _).alloc (Nat.le_refl _) _).alloc (by simp) _)
 have HW := Lib.hid hW0; have HN := Lib.hid hn
 clear hW0 hn
 obtain ⟨Z, hZ⟩ : ∃ W, W0.drew = W := ⟨_, rfl⟩
 have hbz : Below W0.heap.size W0 Z := by rw [← hZ]; exact Below.drew (Below.refl _ _)
 have HZ := Lib.hid hZ
 have HBZ := Lib.hid (HB0.out.trans (hbz.mono HB0.out.size))
 have Y1 := Lib.hid (X1.out.below hbz X1.out.lt); have Y2 := Lib.hid (X2.out.below hbz X2.out.lt)
 have HF := Lib.hid (show ∀ wq, Below Z.heap.size Z wq → wq.cell? ⟨n, 0, none⟩ = some (.int .u64 ar) ∧ wq.cell? ⟨n, 1, none⟩ = some (.int .i64 ac) ∧ wq.cell? ⟨n, 2, none⟩ = some (.int .u64 ab) ∧ wq.cell? ⟨n, 3, none⟩ = some (.int .i64 ap) ∧
  wq.cell? ⟨n + 1, 0, none⟩ = some (.int .u64 br) ∧ wq.cell? ⟨n + 1, 1, none⟩ = some (.int .i64 bc) ∧ wq.cell? ⟨n + 1, 2, none⟩ = some (.int .u64 bb) ∧ wq.cell? ⟨n + 1, 3, none⟩ = some (.int .i64 bp) from fun wq hb =>
  have p := Y1.out.below hb Y1.out.lt
  have q := Y2.out.below hb Y2.out.lt
  ⟨(p.at_ 0 _ rfl).1, (p.at_ 1 _ rfl).1, (p.at_ 2 _ rfl).1, (p.at_ 3 _ rfl).1, (q.at_ 0 _ rfl).1, (q.at_ 1 _ rfl).1, (q.at_ 2 _ rfl).1, (q.at_ 3 _ rfl).1⟩)
 have HCZ := Lib.hid (fun a b => cmpz_any a b Z); have HCU := Lib.hid (fun a b => cmpu_any a b Z)
 have HFI := Lib.hid (fun (L : List Int) (W : World) b c h0 h => first_any b c L W h0 h)
 clear hZ hbz
 go_enter Tryz.func108, Tryz.ntmps108
 go_upto_region 1 with fail
 rw [HW.out]
 simp only [HN.out]
 refine wp_region_held_drew (S := fun W' => Below Z.heap.size Z W') (by kernel_rfl) (by rw [HZ.out]; exact Below.refl _ _) (fun hHeld => ?_)
 rw [HZ.out] at hHeld ⊢
 refine tkL 0 (v := ?_) rfl (by kernel_rfl) (fun _ _ _ => id) (Or.inl ⟨by rfl, ?_⟩) (by assumption) ?_; rotate_left; (focus (intro wq hSq; have f := HF.out wq hSq; go_simp <;> with_reducible rfl)); simp only [Act.put, pA, pB, pC]
 refine tkL 1 (v := ?_) rfl (by kernel_rfl) (fun _ _ _ => id) (Or.inl ⟨by rfl, ?_⟩) (by assumption) ?_; rotate_left; (focus (intro wq hSq; have f := HF.out wq hSq; go_simp <;> with_reducible rfl)); simp only [Act.put, pA, pB, pC]
 refine tkL 2 (v := ?_) rfl (by kernel_rfl) (fun _ _ _ => id) (Or.inl ⟨by rfl, ?_⟩) (by assumption) ?_; rotate_left; (focus (intro wq hSq; have f := HF.out wq hSq; go_simp <;> with_reducible rfl)); simp only [Act.put, pA, pB, pC]
 refine tkL 3 (v := ?_) rfl (by kernel_rfl) (fun _ _ _ => id) (Or.inl ⟨by rfl, ?_⟩) (by assumption) ?_; rotate_left; (focus (intro wq hSq; have f := HF.out wq hSq; go_simp <;> with_reducible rfl)); simp only [Act.put, pA, pB, pC]
 refine tkL 5 (v := ?_) rfl (by kernel_rfl) (fun _ _ _ => id) (Or.inl ⟨by rfl, ?_⟩) (by assumption) ?_; rotate_left; (focus (intro wq hSq; have f := HF.out wq hSq; go_simp <;> with_reducible rfl)); simp only [Act.put, pA, pB, pC]
 refine tkL 6 (v := ?_) rfl (by kernel_rfl) (fun _ _ _ => id) (Or.inl ⟨by rfl, ?_⟩) (by assumption) ?_; rotate_left; (focus (intro wq hSq; have f := HF.out wq hSq; go_simp <;> with_reducible rfl)); simp only [Act.put, pA, pB, pC]
 refine tkL 7 (v := ?_) rfl (by kernel_rfl) (fun _ _ _ => id) (Or.inl ⟨by rfl, ?_⟩) (by assumption) ?_; rotate_left; (focus (intro wq hSq; have f := HF.out wq hSq; go_simp <;> with_reducible rfl)); simp only [Act.put, pA, pB, pC]
 refine tkL 8 (v := ?_) rfl (by kernel_rfl) (fun _ _ _ => id) (Or.inl ⟨by rfl, ?_⟩) (by assumption) ?_; rotate_left; (focus (intro wq hSq; have f := HF.out wq hSq; go_simp <;> with_reducible rfl)); simp only [Act.put, pA, pB, pC]
 refine tkL 10 (v := ?_) rfl (by kernel_rfl) (fun _ _ _ => id) (Or.inl ⟨by rfl, ?_⟩) (by assumption) ?_; rotate_left; (focus (intro wq hSq; have f := HF.out wq hSq; go_simp <;> with_reducible rfl)); simp only [Act.put, pA, pB, pC]
 refine tkL 11 (v := ?_) rfl (by kernel_rfl) (fun _ _ _ => id) (Or.inl ⟨by rfl, ?_⟩) (by assumption) ?_; rotate_left; (focus (intro wq hSq; have f := HF.out wq hSq; go_simp <;> with_reducible rfl)); simp only [Act.put, pA, pB, pC]
 refine tkL 12 (v := ?_) rfl (by kernel_rfl) (fun _ _ _ => id) (Or.inl ⟨by rfl, ?_⟩) (by assumption) ?_; rotate_left; (focus (intro wq hSq; have f := HF.out wq hSq; go_simp <;> with_reducible rfl)); simp only [Act.put, pA, pB, pC]
 refine tkL 13 (v := ?_) rfl (by kernel_rfl) (fun _ _ _ => id) (Or.inl ⟨by rfl, ?_⟩) (by assumption) ?_; rotate_left; (focus (intro wq hSq; have f := HF.out wq hSq; go_simp <;> with_reducible rfl)); simp only [Act.put, pA, pB, pC]
 refine tkL 15 (v := ?_) rfl (by kernel_rfl) (fun _ _ _ => id) (Or.inl ⟨by rfl, ?_⟩) (by assumption) ?_; rotate_left; (focus (intro wq hSq; have f := HF.out wq hSq; go_simp <;> with_reducible rfl)); simp only [Act.put, pA, pB, pC]
 refine tkL 16 (v := ?_) rfl (by kernel_rfl) (fun _ _ _ => id) (Or.inl ⟨by rfl, ?_⟩) (by assumption) ?_; rotate_left; (focus (intro wq hSq; have f := HF.out wq hSq; go_simp <;> with_reducible rfl)); simp only [Act.put, pA, pB, pC]
 refine tkL 17 (v := ?_) rfl (by kernel_rfl) (fun _ _ _ => id) (Or.inl ⟨by rfl, ?_⟩) (by assumption) ?_; rotate_left; (focus (intro wq hSq; have f := HF.out wq hSq; go_simp <;> with_reducible rfl)); simp only [Act.put, pA, pB, pC]
 refine tkL 18 (v := ?_) rfl (by kernel_rfl) (fun _ _ _ => id) (Or.inl ⟨by rfl, ?_⟩) (by assumption) ?_; rotate_left; (focus (intro wq hSq; have f := HF.out wq hSq; go_simp <;> with_reducible rfl)); simp only [Act.put, pA, pB, pC]
 refine wpAnyH_ready (rs := [4]) (by kernel_rfl) (by simp) (nextL 4 rfl (fun Kr hKr => ?_) AllReadyH.nil)
 rw [if_pos (by rfl)]
 go_simp
 refine (HCU.out _ _).mono ?_
 rintro e w1 ⟨rfl, hw1⟩
 subst w1
 refine hKr.out _ _ (Below.refl _ _) (fun _ => ?_)
 clear hKr
 refine wpAnyH_ready (rs := [9]) (by kernel_rfl) (by simp) (nextL 9 rfl (fun Kr hKr => ?_) AllReadyH.nil)
 rw [if_pos (by rfl)]
 go_simp
 refine (HCZ.out _ _).mono ?_
 rintro e w1 ⟨rfl, hw1⟩
 subst w1
 refine hKr.out _ _ (Below.refl _ _) (fun _ => ?_)
 clear hKr
 refine wpAnyH_ready (rs := [14]) (by kernel_rfl) (by simp) (nextL 14 rfl (fun Kr hKr => ?_) AllReadyH.nil)
 rw [if_pos (by rfl)]
 go_simp
 refine (HCU.out _ _).mono ?_
 rintro e w1 ⟨rfl, hw1⟩
 subst w1
 refine hKr.out _ _ (Below.refl _ _) (fun _ => ?_)
 clear hKr
 refine wpAnyH_ready (rs := [19]) (by kernel_rfl) (by simp) (nextL 19 rfl (fun Kr hKr => ?_) AllReadyH.nil)
 rw [if_pos (by rfl)]
 go_simp
 refine (HCZ.out _ _).mono ?_
 rintro e w1 ⟨rfl, hw1⟩
 subst w1
 refine hKr.out _ _ (Below.refl _ _) (fun _ => ?_)
 clear hKr
 refine wpAnyH_ready (rs := [20]) (by kernel_rfl) (by simp) (nextL 20 rfl (fun Kr hKr => ?_) AllReadyH.nil)
 rw [if_pos (by rfl)]
 go_simp
 obtain ⟨V, hV⟩ : ∃ W, Z.alloc (.cells #[.int .i64 (cmpZ ar br), .int .i64 (cmpZ ac bc), .int .i64 (cmpZ ab bb), .int .i64 (cmpZ ap bp)] 3) = W := ⟨_, rfl⟩
 have hbv : Below Z.heap.size Z V := by rw [← hV]; exact (Below.refl _ _).alloc (Nat.le_refl _) _
 obtain ⟨m, hm⟩ : ∃ m, Z.heap.size = m := ⟨_, rfl⟩
 have XV := Lib.hid (show CBox V m 3 #[.int .i64 (cmpZ ar br), .int .i64 (cmpZ ac bc), .int .i64 (cmpZ ab bb), .int .i64 (cmpZ ap bp)] from by rw [← hV]; exact CBox.new _ hm.symm)
 have HBV := Lib.hid hbv
 rw [hV, hm]
 refine hKr.out _ _ hbv (fun _ => ?_)
 clear hKr hV hm hbv
 refine wpAnyH_ready (rs := [21]) (by kernel_rfl) (by simp) (nextL 21 rfl (fun Kr hKr => ?_) AllReadyH.nil)
 rw [if_pos (by rfl)]
 go_simp
 refine (HFI.out [(cmpZ ar br), (cmpZ ac bc), (cmpZ ab bb), (cmpZ ap bp)] V m 4 (by simp) (fun k hk => ?_)).mono ?_
 · match k, hk with
   | 0, _ => exact (XV.out.at_ 0 _ rfl).1
   | 1, _ => exact (XV.out.at_ 1 _ rfl).1
   | 2, _ => exact (XV.out.at_ 2 _ rfl).1
   | 3, _ => exact (XV.out.at_ 3 _ rfl).1
 rintro e w1 ⟨rfl, hw1⟩
 subst w1
 refine hKr.out _ _ HBV.out (fun _ => ?_)
 clear hKr
 refine tkL 22 (v := ?_) rfl (by kernel_rfl) (fun _ _ _ => id) (Or.inl ⟨by rfl, ?_⟩) (by assumption) ?_; rotate_left; (focus (intro wq hSq; go_simp <;> with_reducible rfl)); simp only [Act.put, pA, pB, pC]
 refine wpAnyH_done (by kernel_rfl) ?_ _
 go_wp2_with fail
 go_ret
 exact ⟨rfl, HBZ.out.trans (HBV.out.mono HBZ.out.size)⟩

def vzeroC : Array Value := #[.int .u64 0, .int .i64 0, .int .u64 0, .int .i64 0]
theorem vec_end {W : World} {B : Nat} {u0 u1 u2 u3 : Value} (h : CBox W B 108 #[u0, u1, u2, u3]) (x y z t : Value) :
 CBox ((((W.setCell ⟨B, 0, none⟩ x).setCell ⟨B, 1, none⟩ y).setCell ⟨B, 2, none⟩ z).setCell ⟨B, 3, none⟩ t) B 108 #[x, y, z, t] := (((h.set 0 x).set 1 y).set 2 z).set 3 t
theorem vec_below {X Y : World} {B b : Nat} (h : Below b X Y) (hb : b ≤ B) (x y z t : Value) : Below b X ((((Y.setCell ⟨B, 0, none⟩ x).setCell ⟨B, 1, none⟩ y).setCell ⟨B, 2, none⟩ z).setCell ⟨B, 3, none⟩ t) :=
 (((h.setCell (p := ⟨B, 0, none⟩) hb x).setCell (p := ⟨B, 1, none⟩) hb y).setCell (p := ⟨B, 2, none⟩) hb z).setCell (p := ⟨B, 3, none⟩) hb t
theorem vec_far {W : World} {B b : Nat} {T : TypeId} {cs : Array Value} (h : CBox W b T cs) (hb : b ≠ B) (x y z t : Value) :
 CBox ((((W.setCell ⟨B, 0, none⟩ x).setCell ⟨B, 1, none⟩ y).setCell ⟨B, 2, none⟩ z).setCell ⟨B, 3, none⟩ t) b T cs := (((h.far (p := ⟨B, 0, none⟩) hb x).far (p := ⟨B, 1, none⟩) hb y).far (p := ⟨B, 2, none⟩) hb z).far (p := ⟨B, 3, none⟩) hb t

set_option maxHeartbeats 1000000 in
theorem own_any (b : Int) (w : World) : Calls Tryz.prog 79 #[.int .u64 b] w fun e w' => e = .returned (vagg (vown b)) ∧ Below w.heap.size w w' := by
 obtain ⟨W0, hW0⟩ : ∃ W, w.alloc (.cells vzeroC 108) = W := ⟨_, rfl⟩
 obtain ⟨n, hn⟩ : ∃ n, w.heap.size = n := ⟨_, rfl⟩
 have X := Lib.hid (show CBox W0 n 108 vzeroC from by rw [← hW0]; exact CBox.new _ hn.symm)
 have HB := Lib.hid (show Below w.heap.size w W0 from by rw [← hW0]; exact (Below.refl _ _).alloc (Nat.le_refl _) _)
 have HW := Lib.hid hW0; have HN := Lib.hid hn
 clear hW0 hn
 go_enter Tryz.func79, Tryz.ntmps79
 go_upto_region 1 with fail
 have hw := HW.out
 unfold vzeroC at hw
 rw [hw, HN.out]
 obtain ⟨z0, zf0⟩ := CBox.at_ X.out 0 _ rfl
 obtain ⟨z1, zf1⟩ := CBox.at_ X.out 1 _ rfl
 obtain ⟨z2, zf2⟩ := CBox.at_ X.out 2 _ rfl
 obtain ⟨z3, zf3⟩ := CBox.at_ X.out 3 _ rfl
 go_wp2_with fail
 have r := vec_end X.out (.int .u64 b) (.int .i64 0) (.int .u64 b) (.int .i64 0)
 obtain ⟨r0, _⟩ := r.at_ 0 _ rfl; obtain ⟨r1, _⟩ := r.at_ 1 _ rfl; obtain ⟨r2, _⟩ := r.at_ 2 _ rfl; obtain ⟨r3, _⟩ := r.at_ 3 _ rfl
 refine bodyPost_ret (v := vagg (vown b)) (by simp [results, Tryz.results79, go_sem, r0, r1, r2, r3, vagg, vown]) rfl ⟨rfl, vec_below HB.out (Nat.le_of_eq HN.out) _ _ _ _⟩

set_option maxHeartbeats 4000000 in
theorem thru_any (v : Vec) (c : Int) (w : World) (hc : -9223372036854775808 ≤ c ∧ c ≤ 9223372036854775807) : Calls Tryz.prog 228 #[vagg v, .int .i64 c] w fun e w' => e = .returned (.tuple #[vagg (thru v c).1, .int .i64 (thru v c).2]) ∧ Below w.heap.size w w' := by
 obtain ⟨vr, vc, vb, vp⟩ := v
 obtain ⟨W0, hW0⟩ : ∃ W, (w.alloc (.cells #[.int .u64 vr, .int .i64 vc, .int .u64 vb, .int .i64 vp] 108)).alloc (.cells #[.int .u64 0, .int .i64 0, .int .u64 0, .int .i64 0] 108) = W := ⟨_, rfl⟩
 obtain ⟨n, hn⟩ : ∃ n, w.heap.size = n := ⟨_, rfl⟩
 have X1 := Lib.hid (show CBox W0 n 108 #[.int .u64 vr, .int .i64 vc, .int .u64 vb, .int .i64 vp] from by rw [← hW0]; exact (CBox.new _ hn.symm).old _)
 have X2 := Lib.hid (show CBox W0 (n + 1) 108 #[.int .u64 0, .int .i64 0, .int .u64 0, .int .i64 0] from by rw [← hW0]; exact CBox.new _ (by simp [hn]))
 have HB := Lib.hid (show Below w.heap.size w W0 from by rw [← hW0]; exact ((Below.refl _ _).alloc (Nat.le_refl _) _).alloc (by simp) _)
 have HW := Lib.hid hW0; have HN := Lib.hid hn
 clear hW0 hn
 unfold thru thruOk vagg vzero
 dsimp only
 cases q1 : decide (c < 1)
 · cases q2 : decide (200000000 < c)
   · cases q3 : decide (vc < 0)
     · cases q4 : decide (4294967295 < vc)
       · have hs : IntKind.i64.wrap (vc + c) = vc + c := by
          have := of_decide_eq_false q1; have := of_decide_eq_false q2; have := of_decide_eq_false q3; have := of_decide_eq_false q4
          rw [IntKind.wrap_i64]; omega
         go_enter Tryz.func228, Tryz.ntmps228
         go_upto_region 1 with fail
         rw [HW.out]
         simp only [HN.out]
         obtain ⟨x0, xf0⟩ := CBox.at_ X1.out 0 _ rfl
         obtain ⟨x1, xf1⟩ := CBox.at_ X1.out 1 _ rfl
         obtain ⟨x2, xf2⟩ := CBox.at_ X1.out 2 _ rfl
         obtain ⟨x3, xf3⟩ := CBox.at_ X1.out 3 _ rfl
         obtain ⟨z0, zf0⟩ := CBox.at_ X2.out 0 _ rfl
         obtain ⟨z1, zf1⟩ := CBox.at_ X2.out 1 _ rfl
         obtain ⟨z2, zf2⟩ := CBox.at_ X2.out 2 _ rfl
         obtain ⟨z3, zf3⟩ := CBox.at_ X2.out 3 _ rfl
         go_upto_region 4 with fail
         obtain ⟨m, hm⟩ : ∃ m, (if 4294967295 < vc + c then 4294967295 else vc + c) = m := ⟨_, rfl⟩
         have HM := Lib.hid (show min (vc + c) 4294967295 = m from by rw [← hm]; split <;> omega)
         obtain ⟨W1, hW1⟩ : ∃ W, W0.setCell ⟨n, 1, none⟩ (.int .i64 m) = W := ⟨_, rfl⟩
         have Y1 := Lib.hid (show CBox W1 n 108 #[.int .u64 vr, .int .i64 m, .int .u64 vb, .int .i64 vp] from by rw [← hW1]; simpa using X1.out.set 1 (.int .i64 m))
         have Y2 := Lib.hid (show CBox W1 (n + 1) 108 #[.int .u64 0, .int .i64 0, .int .u64 0, .int .i64 0] from by rw [← hW1]; exact X2.out.far (p := ⟨n, 1, none⟩) (by show n + 1 ≠ n; omega) _)
         have B1 := Lib.hid (show Below w.heap.size w W1 from by rw [← hW1]; exact HB.out.setCell (p := ⟨n, 1, none⟩) (by show w.heap.size ≤ n; have := HN.out; omega) _)
         rw [hm, hW1]
         clear hm hW1 x0 xf0 x1 xf1 x2 xf2 x3 xf3 z0 zf0 z1 zf1 z2 zf2 z3 zf3 hs
         obtain ⟨x0, xf0⟩ := CBox.at_ Y1.out 0 _ rfl
         obtain ⟨x1, xf1⟩ := CBox.at_ Y1.out 1 _ rfl
         obtain ⟨x2, xf2⟩ := CBox.at_ Y1.out 2 _ rfl
         obtain ⟨x3, xf3⟩ := CBox.at_ Y1.out 3 _ rfl
         obtain ⟨z0, zf0⟩ := CBox.at_ Y2.out 0 _ rfl
         obtain ⟨z1, zf1⟩ := CBox.at_ Y2.out 1 _ rfl
         obtain ⟨z2, zf2⟩ := CBox.at_ Y2.out 2 _ rfl
         obtain ⟨z3, zf3⟩ := CBox.at_ Y2.out 3 _ rfl
         go_wp2_with fail
         have r := vec_end Y2.out (.int .u64 vr) (.int .i64 m) (.int .u64 vb) (.int .i64 vp)
         obtain ⟨r0, _⟩ := r.at_ 0 _ rfl; obtain ⟨r1, _⟩ := r.at_ 1 _ rfl; obtain ⟨r2, _⟩ := r.at_ 2 _ rfl; obtain ⟨r3, _⟩ := r.at_ 3 _ rfl
         refine bodyPost_ret (v := .tuple #[.agg #[.int .u64 vr, .int .i64 m, .int .u64 vb, .int .i64 vp], .int .i64 0]) (by simp [results, Tryz.results228, go_sem, r0, r1, r2, r3]) rfl ⟨?_, vec_below B1.out (by have := HN.out; omega) _ _ _ _⟩
         rw [HM.out]
       · go_enter Tryz.func228, Tryz.ntmps228
         go_upto_region 1 with fail
         rw [HW.out]
         simp only [HN.out]
         obtain ⟨x0, xf0⟩ := CBox.at_ X1.out 0 _ rfl
         obtain ⟨x1, xf1⟩ := CBox.at_ X1.out 1 _ rfl
         obtain ⟨x2, xf2⟩ := CBox.at_ X1.out 2 _ rfl
         obtain ⟨x3, xf3⟩ := CBox.at_ X1.out 3 _ rfl
         obtain ⟨z0, zf0⟩ := CBox.at_ X2.out 0 _ rfl
         obtain ⟨z1, zf1⟩ := CBox.at_ X2.out 1 _ rfl
         obtain ⟨z2, zf2⟩ := CBox.at_ X2.out 2 _ rfl
         obtain ⟨z3, zf3⟩ := CBox.at_ X2.out 3 _ rfl
         go_wp2_with fail
         have r := vec_end X2.out (.int .u64 0) (.int .i64 0) (.int .u64 0) (.int .i64 0)
         obtain ⟨r0, _⟩ := r.at_ 0 _ rfl; obtain ⟨r1, _⟩ := r.at_ 1 _ rfl; obtain ⟨r2, _⟩ := r.at_ 2 _ rfl; obtain ⟨r3, _⟩ := r.at_ 3 _ rfl
         refine bodyPost_ret (v := .tuple #[.agg #[.int .u64 0, .int .i64 0, .int .u64 0, .int .i64 0], .int .i64 1]) (by simp [results, Tryz.results228, go_sem, r0, r1, r2, r3]) rfl ⟨rfl, vec_below HB.out (by have := HN.out; omega) _ _ _ _⟩
     · go_enter Tryz.func228, Tryz.ntmps228
       go_upto_region 1 with fail
       rw [HW.out]
       simp only [HN.out]
       obtain ⟨x0, xf0⟩ := CBox.at_ X1.out 0 _ rfl
       obtain ⟨x1, xf1⟩ := CBox.at_ X1.out 1 _ rfl
       obtain ⟨x2, xf2⟩ := CBox.at_ X1.out 2 _ rfl
       obtain ⟨x3, xf3⟩ := CBox.at_ X1.out 3 _ rfl
       obtain ⟨z0, zf0⟩ := CBox.at_ X2.out 0 _ rfl
       obtain ⟨z1, zf1⟩ := CBox.at_ X2.out 1 _ rfl
       obtain ⟨z2, zf2⟩ := CBox.at_ X2.out 2 _ rfl
       obtain ⟨z3, zf3⟩ := CBox.at_ X2.out 3 _ rfl
       go_wp2_with fail
       have r := vec_end X2.out (.int .u64 0) (.int .i64 0) (.int .u64 0) (.int .i64 0)
       obtain ⟨r0, _⟩ := r.at_ 0 _ rfl; obtain ⟨r1, _⟩ := r.at_ 1 _ rfl; obtain ⟨r2, _⟩ := r.at_ 2 _ rfl; obtain ⟨r3, _⟩ := r.at_ 3 _ rfl
       refine bodyPost_ret (v := .tuple #[.agg #[.int .u64 0, .int .i64 0, .int .u64 0, .int .i64 0], .int .i64 1]) (by simp [results, Tryz.results228, go_sem, r0, r1, r2, r3]) rfl ⟨rfl, vec_below HB.out (by have := HN.out; omega) _ _ _ _⟩
   · go_enter Tryz.func228, Tryz.ntmps228
     go_upto_region 1 with fail
     rw [HW.out]
     simp only [HN.out]
     obtain ⟨x0, xf0⟩ := CBox.at_ X1.out 0 _ rfl
     obtain ⟨x1, xf1⟩ := CBox.at_ X1.out 1 _ rfl
     obtain ⟨x2, xf2⟩ := CBox.at_ X1.out 2 _ rfl
     obtain ⟨x3, xf3⟩ := CBox.at_ X1.out 3 _ rfl
     obtain ⟨z0, zf0⟩ := CBox.at_ X2.out 0 _ rfl
     obtain ⟨z1, zf1⟩ := CBox.at_ X2.out 1 _ rfl
     obtain ⟨z2, zf2⟩ := CBox.at_ X2.out 2 _ rfl
     obtain ⟨z3, zf3⟩ := CBox.at_ X2.out 3 _ rfl
     go_wp2_with fail
     have r := vec_end X2.out (.int .u64 0) (.int .i64 0) (.int .u64 0) (.int .i64 0)
     obtain ⟨r0, _⟩ := r.at_ 0 _ rfl; obtain ⟨r1, _⟩ := r.at_ 1 _ rfl; obtain ⟨r2, _⟩ := r.at_ 2 _ rfl; obtain ⟨r3, _⟩ := r.at_ 3 _ rfl
     refine bodyPost_ret (v := .tuple #[.agg #[.int .u64 0, .int .i64 0, .int .u64 0, .int .i64 0], .int .i64 1]) (by simp [results, Tryz.results228, go_sem, r0, r1, r2, r3]) rfl ⟨rfl, vec_below HB.out (by have := HN.out; omega) _ _ _ _⟩
 · go_enter Tryz.func228, Tryz.ntmps228
   go_upto_region 1 with fail
   rw [HW.out]
   simp only [HN.out]
   obtain ⟨x0, xf0⟩ := CBox.at_ X1.out 0 _ rfl
   obtain ⟨x1, xf1⟩ := CBox.at_ X1.out 1 _ rfl
   obtain ⟨x2, xf2⟩ := CBox.at_ X1.out 2 _ rfl
   obtain ⟨x3, xf3⟩ := CBox.at_ X1.out 3 _ rfl
   obtain ⟨z0, zf0⟩ := CBox.at_ X2.out 0 _ rfl
   obtain ⟨z1, zf1⟩ := CBox.at_ X2.out 1 _ rfl
   obtain ⟨z2, zf2⟩ := CBox.at_ X2.out 2 _ rfl
   obtain ⟨z3, zf3⟩ := CBox.at_ X2.out 3 _ rfl
   go_wp2_with fail
   have r := vec_end X2.out (.int .u64 0) (.int .i64 0) (.int .u64 0) (.int .i64 0)
   obtain ⟨r0, _⟩ := r.at_ 0 _ rfl; obtain ⟨r1, _⟩ := r.at_ 1 _ rfl; obtain ⟨r2, _⟩ := r.at_ 2 _ rfl; obtain ⟨r3, _⟩ := r.at_ 3 _ rfl
   refine bodyPost_ret (v := .tuple #[.agg #[.int .u64 0, .int .i64 0, .int .u64 0, .int .i64 0], .int .i64 1]) (by simp [results, Tryz.results228, go_sem, r0, r1, r2, r3]) rfl ⟨rfl, vec_below HB.out (by have := HN.out; omega) _ _ _ _⟩

def hcell (h : Hrd) : List Value := [.bool h.is, .int .u64 h.v.root, .int .i64 h.v.cost, .int .u64 h.v.bridge, .int .i64 h.v.port, .int .i64 h.cost]
theorem hcell_len (h : Hrd) : (hcell h).length = 6 := rfl
def hrdOk (h : Hrd) : Prop := -9223372036854775808 ≤ h.cost ∧ h.cost ≤ 9223372036854775807
def RetBest (w : World) (s : Int × Vec) (e : Ending) (w' : World) : Prop := e = .returned (.tuple #[.int .i64 s.1, vagg s.2]) ∧ Below w.heap.size w w'

set_option maxHeartbeats 4000000 in
theorem best_any (b : Int) (v : Value) (l : List Hrd) (B : Nat) (w : World) (h : w.ownsRow B 266 6 v l.length (l.flatMap hcell)) (hl : l.length ≤ 1000) (hok : ∀ x ∈ l, hrdOk x) :
 Calls Tryz.prog 157 #[.int .u64 b, v] w (RetBest w (pbest b l)) := by
 obtain ⟨g, hlen, hidx, hc⟩ := gfacts Tryz.underlying264 (fun w => by kernel_rfl) hcell_len h
 have HC := Lib.hid hc; have HIX := Lib.hid hidx; have HOK := Lib.hid hok
 obtain ⟨W0, hW0⟩ : ∃ W, w.alloc (.cells #[.int .u64 0, .int .i64 0, .int .u64 0, .int .i64 0] 108) = W := ⟨_, rfl⟩
 obtain ⟨n, hn⟩ : ∃ n, w.heap.size = n := ⟨_, rfl⟩
 have X0 := Lib.hid (show CBox W0 n 108 #[.int .u64 0, .int .i64 0, .int .u64 0, .int .i64 0] from by rw [← hW0]; exact CBox.new _ hn.symm)
 have HB0 := Lib.hid (show Below w.heap.size w W0 from by rw [← hW0]; exact (Below.refl _ _).alloc (Nat.le_refl _) _)
 have HW := Lib.hid hW0; have HN := Lib.hid hn
 have HOW := Lib.hid (own_any b W0)
 clear hW0 hn h hc hidx hok
 go_enter Tryz.func157, Tryz.ntmps157
 go_upto_region 1 with fail
 rw [HW.out, HN.out]
 go_upto_region 2 with ((with_reducible refine HOW.out.mono ?_); rintro e w1 ⟨rfl, hb1⟩; have H1 := Lib.hid hb1; clear hb1; unfold vagg vown; dsimp only)
 obtain ⟨W2, hW2⟩ : ∃ W, w1.alloc (.cells #[.int .u64 b, .int .i64 0, .int .u64 b, .int .i64 0] 108) = W := ⟨_, rfl⟩
 obtain ⟨nb, hnb⟩ : ∃ n, w1.heap.size = n := ⟨_, rfl⟩
 have hb2 : Below w1.heap.size w1 W2 := by rw [← hW2]; exact (Below.refl _ _).alloc (Nat.le_refl _) _
 have X7 := Lib.hid (show CBox W2 nb 108 #[.int .u64 b, .int .i64 0, .int .u64 b, .int .i64 0] from by rw [← hW2]; exact CBox.new _ hnb.symm)
 have h02 := H1.out.trans (hb2.mono H1.out.size)
 have X5 := Lib.hid (X0.out.below h02 X0.out.lt)
 have B2 := Lib.hid (HB0.out.trans (h02.mono HB0.out.size))
 have HNB := Lib.hid (show n < nb ∧ w.heap.size ≤ n from ⟨by rw [← hnb]; exact Nat.lt_of_lt_of_le X0.out.lt H1.out.size, Nat.le_of_eq HN.out⟩)
 rw [hW2, hnb]
 clear hW2 hnb hb2 h02 H1 X0 HB0 HW HOW
 go_wp2_with fail
 go_loopw [6, 16] (fun p i wr => ∃ k, k ≤ l.length ∧ i = .int .i64 (k : Nat) ∧ p = .int .i64 (pbest b (l.take k)).1 ∧ CBox wr nb 108 #[.int .u64 (pbest b (l.take k)).2.root, .int .i64 (pbest b (l.take k)).2.cost, .int .u64 (pbest b (l.take k)).2.bridge, .int .i64 (pbest b (l.take k)).2.port] ∧ CBox wr n 108 #[.int .u64 0, .int .i64 0, .int .u64 0, .int .i64 0] ∧ Below w.heap.size w wr) (fun _ i _ => l.length - (intOf i).toNat)
 case atStart => exact ⟨0, Nat.zero_le _, rfl, rfl, X7.out, X5.out, B2.out⟩
 case round =>
  obtain ⟨k, hk, rfl, rfl, hx7, hx5, hb⟩ := hrel
  obtain ⟨⟨pp, ⟨pr, pc, pb, po⟩⟩, hps⟩ : ∃ s, pbest b (l.take k) = s := ⟨_, rfl⟩
  rw [hps] at hx7
  dsimp only at hx7
  have HPS := Lib.hid hps; have X7 := Lib.hid hx7; have X5 := Lib.hid hx5; have HB := Lib.hid hb
  rw [hps]
  dsimp only
  clear hx7 hx5 hb hps
  by_cases hlt : k < l.length
  · obtain ⟨_, hgl, _, hj⟩ := HC.out k hlt
    have hp := HIX.out k hlt
    have HOKk := Lib.hid (HOK.out _ (List.getElem_mem hlt))
    have HST := Lib.hid (pbest_take (b := b) hlt)
    rw [HPS.out] at HST
    obtain ⟨⟨is, ⟨hr, hcc, hbr, hpo⟩, co⟩, hst⟩ : ∃ x, x = l[k] := ⟨_, rfl⟩
    rw [show l.getD k default = l[k] from by simp [List.getD_eq_getElem?_getD, hlt], ← hst] at hj
    rw [← hst] at HOKk HST
    have d0 := (HB.out.cell (p := ⟨g, k * 6, none⟩) hgl).trans (hj 0 (by decide)).1
    have d1 := (HB.out.cell (p := ⟨g, k * 6 + 1, none⟩) hgl).trans (hj 1 (by decide)).1
    have d2 := (HB.out.cell (p := ⟨g, k * 6 + 2, none⟩) hgl).trans (hj 2 (by decide)).1
    have d3 := (HB.out.cell (p := ⟨g, k * 6 + 3, none⟩) hgl).trans (hj 3 (by decide)).1
    have d4 := (HB.out.cell (p := ⟨g, k * 6 + 4, none⟩) hgl).trans (hj 4 (by decide)).1
    have d5 := (HB.out.cell (p := ⟨g, k * 6 + 5, none⟩) hgl).trans (hj 5 (by decide)).1
    simp only [hcell, List.getElem?_cons_zero, List.getElem?_cons_succ] at d0 d1 d2 d3 d4 d5
    clear hj hgl hst
    go_upto_region 5 with fail
    obtain ⟨W3, hW3⟩ : ∃ W, wr.alloc (.cells #[.bool is, .int .u64 hr, .int .i64 hcc, .int .u64 hbr, .int .i64 hpo, .int .i64 co] 266) = W := ⟨_, rfl⟩
    obtain ⟨hbk, hhb⟩ : ∃ n, wr.heap.size = n := ⟨_, rfl⟩
    have hb3 : Below wr.heap.size wr W3 := by rw [← hW3]; exact (Below.refl _ _).alloc (Nat.le_refl _) _
    have X9 := Lib.hid (show CBox W3 hbk 266 #[.bool is, .int .u64 hr, .int .i64 hcc, .int .u64 hbr, .int .i64 hpo, .int .i64 co] from by rw [← hW3]; exact CBox.new _ hhb.symm)
    have X73 := Lib.hid (X7.out.below hb3 X7.out.lt); have X53 := Lib.hid (X5.out.below hb3 X5.out.lt); have B3 := Lib.hid (HB.out.trans (hb3.mono HB.out.size))
    have HTH := Lib.hid (thru_any ⟨hr, hcc, hbr, hpo⟩ co W3 HOKk.out)
    rw [hW3, hhb]
    clear hW3 hhb hb3 d0 d1 d2 d3 d4 d5 hp X7 X5 HB HOKk
    obtain ⟨⟨⟨tr, tc, tb, tp⟩, te⟩, hth⟩ : ∃ t, thru ⟨hr, hcc, hbr, hpo⟩ co = t := ⟨_, rfl⟩
    have HTE := Lib.hid (show (te == 0) = thruOk ⟨hr, hcc, hbr, hpo⟩ co from by
     have : te = (thru ⟨hr, hcc, hbr, hpo⟩ co).2 := by rw [hth]
     rw [this]
     unfold thru
     cases thruOk ⟨hr, hcc, hbr, hpo⟩ co <;> rfl)
    have HSP := Lib.hid (show pbest b (l.take (k + 1)) = if (is && !(hbr == b) && (te == 0) && decide (vcmp ⟨tr, tc, tb, tp⟩ ⟨pr, pc, pb, po⟩ < 0)) = true then ((k : Int), ⟨tr, tc, tb, tp⟩) else (pp, ⟨pr, pc, pb, po⟩) from by
     rw [HST.out, HTE.out]
     unfold bstep better
     dsimp only
     rw [hth])
    rw [hth] at HTH
    unfold vagg at HTH
    dsimp only at HTH
    clear hth HTE HST
    obtain ⟨x0, xf0⟩ := CBox.at_ X9.out 0 _ rfl
    obtain ⟨x1, xf1⟩ := CBox.at_ X9.out 1 _ rfl
    obtain ⟨x2, xf2⟩ := CBox.at_ X9.out 2 _ rfl
    obtain ⟨x3, xf3⟩ := CBox.at_ X9.out 3 _ rfl
    obtain ⟨x4, xf4⟩ := CBox.at_ X9.out 4 _ rfl
    obtain ⟨x5, xf5⟩ := CBox.at_ X9.out 5 _ rfl
    go_upto_region 6 with ((with_reducible refine HTH.out.mono ?_); rintro e w4 ⟨rfl, hb4⟩; have H4 := Lib.hid hb4; clear hb4)
    obtain ⟨W5, hW5⟩ : ∃ W, w4.alloc (.cells #[.int .u64 tr, .int .i64 tc, .int .u64 tb, .int .i64 tp] 108) = W := ⟨_, rfl⟩
    obtain ⟨tbk, htb⟩ : ∃ n, w4.heap.size = n := ⟨_, rfl⟩
    have hb5 : Below w4.heap.size w4 W5 := by rw [← hW5]; exact (Below.refl _ _).alloc (Nat.le_refl _) _
    have X10 := Lib.hid (show CBox W5 tbk 108 #[.int .u64 tr, .int .i64 tc, .int .u64 tb, .int .i64 tp] from by rw [← hW5]; exact CBox.new _ htb.symm)
    have h35 := H4.out.trans (hb5.mono H4.out.size)
    have X95 := Lib.hid (X9.out.below h35 X9.out.lt)
    have X75 := Lib.hid (X73.out.below h35 X73.out.lt); have X55 := Lib.hid (X53.out.below h35 X53.out.lt); have B5 := Lib.hid (B3.out.trans (h35.mono B3.out.size))
    have HNE := Lib.hid (show nb ≠ tbk from by have := X73.out.lt; have := H4.out.size; omega)
    have HCM := Lib.hid (vcmp_any ⟨tr, tc, tb, tp⟩ ⟨pr, pc, pb, po⟩ W5)
    unfold vagg at HCM
    dsimp only at HCM
    rw [hW5, htb]
    clear hW5 htb hb5 h35 x0 xf0 x1 xf1 x2 xf2 x3 xf3 x4 xf4 x5 xf5 HTH H4 X9 X73 X53 B3
    obtain ⟨x0, xf0⟩ := CBox.at_ X95.out 0 _ rfl
    obtain ⟨x1, xf1⟩ := CBox.at_ X95.out 1 _ rfl
    obtain ⟨x2, xf2⟩ := CBox.at_ X95.out 2 _ rfl
    obtain ⟨x3, xf3⟩ := CBox.at_ X95.out 3 _ rfl
    obtain ⟨x4, xf4⟩ := CBox.at_ X95.out 4 _ rfl
    obtain ⟨x5, xf5⟩ := CBox.at_ X95.out 5 _ rfl
    obtain ⟨y0, yf0⟩ := CBox.at_ X10.out 0 _ rfl
    obtain ⟨y1, yf1⟩ := CBox.at_ X10.out 1 _ rfl
    obtain ⟨y2, yf2⟩ := CBox.at_ X10.out 2 _ rfl
    obtain ⟨y3, yf3⟩ := CBox.at_ X10.out 3 _ rfl
    obtain ⟨z0, zf0⟩ := CBox.at_ X75.out 0 _ rfl
    obtain ⟨z1, zf1⟩ := CBox.at_ X75.out 1 _ rfl
    obtain ⟨z2, zf2⟩ := CBox.at_ X75.out 2 _ rfl
    obtain ⟨z3, zf3⟩ := CBox.at_ X75.out 3 _ rfl
    cases is
    · have HE := Lib.hid (show pbest b (l.take (k + 1)) = (pp, ⟨pr, pc, pb, po⟩) from by rw [HSP.out]; simp)
      go_wp2_with fail
      go_roundw
      case rel => exact ⟨k + 1, by omega, by go_num, by rw [HE.out], by rw [HE.out]; exact X75.out, X55.out, B5.out⟩
      case measure => simp [intOf]; omega
    · cases q2 : (hbr == b)
      · have q2' : (hbr != b) = true := by simp [bne, q2]
        cases q3 : (te == 0)
        · have HE := Lib.hid (show pbest b (l.take (k + 1)) = (pp, ⟨pr, pc, pb, po⟩) from by rw [HSP.out]; simp [q2, q3])
          go_wp2_with fail
          go_roundw
          case rel => exact ⟨k + 1, by omega, by go_num, by rw [HE.out], by rw [HE.out]; exact X75.out, X55.out, B5.out⟩
          case measure => simp [intOf]; omega
        · obtain ⟨cm, hcm⟩ : ∃ c, vcmp ⟨tr, tc, tb, tp⟩ ⟨pr, pc, pb, po⟩ = c := ⟨_, rfl⟩
          rw [hcm] at HCM HSP
          clear hcm
          cases q4 : decide (cm < 0)
          · have HE := Lib.hid (show pbest b (l.take (k + 1)) = (pp, ⟨pr, pc, pb, po⟩) from by rw [HSP.out, q2, q3, q4]; rfl)
            go_wp2_with ((with_reducible refine HCM.out.mono ?_); rintro e w6 ⟨rfl, hb6⟩; have H6 := Lib.hid hb6; clear hb6)
            go_roundw
            case rel => exact ⟨k + 1, by omega, by go_num, by rw [HE.out], by rw [HE.out]; exact X75.out.below H6.out X75.out.lt, X55.out.below H6.out X55.out.lt, B5.out.trans (H6.out.mono B5.out.size)⟩
            case measure => simp [intOf]; omega
          · have HE := Lib.hid (show pbest b (l.take (k + 1)) = ((k : Int), ⟨tr, tc, tb, tp⟩) from by rw [HSP.out, q2, q3, q4]; rfl)
            go_upto_region 7 with ((with_reducible refine HCM.out.mono ?_); rintro e w6 ⟨rfl, hb6⟩; have H6 := Lib.hid hb6; clear hb6)
            obtain ⟨Z, hZ⟩ : ∃ W, w6.drew = W := ⟨_, rfl⟩
            have hbz : Below w6.heap.size w6 Z := by rw [← hZ]; exact Below.drew (Below.refl _ _)
            have h5z := H6.out.trans (hbz.mono H6.out.size)
            have Y7 := Lib.hid (X75.out.below h5z X75.out.lt); have Y5 := Lib.hid (X55.out.below h5z X55.out.lt); have BZ := Lib.hid (B5.out.trans (h5z.mono B5.out.size))
            have Y10 := Lib.hid (X10.out.below h5z X10.out.lt); have HZ := Lib.hid hZ
            clear hZ hbz h5z x0 xf0 x1 xf1 x2 xf2 x3 xf3 x4 xf4 x5 xf5 y0 yf0 y1 yf1 y2 yf2 y3 yf3 z0 zf0 z1 zf1 z2 zf2 z3 zf3
            have HF := Lib.hid (fun (wq : World) (h : CBox wq tbk 108 #[.int .u64 tr, .int .i64 tc, .int .u64 tb, .int .i64 tp]) => And.intro (h.at_ 0 _ rfl).1 (And.intro (h.at_ 1 _ rfl).1 (And.intro (h.at_ 2 _ rfl).1 (h.at_ 3 _ rfl).1)))
            refine wp_region_held_drew (S := fun W' => CBox W' tbk 108 #[.int .u64 tr, .int .i64 tc, .int .u64 tb, .int .i64 tp]) (by kernel_rfl) (by rw [HZ.out]; exact Y10.out) (fun hHeld => ?_)
            rw [HZ.out] at hHeld ⊢
            refine tkL 0 (v := ?_) rfl (by kernel_rfl) (fun _ _ _ => id) (Or.inl ⟨by rfl, ?_⟩) (by assumption) ?_; rotate_left; (focus (intro wq hSq; have f := HF.out wq hSq; go_simp <;> with_reducible rfl)); simp only [Act.put, pA, pB, pC]
            refine tkL 1 (v := ?_) rfl (by kernel_rfl) (fun _ _ _ => id) (Or.inl ⟨by rfl, ?_⟩) (by assumption) ?_; rotate_left; (focus (intro wq hSq; have f := HF.out wq hSq; go_simp <;> with_reducible rfl)); simp only [Act.put, pA, pB, pC]
            refine tkL 2 (v := ?_) rfl (by kernel_rfl) (fun _ _ _ => id) (Or.inl ⟨by rfl, ?_⟩) (by assumption) ?_; rotate_left; (focus (intro wq hSq; have f := HF.out wq hSq; go_simp <;> with_reducible rfl)); simp only [Act.put, pA, pB, pC]
            obtain ⟨z0, zf0⟩ := CBox.at_ Y7.out 0 _ rfl
            obtain ⟨z1, zf1⟩ := CBox.at_ Y7.out 1 _ rfl
            obtain ⟨z2, zf2⟩ := CBox.at_ Y7.out 2 _ rfl
            obtain ⟨z3, zf3⟩ := CBox.at_ Y7.out 3 _ rfl
            refine wpAnyH_ready (rs := [3]) (by kernel_rfl) (by simp) (nextL 3 rfl (fun Kr hKr => ?_) AllReadyH.nil)
            rw [if_pos (by rfl)]
            go_simp
            clear z0 zf0 z1 zf1 z2 zf2 z3 zf3
            obtain ⟨V, hV⟩ : ∃ W, (((Z.setCell ⟨nb, 0, none⟩ (.int .u64 tr)).setCell ⟨nb, 1, none⟩ (.int .i64 tc)).setCell ⟨nb, 2, none⟩ (.int .u64 tb)).setCell ⟨nb, 3, none⟩ (.int .i64 tp) = W := ⟨_, rfl⟩
            have v7 := vec_end Y7.out (.int .u64 tr) (.int .i64 tc) (.int .u64 tb) (.int .i64 tp)
            have v10 := vec_far Y10.out (Ne.symm HNE.out) (.int .u64 tr) (.int .i64 tc) (.int .u64 tb) (.int .i64 tp)
            have v5 := vec_far Y5.out (show n ≠ nb from by have := HNB.out; omega) (.int .u64 tr) (.int .i64 tc) (.int .u64 tb) (.int .i64 tp)
            have vb := vec_below BZ.out (show w.heap.size ≤ nb from by have := HNB.out; omega) (.int .u64 tr) (.int .i64 tc) (.int .u64 tb) (.int .i64 tp)
            rw [hV] at v7 v10 v5 vb ⊢
            refine hKr.out _ _ v10 (fun _ => ?_)
            have HV := Lib.hid (And.intro v7 (And.intro v5 vb))
            clear hKr hV v7 v10 v5 vb hHeld
            refine wpAnyH_done (by kernel_rfl) ?_ _
            go_wp2_with fail
            go_roundw
            case rel => exact ⟨k + 1, by omega, by go_num, by rw [HE.out], by rw [HE.out]; exact HV.out.1, HV.out.2.1, HV.out.2.2⟩
            case measure => simp [intOf]; omega
      · have q2' : (hbr != b) = false := by simp [bne, q2]
        have HE := Lib.hid (show pbest b (l.take (k + 1)) = (pp, ⟨pr, pc, pb, po⟩) from by rw [HSP.out]; simp [q2])
        go_wp2_with fail
        go_roundw
        case rel => exact ⟨k + 1, by omega, by go_num, by rw [HE.out], by rw [HE.out]; exact X75.out, X55.out, B5.out⟩
        case measure => simp [intOf]; omega
  · obtain rfl : k = l.length := by omega
    have HL := Lib.hid (show pbest b l = (pp, ⟨pr, pc, pb, po⟩) from by have := HPS.out; rwa [List.take_length] at this)
    obtain ⟨Z, hZ⟩ : ∃ W, wr.drew = W := ⟨_, rfl⟩
    have hbz : Below wr.heap.size wr Z := by rw [← hZ]; exact Below.drew (Below.refl _ _)
    have Y7 := Lib.hid (X7.out.below hbz X7.out.lt); have Y5 := Lib.hid (X5.out.below hbz X5.out.lt); have BZ := Lib.hid (HB.out.trans (hbz.mono HB.out.size)); have HZ := Lib.hid hZ
    clear hZ hbz
    have HF := Lib.hid (fun (wq : World) (h : CBox wq nb 108 #[.int .u64 pr, .int .i64 pc, .int .u64 pb, .int .i64 po]) => And.intro (h.at_ 0 _ rfl).1 (And.intro (h.at_ 1 _ rfl).1 (And.intro (h.at_ 2 _ rfl).1 (h.at_ 3 _ rfl).1)))
    go_upto_region 9 with fail
    refine wp_region_held_drew (S := fun W' => CBox W' nb 108 #[.int .u64 pr, .int .i64 pc, .int .u64 pb, .int .i64 po]) (by kernel_rfl) (by rw [HZ.out]; exact Y7.out) (fun hHeld => ?_)
    rw [HZ.out] at hHeld ⊢
    refine tkL 0 (v := ?_) rfl (by kernel_rfl) (fun _ _ _ => id) (Or.inl ⟨by rfl, ?_⟩) (by assumption) ?_; rotate_left; (focus (intro wq hSq; have f := HF.out wq hSq; go_simp <;> with_reducible rfl)); simp only [Act.put, pA, pB, pC]
    refine tkL 1 (v := ?_) rfl (by kernel_rfl) (fun _ _ _ => id) (Or.inl ⟨by rfl, ?_⟩) (by assumption) ?_; rotate_left; (focus (intro wq hSq; have f := HF.out wq hSq; go_simp <;> with_reducible rfl)); simp only [Act.put, pA, pB, pC]
    refine tkL 2 (v := ?_) rfl (by kernel_rfl) (fun _ _ _ => id) (Or.inl ⟨by rfl, ?_⟩) (by assumption) ?_; rotate_left; (focus (intro wq hSq; have f := HF.out wq hSq; go_simp <;> with_reducible rfl)); simp only [Act.put, pA, pB, pC]
    obtain ⟨z0, zf0⟩ := CBox.at_ Y5.out 0 _ rfl
    obtain ⟨z1, zf1⟩ := CBox.at_ Y5.out 1 _ rfl
    obtain ⟨z2, zf2⟩ := CBox.at_ Y5.out 2 _ rfl
    obtain ⟨z3, zf3⟩ := CBox.at_ Y5.out 3 _ rfl
    refine wpAnyH_ready (rs := [3]) (by kernel_rfl) (by simp) (nextL 3 rfl (fun Kr hKr => ?_) AllReadyH.nil)
    rw [if_pos (by rfl)]
    go_simp
    clear z0 zf0 z1 zf1 z2 zf2 z3 zf3
    have v5 := vec_end Y5.out (.int .u64 pr) (.int .i64 pc) (.int .u64 pb) (.int .i64 po)
    have v7 := vec_far Y7.out (show nb ≠ n from by have := HNB.out; omega) (.int .u64 pr) (.int .i64 pc) (.int .u64 pb) (.int .i64 po)
    have vb := vec_below BZ.out HNB.out.2 (.int .u64 pr) (.int .i64 pc) (.int .u64 pb) (.int .i64 po)
    refine hKr.out _ _ v7 (fun _ => ?_)
    have r0 := (v5.at_ 0 _ rfl).1; have r1 := (v5.at_ 1 _ rfl).1; have r2 := (v5.at_ 2 _ rfl).1; have r3 := (v5.at_ 3 _ rfl).1
    have HV := Lib.hid vb
    clear hKr v7 v5 vb hHeld
    refine wpAnyH_done (by kernel_rfl) ?_ _
    go_wp2_with fail
    refine bodyPost_ret (v := .tuple #[.int .i64 pp, .agg #[.int .u64 pr, .int .i64 pc, .int .u64 pb, .int .i64 po]]) (by simp [results, Tryz.results157, go_sem, r0, r1, r2, r3]) rfl ⟨by rw [HL.out]; rfl, HV.out⟩
end Go.Proofs.YthcdppppppgckaaGreatDoor

namespace Go.Proofs.YthcdppppppgckaaGreatDoor
open Go.RowKit Go.Lib Go.Sort
set_option maxRecDepth 20000
set_option maxRecDepth 20000

theorem infoI23 : (Tryz.prog.info? 3).map (fun i => (i.zero, i.size, i.bytes)) = some (some (.int .i64 0), 1, 8) := by kernel_rfl
theorem info_parts23 {P : Program} {T : TypeId} {z : Value} {s b : Nat} (h : (P.info? T).map (fun i => (i.zero, i.size, i.bytes)) = some (some z, s, b)) : ∃ i, P.info? T = some i ∧ i.zero = some z ∧ i.size = s ∧ i.bytes = b := by
 cases hi : P.info? T with
 | none => rw [hi] at h; cases h
 | some i =>
   rw [hi] at h
   injection h with h
   injection h with h1 h2
   injection h2 with h2 h3
   exact ⟨i, rfl, h1, h2, h3⟩
theorem gown_bel {w w' : World} {base size n : Nat} {e : TypeId} {v : Value} {xs : List Value} (h : w.ownsRow base e size v n xs) (hb : Below w.heap.size w w') : w'.ownsRow base e size v n xs :=
 own_keep h fun g hg => by obtain ⟨_, cur, e, _⟩ := own_type h hg; exact hb.block g (Array.getElem?_eq_some_iff.1 e).1
def RetIn (w : World) (L : List Int) (e : Ending) (w' : World) : Prop := ∃ u, e = .returned u ∧ w'.ownsRow w.heap.size 3 1 u L.length (L.map (Value.int .i64)) ∧ Below w.heap.size w w'

set_option maxHeartbeats 4000000 in
theorem roles_any (b : Int) (v : Value) (l : List Hrd) (B : Nat) (w : World) (h : w.ownsRow B 266 6 v l.length (l.flatMap hcell)) (hl : l.length ≤ 1000) (hok : ∀ x ∈ l, hrdOk x) :
 Calls Tryz.prog 158 #[.int .u64 b, v] w (RetIn w (proles b l)) := by
 obtain ⟨i0, hi0, hz0, hz1, hz2⟩ := info_parts23 infoI23
 obtain ⟨g, hlen, hidx, hc⟩ := gfacts Tryz.underlying264 (fun w => by kernel_rfl) hcell_len h
 have HC := Lib.hid hc; have HIX := Lib.hid hidx
 have HBE := Lib.hid (best_any b v l B w h hl hok)
 have HPL := Lib.hid (proles_len b l)
 obtain ⟨⟨pp, ⟨pr, pc, pb, po⟩⟩, hps⟩ : ∃ s, pbest b l = s := ⟨_, rfl⟩
 have HPD := Lib.hid (show proles b l = prolesGo pp ⟨pr, pc, b, po⟩ 0 l from by unfold proles; rw [hps])
 rw [hps] at HBE
 unfold RetBest vagg at HBE
 dsimp only at HBE
 clear h hc hidx hok hps
 go_enter Tryz.func158, Tryz.ntmps158
 go_upto_region 2 with ((with_reducible refine HBE.out.mono ?_); rintro e w1 ⟨rfl, hb1⟩; have H1 := Lib.hid hb1; clear hb1)
 obtain ⟨W2, hW2⟩ : ∃ W, w1.alloc (.cells #[.int .u64 pr, .int .i64 pc, .int .u64 pb, .int .i64 po] 108) = W := ⟨_, rfl⟩
 obtain ⟨nb, hnb⟩ : ∃ n, w1.heap.size = n := ⟨_, rfl⟩
 have hb2 : Below w1.heap.size w1 W2 := by rw [← hW2]; exact (Below.refl _ _).alloc (Nat.le_refl _) _
 have x6 : CBox W2 nb 108 #[.int .u64 pr, .int .i64 pc, .int .u64 pb, .int .i64 po] := by rw [← hW2]; exact CBox.new _ hnb.symm
 have HNB := Lib.hid (show w.heap.size ≤ nb from by rw [← hnb]; exact H1.out.size)
 have X6 := Lib.hid x6
 have B2 := Lib.hid (H1.out.trans (hb2.mono H1.out.size))
 rw [hW2, hnb]
 clear hW2 hnb hb2 H1 x6 HBE
 obtain ⟨z0, zf0⟩ := CBox.at_ X6.out 0 _ rfl
 obtain ⟨z1, zf1⟩ := CBox.at_ X6.out 1 _ rfl
 obtain ⟨z2, zf2⟩ := CBox.at_ X6.out 2 _ rfl
 obtain ⟨z3, zf3⟩ := CBox.at_ X6.out 3 _ rfl
 go_upto_region 3 with fail
 obtain ⟨W3, hW3⟩ : ∃ W, W2.setCell ⟨nb, 2, none⟩ (.int .u64 b) = W := ⟨_, rfl⟩
 have X7 := Lib.hid (show CBox W3 nb 108 #[.int .u64 pr, .int .i64 pc, .int .u64 b, .int .i64 po] from by rw [← hW3]; simpa using X6.out.set 2 (.int .u64 b))
 have B3 := Lib.hid (show Below w.heap.size w W3 from by rw [← hW3]; exact B2.out.setCell (p := ⟨nb, 2, none⟩) HNB.out _)
 rw [hW3]
 clear hW3 z0 zf0 z1 zf1 z2 zf2 z3 zf3 X6 B2
 go_wp2_with fail
 go_loopw [7, 20] (fun r i wr => ∃ k po', k ≤ l.length ∧ i = .int .i64 (k : Nat) ∧ wr.ownsRow w.heap.size 3 1 r (prolesGo pp ⟨pr, pc, b, po⟩ 0 (l.take k)).length ((prolesGo pp ⟨pr, pc, b, po⟩ 0 (l.take k)).map (Value.int .i64)) ∧ CBox wr nb 108 #[.int .u64 pr, .int .i64 pc, .int .u64 b, .int .i64 po'] ∧ Below w.heap.size w wr) (fun _ i _ => l.length - (intOf i).toNat)
 case atStart => exact ⟨0, po, Nat.zero_le _, rfl, World.ownsRow_nil _ _ _ _, X7.out, B3.out⟩
 case round =>
  obtain ⟨k, po', hk, rfl, hrow, hx, hb⟩ := hrel
  have HRW := Lib.hid hrow; have X7 := Lib.hid hx; have HB := Lib.hid hb; have HGN := Lib.hid (own_ne_box hrow hx (by decide))
  clear hrow hx hb B3
  by_cases hlt : k < l.length
  · obtain ⟨_, hgl, _, hj⟩ := HC.out k hlt
    have hp := HIX.out k hlt
    have HSN := Lib.hid (show prolesGo pp ⟨pr, pc, b, po⟩ 0 (l.take (k + 1)) = prolesGo pp ⟨pr, pc, b, po⟩ 0 (l.take k) ++ [role1 pp ⟨pr, pc, b, po⟩ k l[k]] from by rw [List.take_succ_eq_append_getElem hlt, prolesGo_snoc, List.length_take, Nat.min_eq_left (by omega), Nat.zero_add])
    have HLN := Lib.hid (show (prolesGo pp ⟨pr, pc, b, po⟩ 0 (l.take k)).length ≤ 1000 from by rw [prolesGo_len, List.length_take]; omega)
    obtain ⟨⟨is, ⟨hr, hcc, hbr, hpo⟩, co⟩, hst⟩ : ∃ x, x = l[k] := ⟨_, rfl⟩
    rw [show l.getD k default = l[k] from by simp [List.getD_eq_getElem?_getD, hlt], ← hst] at hj
    rw [← hst] at HSN
    have d0 := (HB.out.cell (p := ⟨g, k * 6, none⟩) hgl).trans (hj 0 (by decide)).1
    have d1 := (HB.out.cell (p := ⟨g, k * 6 + 1, none⟩) hgl).trans (hj 1 (by decide)).1
    have d2 := (HB.out.cell (p := ⟨g, k * 6 + 2, none⟩) hgl).trans (hj 2 (by decide)).1
    have d3 := (HB.out.cell (p := ⟨g, k * 6 + 3, none⟩) hgl).trans (hj 3 (by decide)).1
    have d4 := (HB.out.cell (p := ⟨g, k * 6 + 4, none⟩) hgl).trans (hj 4 (by decide)).1
    have d5 := (HB.out.cell (p := ⟨g, k * 6 + 5, none⟩) hgl).trans (hj 5 (by decide)).1
    simp only [hcell, List.getElem?_cons_zero, List.getElem?_cons_succ] at d0 d1 d2 d3 d4 d5
    clear hj hgl hst
    unfold role1 at HSN
    dsimp only at HSN
    go_upto_region 7 with fail
    obtain ⟨W3, hW3⟩ : ∃ W, wr.alloc (.cells #[.bool is, .int .u64 hr, .int .i64 hcc, .int .u64 hbr, .int .i64 hpo, .int .i64 co] 266) = W := ⟨_, rfl⟩
    obtain ⟨hbk, hhb⟩ : ∃ n, wr.heap.size = n := ⟨_, rfl⟩
    have hb3 : Below wr.heap.size wr W3 := by rw [← hW3]; exact (Below.refl _ _).alloc (Nat.le_refl _) _
    have x9 : CBox W3 hbk 266 #[.bool is, .int .u64 hr, .int .i64 hcc, .int .u64 hbr, .int .i64 hpo, .int .i64 co] := by rw [← hW3]; exact CBox.new _ hhb.symm
    have x73 := X7.out.below hb3 X7.out.lt
    have hr3 := gown_bel HRW.out hb3
    have B3 := Lib.hid (HB.out.trans (hb3.mono HB.out.size))
    have hne : hbk ≠ nb := by have := X7.out.lt; omega
    have X9 := Lib.hid x9; have X73 := Lib.hid x73; have R3 := Lib.hid hr3; have HNE := Lib.hid hne
    rw [hW3, hhb]
    clear hW3 hhb hb3 d0 d1 d2 d3 d4 d5 hp X7 HB HRW x9 x73 hr3 hne
    obtain ⟨z0, zf0⟩ := CBox.at_ X73.out 0 _ rfl
    obtain ⟨z1, zf1⟩ := CBox.at_ X73.out 1 _ rfl
    obtain ⟨z2, zf2⟩ := CBox.at_ X73.out 2 _ rfl
    obtain ⟨z3, zf3⟩ := CBox.at_ X73.out 3 _ rfl
    go_upto_region 9 with fail
    obtain ⟨W4, hW4⟩ : ∃ W, W3.setCell ⟨nb, 3, none⟩ (.int .i64 (k : Int)) = W := ⟨_, rfl⟩
    have X4 := Lib.hid (show CBox W4 nb 108 #[.int .u64 pr, .int .i64 pc, .int .u64 b, .int .i64 (k : Int)] from by rw [← hW4]; simpa using X73.out.set 3 (.int .i64 (k : Int)))
    have X94 := Lib.hid (show CBox W4 hbk 266 #[.bool is, .int .u64 hr, .int .i64 hcc, .int .u64 hbr, .int .i64 hpo, .int .i64 co] from by rw [← hW4]; exact X9.out.far (p := ⟨nb, 3, none⟩) HNE.out _)
    have R4 := Lib.hid (show W4.ownsRow w.heap.size 3 1 u7 (prolesGo pp ⟨pr, pc, b, po⟩ 0 (l.take k)).length ((prolesGo pp ⟨pr, pc, b, po⟩ 0 (l.take k)).map (Value.int .i64)) from by rw [← hW4]; exact own_keep R3.out fun g' hg' => Below.heap_setCell _ _ _ g' (HGN.out g' hg'))
    have B4 := Lib.hid (show Below w.heap.size w W4 from by rw [← hW4]; exact B3.out.setCell (p := ⟨nb, 3, none⟩) HNB.out _)
    rw [hW4]
    clear hW4 z0 zf0 z1 zf1 z2 zf2 z3 zf3 X73 R3 B3 X9
    have HCM := Lib.hid (vcmp_any ⟨pr, pc, b, k⟩ ⟨hr, hcc, hbr, hpo⟩ W4)
    unfold vagg at HCM
    dsimp only at HCM
    obtain ⟨x0, xf0⟩ := CBox.at_ X94.out 0 _ rfl
    obtain ⟨x1, xf1⟩ := CBox.at_ X94.out 1 _ rfl
    obtain ⟨x2, xf2⟩ := CBox.at_ X94.out 2 _ rfl
    obtain ⟨x3, xf3⟩ := CBox.at_ X94.out 3 _ rfl
    obtain ⟨x4, xf4⟩ := CBox.at_ X94.out 4 _ rfl
    obtain ⟨x5, xf5⟩ := CBox.at_ X94.out 5 _ rfl
    obtain ⟨z0, zf0⟩ := CBox.at_ X4.out 0 _ rfl
    obtain ⟨z1, zf1⟩ := CBox.at_ X4.out 1 _ rfl
    obtain ⟨z2, zf2⟩ := CBox.at_ X4.out 2 _ rfl
    obtain ⟨z3, zf3⟩ := CBox.at_ X4.out 3 _ rfl
    by_cases hkp : (k : Int) = pp
    · have q1 : ((k : Int) == pp) = true := by simpa using hkp
      have HE := Lib.hid (HSN.out.trans (by rw [if_pos hkp]))
      clear hkp
      have T1 := Lib.hid (R4.out.alloc (.cells #[.int .i64 1] 3))
      have T2 := Lib.hid (sliceOf_block (size := 1) (m := 1) (c := 1) (heap_new W4 (.cells #[.int .i64 1] 3) _ rfl) rfl (by simp [Value.oneCell']))
      have T3 := Lib.hid (show w.heap.size ≤ (W4.alloc (.cells #[.int .i64 1] 3)).heap.size from by have := B4.out.size; rw [World.size_alloc]; omega)
      have T4 := Lib.hid (show Below w.heap.size w (W4.alloc (.cells #[.int .i64 1] 3)) from B4.out.alloc B4.out.size _)
      have T5 := Lib.hid (show CBox (W4.alloc (.cells #[.int .i64 1] 3)) nb 108 #[.int .u64 pr, .int .i64 pc, .int .u64 b, .int .i64 (k : Int)] from X4.out.old _)
      go_wp2_with (at_builtin; refine wpList_append_vals _ rfl _ _ 23 rfl w.heap.size 3 i0 _ 1 8 Tryz.underlying23 hi0 hz0 hz1 hz2 rfl (by decide) _ (prolesGo pp ⟨pr, pc, b, po⟩ 0 (l.take k)).length ((prolesGo pp ⟨pr, pc, b, po⟩ 0 (l.take k)).map (Value.int .i64)) rfl T1.out _ 1 [.int .i64 1] rfl T2.out (by have := HLN.out; unfold maxLen; omega) (by have := HLN.out; omega) T3.out ?_; intro v' w7 ho hg hv; have H7 := Lib.hid (And.intro ho (And.intro hg hv)); clear ho hg hv)
      go_roundw
      case rel =>
       have hx7 := T5.out.grown H7.out.2.1 (fun e => HGN.out nb e.symm rfl)
       refine ⟨k + 1, k, by omega, by go_num, ?_, hx7, below_own T4.out T1.out (Nat.le_refl _) T3.out H7.out.2.1⟩
       rw [HE.out, List.length_append, List.map_append]
       exact H7.out.1
      case measure => simp [intOf]; omega
    · have q1 : ((k : Int) == pp) = false := by simpa using hkp
      cases is
      · have HE := Lib.hid (HSN.out.trans (by rw [if_neg hkp, if_pos (by rfl)]))
        clear hkp
        have T1 := Lib.hid (R4.out.alloc (.cells #[.int .i64 2] 3))
        have T2 := Lib.hid (sliceOf_block (size := 1) (m := 1) (c := 1) (heap_new W4 (.cells #[.int .i64 2] 3) _ rfl) rfl (by simp [Value.oneCell']))
        have T3 := Lib.hid (show w.heap.size ≤ (W4.alloc (.cells #[.int .i64 2] 3)).heap.size from by have := B4.out.size; rw [World.size_alloc]; omega)
        have T4 := Lib.hid (show Below w.heap.size w (W4.alloc (.cells #[.int .i64 2] 3)) from B4.out.alloc B4.out.size _)
        have T5 := Lib.hid (show CBox (W4.alloc (.cells #[.int .i64 2] 3)) nb 108 #[.int .u64 pr, .int .i64 pc, .int .u64 b, .int .i64 (k : Int)] from X4.out.old _)
        go_wp2_with (at_builtin; refine wpList_append_vals _ rfl _ _ 23 rfl w.heap.size 3 i0 _ 1 8 Tryz.underlying23 hi0 hz0 hz1 hz2 rfl (by decide) _ (prolesGo pp ⟨pr, pc, b, po⟩ 0 (l.take k)).length ((prolesGo pp ⟨pr, pc, b, po⟩ 0 (l.take k)).map (Value.int .i64)) rfl T1.out _ 1 [.int .i64 2] rfl T2.out (by have := HLN.out; unfold maxLen; omega) (by have := HLN.out; omega) T3.out ?_; intro v' w7 ho hg hv; have H7 := Lib.hid (And.intro ho (And.intro hg hv)); clear ho hg hv)
        go_roundw
        case rel =>
         have hx7 := T5.out.grown H7.out.2.1 (fun e => HGN.out nb e.symm rfl)
         refine ⟨k + 1, k, by omega, by go_num, ?_, hx7, below_own T4.out T1.out (Nat.le_refl _) T3.out H7.out.2.1⟩
         rw [HE.out, List.length_append, List.map_append]
         exact H7.out.1
        case measure => simp [intOf]; omega
      · obtain ⟨cm, hcm⟩ : ∃ c, vcmp ⟨pr, pc, b, (k : Int)⟩ ⟨hr, hcc, hbr, hpo⟩ = c := ⟨_, rfl⟩
        rw [hcm] at HCM HSN
        clear hcm
        cases q4 : decide (cm ≤ 0)
        · have HE := Lib.hid (HSN.out.trans (by rw [if_neg hkp, q4]))
          clear hkp
          go_upto_region 8 with ((with_reducible refine HCM.out.mono ?_); rintro e w6 ⟨rfl, hb6⟩; have H6 := Lib.hid hb6; clear hb6)
          have r6 := gown_bel R4.out H6.out
          have x6 := X4.out.below H6.out X4.out.lt
          have b6 := B4.out.trans (H6.out.mono B4.out.size)
          replace R4 := Lib.hid r6; replace X4 := Lib.hid x6; replace B4 := Lib.hid b6
          clear r6 x6 b6 H6 x0 xf0 x1 xf1 x2 xf2 x3 xf3 x4 xf4 x5 xf5 z0 zf0 z1 zf1 z2 zf2 z3 zf3 X94 HCM
          have T1 := Lib.hid (R4.out.alloc (.cells #[.int .i64 3] 3))
          have T2 := Lib.hid (sliceOf_block (size := 1) (m := 1) (c := 1) (heap_new w6 (.cells #[.int .i64 3] 3) _ rfl) rfl (by simp [Value.oneCell']))
          have T3 := Lib.hid (show w.heap.size ≤ (w6.alloc (.cells #[.int .i64 3] 3)).heap.size from by have := B4.out.size; rw [World.size_alloc]; omega)
          have T4 := Lib.hid (show Below w.heap.size w (w6.alloc (.cells #[.int .i64 3] 3)) from B4.out.alloc B4.out.size _)
          have T5 := Lib.hid (show CBox (w6.alloc (.cells #[.int .i64 3] 3)) nb 108 #[.int .u64 pr, .int .i64 pc, .int .u64 b, .int .i64 (k : Int)] from X4.out.old _)
          go_wp2_with (at_builtin; refine wpList_append_vals _ rfl _ _ 23 rfl w.heap.size 3 i0 _ 1 8 Tryz.underlying23 hi0 hz0 hz1 hz2 rfl (by decide) _ (prolesGo pp ⟨pr, pc, b, po⟩ 0 (l.take k)).length ((prolesGo pp ⟨pr, pc, b, po⟩ 0 (l.take k)).map (Value.int .i64)) rfl T1.out _ 1 [.int .i64 3] rfl T2.out (by have := HLN.out; unfold maxLen; omega) (by have := HLN.out; omega) T3.out ?_; intro v' w7 ho hg hv; have H7 := Lib.hid (And.intro ho (And.intro hg hv)); clear ho hg hv)
          go_roundw
          case rel =>
           have hx7 := T5.out.grown H7.out.2.1 (fun e => HGN.out nb e.symm rfl)
           refine ⟨k + 1, k, by omega, by go_num, ?_, hx7, below_own T4.out T1.out (Nat.le_refl _) T3.out H7.out.2.1⟩
           rw [HE.out, List.length_append, List.map_append]
           exact H7.out.1
          case measure => simp [intOf]; omega
        · have HE := Lib.hid (HSN.out.trans (by rw [if_neg hkp, q4]))
          clear hkp
          go_upto_region 12 with ((with_reducible refine HCM.out.mono ?_); rintro e w6 ⟨rfl, hb6⟩; have H6 := Lib.hid hb6; clear hb6)
          have r6 := gown_bel R4.out H6.out
          have x6 := X4.out.below H6.out X4.out.lt
          have b6 := B4.out.trans (H6.out.mono B4.out.size)
          replace R4 := Lib.hid r6; replace X4 := Lib.hid x6; replace B4 := Lib.hid b6
          clear r6 x6 b6 H6 x0 xf0 x1 xf1 x2 xf2 x3 xf3 x4 xf4 x5 xf5 z0 zf0 z1 zf1 z2 zf2 z3 zf3 X94 HCM
          have T1 := Lib.hid (R4.out.alloc (.cells #[.int .i64 2] 3))
          have T2 := Lib.hid (sliceOf_block (size := 1) (m := 1) (c := 1) (heap_new w6 (.cells #[.int .i64 2] 3) _ rfl) rfl (by simp [Value.oneCell']))
          have T3 := Lib.hid (show w.heap.size ≤ (w6.alloc (.cells #[.int .i64 2] 3)).heap.size from by have := B4.out.size; rw [World.size_alloc]; omega)
          have T4 := Lib.hid (show Below w.heap.size w (w6.alloc (.cells #[.int .i64 2] 3)) from B4.out.alloc B4.out.size _)
          have T5 := Lib.hid (show CBox (w6.alloc (.cells #[.int .i64 2] 3)) nb 108 #[.int .u64 pr, .int .i64 pc, .int .u64 b, .int .i64 (k : Int)] from X4.out.old _)
          go_wp2_with (at_builtin; refine wpList_append_vals _ rfl _ _ 23 rfl w.heap.size 3 i0 _ 1 8 Tryz.underlying23 hi0 hz0 hz1 hz2 rfl (by decide) _ (prolesGo pp ⟨pr, pc, b, po⟩ 0 (l.take k)).length ((prolesGo pp ⟨pr, pc, b, po⟩ 0 (l.take k)).map (Value.int .i64)) rfl T1.out _ 1 [.int .i64 2] rfl T2.out (by have := HLN.out; unfold maxLen; omega) (by have := HLN.out; omega) T3.out ?_; intro v' w7 ho hg hv; have H7 := Lib.hid (And.intro ho (And.intro hg hv)); clear ho hg hv)
          go_roundw
          case rel =>
           have hx7 := T5.out.grown H7.out.2.1 (fun e => HGN.out nb e.symm rfl)
           refine ⟨k + 1, k, by omega, by go_num, ?_, hx7, below_own T4.out T1.out (Nat.le_refl _) T3.out H7.out.2.1⟩
           rw [HE.out, List.length_append, List.map_append]
           exact H7.out.1
          case measure => simp [intOf]; omega
  · obtain rfl : k = l.length := by omega
    go_wp2_with fail
    go_ret
    refine ⟨_, rfl, ?_, HB.out⟩
    have := HRW.out
    rw [List.take_length, ← HPD.out] at this
    exact this
end Go.Proofs.YthcdppppppgckaaGreatDoor
