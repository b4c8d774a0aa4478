/- Texts joined into one file: Fil2, Fil3, Fil4. -/
import Derived.Test.YtfloipdkhmgibaaS03
import Derived.Test.YtfloipdkhmgibaaS04
import Derived.Deep.RegionHeld3
import Derived.Deep.DrawnRows

/- filter's closures and 'made': the filter that admits what a rule says. -/
namespace Go.Proofs.Ytfloipdkhmgibaa
open Go.RowKit Go.Lib Go.Sort
set_option maxRecDepth 20000
attribute [local go_sem ↓] Go.wp_at_zero Go.wp_at_succ

/-- a predicate that a call tells -/
def Tells (w : World) (g : Nat) (lb : Array Value) (p : Str → Bool) : Prop :=
  ∀ x W, Below w.heap.size w W → Calls Try.prog g (#[.string (bstr x)] ++ lb) W fun e W' => e = .returned (.bool (p x)) ∧ Below W.heap.size W W'

theorem Tells.mono {w w' : World} {g : Nat} {lb : Array Value} {p : Str → Bool} (h : Tells w g lb p) (hb : Below w.heap.size w w') : Tells w' g lb p :=
  fun x W hW => h x W (hb.trans (hW.mono hb.size))

theorem all_tells (w : World) : Tells w 47 #[] (fun _ => true) := by
  intro x W _
  go_enter Try.func47, Try.ntmps47
  go_wp2
  go_ret
  exact ⟨rfl, Below.refl _ _⟩

theorem below_of_boxed {w w' : World} {o : Obj} {n : Nat} (h : w' = (w.alloc o).drewN n) : Below w.heap.size w w' := by
  subst h; exact below_draws _ ((Below.refl _ w).alloc (Nat.le_refl _) o) n

theorem admitsB (e1 : Bool) (v : Value) (L : List Str) (x : Str) (w : World) (h : Strs w v L) :
    Calls Try.prog 27 #[.agg #[.bool e1, v], .string (bstr x)] w fun e w' => e = .returned (.bool (adm e1 L x)) ∧ Below w.heap.size w w' :=
  (admits_any e1 v L x w h).mono fun _ _ ⟨a, _, b⟩ => ⟨a, below_of_boxed b⟩

/-- a filter in a box -/
def BoxF (w : World) (b : Nat) (e : Bool) (L : List Str) : Prop := ∃ v, b < w.heap.size ∧ w.cell? ⟨b, 0, none⟩ = some (.bool e) ∧ w.cell? ⟨b, 1, none⟩ = some v ∧ Strs w v L

theorem BoxF.mono {w w' : World} {b : Nat} {e : Bool} {L : List Str} (h : BoxF w b e L) (hb : Below w.heap.size w w') : BoxF w' b e L := by
  obtain ⟨v, h0, h1, h2, h3⟩ := h
  exact ⟨v, Nat.lt_of_lt_of_le h0 hb.size, by rw [hb.cell (p := ⟨b, 0, none⟩) h0]; exact h1, by rw [hb.cell (p := ⟨b, 1, none⟩) h0]; exact h2, h3.mono hb⟩

def pOr (e1 : Bool) (A : List Str) (e2 : Bool) (B : List Str) (x : Str) : Bool := adm e1 A x || adm e2 B x
def pAnd (e1 : Bool) (A : List Str) (e2 : Bool) (B : List Str) (x : Str) : Bool := adm e1 A x && adm e2 B x
def pNot (e1 : Bool) (A : List Str) (x : Str) : Bool := !adm e1 A x

set_option maxHeartbeats 1000000 in
theorem or_tells (b1 b2 : Nat) (e1 e2 : Bool) (A B : List Str) (w : World) (h1 : BoxF w b1 e1 A) (h2 : BoxF w b2 e2 B) : Tells w 56 #[.pointer (some ⟨b1, 0, none⟩), .pointer (some ⟨b2, 0, none⟩)] (pOr e1 A e2 B) := by
  intro x W hW
  obtain ⟨v, _, c0, c1, hv⟩ := h1.mono hW
  obtain ⟨u, hb2, d0, d1, hu⟩ := h2.mono hW
  obtain ⟨ao, cap, rfl⟩ := hv.shape
  obtain ⟨bo, bcap, rfl⟩ := hu.shape
  have HC := Lib.hid (admitsB e1 _ A x W hv)
  have HD := Lib.hid (fun W' (h : Below W.heap.size W W') => admitsB e2 _ B x W' (hu.mono h))
  have HU := Lib.hid (And.intro d0 d1)
  clear hv hu h1 h2 hW
  cases hp : adm e1 A x
  · have HP := Lib.hid (show pOr e1 A e2 B x = adm e2 B x by simp [pOr, hp])
    rw [hp] at HC
    clear hp
    go_enter Try.func56, Try.ntmps56
    go_wp2_with (first | ((with_reducible refine HC.out.mono ?_); rintro e w' ⟨rfl, hb⟩; have x0 := (hb.cell (p := ⟨b2, 0, none⟩) hb2).trans HU.out.1; have x1 := (hb.cell (p := ⟨b2, 1, none⟩) hb2).trans HU.out.2) | ((with_reducible refine (HD.out _ hb).mono ?_); rintro e w'' ⟨rfl, hb'⟩))
    go_ret
    exact ⟨ret_bool (by rw [HP.out]), hb.trans (hb'.mono hb.size)⟩
  · have HP := Lib.hid (show pOr e1 A e2 B x = true by simp [pOr, hp])
    rw [hp] at HC
    clear hp
    go_enter Try.func56, Try.ntmps56
    go_wp2_with ((with_reducible refine HC.out.mono ?_); rintro e w' ⟨rfl, hb⟩)
    go_ret
    exact ⟨ret_bool (by rw [HP.out]), hb⟩
set_option maxHeartbeats 1000000 in
theorem and_tells (b1 b2 : Nat) (e1 e2 : Bool) (A B : List Str) (w : World) (h1 : BoxF w b1 e1 A) (h2 : BoxF w b2 e2 B) : Tells w 67 #[.pointer (some ⟨b1, 0, none⟩), .pointer (some ⟨b2, 0, none⟩)] (pAnd e1 A e2 B) := by
  intro x W hW
  obtain ⟨v, _, c0, c1, hv⟩ := h1.mono hW
  obtain ⟨u, hb2, d0, d1, hu⟩ := h2.mono hW
  obtain ⟨ao, cap, rfl⟩ := hv.shape
  obtain ⟨bo, bcap, rfl⟩ := hu.shape
  have HC := Lib.hid (admitsB e1 _ A x W hv)
  have HD := Lib.hid (fun W' (h : Below W.heap.size W W') => admitsB e2 _ B x W' (hu.mono h))
  have HU := Lib.hid (And.intro d0 d1)
  clear hv hu h1 h2 hW
  cases hp : adm e1 A x
  · have HP := Lib.hid (show pAnd e1 A e2 B x = false by simp [pAnd, hp])
    rw [hp] at HC
    clear hp
    go_enter Try.func67, Try.ntmps67
    go_wp2_with ((with_reducible refine HC.out.mono ?_); rintro e w' ⟨rfl, hb⟩)
    go_ret
    exact ⟨ret_bool (by rw [HP.out]), hb⟩
  · have HP := Lib.hid (show pAnd e1 A e2 B x = adm e2 B x by simp [pAnd, hp])
    rw [hp] at HC
    clear hp
    go_enter Try.func67, Try.ntmps67
    go_wp2_with (first | ((with_reducible refine HC.out.mono ?_); rintro e w' ⟨rfl, hb⟩; have x0 := (hb.cell (p := ⟨b2, 0, none⟩) hb2).trans HU.out.1; have x1 := (hb.cell (p := ⟨b2, 1, none⟩) hb2).trans HU.out.2) | ((with_reducible refine (HD.out _ hb).mono ?_); rintro e w'' ⟨rfl, hb'⟩))
    go_ret
    exact ⟨ret_bool (by rw [HP.out]), hb.trans (hb'.mono hb.size)⟩

set_option maxHeartbeats 1000000 in
theorem not_tells (b1 : Nat) (e1 : Bool) (A : List Str) (w : World) (h1 : BoxF w b1 e1 A) : Tells w 66 #[.pointer (some ⟨b1, 0, none⟩)] (pNot e1 A) := by
  intro x W hW
  obtain ⟨v, _, c0, c1, hv⟩ := h1.mono hW
  obtain ⟨ao, cap, rfl⟩ := hv.shape
  have HC := Lib.hid (admitsB e1 _ A x W hv)
  have HP := Lib.hid (show pNot e1 A x = !adm e1 A x by rfl)
  clear hv h1 hW
  go_enter Try.func66, Try.ntmps66
  go_wp2_with ((with_reducible refine HC.out.mono ?_); rintro e w' ⟨rfl, hb⟩)
  go_ret
  exact ⟨ret_bool (by rw [HP.out]), hb⟩

/-- a word that turns a rule round where 'except' says so -/
def pMade (p : Str → Bool) (ex : Bool) (x : Str) : Bool := p x != ex

set_option maxHeartbeats 1000000 in
theorem made_tells (br be : Nat) (g : Nat) (lb : Array Value) (p : Str → Bool) (ex : Bool) (w : World) (hcf : ∀ args w', (callFunc g args).run Try.prog w' = .ok (.enter g args) w')
    (hr : br < w.heap.size) (he : be < w.heap.size) (cr : w.cell? ⟨br, 0, none⟩ = some (.func (.func g) #[] lb)) (ce : w.cell? ⟨be, 0, none⟩ = some (.bool ex)) (h : Tells w g lb p) :
    Tells w 74 #[.pointer (some ⟨br, 0, none⟩), .pointer (some ⟨be, 0, none⟩)] (pMade p ex) := by
  intro x W hW
  have c0 := (hW.cell (p := ⟨br, 0, none⟩) hr).trans cr
  have c1 := (hW.cell (p := ⟨be, 0, none⟩) he).trans ce
  have hrW := Nat.lt_of_lt_of_le hr hW.size
  have heW := Nat.lt_of_lt_of_le he hW.size
  have HK := Lib.hid (show ∀ W', Below W.heap.size W W' → W'.cell? ⟨br, 0, none⟩ = some (.func (.func g) #[] lb) ∧ W'.cell? ⟨be, 0, none⟩ = some (.bool ex) from fun W' hb => ⟨(hb.cell (p := ⟨br, 0, none⟩) hrW).trans c0, (hb.cell (p := ⟨be, 0, none⟩) heW).trans c1⟩)
  have HC := Lib.hid (fun W' (hb : Below W.heap.size W W') => h x W' (hW.trans (hb.mono hW.size)))
  have HP := Lib.hid (show pMade p ex x = (p x != ex) from rfl)
  have HB0 := Lib.hid (Below.drew (Below.refl W.heap.size W))
  clear h cr ce hr he hW
  go_enter Try.func74, Try.ntmps74
  go_wp2
  go_region_held3 (fun w' => w'.cell? ⟨br, 0, none⟩ = some (.func (.func g) #[] lb) ∧ w'.cell? ⟨be, 0, none⟩ = some (.bool ex)) (first | exact HK.out _ HB0.out | exact HK.out _ HB1.out) (((with_reducible refine (HC.out _ HB0.out).mono ?_); rintro e w' ⟨rfl, hb⟩; have HB1 := Lib.hid (HB0.out.trans (hb.mono HB0.out.size)); clear hb))
  go_wp2
  go_ret
  exact ⟨ret_bool (by rw [HP.out]; cases p x <;> cases ex <;> rfl), HB1.out⟩

/-- a call that hands back a filter, and writes nothing that was there -/
def RetFil (w : World) (ex : Bool) (L : List Str) (e : Ending) (w' : World) : Prop := ∃ v, e = .returned (.agg #[.bool ex, v]) ∧ Strs w' v L ∧ Below w.heap.size w w' ∧ Lies w.heap.size v

theorem cell_alloc_old {w : World} {o : Obj} {b j : Nat} {v : Value} (hb : b < w.heap.size) (h : w.cell? ⟨b, j, none⟩ = some v) : (w.alloc o).cell? ⟨b, j, none⟩ = some v :=
  (((Below.refl _ w).alloc (Nat.le_refl _) o).cell (p := ⟨b, j, none⟩) hb).trans h
theorem cell_alloc_new {w : World} {cs : Array Value} {T : TypeId} {b j : Nat} {v : Value} (hb : b = w.heap.size) (h : cs[j]? = some v) : (w.alloc (.cells cs T)).cell? ⟨b, j, none⟩ = some v := by
  subst hb; rw [cell_of_row _ w.heap.size j cs T (0, 0) (heap_alloc_new w _)]; exact h

theorem cells_pair {w : World} {b : Nat} {x0 x1 v0 v1 : Value} (h0 : w.cell? ⟨b, 0, none⟩ = some x0) (h1 : w.cell? ⟨b, 1, none⟩ = some x1) :
    ((w.setCell ⟨b, 0, none⟩ v0).setCell ⟨b, 1, none⟩ v1).cell? ⟨b, 0, none⟩ = some v0 ∧ ((w.setCell ⟨b, 0, none⟩ v0).setCell ⟨b, 1, none⟩ v1).cell? ⟨b, 1, none⟩ = some v1 := by
  have k0 := World.cell?_setCell_same w ⟨b, 0, none⟩ v0 h0
  have k1 := (World.cell?_setCell_other w ⟨b, 0, none⟩ ⟨b, 1, none⟩ v0 (by simp)).trans h1
  exact ⟨(World.cell?_setCell_other _ ⟨b, 1, none⟩ ⟨b, 0, none⟩ v1 (by simp)).trans k0, World.cell?_setCell_same _ ⟨b, 1, none⟩ v1 k1⟩

theorem callFuncMade (args : Array Value) (w : World) : (callFunc 74 args).run Try.prog w = .ok (.enter 74 args) w := by kernel_rfl
theorem callFuncOr (args : Array Value) (w : World) : (callFunc 56 args).run Try.prog w = .ok (.enter 56 args) w := by kernel_rfl
theorem callFuncAnd (args : Array Value) (w : World) : (callFunc 67 args).run Try.prog w = .ok (.enter 67 args) w := by kernel_rfl
theorem callFuncNot (args : Array Value) (w : World) : (callFunc 66 args).run Try.prog w = .ok (.enter 66 args) w := by kernel_rfl
theorem callFuncAll (args : Array Value) (w : World) : (callFunc 47 args).run Try.prog w = .ok (.enter 47 args) w := by kernel_rfl

theorem frozen_alloc_new {w : World} {cs : Array Value} {T : TypeId} {b j : Nat} (hb : b = w.heap.size) : (w.alloc (.cells cs T)).frozen? ⟨b, j, none⟩ = false := by
  subst hb
  have h : (w.alloc (.cells cs T)).heap[w.heap.size]? = some (.cells cs T (0, 0)) := heap_alloc_new w _
  simp only [World.frozen?, h]
  simp

set_option maxHeartbeats 2000000 in
theorem made_any (e1 e2 ex : Bool) (v u : Value) (A B : List Str) (g : Nat) (lb : Array Value) (p : Str → Bool) (w : World) (hv : Strs w v A) (hu : Strs w u B) (hl : A.length + B.length ≤ 8796093022200)
    (hcf : ∀ args w', (callFunc g args).run Try.prog w' = .ok (.enter g args) w') (ht : Tells w g lb p) :
    Calls Try.prog 55 #[.agg #[.bool e1, v], .agg #[.bool e2, u], .bool ex, .func (.func g) #[] lb] w (RetFil w ex (sasc ((A ++ B).filter (pMade p ex)))) := by
  obtain ⟨ao, cap, rfl⟩ := hv.shape
  obtain ⟨bo, bcap, rfl⟩ := hu.shape
  obtain ⟨W0, hW0⟩ : ∃ W0, W0 = ((((w.alloc (.cells #[.bool e1, .slice ao A.length cap] 28)).alloc (.cells #[.bool e2, .slice bo B.length bcap] 28)).alloc (.cells #[.bool ex] 4)).alloc (.cells #[.func (.func g) #[] lb] 82)).alloc (.cells #[.bool false, .slice none 0 0] 28) := ⟨_, rfl⟩
  have hs0 : W0.heap.size = w.heap.size + 5 := by rw [hW0]; simp
  have hb0 : Below w.heap.size w W0 := by rw [hW0]; exact (((((Below.refl _ _).alloc (Nat.le_refl _) _).alloc (by simp <;> omega) _).alloc (by simp <;> omega) _).alloc (by simp <;> omega) _).alloc (by simp <;> omega) _
  have k0 : W0.cell? ⟨w.heap.size, 1, none⟩ = some (.slice ao A.length cap) := by rw [hW0]; exact cell_alloc_old (by simp <;> omega) (cell_alloc_old (by simp <;> omega) (cell_alloc_old (by simp <;> omega) (cell_alloc_old (by simp <;> omega) (cell_alloc_new rfl rfl))))
  have k1 : W0.cell? ⟨w.heap.size + 1, 1, none⟩ = some (.slice bo B.length bcap) := by rw [hW0]; exact cell_alloc_old (by simp <;> omega) (cell_alloc_old (by simp <;> omega) (cell_alloc_old (by simp <;> omega) (cell_alloc_new (by simp <;> omega) rfl)))
  have k2 : W0.cell? ⟨w.heap.size + 2, 0, none⟩ = some (.bool ex) := by rw [hW0]; exact cell_alloc_old (by simp <;> omega) (cell_alloc_old (by simp <;> omega) (cell_alloc_new (by simp <;> omega) rfl))
  have k3 : W0.cell? ⟨w.heap.size + 3, 0, none⟩ = some (.func (.func g) #[] lb) := by rw [hW0]; exact cell_alloc_old (by simp <;> omega) (cell_alloc_new (by simp <;> omega) rfl)
  have ht0 : Tells W0 74 #[.pointer (some ⟨w.heap.size + 3, 0, none⟩), .pointer (some ⟨w.heap.size + 2, 0, none⟩)] (pMade p ex) :=
    made_tells _ _ g lb p ex W0 hcf (by omega) (by omega) k3 k2 (ht.mono hb0)
  have HC := Lib.hid (srise_any _ _ A B 74 #[.pointer (some ⟨w.heap.size + 3, 0, none⟩), .pointer (some ⟨w.heap.size + 2, 0, none⟩)] (pMade p ex) W0.drew ((hv.mono hb0).draws 1) ((hu.mono hb0).draws 1) hl callFuncMade (fun x W hW => (ht0.mono (Below.drew (Below.refl _ _))) x W hW))
  have HK := Lib.hid (show ∀ W', Below (w.heap.size + 4) W0 W' → W'.cell? ⟨w.heap.size, 1, none⟩ = some (.slice ao A.length cap) ∧ W'.cell? ⟨w.heap.size + 1, 1, none⟩ = some (.slice bo B.length bcap) ∧ W'.cell? ⟨w.heap.size + 2, 0, none⟩ = some (.bool ex) from fun W' hb =>
    ⟨(hb.cell (p := ⟨w.heap.size, 1, none⟩) (by simp <;> omega)).trans k0, (hb.cell (p := ⟨w.heap.size + 1, 1, none⟩) (by simp <;> omega)).trans k1, (hb.cell (p := ⟨w.heap.size + 2, 0, none⟩) (by simp <;> omega)).trans k2⟩)
  have k4 : W0.cell? ⟨w.heap.size + 4, 0, none⟩ = some (.bool false) := by rw [hW0]; exact cell_alloc_new (by simp) rfl
  have k5 : W0.cell? ⟨w.heap.size + 4, 1, none⟩ = some (.slice none 0 0) := by rw [hW0]; exact cell_alloc_new (by simp) rfl
  have f4 : ∀ j, W0.frozen? ⟨w.heap.size + 4, j, none⟩ = false := fun j => by rw [hW0]; exact frozen_alloc_new (by simp)
  have HZ := Lib.hid (show ∀ W', Below (w.heap.size + 5) W0 W' → W'.cell? ⟨w.heap.size + 4, 0, none⟩ = some (.bool false) ∧ W'.cell? ⟨w.heap.size + 4, 1, none⟩ = some (.slice none 0 0) ∧ W'.frozen? ⟨w.heap.size + 4, 0, none⟩ = false ∧ W'.frozen? ⟨w.heap.size + 4, 1, none⟩ = false from fun W' hb =>
    ⟨(hb.cell (p := ⟨w.heap.size + 4, 0, none⟩) (by simp)).trans k4, (hb.cell (p := ⟨w.heap.size + 4, 1, none⟩) (by simp)).trans k5, (hb.frozen (p := ⟨w.heap.size + 4, 0, none⟩) (by simp)).trans (f4 0), (hb.frozen (p := ⟨w.heap.size + 4, 1, none⟩) (by simp)).trans (f4 1)⟩)
  have HB0 := Lib.hid hb0
  clear hs0
  rw [hW0] at HC HK HZ HB0
  generalize sasc ((A ++ B).filter (pMade p ex)) = R at HC ⊢
  clear hv hu ht ht0 k0 k1 k2 k3 k4 k5 f4 hb0 hW0 W0
  go_enter Try.func55, Try.ntmps55
  go_wp2
  go_region_held3 (fun w' => w'.cell? ⟨w.heap.size, 1, none⟩ = some (.slice ao A.length cap) ∧ w'.cell? ⟨w.heap.size + 1, 1, none⟩ = some (.slice bo B.length bcap) ∧ w'.cell? ⟨w.heap.size + 2, 0, none⟩ = some (.bool ex)) (first | exact HK.out _ (Below.drew (Below.refl _ _)) | exact HK.out _ HB1.out | exact HK.out _ ((HB1.out.setCell (by simp <;> omega) _).setCell (by simp <;> omega) _)) (((with_reducible refine HC.out.mono ?_); rintro e w' ⟨o, rfl, ho, hb, hlo⟩; obtain ⟨oo, oc, rfl⟩ := ho.shape; have HL := Lib.hid (hlo.mono (lo' := w.heap.size + 5) (by simp)); clear hlo; have HB5 := Lib.hid ((Below.drew (Below.refl (w.heap.size + 5) _)).trans (hb.mono (B' := w.heap.size + 5) (by simp))); have HB1 := Lib.hid (HB5.out.mono (B' := w.heap.size + 4) (by omega)); have HH := Lib.hid ho; clear hb ho; obtain ⟨z0, z1, z2, z3⟩ := HZ.out _ HB5.out))
  obtain ⟨r0, r1⟩ := cells_pair (w := w') (b := w.heap.size + 1 + 1 + 1 + 1) (v0 := .bool ex) (v1 := .slice oo R.length oc) z0 z1
  go_wp2
  exact bodyPost_ret (v := .agg #[.bool ex, .slice oo R.length oc]) (by simp [results, Try.results55, go_sem, r0, r1]) rfl ⟨_, rfl, (HH.out.far HL.out (by simp <;> omega) _).far HL.out (by simp <;> omega) _, HB0.out.trans ((HB1.out.mono (by omega)).setCell (by simp <;> omega) _ |>.setCell (by simp <;> omega) _), HL.out.mono (by omega)⟩
end Go.Proofs.Ytfloipdkhmgibaa

/- filter.Or, And, Not and Norm. -/
namespace Go.Proofs.Ytfloipdkhmgibaa
open Go.RowKit Go.Lib Go.Sort
set_option maxRecDepth 20000
attribute [local go_sem ↓] Go.wp_at_zero Go.wp_at_succ

/-- the box of a result that is a filter -/
theorem zbox {W0 W' : World} {B : Nat} {T : TypeId} (h : W0.heap[B]? = some (.cells #[.bool false, .slice none 0 0] T (0, 0))) (hb : Below (B + 1) W0 W') :
    W'.cell? ⟨B, 0, none⟩ = some (.bool false) ∧ W'.cell? ⟨B, 1, none⟩ = some (.slice none 0 0) ∧ W'.frozen? ⟨B, 0, none⟩ = false ∧ W'.frozen? ⟨B, 1, none⟩ = false := by
  have e := hb.block B (Nat.lt_succ_self B)
  rw [h] at e
  refine ⟨by simp [World.cell?, e], by simp [World.cell?, e], by simp [World.frozen?, e], by simp [World.frozen?, e]⟩

theorem cells_pairA {w : World} {b : Nat} {x0 x1 : Value} (h0 : w.cell? ⟨b, 0, none⟩ = some x0) (h1 : w.cell? ⟨b, 1, none⟩ = some x1) :
    (∀ v0 v1, ((w.setCell ⟨b, 0, none⟩ v0).setCell ⟨b, 1, none⟩ v1).cell? ⟨b, 0, none⟩ = some v0) ∧ (∀ v0 v1, ((w.setCell ⟨b, 0, none⟩ v0).setCell ⟨b, 1, none⟩ v1).cell? ⟨b, 1, none⟩ = some v1) :=
  ⟨fun _ _ => (cells_pair h0 h1).1, fun _ _ => (cells_pair h0 h1).2⟩

set_option maxHeartbeats 2000000 in
theorem or_any (e1 e2 : Bool) (v u : Value) (A B : List Str) (w : World) (hv : Strs w v A) (hu : Strs w u B) (hl : A.length + B.length ≤ 8796093022200) :
    Calls Try.prog 32 #[.agg #[.bool e1, v], .agg #[.bool e2, u]] w (RetFil w (e1 || e2) (sasc ((A ++ B).filter (pMade (pOr e1 A e2 B) (e1 || e2))))) := by
  obtain ⟨ao, cap, rfl⟩ := hv.shape
  obtain ⟨bo, bcap, rfl⟩ := hu.shape
  obtain ⟨W0, hW0⟩ : ∃ W0, W0 = ((w.alloc (.cells #[.bool e1, .slice ao A.length cap] 28)).alloc (.cells #[.bool e2, .slice bo B.length bcap] 28)).alloc (.cells #[.bool false, .slice none 0 0] 28) := ⟨_, rfl⟩
  have hb0 : Below w.heap.size w W0 := by rw [hW0]; exact (((Below.refl _ _).alloc (Nat.le_refl _) _).alloc (by simp) _).alloc (by simp <;> omega) _
  have hs0 : W0.heap.size = w.heap.size + 3 := by rw [hW0]; simp
  have f0 : BoxF W0 w.heap.size e1 A := ⟨_, by omega, by rw [hW0]; exact cell_alloc_old (by simp <;> omega) (cell_alloc_old (by simp) (cell_alloc_new rfl rfl)), by rw [hW0]; exact cell_alloc_old (by simp <;> omega) (cell_alloc_old (by simp) (cell_alloc_new rfl rfl)), hv.mono hb0⟩
  have f1 : BoxF W0 (w.heap.size + 1) e2 B := ⟨_, by omega, by rw [hW0]; exact cell_alloc_old (by simp <;> omega) (cell_alloc_new (by simp) rfl), by rw [hW0]; exact cell_alloc_old (by simp <;> omega) (cell_alloc_new (by simp) rfl), hu.mono hb0⟩
  have HZ := Lib.hid (fun W' (hb : Below (w.heap.size + 2 + 1) W0 W') => zbox (B := w.heap.size + 2) (T := 28) (by rw [hW0]; exact heap_new _ _ _ (by simp)) hb)
  have HC := Lib.hid (made_any e1 e2 (e1 || e2) _ _ A B 56 _ _ W0 (hv.mono hb0) (hu.mono hb0) hl callFuncOr (or_tells _ _ e1 e2 A B W0 f0 f1))
  have HB0 := Lib.hid hb0
  rw [hW0] at HC HZ HB0
  generalize sasc ((A ++ B).filter (pMade (pOr e1 A e2 B) (e1 || e2))) = R at HC ⊢
  clear hv hu f0 f1 hb0 hs0 hW0 W0
  cases e1
  all_goals
    simp only [Bool.false_or, Bool.true_or] at HC ⊢
    go_enter Try.func32, Try.ntmps32
    go_wp2_with ((with_reducible refine HC.out.mono ?_); rintro e w' ⟨o, rfl, ho, hb, hlo⟩; obtain ⟨oo, oc, rfl⟩ := ho.shape; have HB1 := Lib.hid (hb.mono (B' := w.heap.size + 2 + 1) (by simp)); have HL := Lib.hid (hlo.mono (lo' := w.heap.size + 3) (by simp)); obtain ⟨z0, z1, z2, z3⟩ := HZ.out _ HB1.out; have HH := Lib.hid ho; clear hb hlo ho; obtain ⟨r0, r1⟩ := cells_pairA (w := w') (b := w.heap.size + 1 + 1) z0 z1)
    exact bodyPost_ret (v := .agg #[.bool _, .slice oo R.length oc]) (by simp [results, Try.results32, go_sem, r0, r1]) rfl ⟨_, rfl, (HH.out.far HL.out (by simp <;> omega) _).far HL.out (by simp <;> omega) _, HB0.out.trans ((HB1.out.mono (by omega)).setCell (by simp <;> omega) _ |>.setCell (by simp <;> omega) _), HL.out.mono (by omega)⟩

set_option maxHeartbeats 2000000 in
theorem and_any (e1 e2 : Bool) (v u : Value) (A B : List Str) (w : World) (hv : Strs w v A) (hu : Strs w u B) (hl : A.length + B.length ≤ 8796093022200) :
    Calls Try.prog 45 #[.agg #[.bool e1, v], .agg #[.bool e2, u]] w (RetFil w (e1 && e2) (sasc ((A ++ B).filter (pMade (pAnd e1 A e2 B) (e1 && e2))))) := by
  obtain ⟨ao, cap, rfl⟩ := hv.shape
  obtain ⟨bo, bcap, rfl⟩ := hu.shape
  obtain ⟨W0, hW0⟩ : ∃ W0, W0 = ((w.alloc (.cells #[.bool e1, .slice ao A.length cap] 28)).alloc (.cells #[.bool e2, .slice bo B.length bcap] 28)).alloc (.cells #[.bool false, .slice none 0 0] 28) := ⟨_, rfl⟩
  have hb0 : Below w.heap.size w W0 := by rw [hW0]; exact (((Below.refl _ _).alloc (Nat.le_refl _) _).alloc (by simp) _).alloc (by simp <;> omega) _
  have hs0 : W0.heap.size = w.heap.size + 3 := by rw [hW0]; simp
  have f0 : BoxF W0 w.heap.size e1 A := ⟨_, by omega, by rw [hW0]; exact cell_alloc_old (by simp <;> omega) (cell_alloc_old (by simp) (cell_alloc_new rfl rfl)), by rw [hW0]; exact cell_alloc_old (by simp <;> omega) (cell_alloc_old (by simp) (cell_alloc_new rfl rfl)), hv.mono hb0⟩
  have f1 : BoxF W0 (w.heap.size + 1) e2 B := ⟨_, by omega, by rw [hW0]; exact cell_alloc_old (by simp <;> omega) (cell_alloc_new (by simp) rfl), by rw [hW0]; exact cell_alloc_old (by simp <;> omega) (cell_alloc_new (by simp) rfl), hu.mono hb0⟩
  have HZ := Lib.hid (fun W' (hb : Below (w.heap.size + 2 + 1) W0 W') => zbox (B := w.heap.size + 2) (T := 28) (by rw [hW0]; exact heap_new _ _ _ (by simp)) hb)
  have HC := Lib.hid (made_any e1 e2 (e1 && e2) _ _ A B 67 _ _ W0 (hv.mono hb0) (hu.mono hb0) hl callFuncAnd (and_tells _ _ e1 e2 A B W0 f0 f1))
  have HB0 := Lib.hid hb0
  rw [hW0] at HC HZ HB0
  generalize sasc ((A ++ B).filter (pMade (pAnd e1 A e2 B) (e1 && e2))) = R at HC ⊢
  clear hv hu f0 f1 hb0 hs0 hW0 W0
  cases e1
  all_goals
    simp only [Bool.false_and, Bool.true_and] at HC ⊢
    go_enter Try.func45, Try.ntmps45
    go_wp2_with ((with_reducible refine HC.out.mono ?_); rintro e w' ⟨o, rfl, ho, hb, hlo⟩; obtain ⟨oo, oc, rfl⟩ := ho.shape; have HB1 := Lib.hid (hb.mono (B' := w.heap.size + 2 + 1) (by simp)); have HL := Lib.hid (hlo.mono (lo' := w.heap.size + 3) (by simp)); obtain ⟨z0, z1, z2, z3⟩ := HZ.out _ HB1.out; have HH := Lib.hid ho; clear hb hlo ho; obtain ⟨r0, r1⟩ := cells_pairA (w := w') (b := w.heap.size + 1 + 1) z0 z1)
    exact bodyPost_ret (v := .agg #[.bool _, .slice oo R.length oc]) (by simp [results, Try.results45, go_sem, r0, r1]) rfl ⟨_, rfl, (HH.out.far HL.out (by simp <;> omega) _).far HL.out (by simp <;> omega) _, HB0.out.trans ((HB1.out.mono (by omega)).setCell (by simp <;> omega) _ |>.setCell (by simp <;> omega) _), HL.out.mono (by omega)⟩

set_option maxHeartbeats 2000000 in
theorem not_any (e1 : Bool) (v : Value) (A : List Str) (w : World) (hv : Strs w v A) (hl : A.length ≤ 8796093022200) :
    Calls Try.prog 44 #[.agg #[.bool e1, v]] w (RetFil w (!e1) (sasc (A.filter (pMade (pNot e1 A) (!e1))))) := by
  obtain ⟨ao, cap, rfl⟩ := hv.shape
  obtain ⟨W0, hW0⟩ : ∃ W0, W0 = (w.alloc (.cells #[.bool e1, .slice ao A.length cap] 28)).alloc (.cells #[.bool false, .slice none 0 0] 28) := ⟨_, rfl⟩
  have hb0 : Below w.heap.size w W0 := by rw [hW0]; exact ((Below.refl _ _).alloc (Nat.le_refl _) _).alloc (by simp) _
  have hs0 : W0.heap.size = w.heap.size + 2 := by rw [hW0]; simp
  have f0 : BoxF W0 w.heap.size e1 A := ⟨_, by omega, by rw [hW0]; exact cell_alloc_old (by simp) (cell_alloc_new rfl rfl), by rw [hW0]; exact cell_alloc_old (by simp) (cell_alloc_new rfl rfl), hv.mono hb0⟩
  have HZ := Lib.hid (fun W' (hb : Below (w.heap.size + 1 + 1) W0 W') => zbox (B := w.heap.size + 1) (T := 28) (by rw [hW0]; exact heap_new _ _ _ (by simp)) hb)
  have HC := Lib.hid (made_any e1 false (!e1) _ _ A [] 66 _ _ W0 (hv.mono hb0) (Strs.nil _) (by simpa using hl) callFuncNot (not_tells _ e1 A W0 f0))
  have HB0 := Lib.hid hb0
  rw [hW0] at HC HZ HB0
  rw [List.append_nil] at HC
  generalize sasc (A.filter (pMade (pNot e1 A) (!e1))) = R at HC ⊢
  clear hv f0 hb0 hs0 hW0 W0
  cases e1
  all_goals
    simp only [Bool.not_false, Bool.not_true] at HC ⊢
    go_enter Try.func44, Try.ntmps44
    go_wp2_with ((with_reducible refine HC.out.mono ?_); rintro e w' ⟨o, rfl, ho, hb, hlo⟩; obtain ⟨oo, oc, rfl⟩ := ho.shape; have HB1 := Lib.hid (hb.mono (B' := w.heap.size + 1 + 1) (by simp)); have HL := Lib.hid (hlo.mono (lo' := w.heap.size + 2) (by simp)); obtain ⟨z0, z1, z2, z3⟩ := HZ.out _ HB1.out; have HH := Lib.hid ho; clear hb hlo ho; obtain ⟨r0, r1⟩ := cells_pairA (w := w') (b := w.heap.size + 1) z0 z1)
    exact bodyPost_ret (v := .agg #[.bool _, .slice oo R.length oc]) (by simp [results, Try.results44, go_sem, r0, r1]) rfl ⟨_, rfl, (HH.out.far HL.out (by simp <;> omega) _).far HL.out (by simp <;> omega) _, HB0.out.trans ((HB1.out.mono (by omega)).setCell (by simp <;> omega) _ |>.setCell (by simp <;> omega) _), HL.out.mono (by omega)⟩

theorem filter_true (A : List Str) : A.filter (fun _ => true) = A := by simp

set_option maxHeartbeats 2000000 in
theorem norm_any (e1 : Bool) (v : Value) (A : List Str) (w : World) (hv : Strs w v A) (hl : A.length ≤ 8796093022200) :
    Calls Try.prog 25 #[.agg #[.bool e1, v]] w (RetFil w e1 (sasc A)) := by
  obtain ⟨ao, cap, rfl⟩ := hv.shape
  obtain ⟨W0, hW0⟩ : ∃ W0, W0 = (w.alloc (.cells #[.bool e1, .slice ao A.length cap] 28)).alloc (.cells #[.bool false, .slice none 0 0] 28) := ⟨_, rfl⟩
  have hb0 : Below w.heap.size w W0 := by rw [hW0]; exact ((Below.refl _ _).alloc (Nat.le_refl _) _).alloc (by simp) _
  have k0 : W0.cell? ⟨w.heap.size, 0, none⟩ = some (.bool e1) := by rw [hW0]; exact cell_alloc_old (by simp) (cell_alloc_new rfl rfl)
  have k1 : W0.cell? ⟨w.heap.size, 1, none⟩ = some (.slice ao A.length cap) := by rw [hW0]; exact cell_alloc_old (by simp) (cell_alloc_new rfl rfl)
  have HZ := Lib.hid (fun W' (hb : Below (w.heap.size + 1 + 1) W0 W') => zbox (B := w.heap.size + 1) (T := 28) (by rw [hW0]; exact heap_new _ _ _ (by simp)) hb)
  have HC := Lib.hid (srise_any _ _ A [] 47 #[] (fun _ => true) W0.drew ((hv.mono hb0).draws 1) (Strs.nil _) (by simpa using hl) callFuncAll (fun x W hW => all_tells _ x W hW))
  have HK := Lib.hid (show ∀ W', Below (w.heap.size + 1) W0 W' → W'.cell? ⟨w.heap.size, 0, none⟩ = some (.bool e1) ∧ W'.cell? ⟨w.heap.size, 1, none⟩ = some (.slice ao A.length cap) from fun W' hb =>
    ⟨(hb.cell (p := ⟨w.heap.size, 0, none⟩) (by simp)).trans k0, (hb.cell (p := ⟨w.heap.size, 1, none⟩) (by simp)).trans k1⟩)
  have HB0 := Lib.hid hb0
  rw [hW0] at HC HZ HB0 HK
  rw [List.append_nil, filter_true] at HC
  generalize sasc A = R at HC ⊢
  clear hv k0 k1 hb0 hW0 W0
  go_enter Try.func25, Try.ntmps25
  go_wp2
  go_region_held3 (fun w' => w'.cell? ⟨w.heap.size, 0, none⟩ = some (.bool e1) ∧ w'.cell? ⟨w.heap.size, 1, none⟩ = some (.slice ao A.length cap)) (first | exact HK.out _ (Below.drew (Below.refl _ _)) | exact HK.out _ HB2.out | exact HK.out _ ((HB2.out.setCell (by simp <;> omega) _).setCell (by simp <;> omega) _)) (((with_reducible refine HC.out.mono ?_); rintro e w' ⟨o, rfl, ho, hb, hlo⟩; obtain ⟨oo, oc, rfl⟩ := ho.shape; have HL := Lib.hid (hlo.mono (lo' := w.heap.size + 2) (by simp)); have HB1 := Lib.hid ((Below.drew (Below.refl (w.heap.size + 1 + 1) _)).trans (hb.mono (B' := w.heap.size + 1 + 1) (by simp))); have HB2 := Lib.hid (HB1.out.mono (B' := w.heap.size + 1) (by omega)); have HH := Lib.hid ho; clear hb ho hlo; obtain ⟨z0, z1, z2, z3⟩ := HZ.out _ HB1.out))
  obtain ⟨r0, r1⟩ := cells_pairA (w := w') (b := w.heap.size + 1) z0 z1
  go_wp2
  exact bodyPost_ret (v := .agg #[.bool e1, .slice oo R.length oc]) (by simp [results, Try.results25, go_sem, r0, r1]) rfl ⟨_, rfl, (HH.out.far HL.out (by simp <;> omega) _).far HL.out (by simp <;> omega) _, HB0.out.trans ((HB1.out.mono (by omega)).setCell (by simp <;> omega) _ |>.setCell (by simp <;> omega) _), HL.out.mono (by omega)⟩
end Go.Proofs.Ytfloipdkhmgibaa

/- Check of both packages. -/
namespace Go.Proofs.Ytfloipdkhmgibaa
open Go.RowKit Go.Lib Go.Sort
set_option maxRecDepth 20000

def RisesTo (L : List Str) (k : Nat) : Prop := ∀ j, j + 1 < k → L.getD j [] < L.getD (j + 1) []
open Classical in
noncomputable def chk (L : List Str) : Int := if RisesTo L L.length then 0 else 3

theorem chk_yes {L : List Str} (h : RisesTo L L.length) : chk L = 0 := if_pos h
theorem chk_no {L : List Str} {k : Nat} (hk : k + 1 < L.length) (h : ¬ L.getD k [] < L.getD (k + 1) []) : chk L = 3 := if_neg fun H => h (H k hk)
theorem rises_zero (L : List Str) : RisesTo L 0 := fun j hj => by omega
theorem rises_one (L : List Str) : RisesTo L 1 := fun j hj => by omega
theorem rises_succ {L : List Str} {k : Nat} (h : RisesTo L (k + 1)) (hl : L.getD k [] < L.getD (k + 1) []) : RisesTo L (k + 2) := fun j hj => by
  by_cases e : j = k
  · subst e; exact hl
  · exact h j (by omega)
theorem rises_iff (L : List Str) : RisesTo L L.length ↔ L.Pairwise (· < ·) := by
  constructor
  · intro h
    rw [List.pairwise_iff_getElem]
    intro i j hi hj hij
    have key : ∀ d, ∀ hd : i + d + 1 < L.length, L[i] < L[i + d + 1] := by
      intro d
      induction d with
      | zero =>
        intro hd
        have := h i hd
        simpa [List.getD_eq_getElem?_getD, hi, hd] using this
      | succ d ih =>
        intro hd
        have h1 := ih (by omega)
        have h2 := h (i + d + 1) hd
        have h3 : L[i + d + 1] < L[i + d + 1 + 1] := by
          rw [List.getD_eq_getElem?_getD, List.getD_eq_getElem?_getD, List.getElem?_eq_getElem (show i + d + 1 < L.length by omega), List.getElem?_eq_getElem (show i + d + 1 + 1 < L.length by omega)] at h2
          exact h2
        exact slt_trans h1 h3
    obtain ⟨d, rfl⟩ : ∃ d, j = i + d + 1 := ⟨j - i - 1, by omega⟩
    exact key d hj
  · intro h j hj
    have := List.pairwise_iff_getElem.1 h j (j + 1) (by omega) hj (by omega)
    simpa [List.getD_eq_getElem?_getD, show j < L.length by omega, hj] using this

theorem ret_int {k : IntKind} {a b : Int} (h : a = b) : Ending.returned (.int k a) = .returned (.int k b) := by rw [h]

end Go.Proofs.Ytfloipdkhmgibaa
