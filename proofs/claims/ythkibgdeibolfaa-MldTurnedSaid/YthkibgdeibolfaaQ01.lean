/- Texts joined into one file: JPlain, JCode. -/


/- Plain words of layers 1, 2, 3, 7, 8: numbers in bytes, sums, groups, codes, messages. No program in sight. -/
namespace Go.Proofs.Ythkibgdeibolfaa
abbrev Str := List UInt8

/-- the number that bytes make, the first the greatest -/
def big (l : Str) : Nat := l.foldl (fun n b => n * 256 + b.toNat) 0
theorem big_snoc (l : Str) (b : UInt8) : big (l ++ [b]) = big l * 256 + b.toNat := by simp [big, List.foldl_append]
theorem big_lt (l : Str) : big l < 256 ^ l.length := by
  have gen : ∀ (l : Str) (n : Nat), l.foldl (fun n b => n * 256 + b.toNat) n < (n + 1) * 256 ^ l.length := by
    intro l
    induction l with
    | nil => intro n; simp
    | cons b r ih =>
      intro n
      simp only [List.foldl_cons, List.length_cons]
      refine Nat.lt_of_lt_of_le (ih _) ?_
      have hb := b.toNat_lt
      have : n * 256 + b.toNat + 1 ≤ (n + 1) * 256 := by omega
      calc (n * 256 + b.toNat + 1) * 256 ^ r.length ≤ ((n + 1) * 256) * 256 ^ r.length := Nat.mul_le_mul_right _ this
        _ = (n + 1) * 256 ^ (r.length + 1) := by rw [Nat.pow_succ, Nat.mul_assoc, Nat.mul_comm 256]
  simpa [big] using gen l 0
/-- a number's bytes, so many of them -/
def ofN (n : Nat) : Nat → Str
  | 0 => []
  | k + 1 => ofN (n / 256) k ++ [UInt8.ofNat n]
theorem ofN_length (k : Nat) : ∀ n, (ofN n k).length = k := by
  induction k with
  | zero => intro n; rfl
  | succ k ih => intro n; simp [ofN, ih]
theorem big_ofN (k : Nat) : ∀ n, big (ofN n k) = n % 256 ^ k := by
  induction k with
  | zero => intro n; simp [ofN, big, Nat.mod_one]
  | succ k ih =>
    intro n
    have h : 256 ^ (k + 1) = 256 * 256 ^ k := by rw [Nat.pow_succ, Nat.mul_comm]
    rw [ofN, big_snoc, ih, UInt8.toNat_ofNat', h, Nat.mod_mul (x := n) (a := 256) (b := 256 ^ k)]
    omega
theorem big_ofN_lt (k n : Nat) (h : n < 256 ^ k) : big (ofN n k) = n := by rw [big_ofN, Nat.mod_eq_of_lt h]
def numAt (s : Str) (i n : Nat) : Nat := big ((s.drop i).take n)

/-- ones' addition -/
def pplus (a b : Nat) : Nat := if a + b ≥ 65536 then a + b - 65535 else a + b
/-- the words of a text, two bytes each, added -/
def totG : Nat → Str → Nat
  | n, [] => n
  | n, [a] => pplus n (256 * a.toNat)
  | n, a :: b :: r => totG (pplus n (256 * a.toNat + b.toNat)) r
def tot (s : Str) : Nat := totG 0 s
def psum (s : Str) : Nat := 65535 - tot s
def fillS (ahead s : Str) (i : Nat) : Str := s.take i ++ ofN (psum (ahead ++ s.take i ++ [0, 0] ++ s.drop (i + 2))) 2 ++ s.drop (i + 2)

/-- is an address a group? -/
def isG (a : Str) : Bool := if a.length = 4 then decide (224 ≤ (a.getD 0 0).toNat) && decide ((a.getD 0 0).toNat ≤ 239) else decide (a.length = 16) && decide ((a.getD 0 0).toNat = 255)
def grp (a : Str) (size : Nat) : Bool := decide (a.length = size) && isG a

/-- a code's number, of so many bits of the small part -/
def pdecode (c bits : Nat) : Nat := if c < 8 * 2 ^ bits then c else (c % 2 ^ bits + 2 ^ bits) * 2 ^ (c / 2 ^ bits % 8 + 3)
/-- the greatest code that is not more than a number -/
def pencode (n bits : Nat) : Nat := if n < 8 * 2 ^ bits then n else if Nat.log2 n - bits - 3 > 7 then 16 * 2 ^ bits - 1 else 8 * 2 ^ bits + (Nat.log2 n - bits - 3) * 2 ^ bits + n / 2 ^ (Nat.log2 n - bits) % 2 ^ bits

abbrev Rec := Int × Str × List Str
structure Msg where
  kind : Int
  version : Int
  group : Str
  max : Int
  quiet : Bool
  robust : Int
  every : Int
  sources : List Str
  records : List Rec
deriving DecidableEq

def Msg.zero : Msg := ⟨0, 0, [], 0, false, 0, 0, [], []⟩

/-- n addresses that stand in a text from a place on -/
def srcs (s : Str) (i n size : Nat) : List Str := (List.range n).map fun k => (s.drop (i + k * size)).take size
theorem srcs_length (s : Str) (i n size : Nat) : (srcs s i n size).length = n := by simp [srcs]
def knownK (k : Nat) : Bool := decide (1 ≤ k) && decide (k ≤ 6)

/-- records read, behind those that were read already -/
def precA (size : Nat) : Nat → Str → List Rec → Int × List Rec
  | 0, _, l => (0, l)
  | n + 1, s, l =>
    if s.length < 4 + size then (2, []) else
    if s.length < 4 + size + numAt s 2 2 * size + 4 * (s.getD 1 0).toNat then (2, []) else
    if 60 < numAt s 2 2 ∨ grp ((s.drop 4).take size) size = false then (3, []) else
    precA size n (s.drop (4 + size + numAt s 2 2 * size + 4 * (s.getD 1 0).toNat))
      (if knownK (s.getD 0 0).toNat then l ++ [(((s.getD 0 0).toNat : Int), (s.drop 4).take size, srcs s (4 + size) (numAt s 2 2) size)] else l)

def okSize (size : Int) : Bool := decide (size = 4) || decide (size = 16)
def precs (s : Str) (n size : Int) : Int × List Rec :=
  if n < 0 ∨ okSize size = false then (1, []) else if 30 < n then (3, []) else precA size.toNat n.toNat s []

def sized (L : List Str) (size : Nat) : Bool := decide (L.length ≤ 60) && L.all fun a => decide (a.length = size)
def recOk (size : Nat) (r : Rec) : Bool := decide (1 ≤ r.1) && decide (r.1 ≤ 6) && grp r.2.1 size && sized r.2.2 size
def recB (r : Rec) : Str := ofN r.1.toNat 1 ++ [0] ++ ofN r.2.2.length 2 ++ r.2.1 ++ r.2.2.flatten
def bodyOk (L : List Rec) (size : Int) : Bool := okSize size && decide (L.length ≤ 30) && L.all (recOk size.toNat)
def bodyB (L : List Rec) : Str := L.flatMap recB
def pbody (L : List Rec) (size : Int) : Str × Int := if bodyOk L size then (bodyB L, 0) else ([], 1)

def nobody4 : Str := [0, 0, 0, 0]
/-- a query whose sum is right -/
def pquery (s : Str) : Int × Msg :=
  let g := (s.drop 4).take 4
  let g := if g = nobody4 then [] else g
  let x := (s.getD 1 0).toNat
  if 8 < s.length then
    if s.length < 12 then (3, .zero) else
    if 60 < numAt s 10 2 then (3, .zero) else
    if s.length < 12 + numAt s 10 2 * 4 then (2, .zero) else
    if (g ≠ [] ∧ grp g 4 = false) ∨ (g = [] ∧ 0 < numAt s 10 2) then (3, .zero) else
    (0, ⟨1, 3, g, pdecode x 4, decide ((s.getD 8 0).toNat / 8 % 2 = 1), ((s.getD 8 0).toNat % 8 : Nat), pdecode (s.getD 9 0).toNat 4, srcs s 12 (numAt s 10 2) 4, []⟩)
  else
    if g ≠ [] ∧ grp g 4 = false then (3, .zero) else (0, ⟨1, if x = 0 then 1 else 2, g, x, false, 0, 0, [], []⟩)

def pdec (s : Str) : Int × Msg :=
  if s.length < 8 then (2, .zero) else
  if psum s ≠ 0 then (4, .zero) else
  let k := (s.getD 0 0).toNat
  if k = 17 then pquery s else
  if k = 34 then (if (precs (s.drop 8) (numAt s 6 2) 4).1 = 0 then (0, ⟨2, 3, [], 0, false, 0, 0, [], (precs (s.drop 8) (numAt s 6 2) 4).2⟩) else ((precs (s.drop 8) (numAt s 6 2) 4).1, .zero)) else
  if k ≠ 18 ∧ k ≠ 22 ∧ k ≠ 23 then (3, .zero) else
  if grp ((s.drop 4).take 4) 4 = false then (3, .zero) else
  (0, ⟨if k = 23 then 3 else 2, if k = 18 then 1 else 2, (s.drop 4).take 4, 0, false, 0, 0, [], []⟩)

def bare (m : Msg) : Bool := decide (m.max = 0) && !m.quiet && decide (m.robust = 0) && decide (m.every = 0) && decide (m.sources = []) && decide (m.records = [])
def exact8 (n : Int) : Bool := decide (0 ≤ n) && decide (pdecode (pencode n.toNat 4) 4 = n.toNat)
def mayM (m : Msg) : Bool :=
  if m.kind = 1 then
    (decide (m.group = []) || grp m.group 4) && decide (m.records = []) &&
    (if m.version = 3 then exact8 m.max && exact8 m.every && decide (0 ≤ m.robust) && decide (m.robust ≤ 7) && sized m.sources 4 && (decide (m.group ≠ []) || decide (m.sources = []))
     else bare { m with max := 0 } && ((decide (m.version = 1) && decide (m.max = 0)) || (decide (m.version = 2) && decide (1 ≤ m.max) && decide (m.max ≤ 255))))
  else if m.kind = 2 ∧ m.version = 3 then decide (m.group = []) && bodyOk m.records 4 && bare { m with records := [] }
  else ((decide (m.kind = 2) && (decide (m.version = 1) || decide (m.version = 2))) || (decide (m.kind = 3) && decide (m.version = 2))) && grp m.group 4 && bare m
def grpB (m : Msg) : Str := if m.group = [] then nobody4 else m.group
def bytesM (m : Msg) : Str :=
  if m.kind = 1 then
    if m.version < 3 then [17] ++ ofN m.max.toNat 1 ++ [0, 0] ++ grpB m
    else [17] ++ ofN (pencode m.max.toNat 4) 1 ++ [0, 0] ++ grpB m ++ ofN (m.robust.toNat + if m.quiet then 8 else 0) 1 ++ ofN (pencode m.every.toNat 4) 1 ++ ofN m.sources.length 2 ++ m.sources.flatten
  else if m.kind = 3 then [23, 0, 0, 0] ++ grpB m
  else if m.version = 3 then [34, 0, 0, 0, 0, 0] ++ ofN m.records.length 2 ++ bodyB m.records
  else if m.version = 1 then [18, 0, 0, 0] ++ grpB m
  else [22, 0, 0, 0] ++ grpB m
def penc (m : Msg) : Str × Int := if mayM m then (fillS [] (bytesM m) 2, 0) else ([], 1)

/-! ### sums -/
/-- the words of a text, added as they are -/
def ws : Str → Nat
  | [] => 0
  | [a] => 256 * a.toNat
  | a :: b :: r => 256 * a.toNat + b.toNat + ws r
theorem pplus_spec {a b : Nat} (ha : a ≤ 65535) (hb : b ≤ 65535) : pplus a b ≤ 65535 ∧ pplus a b % 65535 = (a + b) % 65535 ∧ (pplus a b = 0 ↔ a + b = 0) := by
  unfold pplus
  split <;> omega
theorem totG_spec : ∀ (s : Str) (n : Nat), n ≤ 65535 → totG n s ≤ 65535 ∧ totG n s % 65535 = (n + ws s) % 65535 ∧ (totG n s = 0 ↔ n + ws s = 0)
  | [], n, h => by simp [totG, ws, h]
  | [a], n, h => by
    have := a.toNat_lt
    have := pplus_spec h (b := 256 * a.toNat) (by omega)
    simpa [totG, ws] using this
  | a :: b :: r, n, h => by
    have h1 := a.toNat_lt
    have h2 := b.toNat_lt
    have h3 := pplus_spec h (b := 256 * a.toNat + b.toNat) (by omega)
    have h4 := totG_spec r _ h3.1
    unfold totG ws
    omega
theorem tot_spec (s : Str) : tot s ≤ 65535 ∧ tot s % 65535 = ws s % 65535 ∧ (tot s = 0 ↔ ws s = 0) := by
  have := totG_spec s 0 (by omega)
  simpa [tot] using this
theorem psum_zero (s : Str) : psum s = 0 ↔ ws s % 65535 = 0 ∧ 0 < ws s := by
  have := tot_spec s
  unfold psum
  omega
theorem ws_append : ∀ (a b : Str), a.length % 2 = 0 → ws (a ++ b) = ws a + ws b
  | [], b, _ => by simp [ws]
  | [a], b, h => by simp at h
  | x :: y :: r, b, h => by
    have := ws_append r b (by simp at h; omega)
    simp only [List.cons_append, ws, this]
    omega
theorem ws_two (n : Nat) (h : n < 65536) : ws (ofN n 2) = n := by
  simp only [ofN, List.nil_append, List.cons_append, ws, UInt8.toNat_ofNat']
  omega
/-- the sum that was put in is right -/
theorem psum_fill (ahead s : Str) (i : Nat) (hi : i % 2 = 0) (ha : ahead.length % 2 = 0) (hs : i + 2 ≤ s.length) : psum (ahead ++ fillS ahead s i) = 0 := by
  have hl : (ahead ++ s.take i).length % 2 = 0 := by
    rw [List.length_append, List.length_take, Nat.min_eq_left (by omega)]; omega
  rw [psum_zero]
  have h1 : ws (ahead ++ fillS ahead s i) = ws (ahead ++ s.take i) + psum (ahead ++ s.take i ++ [0, 0] ++ s.drop (i + 2)) + ws (s.drop (i + 2)) := by
    unfold fillS
    rw [← List.append_assoc, ← List.append_assoc, ws_append _ (s.drop (i + 2)) (by rw [List.length_append, ofN_length]; omega), ws_append _ _ hl, ws_two _ (by unfold psum; omega)]
  have h2 : ws (ahead ++ s.take i ++ [0, 0] ++ s.drop (i + 2)) = ws (ahead ++ s.take i) + ws (s.drop (i + 2)) := by
    rw [ws_append _ (s.drop (i + 2)) (by rw [List.length_append]; simp; simp at hl; omega), ws_append _ _ hl]
    simp [ws]
  have h3 := tot_spec (ahead ++ s.take i ++ [0, 0] ++ s.drop (i + 2))
  rw [h1]
  rw [h2] at h3
  unfold psum
  omega
theorem fillS_length (ahead s : Str) (i : Nat) (h : i + 2 ≤ s.length) : (fillS ahead s i).length = s.length := by
  simp [fillS, ofN_length]; omega
theorem fillS_take (ahead s : Str) (i : Nat) (h : i + 2 ≤ s.length) : (fillS ahead s i).take i = s.take i := by
  unfold fillS
  rw [List.append_assoc, List.take_append_of_le_length (by rw [List.length_take]; omega), List.take_take, Nat.min_self]
theorem fillS_drop (ahead s : Str) (i : Nat) (h : i + 2 ≤ s.length) : (fillS ahead s i).drop (i + 2) = s.drop (i + 2) := by
  unfold fillS
  rw [List.drop_append, List.drop_eq_nil_of_le (by simp [ofN_length]; omega)]
  have : i + 2 - (s.take i ++ ofN (psum (ahead ++ s.take i ++ [0, 0] ++ s.drop (i + 2))) 2).length = 0 := by simp [ofN_length]; omega
  rw [this]; rfl

/-- a byte turned in a bit -/
theorem byte_turned : ∀ (b : Fin 256) (i : Fin 8), (b.val ^^^ (2 ^ i.val)) = b.val + 2 ^ i.val ∨ b.val = (b.val ^^^ (2 ^ i.val)) + 2 ^ i.val := by decide +kernel
def wt (n : Nat) : Nat := if n % 2 = 0 then 256 else 1
theorem wt_two (n : Nat) : wt (n + 1 + 1) = wt n := by unfold wt; rw [show (n + 1 + 1) % 2 = n % 2 by omega]
theorem wt_or (n : Nat) : wt n = 256 ∨ wt n = 1 := by unfold wt; split <;> simp
theorem ws_at : ∀ (pre post : Str) (x : UInt8), ws (pre ++ x :: post) = ws (pre ++ 0 :: post) + x.toNat * wt pre.length
  | [], [], x => by simp [ws, wt, Nat.mul_comm]
  | [], b :: r, x => by simp [ws, wt, Nat.mul_comm]; omega
  | [a], post, x => by
    cases post <;> simp [ws, wt] <;> omega
  | a :: b :: r, post, x => by
    have := ws_at r post x
    simp only [List.cons_append, ws, this, List.length_cons, wt_two]
    omega
/-- a text whose sum is right, turned in a bit: its sum is wrong -/
theorem psum_turned (pre post : Str) (x y : UInt8) (i : Nat) (hi : i < 8) (hy : y.toNat = x.toNat ^^^ 2 ^ i) (h : psum (pre ++ x :: post) = 0) : psum (pre ++ y :: post) ≠ 0 := by
  intro h'
  rw [psum_zero, ws_at] at h h'
  have hb := byte_turned ⟨x.toNat, x.toNat_lt⟩ ⟨i, hi⟩
  dsimp only at hb
  rw [← hy] at hb
  have h2 : 2 ^ i ≤ 128 ∧ 1 ≤ 2 ^ i := by
    have : i = 0 ∨ i = 1 ∨ i = 2 ∨ i = 3 ∨ i = 4 ∨ i = 5 ∨ i = 6 ∨ i = 7 := by omega
    rcases this with rfl | rfl | rfl | rfl | rfl | rfl | rfl | rfl <;> decide
  generalize 2 ^ i = d at *
  rcases wt_or pre.length with e | e <;> rw [e] at h h' <;> omega
end Go.Proofs.Ythkibgdeibolfaa

/- Plain words of layer 7: codes. -/
namespace Go.Proofs.Ythkibgdeibolfaa

theorem pdecode_succ (f : Nat) (hf : f = 4 ∨ f = 12) (c : Nat) (hc : c + 1 < 16 * 2 ^ f) : pdecode c f < pdecode (c + 1) f := by
  have key : ∀ p, (p = 16 ∨ p = 4096) → c + 1 < 16 * p → (if c < 8 * p then c else (c % p + p) * 2 ^ (c / p % 8 + 3)) < (if c + 1 < 8 * p then c + 1 else ((c + 1) % p + p) * 2 ^ ((c + 1) / p % 8 + 3)) := by
    intro p hp hc
    by_cases h1 : c + 1 < 8 * p
    · rw [if_pos h1, if_pos (by omega)]; omega
    · rw [if_neg h1]
      by_cases h2 : c < 8 * p
      · rw [if_pos h2]
        have : c + 1 = 8 * p := by omega
        rw [this]
        rcases hp with rfl | rfl <;> simp <;> omega
      · rw [if_neg h2]
        obtain ⟨x, hx⟩ : ∃ x, c / p % 8 = x := ⟨_, rfl⟩
        obtain ⟨y, hy⟩ : ∃ y, (c + 1) / p % 8 = y := ⟨_, rfl⟩
        rw [hx, hy]
        have hxy : (y = x ∧ (c + 1) % p = c % p + 1) ∨ (y = x + 1 ∧ (c + 1) % p = 0 ∧ c % p + 1 = p) := by
          rcases hp with rfl | rfl <;> omega
        have hpos : 0 < 2 ^ (x + 3) := Nat.pow_pos (by decide)
        rcases hxy with ⟨rfl, h3⟩ | ⟨rfl, h3, h4⟩
        · rw [h3]; exact Nat.mul_lt_mul_of_pos_right (by omega) hpos
        · have e : 2 ^ (x + 1 + 3) = 2 ^ (x + 3) * 2 := by rw [show x + 1 + 3 = (x + 3) + 1 from by omega, Nat.pow_succ]
          rw [h3, e, Nat.zero_add]
          have e2 : c % p + p = 2 * p - 1 := by omega
          rw [e2]
          generalize 2 ^ (x + 3) = d at *
          rcases hp with rfl | rfl <;> omega
  unfold pdecode
  rcases hf with rfl | rfl
  · exact key 16 (.inl rfl) (by simpa using hc)
  · exact key 4096 (.inr rfl) (by simpa using hc)
theorem pdecode_lt (f : Nat) (hf : f = 4 ∨ f = 12) (c : Nat) : ∀ k, c + k + 1 < 16 * 2 ^ f → pdecode c f < pdecode (c + k + 1) f
  | 0, h => pdecode_succ f hf c h
  | k + 1, h => Nat.lt_trans (pdecode_lt f hf c k (by omega)) (pdecode_succ f hf (c + k + 1) h)

theorem div_bounds (n d : Nat) (hd : 0 < d) : n / d * d ≤ n ∧ n < n / d * d + d := by
  have h := Nat.div_add_mod n d
  have := Nat.mod_lt n hd
  rw [Nat.mul_comm] at h
  omega

theorem pencode_spec (f : Nat) (hf : f = 4 ∨ f = 12) (n : Nat) : pencode n f < 16 * 2 ^ f ∧ pdecode (pencode n f) f ≤ n ∧ (pencode n f + 1 < 16 * 2 ^ f → n < pdecode (pencode n f + 1) f) := by
  by_cases h1 : n < 8 * 2 ^ f
  · have he : pencode n f = n := by unfold pencode; rw [if_pos h1]
    have hd : pdecode n f = n := by unfold pdecode; rw [if_pos h1]
    rw [he, hd]
    refine ⟨by omega, Nat.le_refl _, fun h => ?_⟩
    have := pdecode_succ f hf n h
    omega
  · have hn0 : n ≠ 0 := by
      have : 0 < 2 ^ f := Nat.pow_pos (by decide)
      omega
    have hl := Nat.log2_self_le hn0
    have hu := Nat.lt_log2_self (n := n)
    have hlog : f + 3 ≤ Nat.log2 n := by
      refine (Nat.le_log2 hn0).2 ?_
      rw [Nat.pow_add]; omega
    obtain ⟨x, hx⟩ : ∃ x, Nat.log2 n = f + x + 3 := ⟨Nat.log2 n - f - 3, by omega⟩
    rw [hx] at hl hu
    have e1 : 2 ^ (f + x + 3) = 2 ^ f * 2 ^ (x + 3) := by rw [← Nat.pow_add, Nat.add_assoc]
    have e2 : 2 ^ (f + x + 3 + 1) = 2 ^ f * 2 ^ (x + 3) * 2 := by rw [Nat.pow_succ, e1]
    rw [e1] at hl
    rw [e2] at hu
    unfold pencode
    rw [if_neg h1, hx]
    have e3 : f + x + 3 - f - 3 = x := by omega
    have e4 : f + x + 3 - f = x + 3 := by omega
    rw [e3, e4]
    by_cases h7 : x > 7
    · rw [if_pos h7]
      have hp : 2 ^ 11 ≤ 2 ^ (x + 3) := Nat.pow_le_pow_right (by decide) (by omega)
      have hmul : 2 ^ f * 2 ^ 11 ≤ n := Nat.le_trans (Nat.mul_le_mul_left _ hp) hl
      refine ⟨by have : 0 < 2 ^ f := Nat.pow_pos (by decide); omega, ?_, fun h => by omega⟩
      unfold pdecode
      rcases hf with rfl | rfl <;> simp at hmul ⊢ <;> omega
    · rw [if_neg h7]
      have hd : 0 < 2 ^ (x + 3) := Nat.pow_pos (by decide)
      have hb := div_bounds n _ hd
      have hq1 : 2 ^ f ≤ n / 2 ^ (x + 3) := (Nat.le_div_iff_mul_le hd).2 hl
      have hq2 : n / 2 ^ (x + 3) < 2 ^ f * 2 := by
        refine (Nat.div_lt_iff_lt_mul hd).2 ?_
        rw [Nat.mul_right_comm]; exact hu
      obtain ⟨q, hq⟩ : ∃ q, n / 2 ^ (x + 3) = q := ⟨_, rfl⟩
      rw [hq] at hb hq1 hq2 ⊢
      have hc : 8 * 2 ^ f + x * 2 ^ f + q % 2 ^ f < 16 * 2 ^ f ∧ pdecode (8 * 2 ^ f + x * 2 ^ f + q % 2 ^ f) f = q * 2 ^ (x + 3) ∧ (8 * 2 ^ f + x * 2 ^ f + q % 2 ^ f + 1 < 16 * 2 ^ f → pdecode (8 * 2 ^ f + x * 2 ^ f + q % 2 ^ f + 1) f = (q + 1) * 2 ^ (x + 3)) := by
        have key : ∀ p, (p = 16 ∨ p = 4096) → p ≤ q → q < p * 2 → 8 * p + x * p + q % p < 16 * p ∧ ((8 * p + x * p + q % p) % p + p = q ∧ (8 * p + x * p + q % p) / p % 8 = x) ∧ (8 * p + x * p + q % p + 1 < 16 * p → ((8 * p + x * p + q % p + 1) % p + p = q + 1 ∧ (8 * p + x * p + q % p + 1) / p % 8 = x) ∨ (q + 1 = 2 * p ∧ (8 * p + x * p + q % p + 1) % p = 0 ∧ (8 * p + x * p + q % p + 1) / p % 8 = x + 1)) := by
          intro p hp h1 h2
          rcases hp with rfl | rfl <;> omega
        have k := key (2 ^ f) (by rcases hf with rfl | rfl <;> simp) hq1 hq2
        have hge : ∀ z, ¬ (8 * 2 ^ f + x * 2 ^ f + z < 8 * 2 ^ f) := fun z => by omega
        refine ⟨k.1, ?_, fun h => ?_⟩
        · unfold pdecode
          rw [if_neg (hge _), k.2.1.1, k.2.1.2]
        · unfold pdecode
          rw [if_neg (by have := hge (q % 2 ^ f + 1); omega)]
          rcases k.2.2 h with ⟨h1, h2⟩ | ⟨h1, h2, h3⟩
          · rw [h1, h2]
          · rw [h2, h3, h1, show x + 1 + 3 = x + 3 + 1 from by omega, Nat.pow_succ, Nat.zero_add]
            generalize 2 ^ (x + 3) = d
            generalize 2 ^ f = p
            rw [Nat.mul_comm 2 p, Nat.mul_assoc, Nat.mul_comm 2 d]
      refine ⟨hc.1, by rw [hc.2.1]; exact hb.1, fun h => ?_⟩
      rw [hc.2.2 h, Nat.add_mul, Nat.one_mul]
      exact hb.2
theorem pencode_max (f : Nat) (hf : f = 4 ∨ f = 12) (n c : Nat) (h : pencode n f < c) (hc : c < 16 * 2 ^ f) : n < pdecode c f := by
  have hs := pencode_spec f hf n
  have h1 := hs.2.2 (by omega)
  by_cases e : c = pencode n f + 1
  · rw [e]; exact h1
  · have := pdecode_lt f hf (pencode n f + 1) (c - pencode n f - 2) (by omega)
    rw [show pencode n f + 1 + (c - pencode n f - 2) + 1 = c from by omega] at this
    omega
/-- the greatest code that is not more than a number is just one -/
theorem pencode_unique (f : Nat) (hf : f = 4 ∨ f = 12) (n c : Nat) (hc : c < 16 * 2 ^ f) (h1 : pdecode c f ≤ n) (h2 : ∀ d, c < d → d < 16 * 2 ^ f → n < pdecode d f) : pencode n f = c := by
  rcases Nat.lt_trichotomy (pencode n f) c with h | h | h
  · have := pencode_max f hf n c h hc; omega
  · exact h
  · have := h2 _ h (pencode_spec f hf n).1
    have := (pencode_spec f hf n).2.1
    omega
end Go.Proofs.Ythkibgdeibolfaa
