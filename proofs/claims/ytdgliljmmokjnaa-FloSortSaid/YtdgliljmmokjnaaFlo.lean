/- Plain laws on the bits of a float64: which are NaNs, their canonical form, their code, their order. No program in sight. -/
import Ieee.Arith
import GoSem.Core.Float
import Derived.Laws.BitsAllLaws
import Derived.Laws.FloatBits
namespace Go.Proofs.Ytdgliljmmokjnaa.Flo
open Go

def S : Nat := 9223372036854775808
def W : Nat := 18446744073709551616
def INF : Nat := 9218868437227405312
def NAN : Nat := 9221120237041090561

def nan (u : Nat) : Bool := decide (INF < u % S)
def can (u : Nat) : Nat := if nan u then NAN else if u % S = 0 then 0 else u
def code (u : Nat) : Nat := if nan u then 0 else if can u < S then can u + S else W - 1 - can u

theorem can_lt {u : Nat} (h : u < W) : can u < W := by
  unfold can; split
  · decide
  · split
    · decide
    · exact h

/-- the magnitude of a rung, in units of the least place -/
def mag (r : Nat) : Nat := if r < 4503599627370496 then r else (4503599627370496 + r % 4503599627370496) * 2 ^ (r / 4503599627370496 - 1)

theorem read_eq (u : Nat) : Ieee.double.read u =
    (if u % S < 4503599627370496 then Ieee.Datum.number (u / S % 2 == 1) (u % S) (-1074)
     else if u % S < INF then Ieee.Datum.number (u / S % 2 == 1) (4503599627370496 + u % S % 4503599627370496) (-1074 + (u % S / 4503599627370496 - 1 : Nat))
     else if u % S = INF then Ieee.Datum.infinity (u / S % 2 == 1)
     else Ieee.Datum.nan (u / S % 2 == 1) (u % S - INF)) := by
  unfold Ieee.Format.read
  have h1 : Ieee.double.signWeight = S := by decide
  have h2 : Ieee.double.binade = 4503599627370496 := by decide
  have h3 : Ieee.double.infRung = INF := by decide
  have h4 : Ieee.double.leastPlace = -1074 := by decide
  rw [h1, h2, h3, h4]

theorem order_eq (u v : Nat) : FloatKind.f64.format.order u v = (Ieee.double.read u).order (Ieee.double.read v) := rfl

/-- a word's place in the order of numbers (its sign and its rung) -/
def key (u : Nat) : Int := if u / S % 2 = 1 then -((u % S : Nat) : Int) else ((u % S : Nat) : Int)

theorem mag_lo {r : Nat} (h : r < 4503599627370496) : mag r = r := by unfold mag; rw [if_pos h]
theorem mag_succ (r : Nat) : mag r < mag (r + 1) := by
  unfold mag
  by_cases h1 : r + 1 < 4503599627370496
  · rw [if_pos h1, if_pos (by omega)]; omega
  · rw [if_neg h1]
    by_cases h2 : r < 4503599627370496
    · rw [if_pos h2]
      have : r + 1 = 4503599627370496 := by omega
      rw [this]; simp; omega
    · rw [if_neg h2]
      have hd : r / 4503599627370496 ≥ 1 := by omega
      by_cases h3 : r % 4503599627370496 = 4503599627370495
      · have e1 : (r + 1) % 4503599627370496 = 0 := by omega
        have e2 : (r + 1) / 4503599627370496 - 1 = (r / 4503599627370496 - 1) + 1 := by omega
        rw [e1, e2, h3, Nat.pow_succ]
        have hp : 0 < 2 ^ (r / 4503599627370496 - 1) := Nat.two_pow_pos _
        generalize 2 ^ (r / 4503599627370496 - 1) = p at *
        omega
      · have e1 : (r + 1) % 4503599627370496 = r % 4503599627370496 + 1 := by omega
        have e2 : (r + 1) / 4503599627370496 = r / 4503599627370496 := by omega
        rw [e1, e2]
        apply Nat.mul_lt_mul_of_pos_right
        · omega
        · exact Nat.two_pow_pos _
theorem mag_mono {r s : Nat} (h : r < s) : mag r < mag s := by
  induction s with
  | zero => omega
  | succ s ih =>
    by_cases e : r = s
    · subst e; exact mag_succ _
    · exact Nat.lt_trans (ih (by omega)) (mag_succ _)
theorem mag_lt_iff (r s : Nat) : mag r < mag s ↔ r < s := by
  constructor
  · intro h; apply Decidable.byContradiction; intro hn
    by_cases e : r = s
    · subst e; omega
    · have := mag_mono (show s < r by omega); omega
  · exact mag_mono
theorem mag_zero : mag 0 = 0 := by decide
theorem mag_eq_iff (r s : Nat) : mag r = mag s ↔ r = s := by
  constructor
  · intro h
    have h1 := mag_lt_iff r s; have h2 := mag_lt_iff s r
    omega
  · intro h; rw [h]

/-- a finite word's number -/
def smag (u : Nat) : Int := if u / S % 2 = 1 then -(mag (u % S) : Int) else (mag (u % S) : Int)

theorem cmp_lt {a b : Int} (h : a < b) : compare a b = Ordering.lt := by simp only [compare, compareOfLessAndEq, if_pos h]
theorem cmp_gt {a b : Int} (h : b < a) : compare a b = Ordering.gt := by
  simp only [compare, compareOfLessAndEq, if_neg (show ¬ a < b by omega), if_neg (show ¬ a = b by omega)]
theorem cmp_eq (a : Int) : compare a a = Ordering.eq := by simp [compare, compareOfLessAndEq]
theorem cmp_mul (a b : Int) (p : Nat) (hp : 0 < p) : compare (a * p) (b * p) = compare a b := by
  have hp' : (0 : Int) < p := by omega
  rcases Int.lt_trichotomy a b with h | h | h
  · rw [cmp_lt h, cmp_lt (Int.mul_lt_mul_of_pos_right h hp')]
  · rw [h, cmp_eq, cmp_eq]
  · rw [cmp_gt h, cmp_gt (Int.mul_lt_mul_of_pos_right h hp')]
theorem signed_mul (s : Bool) (m a k : Nat) : Ieee.signed s m (a + k) = Ieee.signed s m a * ((2 ^ k : Nat) : Int) := by
  unfold Ieee.signed
  rw [Nat.shiftLeft_add, Nat.shiftLeft_eq (m <<< a) k]
  cases s
  · simp only [Bool.false_eq_true, if_false, Int.natCast_mul]
  · simp only [if_true, Int.natCast_mul, Int.neg_mul]
theorem fin_read {u : Nat} (h : u % S < INF) : ∃ m p, Ieee.double.read u = .number (u / S % 2 == 1) m p ∧ -1074 ≤ p ∧ m <<< (p + 1074).toNat = mag (u % S) := by
  rw [read_eq]
  by_cases h1 : u % S < 4503599627370496
  · rw [if_pos h1]
    exact ⟨_, _, rfl, by omega, by rw [mag_lo h1]; rfl⟩
  · rw [if_neg h1, if_pos h]
    refine ⟨_, _, rfl, by omega, ?_⟩
    unfold mag
    rw [if_neg h1, Nat.shiftLeft_eq]
    congr 2
    omega
theorem signed_smag {u m : Nat} {p : Int} (h : m <<< (p + 1074).toNat = mag (u % S)) : Ieee.signed (u / S % 2 == 1) m (p + 1074).toNat = smag u := by
  unfold Ieee.signed smag
  rw [h]
  by_cases e : u / S % 2 = 1
  · simp [e]
  · simp [e]
theorem smag_cmp (u v : Nat) : compare (smag u) (smag v) = compare (key u) (key v) := by
  unfold smag key
  have a1 := mag_lt_iff (u % S) (v % S)
  have a2 := mag_lt_iff (v % S) (u % S)
  have b1 := mag_lt_iff 0 (u % S)
  have b2 := mag_lt_iff 0 (v % S)
  rw [mag_zero] at b1 b2
  generalize mag (u % S) = x at *
  generalize mag (v % S) = y at *
  generalize u % S = r at *
  generalize v % S = s at *
  have key : ∀ a b c d : Int, (a < b ↔ c < d) → (b < a ↔ d < c) → compare a b = compare c d := by
    intro a b c d h1 h2
    rcases Int.lt_trichotomy a b with h | h | h
    · rw [cmp_lt h, cmp_lt (h1.1 h)]
    · have : c = d := by omega
      rw [h, this, cmp_eq, cmp_eq]
    · rw [cmp_gt h, cmp_gt (h2.1 h)]
  apply key <;> split <;> split <;> omega
theorem order_fin {u v : Nat} (hu : u % S < INF) (hv : v % S < INF) : FloatKind.f64.format.order u v = some (compare (key u) (key v)) := by
  rw [order_eq]
  obtain ⟨m, p, e1, p1, g1⟩ := fin_read hu
  obtain ⟨n, q, e2, p2, g2⟩ := fin_read hv
  rw [e1, e2, ← smag_cmp, ← signed_smag g1, ← signed_smag g2]
  show some (compare _ _) = _
  have hb1 : (p + 1074).toNat = (p - min p q).toNat + (min p q + 1074).toNat := by omega
  have hb2 : (q + 1074).toNat = (q - min p q).toNat + (min p q + 1074).toNat := by omega
  rw [hb1, hb2, signed_mul, signed_mul, cmp_mul _ _ _ (Nat.two_pow_pos _)]
theorem inf_read {u : Nat} (h : u % S = INF) : Ieee.double.read u = .infinity (u / S % 2 == 1) := by
  rw [read_eq, if_neg (by rw [h]; decide), if_neg (by omega), if_pos h]
theorem nan_read {u : Nat} (h : nan u = true) : Ieee.double.read u = .nan (u / S % 2 == 1) (u % S - INF) := by
  have h : INF < u % S := by simpa [nan] using h
  have : (4503599627370496 : Nat) < INF := by decide
  rw [read_eq, if_neg (by omega), if_neg (by omega), if_neg (by omega)]
theorem order_num {u v : Nat} (hu : nan u = false) (hv : nan v = false) : FloatKind.f64.format.order u v = some (compare (key u) (key v)) := by
  have hu : u % S ≤ INF := by simpa [nan] using hu
  have hv : v % S ≤ INF := by simpa [nan] using hv
  by_cases h1 : u % S < INF
  · by_cases h2 : v % S < INF
    · exact order_fin h1 h2
    · have h2' : v % S = INF := by omega
      obtain ⟨m, p, e1, p1, g1⟩ := fin_read h1
      rw [order_eq, e1, inf_read h2']
      unfold Ieee.Datum.order key
      rw [h2']
      by_cases e : v / S % 2 = 1
      · rw [cmp_gt (by rw [if_pos e]; split <;> omega)]; simp [e]
      · rw [cmp_lt (by rw [if_neg e]; split <;> omega)]; simp [e]
  · have h1' : u % S = INF := by omega
    by_cases h2 : v % S < INF
    · obtain ⟨m, p, e1, p1, g1⟩ := fin_read h2
      rw [order_eq, e1, inf_read h1']
      unfold Ieee.Datum.order key
      rw [h1']
      by_cases e : u / S % 2 = 1
      · rw [cmp_lt (by rw [if_pos e]; split <;> omega)]; simp [e]
      · rw [cmp_gt (by rw [if_neg e]; split <;> omega)]; simp [e]
    · have h2' : v % S = INF := by omega
      rw [order_eq, inf_read h1', inf_read h2']
      unfold Ieee.Datum.order key
      rw [h1', h2']
      have hI : (0 : Int) < INF := by decide
      have no : ∀ {x : Nat}, ¬ x % 2 = 1 → (x % 2 == 1) = false := fun h => by simp only [beq_eq_false_iff_ne]; exact h
      have ye : ∀ {x : Nat}, x % 2 = 1 → (x % 2 == 1) = true := fun h => by simp only [beq_iff_eq]; exact h
      by_cases e : u / S % 2 = 1 <;> by_cases f : v / S % 2 = 1
      · rw [if_pos e, if_pos f, cmp_eq, ye e, ye f]; rfl
      · rw [if_pos e, if_neg f, cmp_lt (by omega), ye e, no f]; rfl
      · rw [if_neg e, if_pos f, cmp_gt (by omega), no e, ye f]; rfl
      · rw [if_neg e, if_neg f, cmp_eq, no e, no f]; rfl
theorem order_nan {u v : Nat} (h : nan u = true ∨ nan v = true) : FloatKind.f64.format.order u v = none := by
  rw [order_eq]
  rcases h with h | h
  · rw [nan_read h]; rfl
  · rw [nan_read h]; cases Ieee.double.read u <;> rfl
theorem order_self (u : Nat) : (FloatKind.f64.format.order u u != some Ordering.eq) = nan u := by
  cases h : nan u
  · rw [order_num h h, cmp_eq]; rfl
  · rw [order_nan (.inl h)]; rfl
theorem nan_zero : nan 0 = false := by decide
theorem order_zero {u : Nat} (h : nan u = false) : (FloatKind.f64.format.order u 0 == some Ordering.eq) = decide (u % S = 0) := by
  rw [order_num h nan_zero]
  have : key 0 = 0 := by decide
  rw [this]
  unfold key
  by_cases e : u % S = 0
  · rw [e]; simp
  · simp only [e, decide_false]
    split
    · rw [cmp_lt (by omega)]; rfl
    · rw [cmp_gt (by omega)]; rfl

/-- is a number's form negative? -/
def neg (u : Nat) : Bool := decide (S ≤ can u)
/-- is a word the negative zero? -/
def nz (u : Nat) : Bool := decide (u = S)
theorem can_eq_NAN {u : Nat} : (can u = NAN) ↔ nan u = true := by
  unfold can
  by_cases h : nan u = true
  · simp [h]
  · rw [if_neg h]
    constructor
    · intro e
      exfalso
      apply h
      split at e
      · exact absurd e (by decide)
      · rw [e]; decide
    · intro e; exact absurd e h
theorem nan_test (u : Nat) : ((can u : Int) == 9221120237041090561) = nan u := by
  rw [Bool.eq_iff_iff, ← can_eq_NAN]
  unfold NAN
  simp only [beq_iff_eq]
  omega
theorem neg_test (u : Nat) : decide ((9223372036854775808 : Int) ≤ (can u : Int)) = neg u := by
  unfold neg S; rw [Bool.eq_iff_iff]; simp only [decide_eq_true_eq]; omega
theorem nz_test (u : Nat) : ((u : Int) == 9223372036854775808) = nz u := by
  unfold nz S; rw [Bool.eq_iff_iff]; simp only [decide_eq_true_eq, beq_iff_eq]; omega
theorem nan_test2 {u : Nat} : decide ((9218868437227405312 : Int) < ((u % S : Nat) : Int)) = nan u := by
  unfold nan INF; rw [Bool.eq_iff_iff]; simp only [decide_eq_true_eq]; omega
theorem can_nz {u : Nat} (h : nz u = true) : 0 = can u := by
  have h := of_decide_eq_true h
  subst h; decide
theorem can_pz {u : Nat} (hu : u < W) (h : nan u = false) (h' : nz u = false) : u = can u := by
  have h' := of_decide_eq_false h'
  unfold can; rw [if_neg (by rw [h]; decide)]
  unfold S at *; unfold W at hu
  split <;> omega
theorem code_def (u : Nat) : code u = if nan u then 0 else if neg u then W - 1 - can u else can u + S := by
  unfold code neg
  split
  · rfl
  · by_cases h : can u < S
    · rw [if_pos h, if_neg]; rw [decide_eq_false (by omega)]; decide
    · rw [if_neg h, if_pos]; exact decide_eq_true (by omega)
theorem can_bound {u : Nat} (h : u < W) : (can u : Int) ≤ 18446744073709551615 := by have := can_lt h; unfold W at this; omega

def cmp3 (x y : Nat) : Int := if x < y then -1 else if y < x then 1 else 0
theorem cmp3_lt {x y : Nat} (h : x < y) : (-1 : Int) = cmp3 x y := by unfold cmp3; rw [if_pos h]
theorem cmp3_gt {x y : Nat} (h' : ¬ x < y) (h : y < x) : (1 : Int) = cmp3 x y := by unfold cmp3; rw [if_neg h', if_pos h]
theorem cmp3_eq {x y : Nat} (h' : ¬ x < y) (h : ¬ y < x) : (0 : Int) = cmp3 x y := by unfold cmp3; rw [if_neg h', if_neg h]
theorem code_lt {u : Nat} (hu : u < W) : code u < W := by
  have := can_lt hu
  rw [code_def]
  split
  · decide
  · split
    · rename_i h; have h := of_decide_eq_true h; unfold S W at *; omega
    · rename_i h; have h : ¬ S ≤ can u := fun e => h (decide_eq_true e)
      unfold S W at *; omega
theorem code_neg_eq {u : Nat} (hu : u < W) (h : nan u = false) (h' : neg u = true) : (18446744073709551615 : Int) - (can u : Int) = ((code u : Nat) : Int) := by
  have := can_lt hu
  rw [code_def, if_neg (by rw [h]; decide), if_pos h']
  unfold W at *; omega
theorem code_pos_eq {u : Nat} (h : nan u = false) (h' : neg u = false) : IntKind.u64.wrap ((can u : Int) + 9223372036854775808) = ((code u : Nat) : Int) := by
  have h1 := of_decide_eq_false h'
  rw [code_def, if_neg (by rw [h]; decide), if_neg (by rw [h']; decide)]
  simp only [IntKind.wrap, IntKind.bits, IntKind.signed]
  unfold S at *; simp; omega

/-! the number of a code -/
def flip (c : Nat) : Nat := W - 1 - c
def low (c : Nat) : Nat := c % S
def topB (c : Nat) : Bool := decide (S ≤ c)
def zeroB (c : Nat) : Bool := decide (c = 0)
def raw (c : Nat) : Nat := if zeroB c then NAN else if topB c then low c else flip c
def isC (c : Nat) : Bool := if zeroB c then true else if topB c then decide (low c ≤ INF) else (decide (S < flip c) && decide (flip c ≤ S + INF))
def fromV (c : Nat) : Nat := if isC c then raw c else 0
theorem zero_test (c : Nat) : ((c : Int) == 0) = zeroB c := by
  unfold zeroB; rw [Bool.eq_iff_iff]; simp only [decide_eq_true_eq, beq_iff_eq]; omega
theorem top_test (c : Nat) : decide ((9223372036854775808 : Int) ≤ (c : Int)) = topB c := by
  unfold topB S; rw [Bool.eq_iff_iff]; simp only [decide_eq_true_eq]; omega
theorem raw_lt {c : Nat} (hc : c < W) : raw c < W := by
  unfold raw; split
  · decide
  · split
    · unfold low S W; omega
    · unfold flip; unfold W at *; omega
theorem fromV_lt {c : Nat} (hc : c < W) : fromV c < W := by
  unfold fromV; split
  · exact raw_lt hc
  · decide
theorem of_code_low {c : Nat} (hc : c < W) (ht : topB c = true) : code (low c) = c ↔ low c ≤ INF := by
  have ht := of_decide_eq_true ht
  have hmm : low c % S = low c := by unfold low; (simp only [S, W] at * <;> omega)
  have hn : nan (low c) = decide (INF < low c) := by unfold nan; rw [hmm]
  have hl : low c = c - S := by unfold low; (simp only [S, W, INF] at * <;> omega)
  by_cases h : low c ≤ INF
  · have hn' : nan (low c) = false := by rw [hn]; exact decide_eq_false (by (simp only [S, W, INF] at * <;> omega))
    have hcan : can (low c) = low c := by
      unfold can; rw [if_neg (by rw [hn']; decide)]; split <;> (simp only [S, W, INF] at * <;> omega)
    rw [code_def, if_neg (by rw [hn']; decide), if_neg (by unfold neg; rw [hcan, decide_eq_false (by (simp only [S, W, INF] at * <;> omega))]; decide), hcan]
    (simp only [S, W, INF] at * <;> omega)
  · have hn' : nan (low c) = true := by rw [hn]; exact decide_eq_true (by (simp only [S, W, INF] at * <;> omega))
    rw [code_def, if_pos hn']
    (simp only [S, W, INF] at * <;> omega)
theorem of_code_flip {c : Nat} (hc : c < W) (h0 : zeroB c = false) (ht : topB c = false) : code (flip c) = c ↔ (S < flip c ∧ flip c ≤ S + INF) := by
  have ht := of_decide_eq_false ht
  have h0 := of_decide_eq_false h0
  have hf : flip c = W - 1 - c := rfl
  have hm : flip c % S = flip c - S := by (simp only [S, W] at * <;> omega)
  have hn : nan (flip c) = decide (INF < flip c - S) := by unfold nan; rw [hm]
  by_cases h : S < flip c ∧ flip c ≤ S + INF
  · have hn' : nan (flip c) = false := by rw [hn]; exact decide_eq_false (by (simp only [S, W, INF] at * <;> omega))
    have hcan : can (flip c) = flip c := by
      unfold can; rw [if_neg (by rw [hn']; decide), if_neg (by (simp only [S, W, INF] at * <;> omega))]
    rw [code_def, if_neg (by rw [hn']; decide), if_pos (by unfold neg; rw [hcan]; exact decide_eq_true (by (simp only [S, W, INF] at * <;> omega))), hcan]
    (simp only [S, W, INF] at * <;> omega)
  · by_cases h1 : flip c = S
    · have : code (flip c) = S := by rw [h1]; decide
      (simp only [S, W, INF] at * <;> omega)
    · have hn' : nan (flip c) = true := by rw [hn]; exact decide_eq_true (by (simp only [S, W, INF] at * <;> omega))
      rw [code_def, if_pos hn']
      (simp only [S, W, INF] at * <;> omega)
theorem code_raw {c : Nat} (hc : c < W) : code (raw c) = c ↔ isC c = true := by
  unfold raw isC
  by_cases h0 : zeroB c = true
  · rw [if_pos h0, if_pos h0]
    have := of_decide_eq_true h0
    subst this; decide
  · rw [if_neg h0, if_neg h0]
    by_cases ht : topB c = true
    · rw [if_pos ht, if_pos ht, of_code_low hc ht]; simp
    · rw [if_neg ht, if_neg ht, of_code_flip hc (by simpa using h0) (by simpa using ht)]; simp
theorem can_raw {c : Nat} (h : isC c = true) : can (raw c) = raw c := by
  unfold isC at h; unfold raw
  by_cases h0 : zeroB c = true
  · rw [if_pos h0]; decide
  · rw [if_neg h0] at h ⊢
    by_cases ht : topB c = true
    · rw [if_pos ht] at h ⊢
      have h := of_decide_eq_true h
      have hm : low c % S = low c := by unfold low; (simp only [S, INF] at * <;> omega)
      unfold can nan; rw [hm, if_neg (by rw [decide_eq_false (by (simp only [S, INF] at * <;> omega))]; decide)]; split <;> (simp only [S, INF] at * <;> omega)
    · rw [if_neg ht] at h ⊢
      simp only [Bool.and_eq_true, decide_eq_true_eq] at h
      have hm : flip c % S = flip c - S := by (simp only [S, INF] at * <;> omega)
      unfold can nan; rw [hm, if_neg (by rw [decide_eq_false (by (simp only [S, INF] at * <;> omega))]; decide), if_neg (by (simp only [S, INF] at * <;> omega))]
theorem isC_code {u : Nat} (hu : u < W) : isC (code u) = true := by
  have hcl := can_lt hu
  rw [code_def]
  by_cases hn : nan u = true
  · rw [if_pos hn]; decide
  · rw [if_neg hn]
    have hn' : ¬ INF < u % S := fun e => hn (decide_eq_true e)
    have hcan : can u = if u % S = 0 then 0 else u := by unfold can; rw [if_neg hn]
    by_cases hg : neg u = true
    · rw [if_pos hg]
      have hg := of_decide_eq_true hg
      split at hcan
      · (simp only [S, W, INF] at * <;> omega)
      · have : can u % S = can u - S := by (simp only [S, W, INF] at * <;> omega)
        unfold isC zeroB topB
        rw [if_neg (by rw [decide_eq_false (by (simp only [S, W, INF] at * <;> omega))]; decide), if_neg (by rw [decide_eq_false (by (simp only [S, W, INF] at * <;> omega))]; decide)]
        simp only [Bool.and_eq_true, decide_eq_true_eq]
        unfold flip; (simp only [S, W, INF] at * <;> omega)
    · rw [if_neg hg]
      have hg : ¬ S ≤ can u := fun e => hg (decide_eq_true e)
      have : can u ≤ INF := by split at hcan <;> (simp only [S, W, INF] at * <;> omega)
      unfold isC zeroB topB low
      rw [if_neg (by rw [decide_eq_false (by (simp only [S, W, INF] at * <;> omega))]; decide), if_pos (decide_eq_true (by (simp only [S, W, INF] at * <;> omega)))]
      exact decide_eq_true (by (simp only [S, W, INF] at * <;> omega))
theorem raw_code {u : Nat} (hu : u < W) : raw (code u) = can u := by
  have h1 := isC_code hu
  have hcl := can_lt hu
  by_cases hn : nan u = true
  · rw [code_def, if_pos hn, can_eq_NAN.2 hn]; rfl
  · rw [code_def, if_neg hn]
    by_cases hg : neg u = true
    · rw [if_pos hg]
      have hg := of_decide_eq_true hg
      have hne : can u ≠ W - 1 := by
        intro e
        have hcan : can u = if u % S = 0 then 0 else u := by unfold can; rw [if_neg hn]
        have hn' : ¬ INF < u % S := fun e => hn (decide_eq_true e)
        split at hcan <;> (simp only [S, W, INF] at * <;> omega)
      unfold raw zeroB topB
      rw [if_neg (by rw [decide_eq_false (by (simp only [S, W] at * <;> omega))]; decide), if_neg (by rw [decide_eq_false (by (simp only [S, W] at * <;> omega))]; decide)]
      unfold flip; (simp only [S, W] at * <;> omega)
    · rw [if_neg hg]
      have hg : ¬ S ≤ can u := fun e => hg (decide_eq_true e)
      unfold raw zeroB topB low
      rw [if_neg (by rw [decide_eq_false (by (simp only [S, W] at * <;> omega))]; decide), if_pos (decide_eq_true (by (simp only [S, W] at * <;> omega)))]
      (simp only [S, W] at * <;> omega)

/-! the neighbours of a number -/
def NINF : Nat := 18442240474082181120
def isZ (u : Nat) : Bool := decide (u % S = 0)
def posB (u : Nat) : Bool := decide (0 < u % S) && decide (u < S)
def pinf (u : Nat) : Bool := decide (u = INF)
def ninf (u : Nat) : Bool := decide (u = NINF)
def csg (u v : Nat) : Nat := u % S + (if S ≤ v then S else 0)
def up (u : Nat) : Nat := if pinf u then u else if isZ u then 1 else if posB u then u + 1 else u - 1
def dn (u : Nat) : Nat := if ninf u then u else if isZ u then S + 1 else if posB u then u - 1 else u + 1
def nextV (u : Nat) : Nat := if nan u then NINF else if pinf u then u else can (up u)
def prevV (u : Nat) : Nat := if nan u || ninf u then NAN else can (dn u)
theorem order_isZ {u : Nat} (h : nan u = false) : (FloatKind.f64.format.order u 0 == some Ordering.eq) = isZ u := order_zero h
theorem key_pos {u : Nat} (h : u < S) : key u = (u : Int) := by
  unfold key; rw [if_neg, Nat.mod_eq_of_lt h]; rw [Nat.div_eq_of_lt h]; decide
theorem key_negw {u : Nat} (h : S ≤ u) (h' : u < W) : key u = (S : Int) - u := by
  have h1 : u / S = 1 := by simp only [S, W] at *; omega
  unfold key; rw [h1, if_pos (by decide)]; simp only [S, W] at *; omega
theorem ord_test {o p : Ordering} : (some o == some p) = decide (o = p) := by cases o <;> cases p <;> rfl
theorem order_posB {u : Nat} (hu : u < W) (h : nan u = false) : (FloatKind.f64.format.order u 0 == some Ordering.gt) = posB u := by
  rw [order_num h nan_zero, show key 0 = 0 by decide, ord_test]
  unfold posB
  by_cases e : u < S
  · rw [key_pos e, Nat.mod_eq_of_lt e]
    by_cases e0 : u = 0
    · subst e0; decide
    · rw [cmp_gt (by omega), decide_eq_true (p := 0 < u) (by omega), decide_eq_true e]; rfl
  · rw [key_negw (by omega) hu]
    by_cases e0 : u = S
    · subst e0; decide
    · rw [cmp_lt (by omega), decide_eq_false e]; simp
theorem finite {u : Nat} (h : nan u = false) : u % S ≤ INF := by simpa [nan] using h
theorem order_pinf {u : Nat} (hu : u < W) (h : nan u = false) : (FloatKind.f64.format.order u INF == some Ordering.eq) = pinf u := by
  have hf := finite h
  rw [order_num h (by decide), show key INF = (INF : Int) by decide, ord_test]
  unfold pinf
  by_cases e : u < S
  · rw [key_pos e]
    rw [Nat.mod_eq_of_lt e] at hf
    by_cases e0 : u = INF
    · subst e0; decide
    · rw [cmp_lt (by omega), decide_eq_false e0]; rfl
  · rw [key_negw (by omega) hu, cmp_lt (by simp only [S, W, INF] at * <;> omega), decide_eq_false (p := u = INF) (by simp only [S, W, INF] at * <;> omega)]; rfl
theorem order_gt_pinf {u : Nat} (hu : u < W) (h : nan u = false) (h' : pinf u = false) : (FloatKind.f64.format.order INF u == some Ordering.gt) = true := by
  have hf := finite h
  have h' := of_decide_eq_false h'
  rw [order_num (by decide) h, show key INF = (INF : Int) by decide, ord_test]
  by_cases e : u < S
  · rw [key_pos e]
    rw [Nat.mod_eq_of_lt e] at hf
    rw [cmp_gt (by omega)]; rfl
  · rw [key_negw (by omega) hu, cmp_gt (by simp only [S, W, INF] at * <;> omega)]; rfl
theorem order_ninf {u : Nat} (hu : u < W) (h : nan u = false) : (FloatKind.f64.format.order u NINF == some Ordering.eq) = ninf u := by
  have hf := finite h
  rw [order_num h (by decide), show key NINF = -(INF : Int) by decide, ord_test]
  unfold ninf
  by_cases e : u < S
  · rw [key_pos e, cmp_gt (by simp only [S, W, INF] at * <;> omega), decide_eq_false (p := u = NINF) (by simp only [S, W, NINF] at * <;> omega)]; rfl
  · rw [key_negw (by omega) hu]
    by_cases e0 : u = NINF
    · subst e0; decide
    · rw [cmp_gt (by simp only [S, W, INF, NINF] at * <;> omega), decide_eq_false e0]; rfl
theorem order_gt_ninf {u : Nat} (hu : u < W) (h : nan u = false) : (FloatKind.f64.format.order NINF u == some Ordering.gt) = false := by
  have hf := finite h
  rw [order_num (by decide) h, show key NINF = -(INF : Int) by decide, ord_test]
  by_cases e : u < S
  · rw [key_pos e, cmp_lt (by simp only [S, W, INF] at * <;> omega)]; rfl
  · rw [key_negw (by omega) hu]
    by_cases e0 : u = NINF
    · subst e0; decide
    · rw [cmp_lt (by simp only [S, W, INF, NINF] at * <;> omega)]; rfl
/-- 'x > MaxFloat64' -/
theorem order_big {u : Nat} (hu : u < W) : (FloatKind.f64.format.order u 9218868437227405311 == some Ordering.gt) = pinf u := by
  by_cases h : nan u = true
  · rw [order_nan (.inl h)]
    unfold pinf
    rw [decide_eq_false]; · rfl
    intro e; subst e; exact absurd h (by decide)
  · have h : nan u = false := by simpa using h
    have hf := finite h
    rw [order_num h (by decide), show key 9218868437227405311 = (9218868437227405311 : Int) by decide, ord_test]
    unfold pinf
    by_cases e : u < S
    · rw [key_pos e]
      rw [Nat.mod_eq_of_lt e] at hf
      by_cases e0 : u = INF
      · subst e0; decide
      · by_cases e1 : u = 9218868437227405311
        · subst e1; decide
        · rw [cmp_lt (by simp only [S, W, INF] at * <;> omega), decide_eq_false e0]; rfl
    · rw [key_negw (by omega) hu, cmp_lt (by simp only [S, W, INF] at * <;> omega), decide_eq_false (p := u = INF) (by simp only [S, W, INF] at * <;> omega)]; rfl
def opp (u : Nat) : Nat := if S ≤ u then u - S else u + S
theorem pinf_opp {u : Nat} (hu : u < W) : pinf (opp u) = ninf u := by
  unfold pinf ninf opp; rw [Bool.eq_iff_iff]; simp only [decide_eq_true_eq]
  split <;> simp only [S, W, INF, NINF] at * <;> omega
theorem opp_lt {u : Nat} (hu : u < W) : opp u < W := by unfold opp; split <;> simp only [S, W] at * <;> omega

/-- a code's neighbours -/
def nxtC (c : Nat) : Nat := if c = S + INF then c else if c = 0 then S - 1 - INF else if c + 1 = S - 1 then c + 2 else c + 1
def prvC (c : Nat) : Nat := if c = 0 then 0 else if c = S - 1 - INF then 0 else if c - 1 = S - 1 then c - 2 else c - 1
theorem isC_iff {c : Nat} (hc : c < W) : isC c = true ↔ c = 0 ∨ (S - 1 - INF ≤ c ∧ c < S - 1) ∨ (S ≤ c ∧ c ≤ S + INF) := by
  unfold isC zeroB topB low flip
  by_cases h0 : c = 0
  · subst h0; simp
  · rw [if_neg (by simpa using h0)]
    by_cases ht : S ≤ c
    · rw [if_pos (decide_eq_true ht)]; simp only [decide_eq_true_eq]; simp only [S, W, INF] at * <;> omega
    · rw [if_neg (by simpa using ht)]; simp only [Bool.and_eq_true, decide_eq_true_eq]; simp only [S, W, INF] at * <;> omega
theorem isC_code' {u : Nat} (hu : u < W) : code u = 0 ∨ (S - 1 - INF ≤ code u ∧ code u < S - 1) ∨ (S ≤ code u ∧ code u ≤ S + INF) :=
  (isC_iff (code_lt hu)).1 (isC_code hu)
/-- a number's code, spelled out -/
theorem code_cases {u : Nat} (hu : u < W) : (nan u = true ∧ code u = 0) ∨ (nan u = false ∧ u ≤ INF ∧ code u = u + S) ∨ (nan u = false ∧ S < u ∧ u ≤ NINF ∧ code u = W - 1 - u) ∨ (nan u = false ∧ u = S ∧ code u = S) := by
  by_cases hn : nan u = true
  · exact .inl ⟨hn, by rw [code_def, if_pos hn]⟩
  · have hn : nan u = false := by simpa using hn
    have hf := finite hn
    have hcan : can u = if u % S = 0 then 0 else u := by unfold can; rw [if_neg (by rw [hn]; decide)]
    refine .inr ?_
    rw [code_def, if_neg (by rw [hn]; decide)]
    unfold neg
    by_cases h1 : u < S
    · have e : can u = u := by rw [hcan]; split <;> simp only [S, W] at * <;> omega
      rw [e, if_neg (by rw [decide_eq_false (by omega)]; decide)]
      refine .inl ⟨hn, ?_, rfl⟩
      simp only [S, W, INF] at * <;> omega
    · by_cases h2 : u = S
      · refine .inr (.inr ⟨hn, h2, ?_⟩); subst h2; decide
      · have e : can u = u := by rw [hcan]; split <;> simp only [S, W] at * <;> omega
        rw [e, if_pos (decide_eq_true (by omega))]
        refine .inr (.inl ⟨hn, ?_, ?_, rfl⟩) <;> simp only [S, W, INF, NINF] at * <;> omega
theorem code_can {u : Nat} : code (can u) = code u := by
  unfold can
  by_cases hn : nan u = true
  · rw [if_pos hn, code_def u, if_pos hn]; decide
  · rw [if_neg hn]
    split
    · rename_i h
      have hcan : can u = 0 := by unfold can; rw [if_neg hn, if_pos h]
      rw [code_def u, if_neg hn, show neg u = false by unfold neg; rw [hcan]; decide, hcan]; decide
    · rfl
theorem can_can (u : Nat) : can (can u) = can u := by
  by_cases hn : nan u = true
  · rw [can_eq_NAN.2 hn]; decide
  · have hn' : nan u = false := by simpa using hn
    by_cases h : u % S = 0
    · have : can u = 0 := by unfold can; rw [if_neg hn, if_pos h]
      rw [this]; decide
    · have : can u = u := by unfold can; rw [if_neg hn, if_neg h]
      rw [this, this]
theorem up_lt {u : Nat} (hu : u < W) (hn : nan u = false) : up u < W := by
  have := finite hn
  unfold up posB pinf isZ; split
  · exact hu
  · split
    · decide
    · split <;> simp_all <;> simp only [S, W, INF] at * <;> omega
theorem dn_lt {u : Nat} (hu : u < W) (hn : nan u = false) : dn u < W := by
  have := finite hn
  unfold dn posB ninf isZ; split
  · exact hu
  · split
    · decide
    · split <;> simp_all <;> simp only [S, W, INF, NINF] at * <;> omega
theorem nextV_lt {u : Nat} (hu : u < W) : nextV u < W := by
  unfold nextV; split
  · decide
  · rename_i h
    split
    · exact hu
    · exact can_lt (up_lt hu (by simpa using h))
theorem prevV_lt {u : Nat} (hu : u < W) : prevV u < W := by
  unfold prevV; split
  · decide
  · rename_i h
    simp only [Bool.or_eq_true, not_or] at h
    exact can_lt (dn_lt hu (by simpa using h.1))
theorem code_word {v : Nat} (hv : v < W) : (v ≤ INF → code v = v + S) ∧ (S < v → v ≤ NINF → code v = W - 1 - v) ∧ (v = S → code v = S) := by
  rcases code_cases hv with ⟨hn, h⟩ | ⟨hn, a, h⟩ | ⟨hn, a, b, h⟩ | ⟨hn, a, h⟩
  · have hn := of_decide_eq_true hn
    refine ⟨?_, ?_, ?_⟩ <;> simp only [S, W, INF, NINF] at * <;> omega
  all_goals refine ⟨?_, ?_, ?_⟩ <;> simp only [S, W, INF, NINF] at * <;> omega
theorem nums : S = 9223372036854775808 ∧ W = 18446744073709551616 ∧ INF = 9218868437227405312 ∧ NINF = 18442240474082181120 := ⟨rfl, rfl, rfl, rfl⟩
theorem code_next0 {u : Nat} (hn : nan u = true) (h : code u = 0) : code (nextV u) = nxtC (code u) := by
  obtain ⟨hS, hW, hI, hN⟩ := nums
  unfold nextV
  rw [if_pos hn, h]; decide
theorem code_next1 {u : Nat} (hu : u < W) (hn : nan u = false) (a : u ≤ INF) (h : code u = u + S) : code (nextV u) = nxtC (code u) := by
  obtain ⟨hS, hW, hI, hN⟩ := nums
  unfold nextV
  rw [if_neg (by rw [hn]; decide)]
  by_cases hp : u = INF
  · subst hp; decide
  · rw [if_neg (by unfold pinf; simpa using hp), code_can]
    have he : up u = u + 1 := by
      unfold up pinf isZ posB
      rw [if_neg (by rw [decide_eq_false hp]; decide)]
      by_cases h0 : u = 0
      · subst h0; decide
      · rw [if_neg (by rw [decide_eq_false (p := u % S = 0) (by rw [Nat.mod_eq_of_lt (by omega)]; omega)]; decide), if_pos]
        rw [decide_eq_true (p := 0 < u % S) (by rw [Nat.mod_eq_of_lt (by omega)]; omega), decide_eq_true (p := u < S) (by omega)]; rfl
    have := (code_word (v := u + 1) (by omega)).1 (by omega)
    rw [he, this, h]
    unfold nxtC
    rw [if_neg (by omega), if_neg (by omega), if_neg (by omega)]
    omega
theorem code_next2 {u : Nat} (hn : nan u = false) (a : S < u) (b : u ≤ NINF) (h : code u = W - 1 - u) : code (nextV u) = nxtC (code u) := by
  obtain ⟨hS, hW, hI, hN⟩ := nums
  unfold nextV
  rw [if_neg (by rw [hn]; decide), if_neg (by unfold pinf; rw [decide_eq_false (by omega)]; decide), code_can]
  have he : up u = u - 1 := by
    have hm : u % S = u - S := by rw [Nat.mod_eq_sub_mod (by omega), Nat.mod_eq_of_lt (by omega)]
    unfold up pinf isZ posB
    rw [if_neg (by rw [decide_eq_false (by omega)]; decide), if_neg (by rw [decide_eq_false (by omega)]; decide), if_neg (by rw [decide_eq_false (p := u < S) (by omega), Bool.and_false]; decide)]
  have := code_word (v := u - 1) (by omega)
  rw [he, h]
  have hh : code (u - 1) = if u - 1 = S then S else W - 1 - (u - 1) := by
    split
    · exact this.2.2 ‹_›
    · exact this.2.1 (by omega) (by omega)
  rw [hh]
  unfold nxtC
  by_cases e : u - 1 = S
  · rw [if_pos e, if_neg (by omega), if_neg (by omega), if_pos (by omega)]; omega
  · rw [if_neg e, if_neg (by omega), if_neg (by omega), if_neg (by omega)]; omega
theorem code_next3 {u : Nat} (a : u = S) : code (nextV u) = nxtC (code u) := by
  obtain ⟨hS, hW, hI, hN⟩ := nums
  unfold nextV
  subst a; decide
theorem code_next {u : Nat} (hu : u < W) : code (nextV u) = nxtC (code u) := by
  rcases code_cases hu with ⟨hn, h⟩ | ⟨hn, a, h⟩ | ⟨hn, a, b, h⟩ | ⟨hn, a, h⟩
  · exact code_next0 hn h
  · exact code_next1 hu hn a h
  · exact code_next2 hn a b h
  · exact code_next3 a
theorem code_prev {u : Nat} (hu : u < W) : code (prevV u) = prvC (code u) := by
  obtain ⟨hS, hW, hI, hN⟩ := nums
  unfold prevV
  rcases code_cases hu with ⟨hn, h⟩ | ⟨hn, a, h⟩ | ⟨hn, a, b, h⟩ | ⟨hn, a, h⟩
  · rw [if_pos (by rw [hn]; rfl), h]; decide
  · rw [if_neg (by rw [hn]; unfold ninf; rw [decide_eq_false (by omega)]; decide), code_can]
    by_cases h0 : u = 0
    · subst h0; decide
    · have he : dn u = u - 1 := by
        have hm : u % S = u := Nat.mod_eq_of_lt (by omega)
        unfold dn ninf isZ posB
        rw [hm, if_neg (by rw [decide_eq_false (by omega)]; decide), if_neg (by rw [decide_eq_false (p := u = 0) (by omega)]; decide), if_pos]
        rw [decide_eq_true (p := 0 < u) (by omega), decide_eq_true (p := u < S) (by omega)]; rfl
      have := (code_word (v := u - 1) (by omega)).1 (by omega)
      rw [he, this, h]
      unfold prvC
      rw [if_neg (by omega), if_neg (by omega), if_neg (by omega)]
      omega
  · by_cases hp : u = NINF
    · subst hp; decide
    · rw [if_neg (by rw [hn]; unfold ninf; rw [decide_eq_false hp]; decide), code_can]
      have he : dn u = u + 1 := by
        have hm : u % S = u - S := by rw [Nat.mod_eq_sub_mod (by omega), Nat.mod_eq_of_lt (by omega)]
        unfold dn ninf isZ posB
        rw [if_neg (by rw [decide_eq_false hp]; decide), if_neg (by rw [decide_eq_false (by omega)]; decide), if_neg (by rw [decide_eq_false (p := u < S) (by omega), Bool.and_false]; decide)]
      have := (code_word (v := u + 1) (by omega)).2.1 (by omega) (by omega)
      rw [he, this, h]
      unfold prvC
      rw [if_neg (by omega), if_neg (by omega), if_neg (by omega)]
      omega
  · subst a; decide

end Go.Proofs.Ytdgliljmmokjnaa.Flo
