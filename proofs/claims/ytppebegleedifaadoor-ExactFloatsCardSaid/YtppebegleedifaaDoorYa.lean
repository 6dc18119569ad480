/- Plain sums modulo a prime: there and back. -/
import Derived.Test.YtppebegleedifaaDoorXm
namespace Go.Proofs.YtppebegleedifaaDoor

/-- The sum of the first n. -/
def sm (f : Nat → Nat) : Nat → Nat
  | 0 => 0
  | n + 1 => sm f n + f n
theorem sm_congr {f g : Nat → Nat} {n : Nat} (h : ∀ j, j < n → f j = g j) : sm f n = sm g n := by
  induction n with
  | zero => rfl
  | succ n ih => rw [sm, sm, ih (fun j hj => h j (by omega)), h n (by omega)]
theorem sm_mod {f g : Nat → Nat} {p n : Nat} (h : ∀ j, j < n → f j % p = g j % p) : sm f n % p = sm g n % p := by
  induction n with
  | zero => rfl
  | succ n ih => rw [sm, sm, Nat.add_mod, ih (fun j hj => h j (by omega)), h n (by omega), ← Nat.add_mod]
theorem sm_add (f g : Nat → Nat) (n : Nat) : sm (fun j => f j + g j) n = sm f n + sm g n := by
  induction n with
  | zero => rfl
  | succ n ih => rw [sm, sm, sm, ih]; omega
theorem sm_mul (c : Nat) (f : Nat → Nat) (n : Nat) : sm (fun j => c * f j) n = c * sm f n := by
  induction n with
  | zero => rfl
  | succ n ih => rw [sm, sm, ih, Nat.mul_add]
theorem sm_mul' (c : Nat) (f : Nat → Nat) (n : Nat) : sm (fun j => f j * c) n = sm f n * c := by
  induction n with
  | zero => rw [sm, sm, Nat.zero_mul]
  | succ n ih => rw [sm, sm, ih, Nat.add_mul]
theorem sm_zero (n : Nat) : sm (fun _ => 0) n = 0 := by
  induction n with
  | zero => rfl
  | succ n ih => rw [sm, ih]
theorem sm_one (q n : Nat) : sm (fun _ => q) n = n * q := by
  induction n with
  | zero => rw [sm, Nat.zero_mul]
  | succ n ih => rw [sm, ih, Nat.succ_mul]
theorem sm_swap (f : Nat → Nat → Nat) (n m : Nat) : sm (fun i => sm (fun j => f i j) m) n = sm (fun j => sm (fun i => f i j) n) m := by
  induction n with
  | zero => rw [sm, show (fun j => sm (fun i => f i j) 0) = fun _ => 0 from rfl, sm_zero]
  | succ n ih => rw [sm, ih, ← sm_add]; rfl
theorem sm_single (f : Nat → Nat) (l n : Nat) (hl : l < n) (h : ∀ j, j < n → j ≠ l → f j = 0) : sm f n = f l := by
  induction n with
  | zero => omega
  | succ n ih =>
    rw [sm]
    by_cases e : l = n
    · subst e
      have : sm f l = sm (fun _ => 0) l := sm_congr fun j hj => h j (by omega) (by omega)
      rw [this, sm_zero, Nat.zero_add]
    · rw [ih (by omega) (fun j hj hjl => h j (by omega) hjl), h n (by omega) (by omega), Nat.add_zero]
theorem dsum_sm (x : Nat → Nat) (s p n : Nat) : dsum x s p n = sm (fun j => x j * s ^ j) n % p := by
  induction n with
  | zero => rw [dsum, sm, Nat.zero_mod]
  | succ n ih =>
    rw [dsum, sm, ih]
    rw [Nat.add_mod, Nat.mod_mod, ← Nat.mul_mod, Nat.add_mod (sm (fun j => x j * s ^ j) n)]
theorem dft_sm (x : Nat → Nat) (r p n k : Nat) : dsum x (powF r p k) p n = sm (fun j => x j * r ^ (j * k)) n % p := by
  rw [dsum_sm]
  refine sm_mod fun j _ => ?_
  unfold powF
  rw [Nat.mul_mod, ← Nat.pow_mod, ← Nat.mul_mod, ← Nat.pow_mul, Nat.mul_comm k j]
/-- Below a prime, all but 0 are without a common factor with it. -/
theorem npr_coprime {p d : Nat} (h : Npr p) (h0 : 0 < d) (hd : d < p) : Nat.Coprime p d := by
  obtain ⟨h1, h2, h3⟩ := h
  have hgp : Nat.gcd p d ∣ p := Nat.gcd_dvd_left p d
  have hgd : Nat.gcd p d ≤ d := Nat.le_of_dvd h0 (Nat.gcd_dvd_right p d)
  have hg0 : 0 < Nat.gcd p d := Nat.gcd_pos_of_pos_right _ h0
  show Nat.gcd p d = 1
  obtain ⟨c, hc⟩ := hgp
  obtain ⟨g, hg⟩ : ∃ g, Nat.gcd p d = g := ⟨_, rfl⟩
  rw [hg] at hgd hg0 hc ⊢
  rcases Nat.lt_or_ge g 2 with h4 | h4
  · omega
  · exfalso
    have hc2 : 2 ≤ c := by
      rcases Nat.lt_or_ge c 2 with h5 | h5
      · have : c = 0 ∨ c = 1 := by omega
        rcases this with rfl | rfl
        · omega
        · omega
      · exact h5
    rcases Nat.lt_or_ge g 65536 with h5 | h5
    · exact h3 g h4 h5 (by rw [hc, Nat.mul_mod_right])
    · rcases Nat.lt_or_ge c 65536 with h6 | h6
      · exact h3 c hc2 h6 (by rw [hc, Nat.mul_mod_left])
      · have := Nat.mul_le_mul h5 h6
        omega
theorem npr_dvd {p a b : Nat} (h : Npr p) (hb0 : 0 < b) (hb : b < p) (hd : a * b % p = 0) : a % p = 0 := by
  have hc := npr_coprime h hb0 hb
  exact Nat.mod_eq_zero_of_dvd (hc.dvd_of_dvd_mul_right (Nat.dvd_of_mod_eq_zero hd))
theorem geo (q n : Nat) : sm (fun k => q ^ k) n * q + 1 = sm (fun k => q ^ k) n + q ^ n := by
  induction n with
  | zero => rw [sm, Nat.zero_mul, Nat.pow_zero]
  | succ n ih =>
    rw [sm, Nat.add_mul, Nat.pow_succ]
    omega
/-- The sum of the powers of a root that isn't 1 is 0. -/
theorem geo_zero {p q n : Nat} (h : Npr p) (hq : q % p ≠ 1) (hn : q ^ n % p = 1) (hn1 : 1 ≤ n) : sm (fun k => q ^ k) n % p = 0 := by
  have p2 := h.1
  have hp1 : 1 % p = 1 := Nat.mod_eq_of_lt (by omega)
  have hg := geo q n
  obtain ⟨G, hG⟩ : ∃ G, sm (fun k => q ^ k) n = G := ⟨_, rfl⟩
  rw [hG] at hg ⊢
  have h1 : (G * q + 1) % p = (G + 1) % p := by rw [hg, Nat.add_mod, hn, ← hp1, ← Nat.add_mod, hp1]
  have hq0 : q % p ≠ 0 := by
    intro e
    have : q ^ n % p = 0 := by
      rw [Nat.pow_mod, e, Nat.zero_pow (by omega), Nat.zero_mod]
    omega
  have hql : q % p < p := Nat.mod_lt _ (by omega)
  have h2 : (G * (q % p) + 1) % p = (G + 1) % p := by
    rw [← h1, Nat.add_mod, Nat.mul_mod, Nat.mod_mod, ← Nat.mul_mod, ← Nat.add_mod]
  refine npr_dvd h (b := q % p - 1) (by omega) (by omega) ?_
  obtain ⟨u, hu⟩ : ∃ u, q % p = u + 1 := ⟨q % p - 1, by omega⟩
  rw [hu] at h2 ⊢
  rw [Nat.add_sub_cancel]
  rw [Nat.mul_succ] at h2
  have h3 : (G * u + (G + 1)) % p = (0 + (G + 1)) % p := by rw [Nat.zero_add, ← h2, Nat.add_assoc]
  have h4 := Nat.sub_mod_eq_zero_of_mod_eq h3
  rw [Nat.zero_add, Nat.add_sub_cancel] at h4
  exact h4
/-- u is a root of 1 of just this order; v is its inverse. -/
structure Rt (p n u v : Nat) : Prop where
  inv : u * v % p = 1
  one : u ^ n % p = 1
  ne : ∀ d, 0 < d → d < n → u ^ d % p ≠ 1
theorem Rt.pw {p n u v : Nat} (h : Rt p n u v) (h2 : 2 ≤ p) (j : Nat) : u ^ j * v ^ j % p = 1 := by
  rw [← Nat.mul_pow, Nat.pow_mod, h.inv, Nat.one_pow, Nat.mod_eq_of_lt (by omega)]
theorem Rt.flip {p n u v : Nat} (h : Rt p n u v) (h2 : 2 ≤ p) : Rt p n v u := by
  have hp1 : 1 % p = 1 := Nat.mod_eq_of_lt (by omega)
  have key : ∀ d, v ^ d % p = 1 → u ^ d % p = 1 := by
    intro d e
    have := h.pw h2 d
    rw [Nat.mul_mod, e, Nat.mul_one, Nat.mod_mod] at this
    exact this
  refine ⟨by rw [Nat.mul_comm]; exact h.inv, ?_, fun d h1 h3 e => h.ne d h1 h3 (key d e)⟩
  have := h.pw h2 n
  rw [Nat.mul_mod, h.one, Nat.one_mul, Nat.mod_mod] at this
  exact this
theorem Rt.apart {p n u v j l : Nat} (h : Rt p n u v) (h2 : 2 ≤ p) (hj : j < n) (hl : l < n) (hne : j ≠ l) : u ^ j * v ^ l % p ≠ 1 := by
  intro e
  rcases Nat.lt_or_gt_of_ne hne with hlt | hlt
  · -- v^(l - j) = 1
    have hf := h.flip h2
    refine hf.ne (l - j) (by omega) (by omega) ?_
    have e1 : u ^ j * v ^ l = (u ^ j * v ^ j) * v ^ (l - j) := by
      rw [Nat.mul_assoc, ← Nat.pow_add, show j + (l - j) = l by omega]
    rw [e1, Nat.mul_mod, h.pw h2 j, Nat.one_mul, Nat.mod_mod] at e
    exact e
  · refine h.ne (j - l) (by omega) (by omega) ?_
    have e1 : u ^ j * v ^ l = u ^ (j - l) * (u ^ l * v ^ l) := by
      rw [← Nat.mul_assoc, ← Nat.pow_add, show j - l + l = j by omega]
    rw [e1, Nat.mul_mod, h.pw h2 l, Nat.mul_one, Nat.mod_mod] at e
    exact e
/-- There and back: n times the element. -/
theorem there {p n u v : Nat} (hp : Npr p) (h : Rt p n u v) (x : Nat → Nat) (l : Nat) (hl : l < n) :
    sm (fun k => sm (fun j => x j * u ^ (j * k)) n * v ^ (k * l)) n % p = n * x l % p := by
  have h2 := hp.1
  have e1 : sm (fun k => sm (fun j => x j * u ^ (j * k)) n * v ^ (k * l)) n = sm (fun j => x j * sm (fun k => (u ^ j * v ^ l) ^ k) n) n := by
    have e2 : ∀ k, sm (fun j => x j * u ^ (j * k)) n * v ^ (k * l) = sm (fun j => x j * (u ^ j * v ^ l) ^ k) n := by
      intro k
      rw [← sm_mul']
      refine sm_congr fun j _ => ?_
      rw [Nat.mul_assoc]
      congr 1
      rw [Nat.mul_pow, ← Nat.pow_mul, ← Nat.pow_mul, Nat.mul_comm k l]
    rw [show (fun k => sm (fun j => x j * u ^ (j * k)) n * v ^ (k * l)) = fun k => sm (fun j => x j * (u ^ j * v ^ l) ^ k) n from funext e2, sm_swap]
    exact sm_congr fun j _ => sm_mul _ _ _
  rw [e1]
  have e3 : ∀ j, j < n → (x j * sm (fun k => (u ^ j * v ^ l) ^ k) n) % p = (if j = l then n * x l else 0) % p := by
    intro j hj
    by_cases e : j = l
    · subst e
      rw [if_pos rfl, Nat.mul_comm n]
      have : sm (fun k => (u ^ j * v ^ j) ^ k) n % p = sm (fun _ => 1) n % p := by
        refine sm_mod fun k _ => ?_
        rw [Nat.pow_mod, h.pw h2 j, Nat.one_pow]
      rw [Nat.mul_mod, this, ← Nat.mul_mod, sm_one, Nat.mul_one]
    · rw [if_neg e]
      have hn1 : (u ^ j * v ^ l) ^ n % p = 1 := by
        rw [Nat.mul_pow, ← Nat.pow_mul, ← Nat.pow_mul, Nat.mul_comm j n, Nat.mul_comm l n, Nat.pow_mul, Nat.pow_mul, Nat.mul_mod, Nat.pow_mod, h.one, Nat.pow_mod (v ^ n), (h.flip h2).one, Nat.one_pow, Nat.one_pow, Nat.mod_eq_of_lt (show 1 < p by omega), Nat.mul_one, Nat.mod_eq_of_lt (show 1 < p by omega)]
      rw [Nat.mul_mod, geo_zero hp (h.apart h2 hj hl e) hn1 (by omega), Nat.mul_zero]
  rw [sm_mod e3, sm_single _ l n hl (fun j _ hj => if_neg hj), if_pos rfl]
/-- The order of the roots, by computing. -/
def ordOk (i n : Nat) : Bool := !(Nat.beq ((primeF i - 1) % n) 0) || (let r := pwm 40 (gF i) ((primeF i - 1) / n) (primeF i); (List.range n).all fun d => Nat.beq d 0 || !(Nat.beq (pwm 10 r d (primeF i)) 1))
def ordAll (i : Nat) : Bool := (List.range 161).all fun n => Nat.beq n 0 || ordOk i n
theorem ord0 : ordAll 0 = true := by decide +kernel
theorem ord1 : ordAll 1 = true := by decide +kernel
theorem ord2 : ordAll 2 = true := by decide +kernel
theorem root_ne (i n : Nat) (hi : i < 3) (h1 : 1 ≤ n) (h2 : n ≤ 160) (hd : (primeF i - 1) % n = 0) (d : Nat) (d0 : 0 < d) (dn : d < n) : rootN i n ^ d % primeF i ≠ 1 := by
  have h : ordAll i = true := by
    rcases (show i = 0 ∨ i = 1 ∨ i = 2 by omega) with rfl | rfl | rfl
    · exact ord0
    · exact ord1
    · exact ord2
  unfold ordAll at h
  rw [List.all_eq_true] at h
  have h3 := h n (List.mem_range.2 (by omega))
  rw [Bool.or_eq_true, Nat.beq_eq] at h3
  rcases h3 with h3 | h3
  · omega
  unfold ordOk at h3
  rw [Bool.or_eq_true, Bool.not_eq_true', hd] at h3
  rcases h3 with h3 | h3
  · cases h3
  rw [List.all_eq_true] at h3
  have h4 := h3 d (List.mem_range.2 dn)
  rw [Bool.or_eq_true, Nat.beq_eq, Bool.not_eq_true'] at h4
  rcases h4 with h4 | h4
  · omega
  have hp : primeF i < 4294967296 := (prF i hi).np.2.1
  rw [pwm_eq 40 _ _ _ (Nat.lt_of_le_of_lt (Nat.div_le_self _ _) (by omega)), pwm_eq 10 _ _ _ (by omega)] at h4
  intro e
  have e' : (gF i ^ ((primeF i - 1) / n) % primeF i) ^ d % primeF i = 1 := e
  rw [e'] at h4
  cases h4
theorem rt_root (i n : Nat) (hi : i < 3) (h1 : 1 ≤ n) (h2 : n ≤ 160) (hd : (primeF i - 1) % n = 0) : Rt (primeF i) n (rootN i n) (rootN i n ^ (primeF i - 2) % primeF i) := by
  have p3 := prime_two i hi
  have hp1 : 1 % primeF i = 1 := Nat.mod_eq_of_lt (by omega)
  refine ⟨?_, ?_, root_ne i n hi h1 h2 hd⟩
  · rw [Nat.mul_comm, root_back i n hi, hp1]
  · rw [root_pow i n hi hd, hp1]
theorem n_inv (i n : Nat) (hi : i < 3) (h1 : 1 ≤ n) (h2 : n ≤ 160) : n * (n ^ (primeF i - 2) % primeF i) % primeF i = 1 := by
  have p3 := prime_two i hi
  rw [Nat.mul_comm, Nat.mod_mul_mod, ← Nat.pow_succ, show (primeF i - 2).succ = primeF i - 1 by omega, fermat i n hi h1 (by omega)]
theorem scale {p n t X Y : Nat} (hn : n * t % p = 1) (h : X % p = n * Y % p) : X * t % p = Y % p := by
  have : X * t % p = n * Y * t % p := by rw [Nat.mul_mod, h, ← Nat.mul_mod]
  rw [this, show n * Y * t = (n * t) * Y by rw [Nat.mul_assoc, Nat.mul_comm Y, Nat.mul_assoc], Nat.mul_mod, hn, Nat.one_mul, Nat.mod_mod]
/-- There and back. -/
theorem back_fore (i n : Nat) (hi : i < 3) (h1 : 1 ≤ n) (h2 : n ≤ 160) (hd : (primeF i - 1) % n = 0) (x : Nat → Nat) (l : Nat) (hl : l < n) : tF true (i : Int) n (tF false (i : Int) n x) l = x l % primeF i := by
  have hp := (prF i hi).np
  have hr := rt_root i n hi h1 h2 hd
  unfold tF
  rw [if_pos rfl, if_neg (by decide), Int.toNat_natCast]
  rw [dft_sm]
  rw [Nat.mod_mul_mod]
  refine scale (n_inv i n hi h1 h2) ?_
  rw [← there hp hr x l hl]
  refine sm_mod fun k _ => ?_
  unfold dftN
  rw [dft_sm, Nat.mod_mul_mod]
theorem fore_back (i n : Nat) (hi : i < 3) (h1 : 1 ≤ n) (h2 : n ≤ 160) (hd : (primeF i - 1) % n = 0) (x : Nat → Nat) (l : Nat) (hl : l < n) : tF false (i : Int) n (tF true (i : Int) n x) l = x l % primeF i := by
  have hp := (prF i hi).np
  have hr := (rt_root i n hi h1 h2 hd).flip hp.1
  unfold tF
  rw [if_pos rfl, if_neg (by decide), Int.toNat_natCast]
  unfold dftN
  rw [dft_sm]
  have e : ∀ k, k < n → (dsum x (powF (rootN i n ^ (primeF i - 2) % primeF i) (primeF i) k) (primeF i) n * (n ^ (primeF i - 2) % primeF i) % primeF i * rootN i n ^ (k * l)) % primeF i = (sm (fun j => x j * (rootN i n ^ (primeF i - 2) % primeF i) ^ (j * k)) n * rootN i n ^ (k * l) * (n ^ (primeF i - 2) % primeF i)) % primeF i := by
    intro k _
    rw [dft_sm, Nat.mod_mul_mod, Nat.mul_assoc, Nat.mod_mul_mod, Nat.mul_comm (n ^ (primeF i - 2) % primeF i), ← Nat.mul_assoc]
  rw [sm_mod e, sm_mul']
  exact scale (n_inv i n hi h1 h2) (there hp hr x l hl)
theorem tF_lt (b : Bool) (i n : Nat) (hi : i < 3) (x : Nat → Nat) (k : Nat) : tF b (i : Int) n x k < primeF i := by
  have p3 := prime_two i hi
  unfold tF
  rw [Int.toNat_natCast]
  cases b
  · rw [if_neg (by decide)]; exact dsum_lt _ _ _ _ (by omega)
  · rw [if_pos rfl]; exact Nat.mod_lt _ (by omega)
end Go.Proofs.YtppebegleedifaaDoor
