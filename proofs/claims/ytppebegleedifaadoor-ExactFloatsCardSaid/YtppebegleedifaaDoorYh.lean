/- Plain sums of whole numbers: the transform of a convolution; convolutions exchanged, added, folded. -/
import Derived.Test.YtppebegleedifaaDoorYa
import Derived.Test.YtppebegleedifaaDoorXs
namespace Go.Proofs.YtppebegleedifaaDoor

/-- The sum of the first n whole numbers. -/
def sz (f : Nat → Int) : Nat → Int
  | 0 => 0
  | n + 1 => sz f n + f n
theorem sz_congr {f g : Nat → Int} {n : Nat} (h : ∀ j, j < n → f j = g j) : sz f n = sz g n := by
  induction n with
  | zero => rfl
  | succ n ih => rw [sz, sz, ih (fun j hj => h j (by omega)), h n (by omega)]
theorem sz_mod {f g : Nat → Int} {p : Int} {n : Nat} (h : ∀ j, j < n → f j % p = g j % p) : sz f n % p = sz g n % p := by
  induction n with
  | zero => rfl
  | succ n ih => rw [sz, sz, Int.add_emod, ih (fun j hj => h j (by omega)), h n (by omega), ← Int.add_emod]
theorem sz_add (f g : Nat → Int) (n : Nat) : sz (fun j => f j + g j) n = sz f n + sz g n := by
  induction n with
  | zero => rfl
  | succ n ih => rw [sz, sz, sz, ih]; omega
theorem sz_mul (c : Int) (f : Nat → Int) (n : Nat) : sz (fun j => c * f j) n = c * sz f n := by
  induction n with
  | zero => rw [sz, sz, Int.mul_zero]
  | succ n ih => rw [sz, sz, ih, Int.mul_add]
theorem sz_mul' (c : Int) (f : Nat → Int) (n : Nat) : sz (fun j => f j * c) n = sz f n * c := by
  induction n with
  | zero => rw [sz, sz, Int.zero_mul]
  | succ n ih => rw [sz, sz, ih, Int.add_mul]
theorem sz_zero (n : Nat) : sz (fun _ => 0) n = 0 := by
  induction n with
  | zero => rfl
  | succ n ih => rw [sz, ih]; rfl
theorem sz_swap (f : Nat → Nat → Int) (n m : Nat) : sz (fun i => sz (fun j => f i j) m) n = sz (fun j => sz (fun i => f i j) n) m := by
  induction n with
  | zero => rw [sz, show (fun j => sz (fun i => f i j) 0) = fun _ => 0 from rfl, sz_zero]
  | succ n ih => rw [sz, ih, ← sz_add]; rfl
theorem sz_single (f : Nat → Int) (l n : Nat) (hl : l < n) (h : ∀ j, j < n → j ≠ l → f j = 0) : sz f n = f l := by
  induction n with
  | zero => omega
  | succ n ih =>
    rw [sz]
    by_cases e : l = n
    · subst e
      rw [sz_congr (g := fun _ => 0) fun j hj => h j (by omega) (by omega), sz_zero, Int.zero_add]
    · rw [ih (by omega) (fun j hj hjl => h j (by omega) hjl), h n (by omega) (by omega), Int.add_zero]
theorem sm_sz (f : Nat → Nat) (n : Nat) : ((sm f n : Nat) : Int) = sz (fun j => (f j : Int)) n := by
  induction n with
  | zero => rfl
  | succ n ih => rw [sm, sz, Int.natCast_add, ih]
/-- One number of a list is added to: the weighted sum. -/
theorem sz_upd (f : Nat → Int) (ρ : Nat → Int) (t N : Nat) (v : Int) (ht : t < N) : sz (fun l => (if l = t then f t + v else f l) * ρ l) N = sz (fun l => f l * ρ l) N + v * ρ t := by
  have e : ∀ l, (if l = t then f t + v else f l) * ρ l = f l * ρ l + (if l = t then v * ρ t else 0) := by
    intro l
    by_cases h : l = t
    · subst h; rw [if_pos rfl, if_pos rfl, Int.add_mul]
    · rw [if_neg h, if_neg h, Int.add_zero]
  rw [show (fun l => (if l = t then f t + v else f l) * ρ l) = fun l => f l * ρ l + (if l = t then v * ρ t else 0) from funext e, sz_add]
  congr 1
  rw [sz_single _ t N ht fun j _ hj => if_neg hj, if_pos rfl]
theorem rowS_sz (x y : Nat → Int) (at_ : Nat → Nat → Nat) (ρ : Nat → Int) (N i : Nat) (S : Nat → Int) (m : Nat) (h : ∀ j, j < m → at_ i j < N) :
    sz (fun l => rowS x y at_ i S m l * ρ l) N = sz (fun l => S l * ρ l) N + sz (fun j => x i * y j * ρ (at_ i j)) m := by
  induction m with
  | zero => rw [sz, Int.add_zero]; rfl
  | succ m ih =>
    have e : (fun l => rowS x y at_ i S (m + 1) l * ρ l) = fun l => (if l = at_ i m then rowS x y at_ i S m (at_ i m) + x i * y m else rowS x y at_ i S m l) * ρ l := rfl
    rw [e, sz_upd _ _ _ _ _ (h m (by omega)), ih (fun j hj => h j (by omega)), sz, Int.add_assoc]
theorem allS_sz (x y : Nat → Int) (at_ : Nat → Nat → Nat) (ρ : Nat → Int) (N m n : Nat) (h : ∀ i j, i < n → j < m → at_ i j < N) :
    sz (fun l => allS x y at_ m n l * ρ l) N = sz (fun i => sz (fun j => x i * y j * ρ (at_ i j)) m) n := by
  induction n with
  | zero =>
    rw [sz, show (fun l => allS x y at_ m 0 l * ρ l) = fun _ => 0 from funext fun l => Int.zero_mul _, sz_zero]
  | succ n ih =>
    have e : (fun l => allS x y at_ m (n + 1) l * ρ l) = fun l => rowS x y at_ n (allS x y at_ m n) m l * ρ l := rfl
    rw [e, rowS_sz _ _ _ _ _ _ _ _ (fun j hj => h n j (by omega) hj), ih (fun i j hi hj => h i j (by omega) hj), sz]
/-- One place of it. -/
theorem allS_at (x y : Nat → Int) (at_ : Nat → Nat → Nat) (N m n : Nat) (h : ∀ i j, i < n → j < m → at_ i j < N) (l : Nat) (hl : l < N) :
    allS x y at_ m n l = sz (fun i => sz (fun j => x i * y j * (if at_ i j = l then 1 else 0)) m) n := by
  rw [← allS_sz x y at_ (fun k => if k = l then 1 else 0) N m n h]
  rw [sz_single _ l N hl fun j _ hj => by rw [if_neg hj, Int.mul_zero], if_pos rfl, Int.mul_one]
/-- Whole numbers modulo p. -/
def modF (x : Nat → Int) (p : Nat) : Nat → Nat := fun j => (x j % (p : Int)).toNat
theorem modF_cast (x : Nat → Int) {p : Nat} (hp : 0 < p) (j : Nat) : ((modF x p j : Nat) : Int) = x j % (p : Int) := by
  unfold modF
  exact Int.toNat_of_nonneg (Int.emod_nonneg _ (by omega))
theorem modF_lt (x : Nat → Int) {p : Nat} (hp : 0 < p) (j : Nat) : modF x p j < p := by
  have h := modF_cast x hp j
  have := Int.emod_lt_of_pos (x j) (show (0 : Int) < p by omega)
  omega
theorem dft_sz (x : Nat → Int) (i n k : Nat) (hi : i < 3) : ((tF false (i : Int) n (modF x (primeF i)) k : Nat) : Int) = sz (fun j => x j * (rootN i n : Int) ^ (j * k)) n % (primeF i : Int) := by
  have p3 := prime_two i hi
  unfold tF
  rw [if_neg (by decide), Int.toNat_natCast]
  unfold dftN
  rw [dft_sm, Int.natCast_emod, sm_sz]
  refine sz_mod fun j _ => ?_
  rw [Int.natCast_mul, modF_cast x (by omega) j, Int.natCast_pow, Int.mul_emod, Int.emod_emod, ← Int.mul_emod]
theorem cyc_lt {i j n : Nat} (hi : i < n) (_hj : j < n) : (i + j) % n < n := Nat.mod_lt _ (by omega)
/-- The transform of a cyclic convolution is the product. -/
theorem product (i n : Nat) (hi : i < 3) (_n1 : 1 ≤ n) (hd : (primeF i - 1) % n = 0) (x y : Nat → Int) (k : Nat) :
    tF false (i : Int) n (modF (cycS n n x y) (primeF i)) k = tF false (i : Int) n (modF x (primeF i)) k * tF false (i : Int) n (modF y (primeF i)) k % primeF i := by
  have p3 := prime_two i hi
  have hr := root_pow i n hi hd
  have key : ((tF false (i : Int) n (modF (cycS n n x y) (primeF i)) k : Nat) : Int) = ((tF false (i : Int) n (modF x (primeF i)) k * tF false (i : Int) n (modF y (primeF i)) k % primeF i : Nat) : Int) := by
    rw [Int.natCast_emod, Int.natCast_mul, dft_sz _ i n k hi, dft_sz _ i n k hi, dft_sz _ i n k hi, ← Int.mul_emod]
    unfold cycS
    rw [allS_sz x y (fun i j => (i + j) % n) (fun l => (rootN i n : Int) ^ (l * k)) n n n (fun i j hi hj => cyc_lt hi hj)]
    rw [show sz (fun j => x j * (rootN i n : Int) ^ (j * k)) n * sz (fun j => y j * (rootN i n : Int) ^ (j * k)) n = sz (fun i' => sz (fun j => x i' * (rootN i n : Int) ^ (i' * k) * (y j * (rootN i n : Int) ^ (j * k))) n) n from by
      rw [← sz_mul']
      exact sz_congr fun i' _ => (sz_mul _ _ _).symm]
    refine sz_mod fun i' _ => sz_mod fun j _ => ?_
    have e1 : (rootN i n : Int) ^ ((i' + j) % n * k) % (primeF i : Int) = ((rootN i n : Int) ^ (i' * k) * (rootN i n : Int) ^ (j * k)) % (primeF i : Int) := by
      rw [← Int.pow_add, ← Int.natCast_pow, ← Int.natCast_pow, ← Int.natCast_emod, ← Int.natCast_emod]
      congr 1
      rw [Nat.pow_mul, Nat.pow_mod, pow_at hr, ← Nat.pow_mod, ← Nat.pow_mul, Nat.add_mul]
    rw [Int.mul_emod, e1, ← Int.mul_emod]
    congr 1
    generalize (rootN i n : Int) ^ (i' * k) = u
    generalize (rootN i n : Int) ^ (j * k) = v
    rw [Int.mul_assoc, Int.mul_assoc]
    congr 1
    rw [← Int.mul_assoc, Int.mul_comm (y j) u, Int.mul_assoc]
  exact Int.ofNat.inj key
/-- Exchanged. -/
theorem lin_swap (n m : Nat) (x y : Nat → Int) (l : Nat) (hl : l < n + m - 1) : linS n m x y l = linS m n y x l := by
  unfold linS
  rw [allS_at x y _ (n + m - 1) m n (fun i j hi hj => by omega) l hl, allS_at y x _ (n + m - 1) n m (fun i j hi hj => by omega) l hl, sz_swap]
  refine sz_congr fun j _ => sz_congr fun i _ => ?_
  rw [Int.mul_comm (x i), Nat.add_comm i j]
/-- Added. -/
theorem lin_add (n m : Nat) (x y z : Nat → Int) (l : Nat) (hl : l < n + m - 1) : linS n m x (fun j => y j + z j) l = linS n m x y l + linS n m x z l := by
  unfold linS
  rw [allS_at _ _ _ (n + m - 1) m n (fun i j hi hj => by omega) l hl, allS_at _ _ _ (n + m - 1) m n (fun i j hi hj => by omega) l hl, allS_at _ _ _ (n + m - 1) m n (fun i j hi hj => by omega) l hl, ← sz_add]
  refine sz_congr fun i _ => ?_
  rw [← sz_add]
  refine sz_congr fun j _ => ?_
  rw [Int.mul_add, Int.add_mul]
/-- Folded. -/
theorem cyc_fold (n : Nat) (x y : Nat → Int) (l : Nat) (hl : l < n) : cycS n n x y l = linS n n x y l + (if l + n < 2 * n - 1 then linS n n x y (l + n) else 0) := by
  have e0 : ∀ k, k < n + n - 1 → linS n n x y k = sz (fun i => sz (fun j => x i * y j * (if i + j = k then 1 else 0)) n) n := fun k hk => by
    unfold linS
    exact allS_at x y _ (n + n - 1) n n (fun i j hi hj => by omega) k hk
  have e1 : (if l + n < 2 * n - 1 then linS n n x y (l + n) else 0) = sz (fun i => sz (fun j => x i * y j * (if i + j = l + n then 1 else 0)) n) n := by
    by_cases h : l + n < 2 * n - 1
    · rw [if_pos h, e0 _ (by omega)]
    · rw [if_neg h, sz_congr (g := fun _ => 0), sz_zero]
      intro i hi
      rw [sz_congr (g := fun _ => 0), sz_zero]
      intro j hj
      rw [if_neg (by omega), Int.mul_zero]
  rw [e0 l (by omega), e1, ← sz_add]
  unfold cycS
  rw [allS_at x y _ n n n (fun i j hi hj => cyc_lt hi hj) l hl]
  refine sz_congr fun i hi => ?_
  rw [← sz_add]
  refine sz_congr fun j hj => ?_
  rw [← Int.mul_add]
  congr 1
  rcases Nat.lt_or_ge (i + j) n with h | h
  · rw [Nat.mod_eq_of_lt h]
    by_cases h2 : i + j = l
    · rw [if_pos h2, if_neg (by omega)]; rfl
    · rw [if_neg h2, if_neg (by omega)]; rfl
  · rw [Nat.mod_eq_sub_mod h, Nat.mod_eq_of_lt (by omega)]
    by_cases h2 : i + j - n = l
    · rw [if_pos h2, if_neg (by omega), if_pos (by omega)]; rfl
    · rw [if_neg h2, if_neg (by omega), if_neg (by omega)]; rfl
end Go.Proofs.YtppebegleedifaaDoor
