/- The transform in plain terms: what undoes what, energy, bounds. No program in sight. -/
import Derived.Test.YtmjjdehicngffaaDoorTp
namespace Go.Proofs.YtmjjdehicngffaaDoor

theorem sumTo_add (f g : Nat → Int) : ∀ n, sumTo (fun k => f k + g k) n = sumTo f n + sumTo g n
  | 0 => rfl
  | n + 1 => by simp only [sumTo]; rw [sumTo_add f g n]; omega
theorem sumTo_mul (c : Int) (f : Nat → Int) : ∀ n, sumTo (fun k => c * f k) n = c * sumTo f n
  | 0 => by simp [sumTo]
  | n + 1 => by simp only [sumTo]; rw [sumTo_mul c f n, Int.mul_add]
theorem sumTo_zero : ∀ n, sumTo (fun _ => 0) n = 0
  | 0 => rfl
  | n + 1 => by simp only [sumTo]; rw [sumTo_zero n]; rfl
theorem sumTo_swap (f : Nat → Nat → Int) (m : Nat) : ∀ n, sumTo (fun i => sumTo (fun k => f i k) m) n = sumTo (fun k => sumTo (fun i => f i k) n) m
  | 0 => by simp only [sumTo]; rw [sumTo_zero]
  | n + 1 => by simp only [sumTo]; rw [sumTo_swap f m n, ← sumTo_add]
/-- Two sums with factors may change places. -/
theorem sumTo_cross (a b : Nat → Int) (f : Nat → Nat → Int) (n m : Nat) : sumTo (fun i => a i * sumTo (fun k => b k * f i k) m) n = sumTo (fun k => b k * sumTo (fun i => a i * f i k) n) m := by
  have e1 : ∀ i, a i * sumTo (fun k => b k * f i k) m = sumTo (fun k => a i * (b k * f i k)) m := fun i => (sumTo_mul _ _ _).symm
  have e2 : ∀ k, b k * sumTo (fun i => a i * f i k) n = sumTo (fun i => b k * (a i * f i k)) n := fun k => (sumTo_mul _ _ _).symm
  simp only [e1, e2]
  rw [sumTo_swap]
  congr 1
  funext k
  congr 1
  funext i
  rw [← Int.mul_assoc, ← Int.mul_assoc, Int.mul_comm (a i)]
theorem sumTo_delta (c : Int) (f : Nat → Int) (a : Nat) : ∀ n, sumTo (fun k => (if k = a then c else 0) * f k) n = if a < n then c * f a else 0
  | 0 => rfl
  | n + 1 => by
    simp only [sumTo]
    rw [sumTo_delta c f a n]
    by_cases h1 : a < n
    · have h2 : ¬ n = a := by omega
      have h3 : a < n + 1 := by omega
      simp [h1, h2, h3]
    · by_cases h2 : n = a
      · subst h2; simp
      · have h3 : ¬ a < n + 1 := by omega
        simp [h1, h2, h3]
theorem orthoK : ∀ k : Fin 8, ∀ k' : Fin 8, sumTo (fun i => T i k.val * Mm i * T i k'.val) 8 = if k'.val = k.val then 739840 else 0 := by decide +kernel
theorem orthoI : ∀ i : Fin 8, ∀ i' : Fin 8, sumTo (fun k => T i.val k * T i'.val k) 8 * Mm i'.val = if i'.val = i.val then 739840 else 0 := by decide +kernel
/-- Back, in one direction of the block. -/
theorem inv1 (v : Nat → Int) (k : Nat) (hk : k < 8) : sumTo (fun i => T i k * Mm i * sumTo (fun k' => T i k' * v k') 8) 8 = 739840 * v k := by
  have e1 : ∀ i, T i k * Mm i * sumTo (fun k' => T i k' * v k') 8 = sumTo (fun k' => T i k * Mm i * (T i k' * v k')) 8 := fun i => (sumTo_mul _ _ _).symm
  simp only [e1]
  rw [sumTo_swap]
  have e2 : ∀ k', k' < 8 → sumTo (fun i => T i k * Mm i * (T i k' * v k')) 8 = (if k' = k then 739840 else 0) * v k' := by
    intro k' hk'
    have := orthoK ⟨k, hk⟩ ⟨k', hk'⟩
    simp only at this
    rw [← this, Int.mul_comm _ (v k'), ← sumTo_mul]
    congr 1
    funext i
    rw [← Int.mul_assoc, Int.mul_comm (v k')]
  rw [sumTo_congr 8 e2, sumTo_delta, if_pos hk]
/-- Forth, in one direction. -/
theorem fwd1 (v : Nat → Int) (i : Nat) (hi : i < 8) : sumTo (fun k => T i k * sumTo (fun i' => T i' k * Mm i' * v i') 8) 8 = 739840 * v i := by
  have e1 : ∀ k, T i k * sumTo (fun i' => T i' k * Mm i' * v i') 8 = sumTo (fun i' => T i k * (T i' k * Mm i' * v i')) 8 := fun k => (sumTo_mul _ _ _).symm
  simp only [e1]
  rw [sumTo_swap]
  have e2 : ∀ i', i' < 8 → sumTo (fun k => T i k * (T i' k * Mm i' * v i')) 8 = (if i' = i then 739840 else 0) * v i' := by
    intro i' hi'
    have := orthoI ⟨i, hi⟩ ⟨i', hi'⟩
    simp only at this
    rw [← this, Int.mul_assoc, Int.mul_comm _ (Mm i' * v i'), ← sumTo_mul]
    congr 1
    funext k
    rw [Int.mul_assoc (T i' k), ← Int.mul_assoc (T i k), Int.mul_comm (Mm i' * v i')]
  rw [sumTo_congr 8 e2, sumTo_delta, if_pos hi]
def absI (a : Int) : Int := max a (-a)
theorem absI_mul {a b B : Int} (hb : -B ≤ b ∧ b ≤ B) : -(absI a * B) ≤ a * b ∧ a * b ≤ absI a * B := mul_bd (by unfold absI; omega) hb
theorem sumTo_abs (a v : Nat → Int) (B : Int) : ∀ n, (∀ k, k < n → -B ≤ v k ∧ v k ≤ B) → -(sumTo (fun k => absI (a k)) n * B) ≤ sumTo (fun k => a k * v k) n ∧ sumTo (fun k => a k * v k) n ≤ sumTo (fun k => absI (a k)) n * B
  | 0, _ => by simp [sumTo]
  | n + 1, h => by
    have ih := sumTo_abs a v B n (fun k hk => h k (by omega))
    have hn := absI_mul (a := a n) (h n (by omega))
    simp only [sumTo, Int.add_mul]
    omega
/-- The sum of the absolute values of a row. -/
def Ab (i : Nat) : Int := sumTo (fun k => absI (T i k)) 8
theorem Ab_le : ∀ i : Fin 8, 0 ≤ Ab i.val ∧ Ab i.val ≤ 64 := by decide +kernel
theorem rowF_ab {x : Nat → Int} {B : Int} (h : Bd x B) (k j : Nat) (hk : k < 8) (hj : j < 8) : -(Ab j * B) ≤ rowF x (8 * k + j) ∧ rowF x (8 * k + j) ≤ Ab j * B := by
  rw [rowF_at x k j hj]
  exact sumTo_abs (fun l => T j l) _ B 8 (fun l hl => h _ (by omega))
theorem fw_ab {x : Nat → Int} {B : Int} (h : Bd x B) (i j : Nat) (hj : j < 8) : -(Ab i * (Ab j * B)) ≤ fw x (8 * i + j) ∧ fw x (8 * i + j) ≤ Ab i * (Ab j * B) := by
  rw [fw_at x i j hj]
  exact sumTo_abs (fun k => T i k) _ (Ab j * B) 8 (fun k hk => rowF_ab h k j hk hj)
theorem at8 (n : Nat) : 8 * (n / 8) + n % 8 = n := by omega
theorem fw_bd {x : Nat → Int} {B : Int} (h : Bd x B) (hB : 0 ≤ B) : Bd (fw x) (4096 * B) := by
  intro n hn
  have := fw_ab h (n / 8) (n % 8) (by omega)
  rw [at8] at this
  have h1 := Ab_le ⟨n / 8, by omega⟩
  have h2 := Ab_le ⟨n % 8, by omega⟩
  simp only at h1 h2
  have e1 : Ab (n % 8) * B ≤ 64 * B := Int.mul_le_mul_of_nonneg_right h2.2 hB
  have e0 : 0 ≤ Ab (n % 8) * B := Int.mul_nonneg h2.1 hB
  have e2 : Ab (n / 8) * (Ab (n % 8) * B) ≤ 64 * (64 * B) := Int.mul_le_mul h1.2 e1 e0 (by omega)
  omega
theorem cl_id {v : Int} (h : -2097152 ≤ v ∧ v ≤ 2097152) : cl v = v := by unfold cl; omega
theorem cl_cl (v : Int) : cl (cl v) = cl v := cl_id (cl_bd v)
/-- The sums of the inverse are Scale^2 times the block. -/
theorem sumI_fw {x : Nat → Int} (h : Bd x 255) (n : Nat) (hn : n < 64) : sumI (fw x) n = 739840 * (739840 * x n) := by
  have hb := fw_bd h (by omega)
  rw [← at8 n]
  generalize hk : n / 8 = k
  generalize hl : n % 8 = l
  have hk8 : k < 8 := by omega
  have hl8 : l < 8 := by omega
  rw [sumI_at _ k l hl8]
  have e : ∀ i, i < 8 → T i k * Mm i * rowI (fw x) (8 * i + l) = T i k * Mm i * sumTo (fun k' => T i k' * (739840 * x (8 * k' + l))) 8 := by
    intro i hi
    rw [rowI_at _ i l hl8]
    have e1 : ∀ j, j < 8 → T j l * Mm j * cl (fw x (8 * i + j)) = T j l * Mm j * sumTo (fun k' => T i k' * rowF x (8 * k' + j)) 8 := by
      intro j hj
      rw [cl_id (by have := hb (8 * i + j) (by omega); omega), fw_at x i j hj]
    rw [sumTo_congr 8 e1, sumTo_cross (fun j => T j l * Mm j) (fun k' => T i k') (fun j k' => rowF x (8 * k' + j))]
    have e2 : ∀ k', k' < 8 → T i k' * sumTo (fun j => T j l * Mm j * rowF x (8 * k' + j)) 8 = T i k' * (739840 * x (8 * k' + l)) := by
      intro k' _
      have e3 : ∀ j, j < 8 → T j l * Mm j * rowF x (8 * k' + j) = T j l * Mm j * sumTo (fun l' => T j l' * x (8 * k' + l')) 8 := fun j hj => by rw [rowF_at x k' j hj]
      rw [sumTo_congr 8 e3, inv1 (fun l' => x (8 * k' + l')) l hl8]
    rw [sumTo_congr 8 e2]
  rw [sumTo_congr 8 e, inv1 (fun k' => 739840 * x (8 * k' + l)) k hk8]
/-- Inverse undoes Forward. -/
theorem back {x : Nat → Int} (h : Bd x 255) (n : Nat) (hn : n < 64) : inv (fw x) n = x n := by
  unfold inv
  rw [sumI_fw h n hn]
  unfold near
  omega
/-- Forward undoes the sums of Inverse. -/
theorem fw_sumI {y : Nat → Int} (h : Bd y 2097152) (n : Nat) (hn : n < 64) : fw (sumI y) n = 739840 * (739840 * y n) := by
  rw [← at8 n]
  generalize hi : n / 8 = i
  generalize hj : n % 8 = j
  have hi8 : i < 8 := by omega
  have hj8 : j < 8 := by omega
  rw [fw_at _ i j hj8]
  have e : ∀ k, k < 8 → T i k * rowF (sumI y) (8 * k + j) = T i k * sumTo (fun i' => T i' k * Mm i' * (739840 * y (8 * i' + j))) 8 := by
    intro k hk
    rw [rowF_at _ k j hj8]
    have e1 : ∀ l, l < 8 → T j l * sumI y (8 * k + l) = T j l * sumTo (fun i' => T i' k * Mm i' * rowI y (8 * i' + l)) 8 := fun l hl => by rw [sumI_at y k l hl]
    rw [sumTo_congr 8 e1, sumTo_cross (fun l => T j l) (fun i' => T i' k * Mm i') (fun l i' => rowI y (8 * i' + l))]
    have e2 : ∀ i', i' < 8 → T i' k * Mm i' * sumTo (fun l => T j l * rowI y (8 * i' + l)) 8 = T i' k * Mm i' * (739840 * y (8 * i' + j)) := by
      intro i' hi'
      have e3 : ∀ l, l < 8 → T j l * rowI y (8 * i' + l) = T j l * sumTo (fun j' => T j' l * Mm j' * y (8 * i' + j')) 8 := by
        intro l hl
        rw [rowI_at y i' l hl]
        have e4 : ∀ j', j' < 8 → T j' l * Mm j' * cl (y (8 * i' + j')) = T j' l * Mm j' * y (8 * i' + j') := fun j' hj' => by rw [cl_id (h _ (by omega))]
        rw [sumTo_congr 8 e4]
      rw [sumTo_congr 8 e3, fwd1 (fun j' => y (8 * i' + j')) j hj8]
    rw [sumTo_congr 8 e2]
  rw [sumTo_congr 8 e, fwd1 (fun i' => 739840 * y (8 * i' + j)) i hi8]
theorem rowF_add (x z : Nat → Int) (n : Nat) : rowF (fun k => x k + z k) n = rowF x n + rowF z n := by
  unfold rowF
  rw [← sumTo_add]
  congr 1
  funext l
  rw [Int.mul_add]
theorem fw_add (x z : Nat → Int) (n : Nat) : fw (fun k => x k + z k) n = fw x n + fw z n := by
  unfold fw
  rw [← sumTo_add]
  congr 1
  funext k
  rw [rowF_add, Int.mul_add]
theorem rowF_mul (c : Int) (x : Nat → Int) (n : Nat) : rowF (fun k => c * x k) n = c * rowF x n := by
  unfold rowF
  rw [← sumTo_mul]
  congr 1
  funext l
  rw [← Int.mul_assoc, Int.mul_comm (T _ l), Int.mul_assoc]
theorem fw_mul (c : Int) (x : Nat → Int) (n : Nat) : fw (fun k => c * x k) n = c * fw x n := by
  unfold fw
  rw [← sumTo_mul]
  congr 1
  funext k
  rw [rowF_mul, ← Int.mul_assoc, Int.mul_comm (T _ k), Int.mul_assoc]
/-- What half a unit in each sample can cause. -/
theorem near_fw {y : Nat → Int} (h : Bd y 2097152) (n : Nat) (hn : n < 64) :
    2 * (fw (inv y) n - y n) ≤ Ab (n / 8) * Ab (n % 8) ∧ 2 * (y n - fw (inv y) n) ≤ Ab (n / 8) * Ab (n % 8) := by
  have hd : Bd (fun k => 1094726451200 * inv y k + (-2) * sumI y k) 547363225600 := by
    intro k _
    have : inv y k = (2 * sumI y k + 547363225600) / 1094726451200 := rfl
    simp only
    omega
  have := fw_ab hd (n / 8) (n % 8) (by omega)
  rw [at8, fw_add, fw_mul, fw_mul, fw_sumI h n hn, ← Int.mul_assoc] at this
  omega
/-- Rows and columns exchanged. -/
def tr (x : Nat → Int) (n : Nat) : Int := x (8 * (n % 8) + n / 8)
theorem fw_tr (x : Nat → Int) (i j : Nat) (hi : i < 8) (hj : j < 8) : fw (tr x) (8 * j + i) = fw x (8 * i + j) := by
  rw [fw_at _ j i hi, fw_at x i j hj]
  have e1 : ∀ k, k < 8 → T j k * rowF (tr x) (8 * k + i) = T j k * sumTo (fun l => T i l * x (8 * l + k)) 8 := by
    intro k hk
    rw [rowF_at _ k i hi]
    have : ∀ l, l < 8 → T i l * tr x (8 * k + l) = T i l * x (8 * l + k) := by
      intro l hl
      unfold tr
      rw [show (8 * k + l) % 8 = l by omega, show (8 * k + l) / 8 = k by omega]
    rw [sumTo_congr 8 this]
  have e2 : ∀ k, k < 8 → T i k * rowF x (8 * k + j) = T i k * sumTo (fun l => T j l * x (8 * k + l)) 8 := fun k _ => by rw [rowF_at x k j hj]
  rw [sumTo_congr 8 e1, sumTo_congr 8 e2]
  exact sumTo_cross (fun k => T j k) (fun l => T i l) (fun k l => x (8 * l + k)) 8 8
theorem inv_tr (y : Nat → Int) (k l : Nat) (hk : k < 8) (hl : l < 8) : inv (tr y) (8 * l + k) = inv y (8 * k + l) := by
  unfold inv
  congr 1
  rw [sumI_at _ l k hk, sumI_at y k l hl]
  have e1 : ∀ i, i < 8 → T i l * Mm i * rowI (tr y) (8 * i + k) = T i l * Mm i * sumTo (fun j => T j k * Mm j * cl (y (8 * j + i))) 8 := by
    intro i hi
    rw [rowI_at _ i k hk]
    have : ∀ j, j < 8 → T j k * Mm j * cl (tr y (8 * i + j)) = T j k * Mm j * cl (y (8 * j + i)) := by
      intro j hj
      unfold tr
      rw [show (8 * i + j) % 8 = j by omega, show (8 * i + j) / 8 = i by omega]
    rw [sumTo_congr 8 this]
  have e2 : ∀ i, i < 8 → T i k * Mm i * rowI y (8 * i + l) = T i k * Mm i * sumTo (fun j => T j l * Mm j * cl (y (8 * i + j))) 8 := fun i _ => by rw [rowI_at y i l hl]
  rw [sumTo_congr 8 e1, sumTo_congr 8 e2]
  exact sumTo_cross (fun i => T i l * Mm i) (fun j => T j k * Mm j) (fun i j => cl (y (8 * j + i))) 8 8
theorem sum64 (f : Nat → Int) : sumTo f 64 = sumTo (fun i => sumTo (fun j => f (8 * i + j)) 8) 8 := by
  simp only [sumTo]
  simp only [Nat.mul_zero, Nat.zero_add, Nat.mul_one, Nat.reduceMul, Nat.reduceAdd, Nat.add_zero]
  omega
/-- Energy in one direction. -/
theorem energy1 (v : Nat → Int) : sumTo (fun i => Mm i * (sumTo (fun k => T i k * v k) 8 * sumTo (fun k => T i k * v k) 8)) 8 = 739840 * sumTo (fun k => v k * v k) 8 := by
  have e : ∀ i, i < 8 → Mm i * (sumTo (fun k => T i k * v k) 8 * sumTo (fun k => T i k * v k) 8) = Mm i * sumTo (fun k => T i k * v k) 8 * sumTo (fun k => v k * T i k) 8 := by
    intro i _
    rw [← Int.mul_assoc]
    congr 2
    funext k
    rw [Int.mul_comm]
  rw [sumTo_congr 8 e, sumTo_cross (fun i => Mm i * sumTo (fun k => T i k * v k) 8) v (fun i k => T i k), ← sumTo_mul]
  apply sumTo_congr
  intro k hk
  have := inv1 v k hk
  have e2 : ∀ i, i < 8 → Mm i * sumTo (fun k => T i k * v k) 8 * T i k = T i k * Mm i * sumTo (fun k => T i k * v k) 8 := by
    intro i _
    rw [Int.mul_comm _ (T i k), Int.mul_assoc]
  rw [sumTo_congr 8 e2, this, ← Int.mul_assoc, Int.mul_comm (v k), Int.mul_assoc]
end Go.Proofs.YtmjjdehicngffaaDoor
