/- The bound in plain terms: at least 1, monotonous, and a bound of the error. -/
import Derived.Test.YtdcbkmjmakogeaaQc
namespace Go.Proofs.Ytdcbkmjmakogeaa
open Go.RowKit

theorem sumTo_le {f g : Nat → Int} : ∀ n, (∀ k, k < n → f k ≤ g k) → sumTo f n ≤ sumTo g n
  | 0, _ => by simp [sumTo]
  | n + 1, h => by
    have := sumTo_le n (fun k hk => h k (by omega))
    have := h n (by omega)
    simp only [sumTo]; omega
theorem mx_le {f g : Nat → Int} : ∀ n, (∀ k, k < n → f k ≤ g k) → mx f n ≤ mx g n
  | 0, _ => by simp [mx]
  | n + 1, h => by
    have := mx_le n (fun k hk => h k (by omega))
    have := h n (by omega)
    simp only [mx]; omega
theorem le_mx {f : Nat → Int} : ∀ n k, k < n → f k ≤ mx f n
  | 0, _, h => absurd h (by omega)
  | n + 1, k, h => by
    simp only [mx]
    rcases Nat.lt_or_ge k n with h1 | h1
    · have := le_mx (f := f) n k h1; omega
    · obtain rfl : k = n := by omega
      omega
theorem bt_le {m c : Nat → Int} {q p : Int} {k l n : Nat} (hk : k < 8) (hl : l < 8) (hn : n < 64) (hm : 0 ≤ m n) (hmc : m n ≤ c n) (hq : 0 ≤ q) (hqp : q ≤ p) : bt m q k l n ≤ bt c p k l n := by
  have h1 : m n * q ≤ c n * q := Int.mul_le_mul_of_nonneg_right hmc hq
  have h2 : c n * q ≤ c n * p := Int.mul_le_mul_of_nonneg_left hqp (by omega)
  have h3 : m n * q * Gk n ≤ c n * p * Gk n := Int.mul_le_mul_of_nonneg_right (by omega) (by have := Gk_bd hn; omega)
  exact Int.mul_le_mul_of_nonneg_left h3 (mul_pos_bd (At_bd (by omega) hk) (At_bd (by omega) hl)).1
theorem bnd_mono {m c : Nat → Int} {q p : Int} (hm : mayB m q = true) (hc : mayB c p = true) (hmc : ∀ n, n < 64 → m n ≤ c n) (hqp : q ≤ p) : bnd m q ≤ bnd c p := by
  have hq := may_q hm
  have hv := may_v hm
  have h1 : mx (bs m q) 64 ≤ mx (bs c p) 64 := mx_le 64 fun n hn => sumTo_le 64 fun i hi => bt_le (by omega) (by omega) hi (by have := hv i hi; omega) (hmc i hi) (by omega) hqp
  unfold bnd
  rw [if_pos hm, if_pos hc]
  omega
theorem least_sum : 547363225600 ≤ sumTo (bt (fun _ => 8) 1 0 0) 64 := by decide +kernel
theorem bnd_pos {m : Nat → Int} {q : Int} (hm : mayB m q = true) : 1 ≤ bnd m q := by
  have hq := may_q hm
  have hv := may_v hm
  have h1 : sumTo (bt (fun _ => 8) 1 0 0) 64 ≤ sumTo (bt m q 0 0) 64 := sumTo_le 64 fun i hi => bt_le (by omega) (by omega) hi (by omega) (hv i hi) (by omega) hq.1
  have h2 := le_mx (f := bs m q) 64 0 (by omega)
  have h3 : bs m q 0 = sumTo (bt m q 0 0) 64 := rfl
  have h4 := least_sum
  unfold bnd
  rw [if_pos hm]
  omega
theorem sumTo_absE (a d e : Nat → Int) : ∀ n, (∀ k, k < n → -e k ≤ d k ∧ d k ≤ e k) → -(sumTo (fun k => absI (a k) * e k) n) ≤ sumTo (fun k => a k * d k) n ∧ sumTo (fun k => a k * d k) n ≤ sumTo (fun k => absI (a k) * e k) n
  | 0, _ => by simp [sumTo]
  | n + 1, h => by
    have ih := sumTo_absE a d e n (fun k hk => h k (by omega))
    have hn := absI_mul (a := a n) (h n (by omega))
    simp only [sumTo]
    omega
theorem absI_TM : ∀ i : Fin 8, ∀ k : Fin 8, absI (T i.val k.val * Mm i.val) = At i.val k.val := by decide +kernel
/-- The inverse's sums, of values that need no clamping. -/
def lin (z : Nat → Int) (k l : Nat) : Int := sumTo (fun i => T i k * Mm i * sumTo (fun j => T j l * Mm j * z (8 * i + j)) 8) 8
theorem sumI_lin {z : Nat → Int} (hz : Bd z 2097152) (k l : Nat) (hl : l < 8) : sumI z (8 * k + l) = lin z k l := by
  rw [sumI_at z k l hl]
  unfold lin
  apply sumTo_congr
  intro i hi
  rw [rowI_at z i l hl]
  congr 1
  apply sumTo_congr
  intro j hj
  rw [cl_id (hz _ (by omega))]
theorem lin_add (y d : Nat → Int) (k l : Nat) : lin (fun n => y n + d n) k l = lin y k l + lin d k l := by
  unfold lin
  rw [← sumTo_add]
  apply sumTo_congr
  intro i _
  rw [← Int.mul_add, ← sumTo_add]
  congr 1
  apply sumTo_congr
  intro j _
  rw [Int.mul_add]
theorem lin_two (d : Nat → Int) (k l : Nat) : lin (fun n => 2 * d n) k l = 2 * lin d k l := by
  unfold lin
  rw [← sumTo_mul]
  apply sumTo_congr
  intro i _
  have : sumTo (fun j => T j l * Mm j * (2 * d (8 * i + j))) 8 = 2 * sumTo (fun j => T j l * Mm j * d (8 * i + j)) 8 := by
    rw [← sumTo_mul]
    apply sumTo_congr
    intro j _
    rw [← Int.mul_assoc, Int.mul_comm _ 2, Int.mul_assoc]
  rw [this, ← Int.mul_assoc, Int.mul_comm _ 2, Int.mul_assoc]
theorem lin_bd {d s : Nat → Int} (h : ∀ n, n < 64 → -s n ≤ d n ∧ d n ≤ s n) (k l : Nat) (hk : k < 8) (hl : l < 8) :
    -(sumTo (fun n => At (n / 8) k * At (n % 8) l * s n) 64) ≤ lin d k l ∧ lin d k l ≤ sumTo (fun n => At (n / 8) k * At (n % 8) l * s n) 64 := by
  have e : sumTo (fun n => At (n / 8) k * At (n % 8) l * s n) 64 = sumTo (fun i => absI (T i k * Mm i) * sumTo (fun j => absI (T j l * Mm j) * s (8 * i + j)) 8) 8 := by
    rw [sum64]
    apply sumTo_congr
    intro i hi
    rw [← sumTo_mul]
    apply sumTo_congr
    intro j hj
    rw [absI_TM ⟨i, hi⟩ ⟨k, hk⟩, absI_TM ⟨j, hj⟩ ⟨l, hl⟩]
    simp only
    rw [show (8 * i + j) / 8 = i by omega, show (8 * i + j) % 8 = j by omega, Int.mul_assoc]
  rw [e]
  unfold lin
  exact sumTo_absE (fun i => T i k * Mm i) _ _ 8 fun i hi => sumTo_absE (fun j => T j l * Mm j) (fun j => d (8 * i + j)) (fun j => s (8 * i + j)) 8 fun j hj => h _ (by omega)
theorem err_bd {x m : Nat → Int} {q : Int} (hx : Bd x 255) (hU : U8 m) (hm : mayB m q = true) (n : Nat) (hn : n < 64) :
    -(bnd m q) ≤ inv (dqs (lvs (fw x) m q) m q) n - x n ∧ inv (dqs (lvs (fw x) m q) m q) n - x n ≤ bnd m q := by
  have hq := may_q hm
  have hv := may_v hm
  have hfw := fw_bd hx (by omega)
  have hnear : ∀ k, k < 64 → -(stp m q k) ≤ 2 * (dqs (lvs (fw x) m q) m q k - fw x k) ∧ 2 * (dqs (lvs (fw x) m q) m q k - fw x k) ≤ stp m q k := fun k hk => by
    have hs := mqg_bd (m := m k) ⟨hv k hk, (hU k hk).2⟩ hq hk
    exact lv_near (fw x k) (m k * q * Gk k) (by omega)
  have hzb : Bd (dqs (lvs (fw x) m q) m q) 2097152 := fun k hk => by
    have h1 := hnear k hk
    have h2 := hfw k hk
    have hs := mqg_bd (m := m k) ⟨hv k hk, (hU k hk).2⟩ hq hk
    have h3 : stp m q k = m k * q * Gk k := rfl
    omega
  have hyb : Bd (fw x) 2097152 := fun k hk => by have := hfw k hk; omega
  generalize hz : dqs (lvs (fw x) m q) m q = z at hnear hzb
  have e1 := sumI_fw hx n hn
  have e2 : sumI z n = lin z (n / 8) (n % 8) := by have := sumI_lin hzb (n / 8) (n % 8) (by omega); rwa [at8] at this
  have e3 : sumI (fw x) n = lin (fw x) (n / 8) (n % 8) := by have := sumI_lin hyb (n / 8) (n % 8) (by omega); rwa [at8] at this
  have e4 : lin z (n / 8) (n % 8) = lin (fw x) (n / 8) (n % 8) + lin (fun k => z k - fw x k) (n / 8) (n % 8) := by
    rw [← lin_add]
    congr 1
    funext k; omega
  have e5 := lin_two (fun k => z k - fw x k) (n / 8) (n % 8)
  have h6 := lin_bd hnear (n / 8) (n % 8) (by omega) (by omega)
  have h7 := le_mx (f := bs m q) 64 n hn
  have h8 : bs m q n = sumTo (fun i => At (i / 8) (n / 8) * At (i % 8) (n % 8) * stp m q i) 64 := rfl
  rw [h8] at h7
  have h9 : bnd m q = (mx (bs m q) 64 + 547363225600) / 1094726451200 := by unfold bnd; rw [if_pos hm]
  have h10 : inv z n = (2 * sumI z n + 547363225600) / 1094726451200 := rfl
  rw [h9, h10]
  generalize mx (bs m q) 64 = M at h7
  generalize sumTo (fun i => At (i / 8) (n / 8) * At (i % 8) (n % 8) * stp m q i) 64 = B at h6 h7
  rw [e5] at h6
  generalize lin (fun k => z k - fw x k) (n / 8) (n % 8) = D at e4 h6
  omega
end Go.Proofs.Ytdcbkmjmakogeaa
