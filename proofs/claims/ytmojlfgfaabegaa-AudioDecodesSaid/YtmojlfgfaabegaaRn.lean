/- Contract of the reference's Open. -/
import Derived.Test.YtmojlfgfaabegaaRo
namespace Go.Proofs.Ytmojlfgfaabegaa
open Go.RowKit bt

theorem bitsIn_succ (p : List Nat) (i x : Nat) (hx : p[i]? = some x) : bitsIn p (8 * (i + 1)) = bitsIn p (8 * i) ++ bitsOf x 8 := by
  apply List.ext_getElem?
  intro j
  by_cases h1 : j < 8 * i
  · rw [List.getElem?_append_left (by rw [bitsIn_length]; exact h1), bitsIn_get _ _ _ (by omega), bitsIn_get _ _ _ h1]
  · rw [List.getElem?_append_right (by rw [bitsIn_length]; omega), bitsIn_length]
    by_cases h2 : j < 8 * (i + 1)
    · rw [bitsIn_get _ _ _ h2]
      simp only [bitsOf, List.getElem?_map]
      rw [List.getElem?_range (by omega)]
      have e1 : j / 8 = i := by omega
      have e2 : 7 - j % 8 = 8 - 1 - (j - 8 * i) := by omega
      unfold bitAt
      rw [List.getD_eq_getElem?_getD, e1, hx, e2]; rfl
    · rw [List.getElem?_eq_none (by rw [bitsIn_length]; omega), List.getElem?_eq_none (by rw [bitsOf_length]; omega)]
theorem bitsIn_take (p : List Nat) (n m : Nat) (h : m ≤ n) : (bitsIn p n).take m = bitsIn p m := by
  apply List.ext_getElem?
  intro j
  by_cases h1 : j < m
  · rw [List.getElem?_take_of_lt h1, bitsIn_get _ _ _ (by omega), bitsIn_get _ _ _ h1]
  · rw [List.getElem?_eq_none (by simp; omega), List.getElem?_eq_none (by rw [bitsIn_length]; omega)]
/-- The last bit that is set, and that none is behind it. -/
theorem nBits_bit (p : List Nat) (hp : ∀ x ∈ p, x < 256) (h : p.getLastD 0 ≠ 0) : nBits p < 8 * p.length ∧ bitAt p (nBits p) = true ∧ ∀ i, nBits p < i → i < 8 * p.length → bitAt p i = false := by
  have hl : 0 < p.length := by
    rcases Nat.eq_zero_or_pos p.length with h0 | h0
    · obtain rfl : p = [] := List.eq_nil_of_length_eq_zero h0
      simp at h
    · exact h0
  have hlast : p.getD (p.length - 1) 0 = p.getLastD 0 := by
    rw [List.getLastD_eq_getLast?, List.getLast?_eq_getElem?, List.getD_eq_getElem?_getD]
  have hlt : p.getLastD 0 < 256 := by
    rw [← hlast, List.getD_eq_getElem?_getD, List.getElem?_eq_getElem (by omega)]
    exact hp _ (List.getElem_mem _)
  obtain ⟨h1, h2, h3⟩ := tz8_spec ⟨p.getLastD 0, hlt⟩ h
  simp only at h1 h2 h3
  unfold nBits
  generalize hz : Lib.trailingZeros8 (p.getLastD 0) = z at *
  refine ⟨by omega, ?_, ?_⟩
  · unfold bitAt
    have e1 : (8 * p.length - 1 - z) / 8 = p.length - 1 := by omega
    have e2 : 7 - (8 * p.length - 1 - z) % 8 = z := by omega
    rw [e1, e2, hlast, Nat.testBit_eq_decide_div_mod_eq]
    simpa using h1
  · intro i hi1 hi2
    unfold bitAt
    have e1 : i / 8 = p.length - 1 := by omega
    rw [e1, hlast]
    have h4 : (p.getLastD 0 % 2 ^ z).testBit (7 - i % 8) = false := by rw [h2]; simp
    rw [Nat.testBit_mod_two_pow, decide_eq_true (by omega)] at h4
    simpa using h4

theorem payload_unique (p : List Nat) (hp : ∀ x ∈ p, x < 256) (h : p.getLastD 0 ≠ 0) : payload (bitsIn p (nBits p)) = p := by
  obtain ⟨h1, h2, h3⟩ := nBits_bit p hp h
  have h4 : 8 * p.length < nBits p + 9 := by
    have hl : 0 < p.length := by omega
    have hlast : p.getD (p.length - 1) 0 = p.getLastD 0 := by
      rw [List.getLastD_eq_getLast?, List.getLast?_eq_getElem?, List.getD_eq_getElem?_getD]
    have hlt : p.getLastD 0 < 256 := by
      rw [← hlast, List.getD_eq_getElem?_getD, List.getElem?_eq_getElem (by omega)]
      exact hp _ (List.getElem_mem _)
    have := (tz8_spec ⟨p.getLastD 0, hlt⟩ h).2.2
    simp only at this
    unfold nBits
    omega
  have e : (bitsIn p (nBits p) ++ [true]).length = nBits p + 1 := by simp [bitsIn_length]
  refine Eq.trans ?_ (pack_bitsIn p hp)
  unfold payload pack
  rw [e, bitsIn_length]
  have e2 : (nBits p + 1 + 7) / 8 = (8 * p.length + 7) / 8 := by omega
  rw [e2]
  apply List.map_congr_left
  intro j hj
  have hj' : j < p.length := by have := List.mem_range.1 hj; omega
  apply byteAt_congr
  intro i hi
  simp only [List.getD_eq_getElem?_getD]
  rw [bitsIn_get p (8 * p.length) _ (by omega)]
  rcases Nat.lt_trichotomy (8 * j + i) (nBits p) with hc | hc | hc
  · rw [List.getElem?_append_left (by rw [bitsIn_length]; exact hc), bitsIn_get _ _ _ hc]
  · rw [List.getElem?_append_right (by rw [bitsIn_length]; omega), bitsIn_length, hc, Nat.sub_self, h2]; rfl
  · rw [List.getElem?_eq_none (by rw [e]; omega), h3 _ hc (by omega)]; rfl
theorem refOpen_none (w : World) (A : Option Addr) (m c : Nat) (p : List Nat) (hr : Reads w A 1 m (bytesV p)) (hm : m ≤ 1099511627776) (h : p.getLastD 0 = 0) :
    Calls Try.prog 38 #[.slice A m c] w fun e w' => e = .returned (.tuple #[.pointer none, .int .i64 3]) ∧ w = w' := by
  have hpl : p.length = m := by have := hr.1; simpa [bytesV] using this
  by_cases h0 : m = 0
  · have hz : ((m : Int) == 0) = true := by simp; omega
    have Hr := Lib.hid hr
    clear hr
    subst h0
    go_enter Try.func38, Try.ntmps38
    go_wp2
    go_ret2
    exact ⟨rfl, rfl⟩
  · obtain ⟨ad, u, rfl, hu, hc⟩ := hr.at_ (k := m - 1) (by omega)
    have hz : ((m : Int) == 0) = false := by simp; omega
    have hx : u = .int .u8 0 := by
      simp only [bytesV, List.getElem?_map] at hu
      rw [List.getLastD_eq_getLast?, List.getLast?_eq_getElem?, hpl] at h
      cases hq : p[m - 1]? with
      | none => rw [hq] at hu; simp at hu
      | some x => rw [hq] at hu h; simp at hu h; rw [← hu, h]; rfl
    subst hx
    have hlt : (m : Int) - 1 < (m : Int) := by omega
    have hge : (0 : Int) ≤ (m : Int) - 1 := by omega
    have e : ((m : Int) - 1).toNat = m - 1 := by omega
    clear hr hu h
    go_enter Try.func38, Try.ntmps38
    go_wp2
    go_ret2
    exact ⟨rfl, rfl⟩

/-- What Open has made. -/
def RefOpened (w : World) (p : List Nat) (e : Ending) (w' : World) : Prop := ∃ g b cc, e = .returned (.tuple #[.pointer (some ⟨g, 0, none⟩), .int .i64 0]) ∧ RefIs w' g b cc (bitsIn p (nBits p)) 0 ∧ Only [] w w' ∧ w.heap.size ≤ g ∧ w.heap.size ≤ b

set_option maxHeartbeats 1000000 in
theorem refOpen_some (w : World) (A : Option Addr) (m c : Nat) (p : List Nat) (hr : Reads w A 1 m (bytesV p)) (hm : m ≤ 1000000) (hp : ∀ x ∈ p, x < 256) (h : p.getLastD 0 ≠ 0) :
    Calls Try.prog 38 #[.slice A m c] w (RefOpened w p) := by
  have hpl : p.length = m := by have := hr.1; simpa [bytesV] using this
  obtain ⟨hn1, hn2, hn3⟩ := nBits_bit p hp h
  have h0 : 0 < m := by omega
  obtain ⟨i0, hi0, hz0, hz1, hz2⟩ := info_parts info_u8
  obtain ⟨ad, u, rfl, hu, hc⟩ := hr.at_ (k := m - 1) (by omega)
  obtain ⟨x, hx⟩ : ∃ x, p[m - 1]? = some x := ⟨_, List.getElem?_eq_getElem (by omega)⟩
  obtain rfl : u = .int .u8 (x : Int) := by
    simp only [bytesV, List.getElem?_map, hx] at hu
    simpa using hu.symm
  have hx0 : x ≠ 0 := by
    rw [List.getLastD_eq_getLast?, List.getLast?_eq_getElem?, hpl, hx] at h
    simpa using h
  have hz : ((m : Int) == 0) = false := by simp; omega
  have hz' : ((x : Int) == 0) = false := by simp; omega
  have hlt : (m : Int) - 1 < (m : Int) := by omega
  have hge : (0 : Int) ≤ (m : Int) - 1 := by omega
  have e : ((m : Int) - 1).toNat = m - 1 := by omega
  have Hr := Lib.hid hr
  have Hp := Lib.hid hp
  have Hn2 := Lib.hid hn2
  have Hn3 := Lib.hid hn3
  have Hpl := Lib.hid hpl
  have hn1m : nBits p < 8 * m := by omega
  clear hu h hx hr hp hn2 hn3 hpl hn1
  go_enter Try.func38, Try.ntmps38
  go_wp2
  clear hz hz' hlt hge e hc
  go_loopw [4, 5] (fun s i wr => ∃ k : Nat, k ≤ m ∧ i = .int .i64 k ∧ ∃ A' c', s = .slice A' (8 * k) c' ∧ wr.ownsRow 0 5 1 (.slice A' (8 * k) c') (8 * k) (bytesV (flat (bitsIn p (8 * k)))) ∧ Only [] w wr ∧ Fresh w [] (rowFp (.slice A' (8 * k) c'))) (fun _ i _ => m - (intOf i).toNat)
  case atStart => exact ⟨0, Nat.zero_le _, rfl, none, 0, rfl, World.ownsRow_nil _ _ _ _, Only.refl _ _, by simp [Fresh, rowFp, Value.ownBlock]⟩
  case round =>
    obtain ⟨k, hk, rfl, A', c', rfl, hown, ho, hf⟩ := hrel
    by_cases hlt : k < m
    · obtain ⟨y, hy⟩ : ∃ y, p[k]? = some y := ⟨_, List.getElem?_eq_getElem (by have := Hpl.out; omega)⟩
      obtain ⟨ad', u', e1, hu', hc'⟩ := (Hr.out.then ho).at_ (k := k) hlt
      injection e1 with e1
      subst e1
      obtain rfl : u' = .int .u8 (y : Int) := by
        simp only [bytesV, List.getElem?_map, hy] at hu'
        simpa using hu'.symm
      have hy256 := Hp.out y (List.mem_of_getElem? hy)
      have Hy := Lib.hid hy
      have hyw : (y : Int) % 4294967296 = (y : Int) := by omega
      have hki : (k : Int) < (m : Int) := by omega
      clear hu' hy
      go_wp2_with fail
      refine (refBits_any _ y 8 (by omega) (by omega)).mono ?_
      rintro e w1 ⟨A1, c1, rfl, hown1, ho1, hf1⟩
      have hown0 := own_only hown ho1 (by simp)
      go_wp2_with (at_builtin; refine wpList_app _ rfl _ _ 22 rfl 5 i0 (.int .u8 0) 1 1 Try.underlying22 hi0 hz0 hz1 hz2 rfl (by decide) A' (8 * k) c' _ rfl hown0 A1 8 c1 _ rfl (Reads.of_own hown1) (bytesV_one _) (by unfold maxLen; omega) (by omega) ?_)
      intro A2 c2 w2 hown2 ho2 hf2
      go_wp2
      go_roundw
      case rel =>
        have e8 : 8 * k + 8 = 8 * (k + 1) := by omega
        rw [e8] at hown2 hf2
        refine ⟨k + 1, by omega, by go_num, A2, c2, ?_, ?_, ?_, ?_⟩
        · rw [← e8]
        · rw [bitsIn_succ p k y Hy.out, flat_append, bytesV_append]; exact hown2
        · exact (ho.then ho1).trans ho2 hf
        · exact hf.trans (ho.then ho1).size hf2
      case measure => simp [intOf]; omega
    · obtain rfl : k = m := by omega
      obtain ⟨r, cr, hv, hcr⟩ := own_form1 hown (by omega)
      obtain rfl : A' = some ⟨r, 0, none⟩ := by injection hv
      obtain rfl : c' = cr := by injection hv
      clear hv
      have hrw : w.heap.size ≤ r := by rcases hf r (by simp [rowFp, Value.ownBlock]) with h | h; cases h; exact h
      have hrlt := own_lt hown r (by simp [rowFp, Value.ownBlock])
      go_wp2_with fail
      obtain ⟨wo, hwo⟩ : ∃ wo : World, wo = wr := ⟨_, rfl⟩
      subst hwo
      go_loop [6] (fun i => ∃ j : Nat, nBits p ≤ j ∧ j < 8 * k ∧ i = .int .i64 j) (fun i => (intOf i).toNat)
      case atStart => exact ⟨8 * k - 1, by omega, by omega, by go_num⟩
      case round =>
        obtain ⟨j, hj1, hj2, rfl⟩ := hrel
        have hcj := hown.cellAt j (by omega)
        have hbj := bitsIn_get p (8 * k) j hj2
        have hvj := ref_bit _ _ _ hbj
        rw [hvj] at hcj
        have hji : (j : Int) < ((8 * k : Nat) : Int) := by omega
        clear hbj hvj
        by_cases hjn : nBits p < j
        · have hfb := Hn3.out j hjn (by have := Hpl.out; omega)
          rw [hfb] at hcj
          clear hfb
          go_wp2
          go_round
          case rel => exact ⟨j - 1, by omega, by omega, by go_num⟩
          case measure => simp [intOf]; omega
        · obtain rfl : j = nBits p := by omega
          have htb := Hn2.out
          rw [htb] at hcj
          have hj0 : (0 : Int) ≤ (nBits p : Int) := by omega
          have hjc : (nBits p : Int) ≤ (c' : Int) := by omega
          clear htb
          go_wp2
          go_ret2
          have hrd0 := Reads.of_own hown
          have hrd1 := hrd0.front (k := nBits p) (by omega)
          rw [Nat.mul_one] at hrd1
          have e1 : (bytesV (flat (bitsIn p (8 * k)))).take (nBits p) = bytesV (flat (bitsIn p (nBits p))) := by
            rw [← bitsIn_take p (8 * k) (nBits p) (by omega)]
            simp [bytesV, flat]
          rw [e1] at hrd1
          have hbn := Blk.new wo 74 #[.slice (some ⟨r, 0, none⟩) (nBits p) c', .int .i64 0]
          refine ⟨wo.heap.size, r, c', rfl, ⟨?_, ?_, by omega, Nat.zero_le _, by rw [bitsIn_length]; omega⟩, ho.alloc _, ho.size, hrw⟩
          · rw [bitsIn_length]; exact hbn
          · rw [bitsIn_length]; exact hrd1.alloc _

theorem drewN_drew (w : World) (m : Nat) : (w.drewN m).drew = w.drewN (m + 1) := by
  simp [World.drewN, World.drew, Nat.add_assoc]
theorem left_quiet {w : World} {g b : Nat} {p : List Nat} {n at_ : Nat} (h : ReaderIs w g b p n at_) (m : Nat) :
    Calls Try.prog 35 #[.pointer (some ⟨g, 0, none⟩)] (w.drewN m) fun e w' => e = .returned (.int .i64 ((n : Int) - (at_ : Int))) ∧ ∃ k, w' = w.drewN k :=
  (left_any (w.drewN m) g b p n at_ (h.only ((Only.refl [] _).drewN m) (by simp) (by simp))).mono fun _ _ ⟨a, b⟩ => ⟨a, m + 1, by rw [← b, drewN_drew]⟩
theorem refLeft_quiet {w : World} {g b c : Nat} {l : List Bool} {at_ : Nat} (h : RefIs w g b c l at_) (m : Nat) :
    Calls Try.prog 39 #[.pointer (some ⟨g, 0, none⟩)] (w.drewN m) fun e w' => e = .returned (.int .i64 ((l.length : Int) - (at_ : Int))) ∧ ∃ k, w' = w.drewN k :=
  (refLeft_any (w.drewN m) g b c l at_ (h.only ((Only.refl [] _).drewN m) (by simp) (by simp))).mono fun _ _ ⟨a, b⟩ => ⟨a, m + 1, by rw [← b, drewN_drew]⟩
end Go.Proofs.Ytmojlfgfaabegaa
