/- Contracts of NewReader where there are bits, and of Take. -/
import Derived.Test.YtmojlfgfaabegaaRd
namespace Go.Proofs.Ytmojlfgfaabegaa
open Go.RowKit bt

theorem splice_all (n : Nat) (z : Value) (xs : List Value) (h : xs.length = n) : splice (List.replicate n z) 0 (xs.take n) = xs := by
  rw [List.take_of_length_le (by omega)]
  simp [splice, h]

set_option maxHeartbeats 1000000 in
theorem newReader_some (w : World) (A : Option Addr) (m c : Nat) (p : List Nat) (hr : Reads w A 1 m (bytesV p)) (hm : m ≤ 1099511627776) (hp : ∀ x ∈ p, x < 256) (h : p.getLastD 0 ≠ 0) :
    Calls Try.prog 34 #[.slice A m c] w fun e w' => e = .returned (.tuple #[.pointer (some ⟨w.heap.size + 1, 0, none⟩), .int .i64 0]) ∧ ReaderIs w' (w.heap.size + 1) w.heap.size p (nBits p) 0 ∧ Only [] w w' := by
  have hpl : p.length = m := by have := hr.1; simpa [bytesV] using this
  have h0 : 0 < m := by
    rcases Nat.eq_zero_or_pos m with h0 | h0
    · have : p = [] := List.eq_nil_of_length_eq_zero (by omega)
      subst this; simp at h
    · exact h0
  obtain ⟨x, hx, hxe⟩ : ∃ x, p[m - 1]? = some x ∧ p.getLastD 0 = x := by
    have h1 : p[m - 1]? = some (p[m - 1]'(by omega)) := List.getElem?_eq_getElem (by omega)
    have h2 : p.getLastD 0 = (p[m - 1]?).getD 0 := by rw [List.getLastD_eq_getLast?, List.getLast?_eq_getElem?, hpl]
    exact ⟨_, h1, by rw [h2, h1]; rfl⟩
  have hx256 : x < 256 := hp x (List.mem_of_getElem? hx)
  have hx0 : x ≠ 0 := by rw [← hxe]; exact h
  obtain ⟨ad, u, rfl, hu, hc⟩ := hr.at_ (k := m - 1) (by omega)
  obtain rfl : u = .int .u8 (x : Int) := by
    simp only [bytesV, List.getElem?_map, hx] at hu
    simpa using hu.symm
  obtain ⟨i0, hi0, hz0, hz1, hz2⟩ := info_parts info_u8
  have hsz : (Try.prog.info? 5).map (·.size) = some 1 := by rw [hi0]; simp [hz1]
  have hz : ((m : Int) == 0) = false := by simp; omega
  have hz' : ((x : Int) == 0) = false := by simp; omega
  have hlt : (m : Int) - 1 < (m : Int) := by omega
  have hge : (0 : Int) ≤ (m : Int) - 1 := by omega
  have e : ((m : Int) - 1).toNat = m - 1 := by omega
  have htz := (tz8_spec ⟨x, hx256⟩ hx0).2.2
  simp only at htz
  have Hx := Lib.hid hx
  have Hxe := Lib.hid hxe
  have Hpl := Lib.hid hpl
  clear hu h hx hxe hpl
  go_enter Try.func34, Try.ntmps34
  go_wp2_with (at_make; refine wpList_mk _ rfl _ _ 22 rfl 5 i0 (.int .u8 0) Try.underlying22 hi0 hz0 hz1 rfl _ _ _ _ m rfl rfl (by omega) (by omega) (by rw [hz2]; omega) (by unfold maxLen; omega) ?_)
  intro w1 hb1 ho1 hs1
  have hr1 := hr.then ho1
  have hr2 := hr1.alloc (.cells #[.slice (some ⟨w.heap.size, 0, none⟩) m m, .int .i64 0, .int .i64 0] 71)
  have hb2 := hb1.alloc (.cells #[.slice (some ⟨w.heap.size, 0, none⟩) m m, .int .i64 0, .int .i64 0] 71)
  have hb3 := Blk.new w1 71 #[.slice (some ⟨w.heap.size, 0, none⟩) m m, .int .i64 0, .int .i64 0]
  have ho2 := ho1.alloc (.cells #[.slice (some ⟨w.heap.size, 0, none⟩) m m, .int .i64 0, .int .i64 0] 71)
  have Hs1 := Lib.hid hs1
  clear hs1
  go_wp2_with (with_reducible refine wpList_cp _ rfl _ _ 22 22 rfl 5 Try.underlying22 hsz w.heap.size 0 _ _ (some ad) _ c rfl rfl _ 5 hb2 _ hr2 (by simp) (bytesV_one _) ?_)
  intro w2 hb4 ho3
  rw [splice_all m _ _ (by simp [bytesV]; exact Hpl.out)] at hb4
  have hsw : w.heap.size ≠ w1.heap.size := by have := Hs1.out; omega
  have hb5 := hb3.only ho3 (by simp; omega)
  have hr3 := hr.then (ho2.first ho3 (by simp))
  have ho4 : Only [] w w2 := ho2.first ho3 (by simp)
  have hcx : w2.cell? (ad.add (m - 1)) = some (.int .u8 (x : Int)) := by
    obtain ⟨ad', u', e1, hu', hc'⟩ := hr3.at_ (k := m - 1) (by omega)
    injection e1 with e1
    subst e1
    rw [hc']
    simp only [bytesV, List.getElem?_map, Hx.out] at hu'
    simpa using hu'.symm
  have hf1 := hb5.frozen 1
  have hg1 := hb5.cell 1
  simp only [List.getElem?_toArray, List.getElem?_cons_succ, List.getElem?_cons_zero] at hg1
  clear hb2 hb3 ho2 hr1 hr2 hc
  go_wp2_with (go_at_call 58; refine (tz8_any _ _ (by omega) (by omega)).mono ?_; rintro e w' ⟨rfl, rfl⟩)
  go_ret2
  have hs := Hs1.out
  have hset := hb5.set_ 1 (.int .i64 (8 * (m : Int) - 1 - (Lib.trailingZeros8 x : Int)))
  simp only
  refine ⟨by rw [← hs]; rfl, ⟨?_, ?_, Nat.zero_le _, ?_, by have := Hpl.out; omega, hp⟩, ho4.setCell (.inr (by show w.heap.size ≤ w1.heap.size; omega)) _⟩
  · rw [hs] at hset
    have e2 : ((nBits p : Nat) : Int) = 8 * (m : Int) - 1 - (Lib.trailingZeros8 x : Int) := by
      unfold nBits; rw [Hxe.out, Hpl.out]; omega
    rw [Hpl.out, e2, hs]
    simpa using hset
  · exact hb4.far (p := ⟨w1.heap.size, 1, none⟩) hsw _
  · unfold nBits; rw [Hpl.out]; omega

theorem take_arg (w : World) (g : Nat) (k : Int) (h : k < 0 ∨ 32 < k) :
    Calls Try.prog 59 #[.pointer (some ⟨g, 0, none⟩), .int .i64 k] w fun e w' => e = .returned (.tuple #[.int .u32 0, .int .i64 1]) ∧ w = w' := by
  rcases h with h | h
  · have hd1 : decide (k < 0) = true := by simpa using h
    go_enter Try.func59, Try.ntmps59
    go_wp2
    go_ret2
    exact ⟨rfl, rfl⟩
  · have hd1 : decide (k < 0) = false := by simp; omega
    have hd2 : decide (32 < k) = true := by simpa using h
    go_enter Try.func59, Try.ntmps59
    go_wp2
    go_ret2
    exact ⟨rfl, rfl⟩
theorem take_nil (w : World) (k : Int) :
    Calls Try.prog 59 #[.pointer none, .int .i64 k] w fun e w' => e = .returned (.tuple #[.int .u32 0, .int .i64 1]) ∧ w = w' := by
  go_enter Try.func59, Try.ntmps59
  go_wp2
  go_ret2
  exact ⟨rfl, rfl⟩
theorem take_short (w : World) (g b : Nat) (p : List Nat) (n at_ k : Nat) (h : ReaderIs w g b p n at_) (hk : k ≤ 32) (hs : n < at_ + k) :
    Calls Try.prog 59 #[.pointer (some ⟨g, 0, none⟩), .int .i64 (k : Int)] w fun e w' => e = .returned (.tuple #[.int .u32 0, .int .i64 4]) ∧ w.drew = w' := by
  obtain ⟨hb, _, h1, h2, h3, _⟩ := h
  have hc1 := hb.cell 1
  have hc2 := hb.cell 2
  simp only [List.getElem?_toArray, List.getElem?_cons_succ, List.getElem?_cons_zero] at hc1 hc2
  have hd1 : decide ((k : Int) < 0) = false := by simp
  have hd2 : decide ((32 : Int) < (k : Int)) = false := by simp; omega
  clear hb
  go_enter Try.func59, Try.ntmps59
  go_wp2
  go_region
  all_goals go_wp2
  go_ret2
  exact ⟨rfl, rfl⟩

/-- The next bit, as the walk has it. -/
theorem take_bit (p : List Nat) (i : Nat) (x : Nat) (hp : x < 256) (hx : p[i / 8]? = some x) : bits BinOp.and IntKind.u8 ((x : Int) / 2 ^ (7 - i % 8)) 1 = ((bitAt p i).toNat : Int) := by
  have e : ((x : Int) / 2 ^ (7 - i % 8)) = ((x / 2 ^ (7 - i % 8) : Nat) : Int) := by simp
  have hle : x / 2 ^ (7 - i % 8) ≤ x := Nat.div_le_self _ _
  rw [e, show (1 : Int) = ((1 : Nat) : Int) from rfl, u8_and_nat _ _ (by omega) (by omega), Nat.and_one_is_mod]
  unfold bitAt
  rw [List.getD_eq_getElem?_getD, hx, Option.getD_some, Nat.testBit_eq_decide_div_mod_eq]
  have h2 : x / 2 ^ (7 - i % 8) % 2 < 2 := Nat.mod_lt _ (by omega)
  by_cases h : x / 2 ^ (7 - i % 8) % 2 = 1
  · rw [h]; simp
  · have : x / 2 ^ (7 - i % 8) % 2 = 0 := by omega
    rw [this]; simp
theorem take_num (l : List Bool) (b : Bool) (h : l.length < 32) : bits BinOp.or IntKind.u32 ((num l : Int) * 2 % 4294967296) ((b.toNat : Int)) = (num (l ++ [b]) : Int) := by
  have h1 := num_lt l
  have h2 : 2 ^ l.length ≤ 2 ^ 31 := Nat.pow_le_pow_right (by omega) (by omega)
  have hb : b.toNat < 2 := by cases b <;> decide
  have e : ((num l : Int) * 2 % 4294967296) = ((2 * num l : Nat) : Int) := by omega
  rw [e, u32_or_nat _ _ (by omega) (by omega), num_snoc]
  have := nat_join 1 (2 * num l) b.toNat (by simp) (by omega)
  rw [this]

theorem reader_step {wr : World} {g b : Nat} {p : List Nat} {n at_ q aq : Nat} (h : ReaderIs wr g b p n (at_ + q)) (haq : aq = at_ + q) (hle : at_ + q + 1 ≤ n) :
    ReaderIs (wr.setCell ⟨g, 2, none⟩ (.int .i64 ((aq : Int) + 1))).drew g b p n (at_ + (q + 1)) := by
  subst haq
  refine ⟨?_, (h.2.1.far (p := ⟨g, 2, none⟩) (Ne.symm h.ne) _).drew, by omega, h.2.2.2⟩
  have h1 := (h.1.set_ 2 (.int .i64 (((at_ + q : Nat) : Int) + 1))).drew
  have e : ((at_ + (q + 1) : Nat) : Int) = ((at_ + q : Nat) : Int) + 1 := by omega
  rw [e]
  simpa using h1

set_option maxHeartbeats 1000000 in
theorem take_ok (w : World) (g b : Nat) (p : List Nat) (n at_ k : Nat) (h : ReaderIs w g b p n at_) (hk : k ≤ 32) (hs : at_ + k ≤ n) :
    Calls Try.prog 59 #[.pointer (some ⟨g, 0, none⟩), .int .i64 (k : Int)] w fun e w' => e = .returned (.tuple #[.int .u32 (num (window (bitsIn p n) at_ k) : Int), .int .i64 0]) ∧ ReaderIs w' g b p n (at_ + k) ∧ Only [g] w w' := by
  have Hh := Lib.hid h
  have hgb := h.ne
  obtain ⟨hb, _, h1, h2, h3, _⟩ := h
  have hc1 := hb.cell 1
  have hc2 := hb.cell 2
  simp only [List.getElem?_toArray, List.getElem?_cons_succ, List.getElem?_cons_zero] at hc1 hc2
  have hd1 : decide ((k : Int) < 0) = false := by simp
  have hd2 : decide ((32 : Int) < (k : Int)) = false := by simp; omega
  have hd3 : decide (((n : Int) - (at_ : Int)) < (k : Int)) = false := by simp; omega
  clear hb
  go_enter Try.func59, Try.ntmps59
  go_wp2
  go_region
  all_goals go_wp2
  clear hc1 hc2 hd1 hd2 hd3
  go_loopw [6, 30] (fun v i wr => ∃ q : Nat, q ≤ k ∧ i = .int .i64 q ∧ v = .int .u32 (num (window (bitsIn p n) at_ q) : Int) ∧ ReaderIs wr g b p n (at_ + q) ∧ Only [g] w wr) (fun _ i _ => k - (intOf i).toNat)
  case atStart => exact ⟨0, Nat.zero_le _, rfl, rfl, Hh.out, (Only.refl _ _).drew⟩
  case round =>
    obtain ⟨q, hq, rfl, rfl, hrd, ho⟩ := hrel
    by_cases hlt : q < k
    · have Hrd := Lib.hid hrd
      obtain ⟨hb, hbb, h4, h5, h6, hp⟩ := hrd
      have hc0 := hb.cell 0
      have hc2 := hb.cell 2
      have hf2 := hb.frozen 2
      simp only [List.getElem?_toArray, List.getElem?_cons_succ, List.getElem?_cons_zero] at hc0 hc2
      have hcx := hbb.cell ((at_ + q) / 8)
      obtain ⟨x, hx⟩ : ∃ x, p[(at_ + q) / 8]? = some x := ⟨_, List.getElem?_eq_getElem (by omega)⟩
      have hx256 := hp x (List.mem_of_getElem? hx)
      have hxv : (bytesV p).toArray[(at_ + q) / 8]? = some (.int .u8 (x : Int)) := by simp [bytesV, hx]
      rw [hxv] at hcx
      have Hx := Lib.hid hx
      have hl1 : ((at_ + q : Nat) : Int) / 8 < (p.length : Int) := by omega
      have hl2 : (0 : Int) ≤ ((at_ + q : Nat) : Int) / 8 := by omega
      have hab : at_ + q ≤ 8796093022208 := by omega
      obtain ⟨aq, haq⟩ : ∃ aq, aq = at_ + q := ⟨_, rfl⟩
      have Haq := Lib.hid haq
      rw [← haq] at hc2 hcx hl1 hl2 hb hab
      clear hx hxv haq hb hbb h4 h5 hp
      go_wp2_with fail
      go_region
      all_goals go_wp2_with fail
      go_roundw
      case rel =>
        have hx1 := Hx.out
        rw [← Haq.out] at hx1
        have hbit : bits BinOp.or IntKind.u32 ((num (window (bitsIn p n) at_ q) : Int) * 2 % 4294967296) (bits BinOp.and IntKind.u8 ((x : Int) / 2 ^ (7 - aq % 8)) 1 % 4294967296) = (num (window (bitsIn p n) at_ (q + 1)) : Int) := by
          rw [take_bit p aq x hx256 hx1]
          have hb2 : (bitAt p aq).toNat < 2 := by cases bitAt p aq <;> decide
          have e1 : ((bitAt p aq).toNat : Int) % 4294967296 = ((bitAt p aq).toNat : Int) := by omega
          have hwl := window_length (bitsIn p n) at_ q (by rw [bitsIn_length]; omega)
          rw [e1, take_num _ _ (by omega), ← window_snoc _ _ _ _ (by rw [← Haq.out]; exact bitsIn_get p n aq (by have := Haq.out; omega))]
        exact ⟨q + 1, by omega, by go_num, by rw [hbit], reader_step Hrd.out Haq.out (by omega), (ho.setCell (p := ⟨g, 2, none⟩) (.inl (by simp)) _).drew⟩
      case measure => simp [intOf]; omega
    · go_wp2
      go_ret2
      have : q = k := by omega
      subst this
      exact ⟨rfl, hrd, ho⟩
end Go.Proofs.Ytmojlfgfaabegaa
