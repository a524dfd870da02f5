/- Plain laws of a block: a changed byte changes the sum; exponents; what a coded block is decoded to. -/
import Derived.Test.YtmojlfgfaabegaaA12
namespace Go.Proofs.Ytmojlfgfaabegaa
open bt

theorem tb_mod (n : Nat) (h : n < 16) : tb n % 16 = n := by
  have : ∀ i : Fin 16, tb i.val % 16 = i.val := by decide +kernel
  exact this ⟨n, h⟩
theorem s4_low {r n : Nat} (hr : r < 65536) (hn : n < 16) : s4 r n % 16 = (r / 4096) ^^^ n := by
  unfold s4
  have h1 := Nat.xor_mod_two_pow (a := r * 16 % 65536) (b := tb ((r / 4096) ^^^ n)) (n := 4)
  have h2 := tb_mod _ (ix_lt hr hn)
  have h3 : r * 16 % 65536 % 2 ^ 4 = 0 := by omega
  rw [h3, show (2 : Nat) ^ 4 = 16 from rfl, h2, Nat.zero_xor] at h1
  exact h1
theorem xor_r {a b c : Nat} (h : a ^^^ c = b ^^^ c) : a = b := by
  have : (a ^^^ c) ^^^ c = (b ^^^ c) ^^^ c := by rw [h]
  simpa [Nat.xor_assoc] using this
theorem xor_l {a b c : Nat} (h : c ^^^ a = c ^^^ b) : a = b := xor_r (c := c) (by rw [Nat.xor_comm a, Nat.xor_comm b, h])
theorem s4_inj {r n r' n' : Nat} (hr : r < 65536) (hn : n < 16) (hr' : r' < 65536) (hn' : n' < 16) (h : s4 r n = s4 r' n') : r % 4096 = r' % 4096 ∧ (r / 4096) ^^^ n = (r' / 4096) ^^^ n' := by
  have h1 : (r / 4096) ^^^ n = (r' / 4096) ^^^ n' := by rw [← s4_low hr hn, ← s4_low hr' hn', h]
  refine ⟨?_, h1⟩
  unfold s4 at h
  rw [h1] at h
  have h2 := xor_r h
  omega
theorem cs_inj_x {r x y : Nat} (hr : r < 65536) (hx : x < 256) (hy : y < 256) (h : cs r x = cs r y) : x = y := by
  unfold cs at h
  obtain ⟨h1, h2⟩ := s4_inj (s4_lt _ _) (by omega) (s4_lt _ _) (by omega) h
  have h3 := s4_low hr (n := x / 16) (by omega)
  have h4 := s4_low hr (n := y / 16) (by omega)
  have h5 : (r / 4096) ^^^ (x / 16) = (r / 4096) ^^^ (y / 16) := by rw [← h3, ← h4]; omega
  have h6 := xor_l h5
  rw [h6] at h2
  have h7 := xor_l h2
  omega
theorem cs_inj_r {r r' x : Nat} (hr : r < 65536) (hr' : r' < 65536) (hx : x < 256) (h : cs r x = cs r' x) : r = r' := by
  unfold cs at h
  obtain ⟨h1, h2⟩ := s4_inj (s4_lt _ _) (by omega) (s4_lt _ _) (by omega) h
  have h7 := xor_r h2
  have h8 : s4 r (x / 16) = s4 r' (x / 16) := by omega
  obtain ⟨h3, h4⟩ := s4_inj hr (by omega) hr' (by omega) h8
  have h9 := xor_r h4
  omega
theorem cs_lt (r x : Nat) : cs r x < 65536 := s4_lt _ _
theorem fold_inj : ∀ (b : List Nat) (r r' : Nat), r < 65536 → r' < 65536 → (∀ x ∈ b, x < 256) → b.foldl cs r = b.foldl cs r' → r = r'
  | [], _, _, _, _, _, h => h
  | x :: b, r, r', _, _, hb, h => by
    have := fold_inj b (cs r x) (cs r' x) (cs_lt _ _) (cs_lt _ _) (fun y hy => hb y (by simp [hy])) h
    exact cs_inj_r ‹_› ‹_› (hb x (by simp)) this
theorem fold_lt : ∀ (b : List Nat) (r : Nat), r < 65536 → b.foldl cs r < 65536
  | [], _, h => h
  | x :: b, r, _ => fold_lt b (cs r x) (cs_lt _ _)
theorem crc_set {l : List Nat} {i y : Nat} (hl : ∀ x ∈ l, x < 256) (hi : i < l.length) (hy : y < 256) (hne : y ≠ l.getD i 0) : crc (l.set i y) ≠ crc l := by
  have hx : l[i]? = some (l.getD i 0) := by rw [List.getD_eq_getElem?_getD, List.getElem?_eq_getElem hi]; rfl
  have hx8 := hl _ (List.mem_of_getElem? hx)
  obtain ⟨x, hxe⟩ : ∃ x, x = l.getD i 0 := ⟨_, rfl⟩
  rw [← hxe] at hne hx hx8
  have hs : l = l.take i ++ x :: l.drop (i + 1) := by
    have h : l[i] :: l.drop (i + 1) = l.drop i := List.getElem_cons_drop ..
    have hg : l[i] = x := by rw [List.getElem?_eq_getElem hi] at hx; simpa using hx
    rw [hg] at h
    rw [h, List.take_append_drop]
  intro h
  rw [List.set_eq_take_append_cons_drop, if_pos hi] at h
  have h2 : crc l = crc (l.take i ++ x :: l.drop (i + 1)) := by rw [← hs]
  rw [h2] at h
  unfold crc at h
  rw [List.foldl_append, List.foldl_append, List.foldl_cons, List.foldl_cons] at h
  have hr : (l.take i).foldl cs 65535 < 65536 := fold_lt _ _ (by omega)
  have h3 := fold_inj _ _ _ (cs_lt _ _) (cs_lt _ _) (fun z hz => hl z (List.mem_of_mem_drop hz)) h
  exact hne (cs_inj_x hr hy hx8 h3)
/-- The last two bytes are the sum of the others. -/
def chk (q : List Nat) : Prop := crc (q.take (q.length - 2)) = q.getD (q.length - 2) 0 * 256 + q.getD (q.length - 1) 0
theorem getD_set_ne {q : List Nat} {i j y : Nat} (h : i ≠ j) : (q.set i y).getD j 0 = q.getD j 0 := by
  rw [List.getD_eq_getElem?_getD, List.getD_eq_getElem?_getD, List.getElem?_set_ne h]
theorem getD_set_eq {q : List Nat} {i y : Nat} (h : i < q.length) : (q.set i y).getD i 0 = y := by
  rw [List.getD_eq_getElem?_getD, List.getElem?_set_self h]; rfl
theorem getD_lt {q : List Nat} (hq : ∀ x ∈ q, x < 256) (i : Nat) : q.getD i 0 < 256 := by
  rw [List.getD_eq_getElem?_getD]
  cases h : q[i]? with
  | none => simp
  | some x => exact hq x (List.mem_of_getElem? h)
theorem chk_bad {q : List Nat} {i y : Nat} (hq : ∀ x ∈ q, x < 256) (hi : i < q.length) (h2 : 2 ≤ q.length) (hy : y < 256) (hne : y ≠ q.getD i 0) (hc : chk q) : ¬ chk (q.set i y) := by
  unfold chk at hc ⊢
  rw [List.length_set]
  by_cases h : i < q.length - 2
  · rw [getD_set_ne (by omega), getD_set_ne (by omega), ← hc, List.take_set]
    refine crc_set (fun x hx => hq x (List.mem_of_mem_take hx)) (by simp; omega) hy ?_
    rw [List.getD_eq_getElem?_getD, List.getElem?_take, if_pos h, ← List.getD_eq_getElem?_getD]
    exact hne
  · rw [List.take_set_of_le (by omega), hc]
    have b1 := getD_lt hq (q.length - 1)
    by_cases h3 : i = q.length - 2
    · rw [getD_set_ne (i := i) (j := q.length - 1) (by omega), ← h3, getD_set_eq hi]
      omega
    · have h4 : i = q.length - 1 := by omega
      rw [getD_set_ne (i := i) (j := q.length - 2) (by omega), ← h4, getD_set_eq hi]
      omega
theorem TB_chk {q : List Nat} (h : (TB q).2 = 0) : chk q := by
  unfold TB at h
  split at h
  · split at h
    · assumption
    · simp at h
  · simp at h

theorem fit_mono {e e' : Nat} {x : Int} (h : fit e x = true) (he : e ≤ e') : fit e' x = true := by
  rw [fit_true] at h ⊢
  have h1 : (2 : Int) ^ e ≤ 2 ^ e' := by
    have := Nat.pow_le_pow_right (n := 2) (by omega) he
    exact_mod_cast this
  generalize (2 : Int) ^ e = a at h h1
  generalize (2 : Int) ^ e' = b at h1
  omega
def rng (l : List Int) : Prop := ∀ x ∈ l, -32768 ≤ x ∧ x ≤ 32767
theorem fit7 {x : Int} (h : -32768 ≤ x ∧ x ≤ 32767) : fit 7 x = true := by rw [fit_true]; omega
theorem up_ok (x : Int) (hx : -32768 ≤ x ∧ x ≤ 32767) : ∀ (k e : Nat), e + k = 7 → fit (up e x) x = true ∧ e ≤ up e x ∧ ∀ e', e ≤ e' → fit e' x = true → up e x ≤ e'
  | 0, e, h => by
    have he : e = 7 := by omega
    subst he
    have := fit7 hx
    rw [up_fit this]
    exact ⟨this, Nat.le_refl _, fun _ h _ => h⟩
  | k + 1, e, h => by
    by_cases hf : fit e x = true
    · rw [up_fit hf]
      exact ⟨hf, Nat.le_refl _, fun _ h _ => h⟩
    · rw [up_next hf (by omega)]
      obtain ⟨h1, h2, h3⟩ := up_ok x hx k (e + 1) (by omega)
      refine ⟨h1, by omega, fun e' he' hf' => h3 e' ?_ hf'⟩
      rcases Nat.lt_or_ge e e' with hh | hh
      · exact hh
      · have : e = e' := by omega
        subst this
        exact absurd hf' hf
theorem fold_fit : ∀ (l : List Int) (e : Nat), e ≤ 7 → rng l → (∀ x ∈ l, fit (l.foldl up e) x = true) ∧ e ≤ l.foldl up e ∧ ∀ e', e ≤ e' → (∀ x ∈ l, fit e' x = true) → l.foldl up e ≤ e'
  | [], e, _, _ => ⟨by simp, Nat.le_refl _, fun _ h _ => h⟩
  | x :: l, e, he, hl => by
    have hx := hl x (by simp)
    obtain ⟨h1, h2, h3⟩ := up_ok x hx (7 - e) e (by omega)
    obtain ⟨k1, k2, k3⟩ := fold_fit l (up e x) (up_le he x) (fun y hy => hl y (by simp [hy]))
    rw [List.foldl_cons]
    refine ⟨fun y hy => ?_, by omega, fun e' he' hf => ?_⟩
    · rcases List.mem_cons.1 hy with rfl | hy
      · exact fit_mono h1 k2
      · exact k1 y hy
    · exact k3 e' (h3 e' he' (hf x (by simp))) (fun y hy => hf y (by simp [hy]))
theorem expo_fit {l : List Int} (h : rng l) {x : Int} (hx : x ∈ l) : fit (expo l) x = true := (fold_fit l 0 (by omega) h).1 x hx
theorem expo_least {l : List Int} (h : rng l) {e : Nat} (hf : ∀ x ∈ l, fit e x = true) : expo l ≤ e := (fold_fit l 0 (by omega) h).2.2 e (by omega) hf

/-- A decoded sample. -/
def dq (e : Nat) (x : Int) : Int := x / 2 ^ e * 2 ^ e + (hlfE e : Int)
def dqr (l : List Int) : List Int := l.map (dq (expo l))
theorem le7 {e : Nat} (h : e ≤ 7) : e = 0 ∨ e = 1 ∨ e = 2 ∨ e = 3 ∨ e = 4 ∨ e = 5 ∨ e = 6 ∨ e = 7 := by omega
theorem dq_fit {e : Nat} {x : Int} (he : e ≤ 7) (h : fit e x = true) : fit e (dq e x) = true := by
  rw [fit_true] at h ⊢
  unfold dq
  rcases le7 he with rfl | rfl | rfl | rfl | rfl | rfl | rfl | rfl <;> simp [hlfE] at h ⊢ <;> omega
theorem dq_less {e : Nat} {x : Int} (he : e + 1 ≤ 7) (h : fit e (dq (e + 1) x) = true) : fit e x = true := by
  rw [fit_true] at h ⊢
  unfold dq at h
  have : e = 0 ∨ e = 1 ∨ e = 2 ∨ e = 3 ∨ e = 4 ∨ e = 5 ∨ e = 6 := by omega
  rcases this with rfl | rfl | rfl | rfl | rfl | rfl | rfl <;> simp [hlfE] at h ⊢ <;> omega
theorem dq_div {e : Nat} {x : Int} (he : e ≤ 7) : dq e x / 2 ^ e = x / 2 ^ e := by
  unfold dq
  rcases le7 he with rfl | rfl | rfl | rfl | rfl | rfl | rfl | rfl <;> simp [hlfE] <;> omega
theorem dq_near {e : Nat} {x : Int} (he : e ≤ 7) : dq e x - x ≤ (hlfE e : Int) ∧ -(dq e x - x) ≤ (hlfE e : Int) := by
  unfold dq
  rcases le7 he with rfl | rfl | rfl | rfl | rfl | rfl | rfl | rfl <;> simp [hlfE] <;> omega
theorem fit_rng {e : Nat} {x : Int} (he : e ≤ 7) (h : fit e x = true) : -32768 ≤ x ∧ x ≤ 32767 := by
  have := fit_mono h he
  rw [fit_true] at this
  omega
theorem dqr_rng {l : List Int} (h : rng l) : rng (dqr l) := by
  intro y hy
  unfold dqr at hy
  rw [List.mem_map] at hy
  obtain ⟨x, hx, rfl⟩ := hy
  exact fit_rng (expo_le l) (dq_fit (expo_le l) (expo_fit h hx))
theorem dqr_len (l : List Int) : (dqr l).length = l.length := by simp [dqr]
theorem expo_dqr {l : List Int} (h : rng l) : expo (dqr l) = expo l := by
  have h1 : expo (dqr l) ≤ expo l := expo_least (dqr_rng h) (fun y hy => by
    unfold dqr at hy
    rw [List.mem_map] at hy
    obtain ⟨x, hx, rfl⟩ := hy
    exact dq_fit (expo_le l) (expo_fit h hx))
  rcases Nat.lt_or_ge (expo (dqr l)) (expo l) with hlt | hge
  · exfalso
    obtain ⟨e, he⟩ : ∃ e, expo l = e + 1 := ⟨expo l - 1, by omega⟩
    have h7 := expo_le l
    have : expo l ≤ e := expo_least h (fun x hx => by
      have hm : dq (expo l) x ∈ dqr l := List.mem_map_of_mem hx
      have h2 := fit_mono (expo_fit (dqr_rng h) hm) (show expo (dqr l) ≤ e by omega)
      rw [he] at h2
      exact dq_less (by omega) h2)
    omega
  · omega
theorem mt_dqr {l : List Int} (h : rng l) (i : Nat) : mt (dqr l) i = mt l i := by
  unfold mt
  rw [expo_dqr h]
  congr 2
  unfold dqr
  rw [List.getD_eq_getElem?_getD, List.getD_eq_getElem?_getD, List.getElem?_map]
  cases hx : l[i]? with
  | none => rfl
  | some x => exact dq_div (expo_le l)
theorem chn_dqr {l : List Int} (h : rng l) : ∀ k, chn (dqr l) k = chn l k
  | 0 => by simp only [chn]; rw [expo_dqr h]
  | k + 1 => by simp only [chn]; rw [chn_dqr h k, mt_dqr h]
theorem getD_map_dqr (ls : List (List Int)) (k : Nat) : (ls.map dqr).getD k [] = dqr (ls.getD k []) := by
  rw [List.getD_eq_getElem?_getD, List.getD_eq_getElem?_getD, List.getElem?_map]
  cases ls[k]? <;> rfl
theorem rng_getD {ls : List (List Int)} (h : ∀ l ∈ ls, rng l) (k : Nat) : rng (ls.getD k []) := by
  rw [List.getD_eq_getElem?_getD]
  cases hx : ls[k]? with
  | none => intro x hx'; simp at hx'
  | some l => exact h l (List.mem_of_getElem? hx)
theorem chs_dqr {ls : List (List Int)} (h : ∀ l ∈ ls, rng l) : ∀ k, chs (ls.map dqr) k = chs ls k
  | 0 => rfl
  | k + 1 => by simp only [chs]; rw [chs_dqr h k, getD_map_dqr, chn_dqr (rng_getD h k)]
theorem headD_dqr (ls : List (List Int)) : ((ls.map dqr).headD []).length = (ls.headD []).length := by
  cases ls with
  | nil => rfl
  | cons l m => exact dqr_len l
theorem pr_dqr (ls : List (List Int)) (m : Int) : pr (ls.map dqr) m = pr ls m := by
  unfold pr
  rw [headD_dqr, List.length_map, List.all_map]
  congr 2
  congr 1
  funext l
  simp [dqr_len]
theorem PB_dqr {ls : List (List Int)} (h : ∀ l ∈ ls, rng l) : PB (ls.map dqr) = PB ls := by
  unfold PB
  rw [pr_dqr, headD_dqr, List.length_map, chs_dqr h]

theorem window_mid (a b c : List Bool) : window (a ++ (b ++ c)) a.length b.length = b := by
  unfold window
  rw [List.drop_left, List.take_left]
theorem chn_pre (l : List Int) : ∀ (k i : Nat), i < k → ∃ r, chn l k = chn l i ++ (bitsOf (mt l i) 9 ++ r)
  | k + 1, i, h => by
    by_cases hik : i = k
    · subst hik
      exact ⟨[], by simp [chn]⟩
    · obtain ⟨r, hr⟩ := chn_pre l k i (by omega)
      exact ⟨r ++ bitsOf (mt l k) 9, by simp only [chn]; rw [hr]; simp⟩
theorem chn_head (l : List Int) : ∀ k, ∃ r, chn l k = bitsOf (expo l) 4 ++ r
  | 0 => ⟨[], by simp [chn]⟩
  | k + 1 => by
    obtain ⟨r, hr⟩ := chn_head l k
    exact ⟨r ++ bitsOf (mt l k) 9, by simp only [chn]; rw [hr]; simp⟩
theorem chs_pre (ls : List (List Int)) : ∀ (k c : Nat), c < k → ∃ r, chs ls k = chs ls c ++ (chn (ls.getD c []) 32 ++ r)
  | k + 1, c, h => by
    by_cases hck : c = k
    · subst hck
      exact ⟨[], by simp [chs]⟩
    · obtain ⟨r, hr⟩ := chs_pre ls k c (by omega)
      exact ⟨r ++ chn (ls.getD k []) 32, by simp only [chs]; rw [hr]; simp⟩
theorem shf_chs {ls : List (List Int)} {k c : Nat} (h : c < k) : shf (chs ls k) c = expo (ls.getD c []) := by
  obtain ⟨r, hr⟩ := chs_pre ls k c h
  obtain ⟨s, hs⟩ := chn_head (ls.getD c []) 32
  unfold shf fld
  have := window_mid (chs ls c) (bitsOf (expo (ls.getD c [])) 4) (s ++ r)
  rw [chs_len, bitsOf_length] at this
  rw [hr, hs, List.append_assoc, this]
  exact num_bitsOf_lt _ _ (by have := expo_le (ls.getD c []); omega)
theorem mnt_chs {ls : List (List Int)} {k c i : Nat} (h : c < k) (hi : i < 32) : mnt (chs ls k) c i = mt (ls.getD c []) i := by
  obtain ⟨r, hr⟩ := chs_pre ls k c h
  obtain ⟨s, hs⟩ := chn_pre (ls.getD c []) 32 i hi
  unfold mnt fld
  have := window_mid (chs ls c ++ chn (ls.getD c []) i) (bitsOf (mt (ls.getD c []) i) 9) (s ++ r)
  rw [List.length_append, chs_len, chn_len, bitsOf_length] at this
  rw [hr, hs, List.append_assoc, List.append_assoc, ← List.append_assoc (chs ls c), show 292 * c + 4 + 9 * i = 292 * c + (4 + 9 * i) by omega, this]
  exact num_bitsOf_lt _ _ (mt_lt _ _)
theorem sgn_mt {l : List Int} (h : rng l) {i : Nat} {x : Int} (hx : l[i]? = some x) : sgn (mt l i) = x / 2 ^ expo l := by
  have hf := expo_fit h (List.mem_of_getElem? hx)
  have he := expo_le l
  unfold mt sgn
  rw [List.getD_eq_getElem?_getD, hx, Option.getD_some]
  rw [fit_true] at hf
  have hb : -256 ≤ x / 2 ^ expo l ∧ x / 2 ^ expo l ≤ 255 := by
    generalize expo l = e at hf he
    rcases le7 he with rfl | rfl | rfl | rfl | rfl | rfl | rfl | rfl <;> simp at hf ⊢ <;> omega
  generalize x / 2 ^ expo l = m at hb
  split <;> omega
theorem smp_chs {ls : List (List Int)} {k c i : Nat} {x : Int} (h : c < k) (hi : i < 32) (hr : rng (ls.getD c [])) (hx : (ls.getD c [])[i]? = some x) : smp (chs ls k) c i = dq (expo (ls.getD c [])) x := by
  unfold smp dq
  rw [shf_chs h, mnt_chs h hi, sgn_mt hr hx]
theorem mt_past {l : List Int} {i : Nat} (h : l.length ≤ i) : mt l i = 0 := by
  unfold mt
  rw [List.getD_eq_getElem?_getD, List.getElem?_eq_none h]
  simp
theorem rowN_chs {ls : List (List Int)} {k c n : Nat} (h : c < k) (hn : n ≤ 32) (hr : rng (ls.getD c [])) (hl : (ls.getD c []).length = n) : rowN (chs ls k) n c = dqr (ls.getD c []) := by
  unfold rowN dqr
  apply List.ext_getElem?
  intro i
  rw [List.getElem?_map, List.getElem?_map]
  by_cases hi : i < n
  · obtain ⟨x, hx⟩ : ∃ x, (ls.getD c [])[i]? = some x := ⟨_, List.getElem?_eq_getElem (by omega)⟩
    rw [hx, List.getElem?_range hi, Option.map_some, Option.map_some, smp_chs h (by omega) hr hx]
  · rw [List.getElem?_eq_none (by simp; omega), List.getElem?_eq_none (by omega)]
    rfl
theorem getD_mem {ls : List (List Int)} {c : Nat} (h : c < ls.length) : ls.getD c [] ∈ ls := by
  rw [List.getD_eq_getElem?_getD, List.getElem?_eq_getElem h]
  exact List.getElem_mem h
/-- A coded block is decoded to its middles. -/
theorem TB_PB {ls : List (List Int)} (h : pr ls 32 = true ∧ (ls.headD []).length ≠ 0) (hr : ∀ l ∈ ls, rng l) : TB (PB ls).1 = (ls.map dqr, 0) := by
  obtain ⟨hp, h0⟩ := h
  obtain ⟨h1, h4, hall⟩ := pr_true.1 hp
  have hnn : (ls.headD []).length ≤ 32 := by
    cases ls with
    | nil => simp
    | cons l m => have := (hall l (by simp)).2; simp; omega
  generalize hN : (ls.headD []).length = n at h0 hall hnn
  have hB : (PB ls).1 = ls.length :: n :: (payload (chs ls ls.length) ++ [crc (ls.length :: n :: payload (chs ls ls.length)) / 256, crc (ls.length :: n :: payload (chs ls ls.length)) % 256]) := by
    unfold PB
    rw [hN, if_pos ⟨hp, h0⟩]
    simp [sm]
  rw [hB]
  have hlb := chs_len ls ls.length
  generalize hbits : chs ls ls.length = bs at hlb
  have hlen := payload_length bs
  have hlast := payload_last_ne bs
  have hnb := nBits_payload bs
  have hin := bitsIn_payload bs
  generalize hP : payload bs = P at hlen hlast hnb hin
  obtain ⟨S, hS⟩ : ∃ S, S = crc (ls.length :: n :: P) := ⟨_, rfl⟩
  have hcl : S < 65536 := by rw [hS]; exact crc_lt _
  rw [← hS]
  have hL : (ls.length :: n :: (P ++ [S / 256, S % 256])).length = P.length + 4 := by simp
  have hT : (ls.length :: n :: (P ++ [S / 256, S % 256])).take (P.length + 4 - 2) = ls.length :: n :: P := by
    rw [show P.length + 4 - 2 = P.length + 1 + 1 by omega, List.take_succ_cons, List.take_succ_cons, List.take_left]
  have hm : mid (ls.length :: n :: (P ++ [S / 256, S % 256])) = P := by
    unfold mid
    rw [hL, hT]
    rfl
  have g1 : (ls.length :: n :: (P ++ [S / 256, S % 256])).getD (P.length + 4 - 2) 0 = S / 256 := by
    rw [show P.length + 4 - 2 = P.length + 1 + 1 by omega, List.getD_eq_getElem?_getD]
    simp
  have g2 : (ls.length :: n :: (P ++ [S / 256, S % 256])).getD (P.length + 4 - 1) 0 = S % 256 := by
    rw [show P.length + 4 - 1 = P.length + 1 + 1 + 1 by omega, List.getD_eq_getElem?_getD, List.getElem?_cons_succ, List.getElem?_cons_succ, List.getElem?_append_right (by omega), show P.length + 1 - P.length = 1 by omega]
    rfl
  have htb : tbits (ls.length :: n :: (P ++ [S / 256, S % 256])) = bs := by
    unfold tbits
    rw [hm, hnb, hin]
  unfold TB
  rw [hm, htb, hL, hT, g1, g2]
  have e0 : (ls.length :: n :: (P ++ [S / 256, S % 256])).getD 0 0 = ls.length := rfl
  have e1 : (ls.length :: n :: (P ++ [S / 256, S % 256])).getD 1 0 = n := rfl
  rw [e0, e1, if_pos ⟨by omega, ⟨h1, h4⟩, ⟨by omega, hnn⟩, by omega⟩, if_pos (by omega), if_pos ⟨hlast, by omega⟩]
  subst hbits
  have hok : okA (chs ls ls.length) n ls.length = true := okA_true.2 fun c hc => okc_true.2 ⟨by rw [shf_chs hc]; exact expo_le _, fun i hi hi2 => by
    rw [mnt_chs hc hi2]
    exact mt_past (by rw [(hall _ (getD_mem hc)).1]; exact hi)⟩
  rw [if_pos hok]
  congr 1
  apply List.ext_getElem?
  intro c
  rw [List.getElem?_map, List.getElem?_map]
  by_cases hc : c < ls.length
  · have hg : ls[c]? = some (ls.getD c []) := by rw [List.getD_eq_getElem?_getD, List.getElem?_eq_getElem hc]; rfl
    rw [List.getElem?_range hc, hg, Option.map_some, Option.map_some, rowN_chs hc hnn (hr _ (getD_mem hc)) (hall _ (getD_mem hc)).1]
  · rw [List.getElem?_eq_none (by simp; omega), List.getElem?_eq_none (by omega)]
    rfl
end Go.Proofs.Ytmojlfgfaabegaa
