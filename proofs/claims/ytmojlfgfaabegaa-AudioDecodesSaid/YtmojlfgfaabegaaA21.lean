/- Plain laws of coded sound: what it is decoded to; a changed byte; missing bytes. -/
import Derived.Test.YtmojlfgfaabegaaA18
import Derived.Test.YtmojlfgfaabegaaA20
namespace Go.Proofs.Ytmojlfgfaabegaa
open bt

theorem rowTo_get {p : List Nat} {ch n S c : Nat} (hc : c < ch) : ∀ (K i : Nat), 32 * K < n + 32 → i < 32 * K → i < n → (rowTo p ch n S c K)[i]? = (piece p ch n S (i / 32) c)[i % 32]?
  | K + 1, i, hK, hi, hn => by
    have hl := rowTo_len (p := p) (S := S) hc K (n := n) (by omega)
    simp only [rowTo]
    by_cases h : i < 32 * K
    · rw [List.getElem?_append_left (by omega), rowTo_get hc K i (by omega) h hn]
    · have h1 : i / 32 = K := by omega
      rw [List.getElem?_append_right (by omega), hl, h1]
      congr 1
      omega
theorem piece_congr {p q : List Nat} {ch n S k : Nat} (h : sub p S k = sub q S k) : okB p ch n S k = okB q ch n S k ∧ ∀ c, piece p ch n S k c = piece q ch n S k c := by
  have h1 : okB p ch n S k = okB q ch n S k := by unfold okB; rw [h]
  exact ⟨h1, fun c => by unfold piece; rw [h1, h]⟩
/-- Samples 32 k and on. -/
def cut (l : List Int) (k : Nat) : List Int := (l.drop (32 * k)).take 32
theorem cut_get (l : List Int) (i : Nat) : (cut l (i / 32))[i % 32]? = l[i]? := by
  unfold cut
  rw [List.getElem?_take, if_pos (by omega), List.getElem?_drop]
  congr 1
  omega
theorem cut_rng {l : List Int} (h : rng l) (k : Nat) : rng (cut l k) := fun x hx => h x (List.mem_of_mem_drop (List.mem_of_mem_take hx))
theorem cut_len (l : List Int) (k : Nat) : (cut l k).length = min 32 (l.length - 32 * k) := by simp [cut]
/-- A decoded channel. -/
def rw1 (l : List Int) : List Int := (List.range l.length).map fun i => dq (expo (cut l (i / 32))) (l.getD i 0)
theorem rw1_len (l : List Int) : (rw1 l).length = l.length := by simp [rw1]
theorem rw1_get (l : List Int) (i : Nat) : (rw1 l)[i]? = (l[i]?).map (dq (expo (cut l (i / 32)))) := by
  unfold rw1
  rw [List.getElem?_map]
  by_cases hi : i < l.length
  · rw [List.getElem?_range hi, Option.map_some, List.getD_eq_getElem?_getD, List.getElem?_eq_getElem hi]
    rfl
  · rw [List.getElem?_eq_none (by simp; omega), List.getElem?_eq_none (by omega)]
    rfl
theorem cut_rw1 (l : List Int) (k : Nat) : cut (rw1 l) k = dqr (cut l k) := by
  apply List.ext_getElem?
  intro j
  unfold dqr
  rw [List.getElem?_map]
  by_cases hj : j < 32
  · have h1 := cut_get (rw1 l) (32 * k + j)
    have h2 := cut_get l (32 * k + j)
    rw [show (32 * k + j) / 32 = k by omega, show (32 * k + j) % 32 = j by omega] at h1 h2
    rw [h1, h2, rw1_get, show (32 * k + j) / 32 = k by omega]
  · rw [List.getElem?_eq_none (by rw [cut_len]; omega), List.getElem?_eq_none (by rw [cut_len]; omega)]
    rfl
theorem bk_cut (ls : List (List Int)) (k : Nat) : bk ls k = ls.map fun l => cut l k := rfl
theorem bk_rw1 (ls : List (List Int)) (k : Nat) : bk (ls.map rw1) k = (bk ls k).map dqr := by
  rw [bk_cut, bk_cut, List.map_map, List.map_map]
  apply List.map_congr_left
  intro l _
  exact cut_rw1 l k
theorem bk_rng {ls : List (List Int)} (h : ∀ l ∈ ls, rng l) (k : Nat) : ∀ l ∈ bk ls k, rng l := by
  intro l hl
  rw [bk_cut, List.mem_map] at hl
  obtain ⟨m, hm, rfl⟩ := hl
  exact cut_rng (h m hm) k
theorem rw1_rng {l : List Int} (h : rng l) : rng (rw1 l) := by
  intro y hy
  obtain ⟨i, hi⟩ := List.getElem?_of_mem hy
  rw [rw1_get] at hi
  cases hx : l[i]? with
  | none => rw [hx] at hi; cases hi
  | some x =>
    rw [hx] at hi
    simp only [Option.map_some, Option.some.injEq] at hi
    subst hi
    have hc : x ∈ cut l (i / 32) := List.mem_of_getElem? (by rw [cut_get]; exact hx)
    exact fit_rng (expo_le _) (dq_fit (expo_le _) (expo_fit (cut_rng h _) hc))
theorem rw1_near {l : List Int} (i : Nat) {x y : Int} (hx : l[i]? = some x) (hy : (rw1 l)[i]? = some y) : y - x ≤ (hlfE (expo (cut l (i / 32))) : Int) ∧ -(y - x) ≤ (hlfE (expo (cut l (i / 32))) : Int) := by
  rw [rw1_get, hx] at hy
  simp only [Option.map_some, Option.some.injEq] at hy
  subst hy
  exact dq_near (expo_le _)
theorem headD_rw1 (ls : List (List Int)) : ((ls.map rw1).headD []).length = (ls.headD []).length := by
  cases ls with
  | nil => rfl
  | cons l m => exact rw1_len l
theorem pr_rw1 (ls : List (List Int)) (m : Int) : pr (ls.map rw1) m = pr ls m := by
  unfold pr
  rw [headD_rw1, List.length_map, List.all_map]
  congr 2
  congr 1
  funext l
  simp [rw1_len]
theorem encTo_rw1 {ls : List (List Int)} (h : ∀ l ∈ ls, rng l) (n : Nat) : ∀ K, encTo (ls.map rw1) n K = encTo ls n K
  | 0 => by simp only [encTo]; rw [List.length_map]
  | K + 1 => by simp only [encTo]; rw [encTo_rw1 h n K, bk_rw1, PB_dqr (bk_rng h K)]
/-- What has been decoded is coded to the same bytes. -/
theorem EN_rw1 {ls : List (List Int)} (h : ∀ l ∈ ls, rng l) : EN (ls.map rw1) = EN ls := by
  unfold EN
  rw [pr_rw1, headD_rw1, encTo_rw1 h]

/-- The coded blocks. -/
def bls (ls : List (List Int)) : Nat → List Nat
  | 0 => []
  | k + 1 => bls ls k ++ (PB (bk ls k)).1
theorem encTo_bls (ls : List (List Int)) (n : Nat) : ∀ K, encTo ls n K = sm (hd8 ls.length n) ++ bls ls K
  | 0 => by simp [encTo, bls]
  | K + 1 => by simp only [encTo, bls]; rw [encTo_bls ls n K, List.append_assoc]
theorem sm_hd (ch n : Nat) : (sm (hd8 ch n)).length = 10 := rfl
theorem bls_len {ls : List (List Int)} {S : Nat} : ∀ K, (∀ j, j < K → (PB (bk ls j)).1.length = S) → (bls ls K).length = K * S
  | 0, _ => by simp [bls]
  | K + 1, h => by simp only [bls, List.length_append]; rw [bls_len K (fun j hj => h j (by omega)), h K (by omega), Nat.succ_mul]
theorem bls_pre (ls : List (List Int)) : ∀ (K k : Nat), k < K → ∃ r, bls ls K = bls ls k ++ ((PB (bk ls k)).1 ++ r)
  | K + 1, k, h => by
    by_cases hk : k = K
    · subst hk
      exact ⟨[], by simp [bls]⟩
    · obtain ⟨r, hr⟩ := bls_pre ls K k (by omega)
      exact ⟨r ++ (PB (bk ls K)).1, by simp only [bls]; rw [hr]; simp⟩
theorem take_drop_mid {a b c : List Nat} {x y : Nat} (hx : a.length = x) (hy : x + b.length = y) : ((a ++ (b ++ c)).take y).drop x = b := by
  subst hx hy
  rw [← List.append_assoc, List.take_left' (by simp), List.drop_left]
/-- The blocks of coded sound p: sizes and places. -/
structure Coded (ls : List (List Int)) (n S : Nat) (p : List Nat) : Prop where
  c_pr : pr ls 1048576 = true
  hn : (ls.headD []).length = n
  rg : ∀ l ∈ ls, rng l
  hS : S = szN ls.length
  hp : p = encTo ls n (nblk n)
theorem Coded.of {ls : List (List Int)} (h : pr ls 1048576 = true) (hr : ∀ l ∈ ls, rng l) : Coded ls (ls.headD []).length (szN ls.length) (EN ls).1 ∧ (EN ls).2 = 0 := by
  have hE : EN ls = (encTo ls (ls.headD []).length (nblk (ls.headD []).length), 0) := by unfold EN; rw [if_pos h]
  exact ⟨⟨h, rfl, hr, rfl, by rw [hE]⟩, by rw [hE]⟩
section
variable {ls : List (List Int)} {n S : Nat} {p : List Nat}
theorem Coded.c_row (h : Coded ls n S p) {l : List Int} (hl : l ∈ ls) : l.length = n := by
  have := ((pr_true.1 h.c_pr).2.2 l hl).1
  rw [h.hn] at this
  exact this
theorem Coded.le (h : Coded ls n S p) : 1 ≤ ls.length ∧ ls.length ≤ 4 ∧ n ≤ 1048576 := by
  obtain ⟨h1, h2, h3⟩ := pr_true.1 h.c_pr
  refine ⟨h1, h2, ?_⟩
  cases ls with
  | nil => simp at h1
  | cons l m =>
    have h4 := (h3 l (by simp)).2
    have h5 := h.c_row (l := l) (by simp)
    omega
theorem Coded.blk_ok (h : Coded ls n S p) {k : Nat} (hk : k < nblk n) : pr (bk ls k) 32 = true ∧ ((bk ls k).headD []).length ≠ 0 := bk_ok h.c_pr h.hn (by unfold nblk at hk; omega)
theorem Coded.plen (h : Coded ls n S p) {k : Nat} (hk : k < nblk n) : (PB (bk ls k)).1.length = S := by
  have := (PB_len' (h.blk_ok hk)).1
  rw [this, bk_len, h.hS]
  unfold szN
  omega
theorem Coded.c_drop (h : Coded ls n S p) : p.drop 10 = bls ls (nblk n) ∧ p.length = 10 + nblk n * S ∧ p.take 10 = sm (hd8 ls.length n) := by
  have hl := bls_len (nblk n) (fun j hj => h.plen hj)
  have h2 := sm_hd ls.length n
  rw [h.hp, encTo_bls]
  generalize sm (hd8 ls.length n) = a at h2 ⊢
  exact ⟨List.drop_left' h2, by rw [List.length_append, hl, h2], List.take_left' h2⟩
theorem Coded.c_sub (h : Coded ls n S p) {k : Nat} (hk : k < nblk n) : sub p S k = (PB (bk ls k)).1 := by
  obtain ⟨h1, h2, _⟩ := h.c_drop
  unfold sub
  rw [h1, h2]
  have h3 : (k + 1) * S ≤ nblk n * S := Nat.mul_le_mul_right _ hk
  have h4 : (k + 1) * S = k * S + S := Nat.succ_mul _ _
  rw [Nat.min_eq_left (by omega), Nat.min_eq_left (by omega)]
  obtain ⟨r, hr⟩ := bls_pre ls (nblk n) k hk
  rw [hr]
  refine take_drop_mid (bls_len k (fun j hj => h.plen (by omega))) ?_
  rw [h.plen hk]
  omega
theorem Coded.c_tb (h : Coded ls n S p) {k : Nat} (hk : k < nblk n) : TB (sub p S k) = ((bk ls k).map dqr, 0) := by
  rw [h.c_sub hk, TB_PB (h.blk_ok hk) (bk_rng h.rg k)]
theorem bk_head {ls : List (List Int)} {n : Nat} (k : Nat) (h : ∀ l ∈ ls, l.length = n) (h1 : 1 ≤ ls.length) : ((bk ls k).headD []).length = min 32 (n - 32 * k) := by
  cases ls with
  | nil => simp at h1
  | cons l m =>
    have := h l (by simp)
    simp [bk, this]
theorem Coded.c_ok (h : Coded ls n S p) {k : Nat} (hk : k < nblk n) : okB p ls.length n S k = true := by
  rw [okB_true, h.c_tb hk]
  refine ⟨rfl, by rw [List.length_map, bk_len], ?_⟩
  rw [headD_dqr, bk_head k (fun l hl => h.c_row hl) h.le.1]
  rfl
theorem Coded.c_piece (h : Coded ls n S p) {k : Nat} (hk : k < nblk n) (c : Nat) : piece p ls.length n S k c = dqr (cut (ls.getD c []) k) := by
  unfold piece
  rw [if_pos (h.c_ok hk), h.c_tb hk, getD_map_dqr]
  congr 1
  rw [bk_cut, List.getD_eq_getElem?_getD, List.getD_eq_getElem?_getD, List.getElem?_map]
  cases ls[c]? with
  | none => simp [cut]
  | some l => rfl
theorem nblk_lt {i n : Nat} (h : i < n) : i / 32 < nblk n ∧ i < 32 * nblk n := by unfold nblk; omega
theorem nblk_bd (n : Nat) : 32 * nblk n < n + 32 := by unfold nblk; omega
theorem Coded.c_rowTo (h : Coded ls n S p) {c : Nat} {l : List Int} (hl : ls[c]? = some l) : rowTo p ls.length n S c (nblk n) = rw1 l := by
  have hc : c < ls.length := (List.getElem?_eq_some_iff.1 hl).1
  have hln := h.c_row (List.mem_of_getElem? hl)
  have hlen := rowTo_len (p := p) (S := S) hc (nblk n) (nblk_bd n)
  have hb := nblk_bd n
  apply List.ext_getElem?
  intro i
  by_cases hi : i < n
  · obtain ⟨h1, h2⟩ := nblk_lt hi
    rw [rowTo_get hc _ i (nblk_bd n) h2 hi, h.c_piece h1, rw1_get, List.getD_eq_getElem?_getD, hl, Option.getD_some, dqr, List.getElem?_map, cut_get]
  · rw [List.getElem?_eq_none (by omega), List.getElem?_eq_none (by rw [rw1_len]; omega)]
theorem badTo_none {p : List Nat} {ch n S : Nat} : ∀ K, (∀ k, k < K → okB p ch n S k = true) → badTo p ch n S K = []
  | 0, _ => rfl
  | K + 1, h => by simp only [badTo]; rw [if_pos (h K (by omega)), badTo_none K (fun k hk => h k (by omega))]
theorem badTo_one {p : List Nat} {ch n S q : Nat} : ∀ K, (∀ k, k < K → k ≠ q → okB p ch n S k = true) → (q < K → okB p ch n S q = false) → badTo p ch n S K = if q < K then [(q : Int)] else []
  | 0, _, _ => by simp [badTo]
  | K + 1, h, hq => by
    simp only [badTo]
    by_cases hk : K = q
    · subst hk
      rw [hq (by omega), if_neg (by simp), badTo_none K (fun k hk => h k (by omega) (by omega)), if_pos (by omega)]
      rfl
    · rw [if_pos (h K (by omega) hk), badTo_one K (fun k hk hne => h k (by omega) hne) (fun hk => hq (by omega))]
      by_cases h2 : q < K
      · rw [if_pos h2, if_pos (by omega)]
      · rw [if_neg h2, if_neg (by omega)]
theorem take10_get {p q : List Nat} (h : p.take 10 = q.take 10) {i : Nat} (hi : i < 10) : p.getD i 0 = q.getD i 0 := by
  have : (p.take 10)[i]? = (q.take 10)[i]? := by rw [h]
  rw [List.getElem?_take, List.getElem?_take, if_pos hi, if_pos hi] at this
  rw [List.getD_eq_getElem?_getD, List.getD_eq_getElem?_getD, this]
theorem HD_congr {p q : List Nat} (h : p.take 10 = q.take 10) (hp : 10 ≤ p.length) (hq : 10 ≤ q.length) : HD p = HD q := by
  have h4 : p.take 4 = q.take 4 := by
    have : (p.take 10).take 4 = (q.take 10).take 4 := by rw [h]
    rwa [List.take_take, List.take_take, show min 4 10 = 4 from rfl] at this
  have h8 : p.take 8 = q.take 8 := by
    have : (p.take 10).take 8 = (q.take 10).take 8 := by rw [h]
    rwa [List.take_take, List.take_take, show min 8 10 = 8 from rfl] at this
  unfold HD hN
  rw [if_neg (show ¬ p.length < 10 by omega), if_neg (show ¬ q.length < 10 by omega), h4, h8, take10_get h (i := 4) (by omega), take10_get h (i := 5) (by omega), take10_get h (i := 6) (by omega), take10_get h (i := 7) (by omega), take10_get h (i := 8) (by omega), take10_get h (i := 9) (by omega)]
theorem HD_sm {ch n : Nat} (h1 : 1 ≤ ch) (h4 : ch ≤ 4) (hn : n ≤ 1048576) : HD (sm (hd8 ch n)) = ((ch, n), 0) := by
  have hN' : hN (sm (hd8 ch n)) = n := by
    show n / 65536 % 256 * 65536 + n / 256 % 256 * 256 + n % 256 = n
    omega
  have hc : crc ((sm (hd8 ch n)).take 8) = (sm (hd8 ch n)).getD 8 0 * 256 + (sm (hd8 ch n)).getD 9 0 := by
    show crc (hd8 ch n) = crc (hd8 ch n) / 256 * 256 + crc (hd8 ch n) % 256
    omega
  unfold HD
  rw [if_neg (by rw [sm_hd]; omega), if_pos ⟨rfl, ⟨h1, h4⟩, by rw [hN']; exact hn⟩, if_pos hc, hN']
  rfl
/-- What bytes with the header of p are decoded to. -/
theorem Coded.de (h : Coded ls n S p) {q : List Nat} (h10 : q.take 10 = p.take 10) (hq : 10 ≤ q.length) (hl : q.length ≤ p.length) :
    DE q = ((List.range ls.length).map (fun c => rowTo q ls.length n S c (nblk n)), badTo q ls.length n S (nblk n), 0) := by
  obtain ⟨_, h2, h3⟩ := h.c_drop
  obtain ⟨hc1, hc4, hnm⟩ := h.le
  have hH : HD q = ((ls.length, n), 0) := by
    have hs := sm_hd ls.length n
    rw [HD_congr (q := sm (hd8 ls.length n)) (by rw [h10, h3, List.take_of_length_le (by rw [hs]; omega)]) hq (by rw [hs]; omega), HD_sm hc1 hc4 hnm]
  unfold DE
  rw [hH]
  simp only [if_true]
  rw [← h.hS, if_neg (by omega)]
theorem Coded.c_all (h : Coded ls n S p) : DE p = (ls.map rw1, [], 0) := by
  obtain ⟨_, h2, _⟩ := h.c_drop
  rw [h.de rfl (by omega) (Nat.le_refl _), badTo_none _ (fun k hk => h.c_ok hk)]
  congr 1
  apply List.ext_getElem?
  intro c
  rw [List.getElem?_map, List.getElem?_map]
  by_cases hc : c < ls.length
  · have hg : ls[c]? = some ls[c] := List.getElem?_eq_getElem hc
    rw [List.getElem?_range hc, hg, Option.map_some, Option.map_some, h.c_rowTo hg]
  · rw [List.getElem?_eq_none (by simp; omega), List.getElem?_eq_none (by omega)]
    rfl
end
end Go.Proofs.Ytmojlfgfaabegaa
