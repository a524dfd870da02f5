/- append of zeros onto a slice of one's own; rows that grow; a block that is read has its size. Plain lemmas, no condition. -/
import Derived.Test.YtmojlfgfaabegaaA23
import Derived.Lib.AppendZeros
namespace Go.Proofs.Ytmojlfgfaabegaa
open Go.RowKit bt

theorem zeroCells_one (z : Value) (hz : z.cells = #[z]) (n : Nat) : Builtin.zeroCells z.cells n = (List.replicate n z).toArray := by
  rw [hz]
  apply Array.ext
  · simp [Builtin.zeroCells]
  · intro i h1 h2
    simp [Builtin.zeroCells, Nat.mod_one]
section
variable {P : Program} (w : World)
theorem run_appz (t tn ty e : TypeId) (i : TypeInfo) (z : Value) (k kn : IntKind) (bytes : Nat) (ht : P.underlying t = some (.slice e)) (htn : P.underlying tn = some (.int kn)) (hi : P.info? e = some i) (hz : i.zero = some z)
    (hsize : i.size = 1) (hby : i.bytes = bytes) (hzc : z.cells = #[z]) (hz1 : z.oneCell' = true)
    (A : Option Addr) (n c : Nat) (xs : List Value) (hown : w.ownsRow 0 e 1 (.slice A n c) n xs) (m : Nat) (h63 : n + m ≤ maxLen) (hbytes : (n + m) * bytes ≤ 140737488355328) :
    ∃ A' c' w', (Builtin.append_ #[t, tn] ty #[.slice A n c, .int k (m : Int)]).run P w = .ok (.slice A' (n + m) c') w' ∧ w'.ownsRow 0 e 1 (.slice A' (n + m) c') (n + m) (xs ++ List.replicate m z) ∧
      Only (rowFp (.slice A n c)) w w' ∧ Fresh w (rowFp (.slice A n c)) (rowFp (.slice A' (n + m) c')) := by
  subst hby
  have h63n : n + m ≤ 9223372036854775807 := by simp only [maxLen] at h63; omega
  have hmb : m * i.bytes ≤ 140737488355328 := Nat.le_trans (Nat.mul_le_mul_right _ (by omega)) hbytes
  have hlen : (xs ++ List.replicate m z).length = (n + m) * 1 := by have := hown.1; simp; omega
  have hw : IntKind.i64.wrap (m : Int) = m := by rw [IntKind.wrap_i64]; omega
  have hneg : ¬ ((m : Int) < 0) := by omega
  have hw0 : IntKind.i64.wrap (0 : Int) = 0 := by rw [IntKind.wrap_i64]; omega
  have h48i : ¬ (281474976710656 < (m : Int) * (i.bytes : Int)) := by rw [← Int.natCast_mul]; omega
  have h63' : ¬ (9223372036854775807 < ((n : Int) + (m : Int))) := by omega
  have hzn := zeroCells_one z hzc
  rw [hzc] at hzn
  have grown : ∀ (old : Nat), old < n + m →
      (w.drew.alloc (.cells ((xs ++ List.replicate m z).toArray ++ Builtin.zeroCells #[z] (grownCap w (n + m) old e - (n + m))) e)).ownsRow 0 e 1
        (.slice (some ⟨w.heap.size, 0, none⟩) (n + m) (grownCap w (n + m) old e)) (n + m) (xs ++ List.replicate m z) := by
    intro old ho
    have hge := grownCap_ge w (n + m) old e
    have hcm : grownCap w (n + m) old e ≤ maxLen := grownCap_le_maxLen w (n + m) old e h63
    refine ⟨hlen, .inr ⟨w.heap.size, _, _, rfl, Nat.zero_le _, heap_alloc_new w.drew _, hge, hcm, ?_, ?_⟩⟩
    · rw [hzn]
      simp only [Array.size_append, List.size_toArray, hlen, List.length_replicate]
      omega
    · rw [Array.toList_append, ← hlen]
      exact List.take_left
  have ofresh : ∀ (cs : Array Value) F, Only F w (w.drew.alloc (.cells cs e)) := fun cs F => (Only.refl F w).drew.alloc _
  have ffresh : ∀ (F : List Nat) (k c2 : Nat), Fresh w F (rowFp (.slice (some ⟨w.heap.size, 0, none⟩) k c2)) := fun F k c2 x hx => .inr (by simp [rowFp, Value.ownBlock] at hx; omega)
  rcases hown.2 with ⟨hv, rfl⟩ | ⟨g, cap, cur, hv, hbg, hg, hnc, hcm, hcs, htake⟩
  · injection hv with hA _ hc
    subst hA hc
    have hx : xs = [] := List.eq_nil_of_length_eq_zero (by simpa using hown.1)
    subst hx
    by_cases hm : m = 0
    · subst hm
      refine ⟨none, 0, w, ?_, World.ownsRow_nil w 0 e 1, Only.refl _ _, Fresh.refl _ _⟩
      simp [Builtin.append_, run_underlying ht, run_underlying htn, sizeOf, typeInfo, hi, asInt, asIntOf, hw0]
    · have hr := Lib.run_append_nil_zeros (P := P) w t tn ty e i z k kn ht htn hi hz m (by omega) (by omega) (by omega) (by omega)
      have hgr := grown 0 (by omega)
      simp only [Nat.zero_add, List.nil_append] at hgr ⊢
      refine ⟨_, _, _, hr, ?_, ofresh _ _, ffresh _ _ _⟩
      rw [hzc, hzn m]
      exact hgr
  · injection hv with hA _ hc
    subst hA hc
    rw [Nat.mul_one] at hcs htake
    by_cases hm : m = 0
    · subst hm
      refine ⟨some ⟨g, 0, none⟩, c, w, ?_, by simpa using hown, Only.refl _ _, Fresh.refl _ _⟩
      simp [Builtin.append_, run_underlying ht, run_underlying htn, sizeOf, typeInfo, hi, asInt, asIntOf, hw0, hnc, storeCells]
    by_cases hroom : n + m ≤ c
    · have hst := run_storeCells_at P g n e (List.replicate m z) 0 cur w hg (by simp; omega) (fun u hu => by rw [List.eq_of_mem_replicate hu]; exact hz1)
      simp only [Nat.add_zero] at hst
      refine ⟨some ⟨g, 0, none⟩, c, w.setRow g (cur.toList.take n ++ List.replicate m z ++ cur.toList.drop (n + (List.replicate m z).length)).toArray, ?_, ⟨hlen, .inr ⟨g, c, _, rfl, hbg, setRow_heap w g cur _ e _ hg, hroom, hcm, ?_, ?_⟩⟩, (Only.refl _ _).setRow (.inl (by simp [rowFp, Value.ownBlock])) _, Fresh.refl _ _⟩
      · simp [Builtin.append_, run_underlying ht, run_underlying htn, sizeOf, typeInfo, zeroValue, hi, hz, asInt, asIntOf, hw, hneg, h48i, hroom, hsize, Addr.add_lit, hzc, hzn, hst, hm]
      · simp only [List.size_toArray, List.length_append, List.length_take, List.length_drop, Array.length_toList, List.length_replicate]
        omega
      · rw [htake, ← hlen]
        exact List.take_left
    · have hn' : ¬ (n + m ≤ c) := hroom
      have hfit := growslice_fits (old := c) (by omega) hbytes
      have h48' : ¬ (281474976710656 < Builtin.nextslicecap (n + m) c * i.bytes) := by omega
      have holds : ∀ j u, xs[j]? = some u → w.cell? ((⟨g, 0, none⟩ : Addr).add j) = some u := hown.cells (g := g) rfl
      have hfo := run_firstCells_some (P := P) w.drew i.size n ⟨g, 0, none⟩ n c xs (by rw [hsize]; exact hown.1) (by simpa using holds)
      rw [hsize] at hfo
      refine ⟨_, _, _, ?_, grown c (by omega), ofresh _ _, ffresh _ _ _⟩
      simp [Builtin.append_, run_underlying ht, run_underlying htn, sizeOf, typeInfo, zeroValue, hi, hz, asInt, asIntOf, hw, hneg, hm, h48i, hn', h63', h48', Question.forced, hfo, newRow, grownCap, hzc, hzn, hsize]
      congr 2
      apply Array.ext'
      simp [List.append_assoc]
end
theorem rowFp_any (A : Option Addr) (n c m d : Nat) : rowFp (.slice A n c) = rowFp (.slice A m d) := by cases A <;> rfl
theorem own_ne {w : World} {b1 b2 : Nat} {e1 e2 : TypeId} {s1 s2 n1 n2 : Nat} {v1 v2 : Value} {xs1 xs2 : List Value} (h1 : w.ownsRow b1 e1 s1 v1 n1 xs1) (h2 : w.ownsRow b2 e2 s2 v2 n2 xs2) (hne : e1 ≠ e2) : ∀ x ∈ rowFp v1, x ∉ rowFp v2 := by
  intro x hx hx2
  rcases h1.2 with ⟨rfl, _⟩ | ⟨g, cap, cur, rfl, _, hg, _⟩
  · simp [rowFp, Value.ownBlock] at hx
  · simp [rowFp, Value.ownBlock] at hx
    rw [hx] at hx2
    exact ne_own h2 (show Blk w g e1 cur from hg) (Ne.symm hne) hx2
/-- The headers of rows that grow. -/
def hdv (H : Nat → Option Addr × Nat) (R : Nat → List Int) (ch : Nat) : List Value := (List.range ch).map fun c => .slice (H c).1 (R c).length (H c).2
/-- Rows of sound that grow, each in a block of its own. -/
structure Rs (w : World) (gp ch : Nat) (H : Nat → Option Addr × Nat) (R : Nat → List Int) (wr : World) : Prop where
  hp : Blk wr gp 39 (hdv H R ch).toArray
  own : ∀ c, c < ch → wr.ownsRow 0 45 1 (.slice (H c).1 (R c).length (H c).2) (R c).length (sV (R c))
  dist : ∀ c d, c < ch → d < ch → c ≠ d → ∀ x ∈ rowFp (.slice (H c).1 0 0), x ∉ rowFp (.slice (H d).1 0 0)
  new : w.heap.size ≤ gp ∧ ∀ c, c < ch → ∀ x ∈ rowFp (.slice (H c).1 0 0), w.heap.size ≤ x
  only : Only [] w wr
section
variable {w wr w1 : World} {gp ch : Nat} {H : Nat → Option Addr × Nat} {R R' : Nat → List Int}
theorem hdv_get {c : Nat} (hc : c < ch) : (hdv H R ch)[c]? = some (.slice (H c).1 (R c).length (H c).2) := by simp [hdv, hc]
theorem hdv_set {c c' : Nat} {A' : Option Addr} {l' : List Int} (hc : c < ch) : (hdv H R ch).toArray.setIfInBounds c (.slice A' l'.length c') = (hdv (fun i => if i = c then (A', c') else H i) (fun i => if i = c then l' else R i) ch).toArray := by
  rw [List.setIfInBounds_toArray]
  congr 1
  apply List.ext_getElem?
  intro i
  rw [List.getElem?_set]
  by_cases hi : i < ch
  · by_cases hic : i = c
    · subst hic
      rw [if_pos rfl, if_pos (by simp [hdv, hc]), hdv_get hi]
      simp only [if_true]
    · rw [if_neg (Ne.symm hic), hdv_get hi, hdv_get hi]
      simp only [if_neg hic]
  · rw [if_neg (by omega), List.getElem?_eq_none (by simp [hdv]; omega), List.getElem?_eq_none (by simp [hdv]; omega)]
theorem Rs.congr (h : Rs w gp ch H R wr) (hR : ∀ c, c < ch → R c = R' c) : Rs w gp ch H R' wr := by
  refine ⟨?_, fun c hc => by rw [← hR c hc]; exact h.own c hc, h.dist, h.new, h.only⟩
  have : hdv H R' ch = hdv H R ch := by
    unfold hdv
    apply List.map_congr_left
    intro c hc
    rw [hR c (by simpa using hc)]
  rw [this]
  exact h.hp
theorem Rs.gp_off (h : Rs w gp ch H R wr) {c : Nat} (hc : c < ch) : gp ∉ rowFp (.slice (H c).1 0 0) := by
  rw [rowFp_any (H c).1 0 0 (R c).length (H c).2]
  exact ne_own (h.own c hc) h.hp (by decide)
theorem Rs.off {F : List Nat} (h : Rs w gp ch H R wr) (o : Only F wr w1) (h1 : gp ∉ F) (h2 : ∀ c, c < ch → ∀ x ∈ rowFp (.slice (H c).1 0 0), x ∉ F) (h3 : ∀ x ∈ F, w.heap.size ≤ x) : Rs w gp ch H R w1 :=
  ⟨h.hp.only o h1, fun c hc => own_only (h.own c hc) o (fun x hx => h2 c hc x (by rw [rowFp_any _ 0 0 (R c).length (H c).2]; exact hx)), h.dist, h.new, h.only.first o h3⟩
theorem Rs.then (h : Rs w gp ch H R wr) (o : Only [] wr w1) : Rs w gp ch H R w1 := h.off o (by simp) (fun _ _ _ _ => by simp) (by simp)
theorem Rs.cell (h : Rs w gp ch H R wr) {c : Nat} (hc : c < ch) : wr.cell? ⟨gp, c, none⟩ = some (.slice (H c).1 (R c).length (H c).2) := by
  rw [h.hp.cell]
  simpa using hdv_get hc
/-- A row that has grown, its new header laid in. -/
theorem Rs.step {c c' : Nat} {A' : Option Addr} {l' : List Int} (h : Rs w gp ch H R wr) (hc : c < ch) (o1 : Only (rowFp (.slice (H c).1 0 0)) wr w1) (f1 : Fresh wr (rowFp (.slice (H c).1 0 0)) (rowFp (.slice A' 0 0)))
    (own1 : w1.ownsRow 0 45 1 (.slice A' l'.length c') l'.length (sV l')) :
    w1.cell? ⟨gp, c, none⟩ = some (.slice (H c).1 (R c).length (H c).2) ∧ w1.frozen? ⟨gp, c, none⟩ = false ∧
      Rs w gp ch (fun i => if i = c then (A', c') else H i) (fun i => if i = c then l' else R i) (w1.setCell ⟨gp, c, none⟩ (.slice A' l'.length c')) ∧ Only (gp :: rowFp (.slice (H c).1 0 0)) wr (w1.setCell ⟨gp, c, none⟩ (.slice A' l'.length c')) := by
  have hp1 := h.hp.only o1 (h.gp_off hc)
  have hsz := h.only.size
  obtain ⟨s1, s2⟩ := hp1.set1 c (.slice A' l'.length c')
  rw [hdv_set hc] at s1
  have hn1 : ∀ x ∈ rowFp (.slice (H c).1 0 0), w.heap.size ≤ x := h.new.2 c hc
  have hoff : ∀ x ∈ rowFp (.slice A' 0 0), ∀ d, d < ch → d ≠ c → x ∉ rowFp (.slice (H d).1 0 0) := by
    intro x hx d hd hdc hxd
    rcases f1 x hx with hh | hh
    · exact h.dist c d hc hd (Ne.symm hdc) x hh hxd
    · have := own_lt (h.own d hd) x (by rw [rowFp_any _ (R d).length (H d).2 0 0]; exact hxd)
      omega
  refine ⟨by rw [hp1.cell]; simpa using hdv_get hc, hp1.frozen c, ⟨s1, ?_, ?_, ⟨h.new.1, ?_⟩, ?_⟩, ?_⟩
  · intro d hd
    by_cases hdc : d = c
    · subst hdc
      simp only [if_true]
      refine own_only own1 s2 (fun x hx hm => ?_)
      simp at hm
      subst hm
      exact ne_own own1 hp1 (by decide) hx
    · simp only [if_neg hdc]
      refine own_only (own_only (h.own d hd) o1 (fun x hx => ?_)) s2 (fun x hx hm => ?_)
      · exact h.dist d c hd hc hdc x (by rw [rowFp_any _ 0 0 (R d).length (H d).2]; exact hx)
      · simp at hm
        subst hm
        exact h.gp_off hd (by rw [rowFp_any _ 0 0 (R d).length (H d).2]; exact hx)
  · intro i d hi hd hid x hx
    by_cases hic : i = c
    · subst hic
      simp only [if_true] at hx
      simp only [if_neg (Ne.symm hid)]
      exact hoff x hx d hd (Ne.symm hid)
    · simp only [if_neg hic] at hx
      by_cases hdc : d = c
      · subst hdc
        simp only [if_true]
        exact fun hx2 => hoff x hx2 i hi hic hx
      · simp only [if_neg hdc]
        exact h.dist i d hi hd hid x hx
  · intro i hi x hx
    by_cases hic : i = c
    · subst hic
      simp only [if_true] at hx
      rcases f1 x hx with hh | hh
      · exact hn1 x hh
      · omega
    · simp only [if_neg hic] at hx
      exact h.new.2 i hi x hx
  · exact (h.only.first o1 hn1).first s2 (by simp; exact h.new.1)
  · exact ((o1.mono (fun x hx => by simp [hx])).trans (s2.mono (G := gp :: rowFp (.slice (H c).1 0 0)) (fun x hx => by simp at hx; simp [hx])) (Fresh.refl _ _))
/-- As sound. -/
theorem Rs.pcm (h : Rs w gp ch H R wr) : PcmIs wr (some ⟨gp, 0, none⟩) ((List.range ch).map H) ((List.range ch).map R) := by
  have hv : rowsV ((List.range ch).map H) ((List.range ch).map R) = hdv H R ch := by
    unfold rowsV hdv
    apply List.ext_getElem?
    intro i
    rw [List.getElem?_zipWith, List.getElem?_map, List.getElem?_map, List.getElem?_map]
    by_cases hi : i < ch
    · simp [hi]
    · simp [List.getElem?_eq_none (l := List.range ch) (i := i) (by simp; omega)]
  refine ⟨by simp, ?_, fun i x l h1 h2 => ?_, fun i x l h1 h2 => ?_⟩
  · rw [hv]
    exact Reads.of_blk h.hp _ (by simp [hdv])
  · rw [List.getElem?_map] at h1 h2
    by_cases hi : i < ch
    · rw [List.getElem?_range hi] at h1 h2
      simp only [Option.map_some, Option.some.injEq] at h1 h2
      subst h1 h2
      exact Reads.of_own (h.own i hi)
    · rw [List.getElem?_eq_none (l := List.range ch) (i := i) (by simp; omega)] at h1
      cases h1
  · rw [List.getElem?_map] at h1 h2
    by_cases hi : i < ch
    · rw [List.getElem?_range hi] at h1 h2
      simp only [Option.map_some, Option.some.injEq] at h1 h2
      subst h1 h2
      exact own_cap (h.own i hi)
    · rw [List.getElem?_eq_none (l := List.range ch) (i := i) (by simp; omega)] at h1
      cases h1
theorem Rs.start {g : Nat} (h : Blk wr g 39 (List.replicate ch (Value.slice none 0 0)).toArray) (hg : w.heap.size ≤ g) (o : Only [] w wr) : Rs w g ch (fun _ => (none, 0)) (fun _ => []) wr := by
  refine ⟨?_, fun c _ => World.ownsRow_nil _ _ _ _, fun c d _ _ _ x hx => by simp [rowFp, Value.ownBlock] at hx, ⟨hg, fun c _ x hx => by simp [rowFp, Value.ownBlock] at hx⟩, o⟩
  have : hdv (fun _ => (none, 0)) (fun _ => []) ch = List.replicate ch (Value.slice none 0 0) := by
    unfold hdv
    rw [List.eq_replicate_iff]
    refine ⟨by simp, fun b hb => ?_⟩
    rw [List.mem_map] at hb
    obtain ⟨_, _, rfl⟩ := hb
    rfl
  rw [this]
  exact h
end
/-- A block that is read has its size. -/
theorem TB_size {q : List Nat} (h : (TB q).2 = 0) : q.length = szN (TB q).1.length := by
  unfold TB at h ⊢
  split
  · rename_i h1
    rw [if_pos h1] at h
    split
    · rename_i h2
      rw [if_pos h2] at h
      split
      · rename_i h3
        rw [if_pos h3] at h
        split
        · simp only [List.length_map, List.length_range]
          unfold szN
          exact h1.2.2.2
        · rename_i h4; rw [if_neg h4] at h; cases h
      · rename_i h3; rw [if_neg h3] at h; cases h
    · rename_i h2; rw [if_neg h2] at h; cases h
  · rename_i h1; rw [if_neg h1] at h; cases h
theorem okB_short {p : List Nat} {ch n S k : Nat} (hS : S = szN ch) (h : p.length < 10 + k * S + S) : okB p ch n S k = false := by
  cases hb : okB p ch n S k with
  | false => rfl
  | true =>
    obtain ⟨h1, h2, _⟩ := okB_true.1 hb
    have h3 := TB_size h1
    rw [h2, ← hS, sub_len] at h3
    have h4 : (k + 1) * S = k * S + S := Nat.succ_mul _ _
    have h5 : 0 < S := by rw [hS]; exact szN_pos _
    rw [h4] at h3
    generalize k * S = Q at h3 h
    omega
theorem sub_at {p : List Nat} {S k : Nat} (h : 10 + k * S + S ≤ p.length) : (p.take (10 + k * S + S)).drop (10 + k * S) = sub p S k := by
  apply List.ext_getElem?
  intro i
  have h4 : (k + 1) * S = k * S + S := Nat.succ_mul _ _
  rw [sub_get (by rw [h4]; omega), List.getElem?_drop, List.getElem?_take]
  by_cases hi : i < S
  · rw [if_pos (by omega), if_pos hi]
    congr 1
    omega
  · rw [if_neg (by omega), if_neg hi]
theorem badTo_len (p : List Nat) (ch n S : Nat) : ∀ k, (badTo p ch n S k).length ≤ k
  | 0 => by simp [badTo]
  | k + 1 => by
    have := badTo_len p ch n S k
    simp only [badTo]
    split <;> simp <;> omega
theorem badTo_ok {p : List Nat} {ch n S k : Nat} (h : okB p ch n S k = true) : badTo p ch n S (k + 1) = badTo p ch n S k := by simp only [badTo]; rw [if_pos h]
theorem badTo_no {p : List Nat} {ch n S k : Nat} (h : okB p ch n S k = false) : badTo p ch n S (k + 1) = badTo p ch n S k ++ [(k : Int)] := by simp only [badTo]; rw [if_neg (by rw [h]; simp)]
theorem rowTo_no {p : List Nat} {ch n S k : Nat} (h : okB p ch n S k = false) (c : Nat) : rowTo p ch n S c (k + 1) = rowTo p ch n S c k ++ List.replicate (want n k) 0 := by
  simp only [rowTo]
  unfold piece
  rw [if_neg (by rw [h]; simp)]
theorem sV_zeros (l : List Int) (m : Nat) : sV l ++ List.replicate m (.int .i16 0) = sV (l ++ List.replicate m 0) := by simp [sV]
theorem sV_app (l m : List Int) : sV l ++ sV m = sV (l ++ m) := by simp [sV]
theorem sV_one (l : List Int) : ∀ u ∈ sV l, u.oneCell' = true := by
  intro u hu
  simp only [sV, List.mem_map] at hu
  obtain ⟨b, _, rfl⟩ := hu
  rfl
/-- The rows in the middle of a round. -/
def rmid (p : List Nat) (ch n S k j : Nat) : Nat → List Int := fun c => if c < j then rowTo p ch n S c (k + 1) else rowTo p ch n S c k
theorem rmid_zero (p : List Nat) (ch n S k : Nat) : rmid p ch n S k 0 = fun c => rowTo p ch n S c k := by funext c; simp [rmid]
theorem rmid_at (p : List Nat) (ch n S k j : Nat) : rmid p ch n S k j j = rowTo p ch n S j k := by simp [rmid]
theorem rmid_step (p : List Nat) (ch n S k j : Nat) : (fun i => if i = j then rowTo p ch n S j (k + 1) else rmid p ch n S k j i) = rmid p ch n S k (j + 1) := by
  funext c
  unfold rmid
  by_cases h : c = j
  · subst h; simp
  · rw [if_neg h]
    by_cases h2 : c < j
    · rw [if_pos h2, if_pos (by omega)]
    · rw [if_neg h2, if_neg (by omega)]
section
variable {w wr w1 : World} {gp ch : Nat} {H : Nat → Option Addr × Nat} {R : Nat → List Int}
theorem Rs.endRound {p : List Nat} {n S k : Nat} (h : Rs w gp ch H (rmid p ch n S k ch) wr) : Rs w gp ch H (fun c => rowTo p ch n S c (k + 1)) wr := h.congr (fun c hc => by unfold rmid; rw [if_pos hc])
/-- A row grows, beside a row of numbers. -/
theorem Rs.grow {c nb cb n' c' : Nat} {B A' : Option Addr} {xs ys : List Value} {l' : List Int} (h : Rs w gp ch H R wr) (hc : c < ch) (hb : wr.ownsRow 0 3 1 (.slice B nb cb) nb xs) (hn : n' = l'.length) (hys : ys = sV l')
    (o1 : Only (rowFp (.slice (H c).1 (R c).length (H c).2)) wr w1) (f1 : Fresh wr (rowFp (.slice (H c).1 (R c).length (H c).2)) (rowFp (.slice A' n' c'))) (own1 : w1.ownsRow 0 45 1 (.slice A' n' c') n' ys) :
    w1.cell? ⟨gp, c, none⟩ = some (.slice (H c).1 (R c).length (H c).2) ∧ w1.frozen? ⟨gp, c, none⟩ = false ∧
      (∃ H', Rs w gp ch H' (fun i => if i = c then l' else R i) (w1.setCell ⟨gp, c, none⟩ (.slice A' n' c')) ∧ ∀ i, i < ch → ∀ x ∈ rowFp (.slice (H' i).1 0 0), x ∈ rowFp (.slice (H i).1 0 0) ∨ wr.heap.size ≤ x) ∧
      (w1.setCell ⟨gp, c, none⟩ (.slice A' n' c')).ownsRow 0 3 1 (.slice B nb cb) nb xs ∧ Only (gp :: rowFp (.slice (H c).1 0 0)) wr (w1.setCell ⟨gp, c, none⟩ (.slice A' n' c')) := by
  subst hn hys
  rw [rowFp_any (H c).1 (R c).length (H c).2 0 0] at o1 f1
  rw [rowFp_any A' l'.length c' 0 0] at f1
  obtain ⟨h1, h2, h3, h4⟩ := h.step hc o1 f1 own1
  refine ⟨h1, h2, ⟨_, h3, fun i hi x hx => ?_⟩, own_only hb h4 (fun x hx hm => ?_), h4⟩
  · by_cases hic : i = c
    · subst hic
      simp only [if_true] at hx
      exact f1 x hx
    · simp only [if_neg hic] at hx
      exact .inl hx
  · rcases List.mem_cons.1 hm with rfl | hm
    · exact ne_own hb h.hp (by decide) hx
    · exact own_ne hb (h.own c hc) (by decide) x hx (by rw [rowFp_any _ (R c).length (H c).2 0 0]; exact hm)
/-- A number more, beside the rows. -/
theorem Rs.num {nb cb n' c' : Nat} {B B' : Option Addr} {xs : List Value} (h : Rs w gp ch H R wr) (hb : wr.ownsRow 0 3 1 (.slice B nb cb) nb xs) (hf : Fresh w [] (rowFp (.slice B nb cb))) (o1 : Only (rowFp (.slice B nb cb)) wr w1)
    (f1 : Fresh wr (rowFp (.slice B nb cb)) (rowFp (.slice B' n' c'))) : Rs w gp ch H R w1 ∧ Fresh w [] (rowFp (.slice B' n' c')) := by
  have hnew : ∀ x ∈ rowFp (.slice B nb cb), w.heap.size ≤ x := fun x hx => (hf x hx).resolve_left (by simp)
  refine ⟨h.off o1 (ne_own hb h.hp (by decide)) (fun c hc x hx => own_ne (h.own c hc) hb (by decide) x (by rw [rowFp_any _ (R c).length (H c).2 0 0]; exact hx)) hnew, fun x hx => .inr ?_⟩
  rcases f1 x hx with hh | hh
  · exact hnew x hh
  · have := h.only.size; omega
end
/-- The blocks of the rows. -/
def Gs (gp ch : Nat) (H : Nat → Option Addr × Nat) : List Nat := gp :: ((List.range ch).map fun c => rowFp (.slice (H c).1 0 0)).flatten
theorem Gs_mem (gp ch : Nat) (H : Nat → Option Addr × Nat) : gp ∈ Gs gp ch H ∧ ∀ i, i < ch → ∀ x ∈ rowFp (.slice (H i).1 0 0), x ∈ Gs gp ch H := by
  refine ⟨by simp [Gs], fun i hi x hx => ?_⟩
  unfold Gs
  refine List.mem_cons_of_mem _ (List.mem_flatten.2 ⟨_, List.mem_map.2 ⟨i, by simpa using hi, rfl⟩, hx⟩)
theorem Gs_lt {w wr : World} {gp ch : Nat} {H : Nat → Option Addr × Nat} {R : Nat → List Int} (h : Rs w gp ch H R wr) : ∀ x ∈ Gs gp ch H, x < wr.heap.size := by
  intro x hx
  rcases List.mem_cons.1 hx with rfl | hx
  · exact h.hp.lt
  · obtain ⟨l, hl, hxl⟩ := List.mem_flatten.1 hx
    obtain ⟨i, hi, rfl⟩ := List.mem_map.1 hl
    have hi' : i < ch := by simpa using hi
    exact own_lt (h.own i hi') x (by rw [rowFp_any _ (R i).length (H i).2 0 0]; exact hxl)
end Go.Proofs.Ytmojlfgfaabegaa
