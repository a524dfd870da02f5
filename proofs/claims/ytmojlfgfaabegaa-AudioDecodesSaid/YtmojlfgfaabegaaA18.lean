/- The plain decoded sound; the named results of Decode while it runs. -/
import Derived.Test.YtmojlfgfaabegaaA17
namespace Go.Proofs.Ytmojlfgfaabegaa
open Go.RowKit bt

/-- The samples of block k. -/
def want (n k : Nat) : Nat := min 32 (n - 32 * k)
/-- The bytes of block k (blocks of S bytes). -/
def sub (p : List Nat) (S k : Nat) : List Nat := ((p.drop 10).take (min ((k + 1) * S) (p.length - 10))).drop (min (k * S) (p.length - 10))
def okB (p : List Nat) (ch n S k : Nat) : Bool := decide ((TB (sub p S k)).2 = 0 ∧ (TB (sub p S k)).1.length = ch ∧ ((TB (sub p S k)).1.headD []).length = want n k)
def piece (p : List Nat) (ch n S k c : Nat) : List Int := if okB p ch n S k = true then (TB (sub p S k)).1.getD c [] else List.replicate (want n k) 0
def rowTo (p : List Nat) (ch n S c : Nat) : Nat → List Int
  | 0 => []
  | k + 1 => rowTo p ch n S c k ++ piece p ch n S k c
def badTo (p : List Nat) (ch n S : Nat) : Nat → List Int
  | 0 => []
  | k + 1 => if okB p ch n S k = true then badTo p ch n S k else badTo p ch n S k ++ [(k : Int)]
def szN (ch : Nat) : Nat := 5 + ch * 292 / 8
/-- What Decode comes to. -/
def DE (p : List Nat) : List (List Int) × List Int × Int :=
  if (HD p).2 = 0 then
    if nblk (HD p).1.2 * szN (HD p).1.1 < p.length - 10 then ([], [], 3)
    else ((List.range (HD p).1.1).map (fun c => rowTo p (HD p).1.1 (HD p).1.2 (szN (HD p).1.1) c (nblk (HD p).1.2)), badTo p (HD p).1.1 (HD p).1.2 (szN (HD p).1.1) (nblk (HD p).1.2), 0)
  else ([], [], (HD p).2)
def DecC (p : List Nat) (w : World) (e : Ending) (w' : World) : Prop :=
  ∃ A c hs B d, e = .returned (.tuple #[.slice A (DE p).1.length c, .slice B (DE p).2.1.length d, .int .i64 (DE p).2.2]) ∧ PcmIs w' A hs (DE p).1 ∧ Reads w' B 1 (DE p).2.1.length (iV (DE p).2.1) ∧ Only [] w w'
theorem DecC.nil {p : List Nat} {w w' : World} {r : Int} (h : DE p = ([], [], r)) (ho : Only [] w w') : DecC p w (.returned (.tuple #[.slice none 0 0, .slice none 0 0, .int .i64 r])) w' := by
  unfold DecC
  rw [h]
  exact ⟨none, 0, [], none, 0, rfl, PcmIs.nil _, Reads.none_, ho⟩
theorem TB_rows (p : List Nat) : ∀ l ∈ (TB p).1, l.length = ((TB p).1.headD []).length := by
  unfold TB
  split
  · rename_i h
    split
    · split
      · split
        · intro l hl
          have h1 : ∀ l ∈ (List.range (p.getD 0 0)).map (rowN (tbits p) (p.getD 1 0)), l.length = p.getD 1 0 := fun l hl => by
            rw [List.mem_map] at hl
            obtain ⟨_, _, rfl⟩ := hl
            rw [rowN_len]
          rw [h1 l hl]
          symm
          apply h1
          have h2 := h.2.1.1
          obtain ⟨m, hm⟩ : ∃ m, p.getD 0 0 = m + 1 := ⟨p.getD 0 0 - 1, by omega⟩
          rw [hm, List.range_succ_eq_map]
          simp
        · simp
      · simp
    · simp
  · simp
theorem okB_true {p : List Nat} {ch n S k : Nat} : okB p ch n S k = true ↔ (TB (sub p S k)).2 = 0 ∧ (TB (sub p S k)).1.length = ch ∧ ((TB (sub p S k)).1.headD []).length = want n k := by unfold okB; rw [decide_eq_true_iff]
theorem okB_get {p : List Nat} {ch n S k c : Nat} (h : okB p ch n S k = true) (hc : c < ch) : (TB (sub p S k)).1[c]? = some (piece p ch n S k c) ∧ (piece p ch n S k c).length = want n k := by
  obtain ⟨_, h2, h3⟩ := okB_true.1 h
  have h1 : (TB (sub p S k)).1[c]? = some (piece p ch n S k c) := by
    unfold piece
    rw [if_pos h, List.getD_eq_getElem?_getD, List.getElem?_eq_getElem (by omega)]
    rfl
  refine ⟨h1, ?_⟩
  rw [← h3]
  exact TB_rows _ _ (List.mem_of_getElem? h1)
theorem piece_len {p : List Nat} {ch n S k c : Nat} (hc : c < ch) : (piece p ch n S k c).length = want n k := by
  by_cases h : okB p ch n S k = true
  · exact (okB_get h hc).2
  · unfold piece
    rw [if_neg h, List.length_replicate]
theorem rowTo_len {p : List Nat} {ch n S c : Nat} (hc : c < ch) : ∀ k, 32 * k < n + 32 → (rowTo p ch n S c k).length = min (32 * k) n
  | 0, _ => by simp [rowTo]
  | k + 1, h => by
    simp only [rowTo, List.length_append]
    rw [rowTo_len hc k (by omega), piece_len hc]
    unfold want
    omega
/-- Channel c behind k blocks, as it lies. -/
def full (p : List Nat) (ch n S c k : Nat) : List Int := rowTo p ch n S c k ++ List.replicate (n - min (32 * k) n) 0
theorem full_len {p : List Nat} {ch n S c k : Nat} (hc : c < ch) (hk : 32 * k < n + 32) : (full p ch n S c k).length = n := by
  unfold full
  rw [List.length_append, rowTo_len hc k hk, List.length_replicate]
  omega
theorem full_zero (p : List Nat) (ch n S c : Nat) : full p ch n S c 0 = List.replicate n 0 := by simp [full, rowTo]
theorem full_end {p : List Nat} {ch n S c : Nat} : full p ch n S c (nblk n) = rowTo p ch n S c (nblk n) := by
  unfold full
  have : n - min (32 * nblk n) n = 0 := by unfold nblk; omega
  rw [this]; simp
theorem full_bad {p : List Nat} {ch n S c k : Nat} (h : ¬ okB p ch n S k = true) (hk : 32 * k < n) : full p ch n S c (k + 1) = full p ch n S c k := by
  unfold full
  simp only [rowTo]
  unfold piece
  rw [if_neg h, List.append_assoc, List.replicate_append_replicate]
  congr 2
  unfold want
  omega
theorem full_ok {p : List Nat} {ch n S c k : Nat} (hc : c < ch) (hk : 32 * k < n) :
    splice (sV (full p ch n S c k)) (32 * k) ((sV (piece p ch n S k c)).take (n - 32 * k)) = sV (full p ch n S c (k + 1)) := by
  have h1 := rowTo_len (p := p) (S := S) hc k (n := n) (by omega)
  have h2 := piece_len (p := p) (n := n) (S := S) (k := k) hc
  have hw : want n k = min 32 (n - 32 * k) := rfl
  have h3 : (sV (piece p ch n S k c)).take (n - 32 * k) = sV (piece p ch n S k c) := List.take_of_length_le (by simp [sV]; omega)
  rw [h3]
  unfold splice full
  simp only [rowTo]
  have e1 : (sV (rowTo p ch n S c k ++ List.replicate (n - min (32 * k) n) 0)).take (32 * k) = sV (rowTo p ch n S c k) := by
    unfold sV
    rw [List.map_append]
    exact List.take_left' (by simp; omega)
  have e2 : (sV (rowTo p ch n S c k ++ List.replicate (n - min (32 * k) n) 0)).drop (32 * k + (sV (piece p ch n S k c)).length) = sV (List.replicate (n - min (32 * (k + 1)) n) 0) := by
    unfold sV
    rw [List.map_append, ← List.drop_drop, List.drop_left' (by simp; omega), List.map_replicate, List.map_replicate, List.drop_replicate, List.length_map, h2]
    congr 1
    omega
  rw [e1, e2]
  simp [sV]
/-- The named results of Decode while it runs: sound of channels R, the numbers of the damaged blocks, no error. -/
structure Ds (w : World) (g2 g3 g4 gp : Nat) (gs : List Nat) (n ch : Nat) (R : Nat → List Int) (bad : List Int) (B : Option Addr) (nb cb : Nat) (wr : World) : Prop where
  b2 : Blk wr g2 28 #[.slice (some ⟨gp, 0, none⟩) ch ch]
  b3 : Blk wr g3 41 #[.slice B nb cb]
  b4 : Blk wr g4 29 #[.int .i64 0]
  hp : Blk wr gp 39 (hdrs gs n ch).toArray
  gl : gs.length ≤ ch
  row : ∀ (c g' : Nat), gs[c]? = some g' → Blk wr g' 45 (sV (R c)).toArray
  dist : ∀ (i j g' : Nat), gs[i]? = some g' → gs[j]? = some g' → i = j
  own : wr.ownsRow 0 3 1 (.slice B nb cb) nb (iV bad)
  new : w.heap.size ≤ g2 ∧ w.heap.size ≤ g3 ∧ w.heap.size ≤ g4 ∧ w.heap.size ≤ gp ∧ (∀ g' ∈ gs, w.heap.size ≤ g') ∧ ∀ x ∈ rowFp (.slice B nb cb), w.heap.size ≤ x
  only : Only [] w wr
section
variable {w wr w1 : World} {g2 g3 g4 gp n ch nb cb : Nat} {gs : List Nat} {R : Nat → List Int} {bad : List Int} {B : Option Addr}
theorem Ds.then (h : Ds w g2 g3 g4 gp gs n ch R bad B nb cb wr) (o : Only [] wr w1) : Ds w g2 g3 g4 gp gs n ch R bad B nb cb w1 :=
  ⟨h.b2.only o (by simp), h.b3.only o (by simp), h.b4.only o (by simp), h.hp.only o (by simp), h.gl, fun c g' hg => (h.row c g' hg).only o (by simp), h.dist, own_only h.own o (by simp), h.new, h.only.then o⟩
theorem Ds.congr {R' : Nat → List Int} (h : Ds w g2 g3 g4 gp gs n ch R bad B nb cb wr) (hR : ∀ c, c < ch → R c = R' c) : Ds w g2 g3 g4 gp gs n ch R' bad B nb cb wr :=
  ⟨h.b2, h.b3, h.b4, h.hp, h.gl, fun c g' hg => by rw [← hR c (Nat.lt_of_lt_of_le (List.getElem?_eq_some_iff.1 hg).1 h.gl)]; exact h.row c g' hg, h.dist, h.own, h.new, h.only⟩
theorem ne_own {w : World} {base : Nat} {e t : TypeId} {size n g : Nat} {v : Value} {xs : List Value} {cs : Array Value} (h : w.ownsRow base e size v n xs) (hg : Blk w g t cs) (hne : e ≠ t) : g ∉ rowFp v := by
  intro hm
  have := own_blk_ne h hg hne
  unfold rowFp at hm
  cases ho : v.ownBlock with
  | none => rw [ho] at hm; simp at hm
  | some x => rw [ho] at hm this; simp at hm; subst hm; exact this rfl
/-- A number more. -/
theorem Ds.app {B1 : Option Addr} {n1 c1 : Nat} {bad1 : List Int} (h : Ds w g2 g3 g4 gp gs n ch R bad B nb cb wr) (own1 : w1.ownsRow 0 3 1 (.slice B1 n1 c1) n1 (iV bad1)) (o1 : Only (rowFp (.slice B nb cb)) wr w1) (f1 : Fresh wr (rowFp (.slice B nb cb)) (rowFp (.slice B1 n1 c1))) :
    w1.cell? ⟨g3, 0, none⟩ = some (.slice B nb cb) ∧ w1.frozen? ⟨g3, 0, none⟩ = false ∧ Ds w g2 g3 g4 gp gs n ch R bad1 B1 n1 c1 (w1.setCell ⟨g3, 0, none⟩ (.slice B1 n1 c1)) := by
  have hsz := h.only.size
  have B2 := h.b2.only o1 (ne_own h.own h.b2 (by decide))
  have B3 := h.b3.only o1 (ne_own h.own h.b3 (by decide))
  have B4 := h.b4.only o1 (ne_own h.own h.b4 (by decide))
  have HP := h.hp.only o1 (ne_own h.own h.hp (by decide))
  have RW : ∀ (c g' : Nat), gs[c]? = some g' → Blk w1 g' 45 (sV (R c)).toArray := fun c g' hg => (h.row c g' hg).only o1 (ne_own h.own (h.row c g' hg) (by decide))
  obtain ⟨s1, s2⟩ := B3.set1 0 (.slice B1 n1 c1)
  refine ⟨B3.cell 0, B3.frozen 0, ⟨B2.only s2 (by simp; exact B2.ne_ B3 (by decide)), s1, B4.only s2 (by simp; exact B4.ne_ B3 (by decide)), HP.only s2 (by simp; exact HP.ne_ B3 (by decide)), h.gl,
    fun c g' hg => (RW c g' hg).only s2 (by simp; exact (RW c g' hg).ne_ B3 (by decide)), h.dist, own_only own1 s2 (fun x hx hm => by simp at hm; subst hm; exact ne_own own1 B3 (by decide) hx), ?_, (h.only.first o1 h.new.2.2.2.2.2).first s2 (by simp; exact h.new.2.1)⟩⟩
  refine ⟨h.new.1, h.new.2.1, h.new.2.2.1, h.new.2.2.2.1, h.new.2.2.2.2.1, fun x hx => ?_⟩
  rcases f1 x hx with hh | hh
  · exact h.new.2.2.2.2.2 x hh
  · omega
/-- A channel turned. -/
theorem Ds.turn {c g' : Nat} {l : List Int} (h : Ds w g2 g3 g4 gp gs n ch R bad B nb cb wr) (hg : gs[c]? = some g') (o1 : Only [g'] wr w1) (hb : Blk w1 g' 45 (sV l).toArray) :
    Ds w g2 g3 g4 gp gs n ch (fun i => if i = c then l else R i) bad B nb cb w1 := by
  have hgb := h.row c g' hg
  refine ⟨h.b2.only o1 (by simp; exact h.b2.ne_ hgb (by decide)), h.b3.only o1 (by simp; exact h.b3.ne_ hgb (by decide)), h.b4.only o1 (by simp; exact h.b4.ne_ hgb (by decide)), h.hp.only o1 (by simp; exact h.hp.ne_ hgb (by decide)), h.gl, ?_, h.dist,
    own_only h.own o1 (fun x hx hm => by simp at hm; subst hm; exact ne_own h.own hgb (by decide) hx), h.new, h.only.first o1 (by simp; exact h.new.2.2.2.2.1 g' (List.mem_of_getElem? hg))⟩
  intro i gi hi
  by_cases hic : i = c
  · subst hic
    rw [hg] at hi
    cases hi
    simp only [if_true]
    exact hb
  · simp only [if_neg hic]
    refine (h.row i gi hi).only o1 ?_
    simp only [List.mem_singleton]
    rintro rfl
    exact hic (h.dist _ _ _ hi hg)
/-- A channel more. -/
theorem Ds.more {gk : Nat} {l : List Int} (h : Ds w g2 g3 g4 gp gs n ch R bad B nb cb wr) (hc : gs.length < ch) (o1 : Only [] wr w1) (hk : wr.heap.size ≤ gk) (hb : Blk w1 gk 45 (sV l).toArray) (hR : R gs.length = l) :
    w1.cell? ⟨gp, gs.length, none⟩ = some (.slice none 0 0) ∧ w1.frozen? ⟨gp, gs.length, none⟩ = false ∧
      Ds w g2 g3 g4 gp (gs ++ [gk]) n ch R bad B nb cb (w1.setCell ⟨gp, gs.length, none⟩ (.slice (some ⟨gk, 0, none⟩) n n)) := by
  have h1 := h.then o1
  obtain ⟨s1, s2⟩ := h1.hp.set1 gs.length (.slice (some ⟨gk, 0, none⟩) n n)
  rw [hdrs_step hc] at s1
  refine ⟨by rw [h1.hp.cell]; simpa using hdrs_next (n := n) hc, h1.hp.frozen _, ⟨h1.b2.only s2 (by simp; exact h1.b2.ne_ h1.hp (by decide)), h1.b3.only s2 (by simp; exact h1.b3.ne_ h1.hp (by decide)), h1.b4.only s2 (by simp; exact h1.b4.ne_ h1.hp (by decide)), s1, by simp; omega, ?_, ?_,
    own_only h1.own s2 (fun x hx hm => by simp at hm; subst hm; exact ne_own h1.own h1.hp (by decide) hx), ⟨h.new.1, h.new.2.1, h.new.2.2.1, h.new.2.2.2.1, ?_, h.new.2.2.2.2.2⟩, h1.only.first s2 (by simp; exact h.new.2.2.2.1)⟩⟩
  · intro i gi hi
    have hb' : Blk w1 gi 45 (sV (R i)).toArray := by
      by_cases hil : i < gs.length
      · rw [List.getElem?_append_left hil] at hi
        exact h1.row i gi hi
      · rw [List.getElem?_append_right (by omega), List.getElem?_singleton] at hi
        split at hi
        · cases hi
          have : i = gs.length := by omega
          subst this
          rw [hR]; exact hb
        · cases hi
    exact hb'.only s2 (by simp; exact hb'.ne_ h1.hp (by decide))
  · have hlt : ∀ (i g' : Nat), gs[i]? = some g' → g' < gk := fun i g' hi => Nat.lt_of_lt_of_le (h.row i g' hi).lt hk
    intro i j g' hi hj
    by_cases hil : i < gs.length
    · rw [List.getElem?_append_left hil] at hi
      by_cases hjl : j < gs.length
      · rw [List.getElem?_append_left hjl] at hj
        exact h.dist i j g' hi hj
      · rw [List.getElem?_append_right (by omega), List.getElem?_singleton] at hj
        split at hj
        · cases hj
          have := hlt i _ hi
          omega
        · cases hj
    · rw [List.getElem?_append_right (by omega), List.getElem?_singleton] at hi
      split at hi
      · cases hi
        by_cases hjl : j < gs.length
        · rw [List.getElem?_append_left hjl] at hj
          have := hlt j _ hj
          omega
        · rw [List.getElem?_append_right (by omega), List.getElem?_singleton] at hj
          split at hj
          · omega
          · cases hj
      · cases hi
  · intro g' hg'
    rcases List.mem_append.1 hg' with h' | h'
    · exact h.new.2.2.2.2.1 g' h'
    · simp at h'; subst h'; have := h.only.size; omega
end
end Go.Proofs.Ytmojlfgfaabegaa
