/- Contract of the laws' helper 'written': a writer without bits, and a list of calls. -/
import Derived.Test.YtmojlfgfaabegaaAw
import Derived.Deep.RegionHeld3
namespace Go.Proofs.Ytmojlfgfaabegaa
open Go.RowKit bt

/-- The cells of a list of calls of Put. -/
def opsV : List (Nat × Int) → List Value
  | [] => []
  | o :: l => .int .u32 (o.1 : Int) :: .int .i64 o.2 :: opsV l
theorem opsV_length (l : List (Nat × Int)) : (opsV l).length = l.length * 2 := by
  induction l with
  | nil => rfl
  | cons o l ih => simp [opsV, ih]; omega
theorem opsV_get : ∀ (l : List (Nat × Int)) (k : Nat) (o : Nat × Int), l[k]? = some o → (opsV l)[k * 2]? = some (.int .u32 (o.1 : Int)) ∧ (opsV l)[k * 2 + 1]? = some (.int .i64 o.2)
  | [], k, o, h => by simp at h
  | p :: l, 0, o, h => by simp at h; subst h; simp [opsV]
  | p :: l, k + 1, o, h => by
    have := opsV_get l k o (by simpa using h)
    have e1 : (k + 1) * 2 = k * 2 + 1 + 1 := by omega
    have e2 : (k + 1) * 2 + 1 = k * 2 + 1 + 1 + 1 := by omega
    rw [e2, e1]
    simpa [opsV] using this
/-- The bits that the calls append. -/
def putAll (l : List (Nat × Int)) : List Bool := l.foldl (fun b o => putBits b (o.1 : Int) o.2) []
theorem putAll_snoc (l : List (Nat × Int)) (o : Nat × Int) : putAll (l ++ [o]) = putBits (putAll l) (o.1 : Int) o.2 := by simp [putAll, List.foldl_append]
theorem putBits_le (b : List Bool) (v n : Int) : (putBits b v n).length ≤ b.length + 32 := by
  unfold putBits
  split
  · rename_i h
    unfold putErr at h
    split at h
    · cases h
    · simp [bitsOf_length]; omega
  · omega
theorem putAll_le (l : List (Nat × Int)) : (putAll l).length ≤ 32 * l.length := by
  have h : ∀ (l : List (Nat × Int)) (b : List Bool), (l.foldl (fun b o => putBits b (o.1 : Int) o.2) b).length ≤ b.length + 32 * l.length := by
    intro l
    induction l with
    | nil => intro b; simp
    | cons o l ih => intro b; have h1 := ih (putBits b (o.1 : Int) o.2); have h2 := putBits_le b (o.1 : Int) o.2; simp only [List.foldl_cons, List.length_cons]; omega
  have := h l []
  unfold putAll
  simpa using this

theorem WriterIs.lt {w : World} {g : Nat} {F : List Nat} {l : List Bool} (h : WriterIs w g F l) : ∀ k ∈ F, k < w.heap.size := by
  obtain ⟨A, c, hb, hown, rfl⟩ := h
  intro k hk
  simp only [List.mem_cons] at hk
  rcases hk with rfl | hk
  · exact hb.lt
  · exact own_lt hown k hk
theorem WriterIs.only {w w' : World} {g : Nat} {F G : List Nat} {l : List Bool} (h : WriterIs w g F l) (ho : Only G w w') (hd : ∀ k ∈ F, k ∉ G) : WriterIs w' g F l := by
  obtain ⟨A, c, hb, hown, rfl⟩ := h
  exact ⟨A, c, hb.only ho (hd g (by simp)), own_only hown ho (fun k hk => hd k (by simp [hk])), rfl⟩
theorem WriterIs.then {w w' : World} {g : Nat} {F : List Nat} {l : List Bool} (h : WriterIs w g F l) (ho : Only [] w w') : WriterIs w' g F l := h.only ho (by simp)

end Go.Proofs.Ytmojlfgfaabegaa
