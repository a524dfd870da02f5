/- Contract of the laws' helper 'written': a writer without bits, and a list of calls. -/
import Derived.Test.YtcpmaccahfdceaaAw
import Derived.Deep.RegionHeld3
namespace Go.Proofs.Ytcpmaccahfdceaa
open Go.RowKit bt

/-- The cells of a list of calls of Put. -/
def opsV : List (Nat × Int) → List Value
  | [] => []
  | o :: l => .int .u32 (o.1 : Int) :: .int .i64 o.2 :: opsV l
theorem opsV_length (l : List (Nat × Int)) : (opsV l).length = l.length * 2 := by
  induction l with
  | nil => rfl
  | cons o l ih => simp [opsV, ih]; omega
theorem opsV_get : ∀ (l : List (Nat × Int)) (k : Nat) (o : Nat × Int), l[k]? = some o → (opsV l)[k * 2]? = some (.int .u32 (o.1 : Int)) ∧ (opsV l)[k * 2 + 1]? = some (.int .i64 o.2)
  | [], k, o, h => by simp at h
  | p :: l, 0, o, h => by simp at h; subst h; simp [opsV]
  | p :: l, k + 1, o, h => by
    have := opsV_get l k o (by simpa using h)
    have e1 : (k + 1) * 2 = k * 2 + 1 + 1 := by omega
    have e2 : (k + 1) * 2 + 1 = k * 2 + 1 + 1 + 1 := by omega
    rw [e2, e1]
    simpa [opsV] using this
/-- The bits that the calls append. -/
def putAll (l : List (Nat × Int)) : List Bool := l.foldl (fun b o => putBits b (o.1 : Int) o.2) []
theorem putAll_snoc (l : List (Nat × Int)) (o : Nat × Int) : putAll (l ++ [o]) = putBits (putAll l) (o.1 : Int) o.2 := by simp [putAll, List.foldl_append]
theorem putBits_le (b : List Bool) (v n : Int) : (putBits b v n).length ≤ b.length + 32 := by
  unfold putBits
  split
  · rename_i h
    unfold putErr at h
    split at h
    · cases h
    · simp [bitsOf_length]; omega
  · omega
theorem putAll_le (l : List (Nat × Int)) : (putAll l).length ≤ 32 * l.length := by
  have h : ∀ (l : List (Nat × Int)) (b : List Bool), (l.foldl (fun b o => putBits b (o.1 : Int) o.2) b).length ≤ b.length + 32 * l.length := by
    intro l
    induction l with
    | nil => intro b; simp
    | cons o l ih => intro b; have h1 := ih (putBits b (o.1 : Int) o.2); have h2 := putBits_le b (o.1 : Int) o.2; simp only [List.foldl_cons, List.length_cons]; omega
  have := h l []
  unfold putAll
  simpa using this

theorem WriterIs.lt {w : World} {g : Nat} {F : List Nat} {l : List Bool} (h : WriterIs w g F l) : ∀ k ∈ F, k < w.heap.size := by
  obtain ⟨A, c, hb, hown, rfl⟩ := h
  intro k hk
  simp only [List.mem_cons] at hk
  rcases hk with rfl | hk
  · exact hb.lt
  · exact own_lt hown k hk
theorem WriterIs.only {w w' : World} {g : Nat} {F G : List Nat} {l : List Bool} (h : WriterIs w g F l) (ho : Only G w w') (hd : ∀ k ∈ F, k ∉ G) : WriterIs w' g F l := by
  obtain ⟨A, c, hb, hown, rfl⟩ := h
  exact ⟨A, c, hb.only ho (hd g (by simp)), own_only hown ho (fun k hk => hd k (by simp [hk])), rfl⟩
theorem WriterIs.then {w w' : World} {g : Nat} {F : List Nat} {l : List Bool} (h : WriterIs w g F l) (ho : Only [] w w') : WriterIs w' g F l := h.only ho (by simp)

set_option maxHeartbeats 1000000 in
theorem written_any (w : World) (g : Nat) (F : List Nat) (A : Option Addr) (c : Nat) (ops : List (Nat × Int)) (h : WriterIs w g F []) (hr : Reads w A 2 ops.length (opsV ops)) (hA : Off A ops.length F) (hn : ops.length ≤ 200) (hv : ∀ o ∈ ops, o.1 < 4294967296) :
    Calls Try.prog 16 #[.pointer (some ⟨g, 0, none⟩), .slice A ops.length c] w fun e w' =>
      ∃ A' c' F', e = .returned (.tuple #[.slice A' (putAll ops).length c', .bool true]) ∧ WriterIs w' g F' (putAll ops) ∧ w'.ownsRow 0 5 1 (.slice A' (putAll ops).length c') (putAll ops).length (bytesV (flat (putAll ops))) ∧
        Only F w w' ∧ Fresh w F F' ∧ Fresh w [] (rowFp (.slice A' (putAll ops).length c')) ∧ ∀ k ∈ F', k ∉ rowFp (.slice A' (putAll ops).length c') := by
  obtain ⟨i0, hi0, hz0, hz1, hz2⟩ := info_parts info_u8
  have Hh := Lib.hid h
  have Hr := Lib.hid hr
  have Hv := Lib.hid hv
  clear h hr hv
  go_enter Try.func16, Try.ntmps16
  go_wp2
  go_loopw [6, 7] (fun s i wr => ∃ k : Nat, k ≤ ops.length ∧ i = .int .i64 k ∧ ∃ A' c' F' m, Hid (m = (putAll (ops.take k)).length) ∧ s = .slice A' m c' ∧ WriterIs wr g F' (putAll (ops.take k)) ∧ wr.ownsRow 0 5 1 (.slice A' m c') m (bytesV (flat (putAll (ops.take k)))) ∧
        Only F w wr ∧ Fresh w F F' ∧ Fresh w [] (rowFp (.slice A' m c')) ∧ Hid (∀ k ∈ F', k ∉ rowFp (.slice A' m c'))) (fun _ i _ => ops.length - (intOf i).toNat)
  case atStart => exact ⟨0, Nat.zero_le _, rfl, none, 0, F, 0, rfl, rfl, Hh.out, World.ownsRow_nil _ _ _ _, Only.refl _ _, Fresh.refl _ _, by simp [Fresh, rowFp, Value.ownBlock], show ∀ _, _ by simp [rowFp, Value.ownBlock]⟩
  case round =>
    obtain ⟨k, hk, rfl, A1, c1, F1, m, Hm, rfl, hw1, hown, ho, hf, hf0, Hdis⟩ := hrel
    by_cases hlt : k < ops.length
    · obtain ⟨⟨v, nn⟩, ho'⟩ : ∃ o, ops[k]? = some o := ⟨_, List.getElem?_eq_getElem hlt⟩
      obtain ⟨hx0, hx1⟩ := opsV_get ops k (v, nn) ho'
      obtain ⟨b, off, rfl, hc⟩ := (Hr.out.only ho hA).plain (by omega) (by omega)
      have hc0 := hc _ _ hx0
      have hc1 := hc _ _ hx1
      rw [← Nat.add_assoc] at hc1
      have hvo := Hv.out (v, nn) (List.mem_of_getElem? ho')
      have hkl : (k : Int) < (ops.length : Int) := by omega
      have Ho' := Lib.hid ho'
      have Hc := Lib.hid hc
      clear hc hx0 hx1 ho'
      go_wp2_with fail
      go_quiet ((go_at_call 31; exact (Calls.quiet_of_same ((refMay_any _ _ _ (by omega) (by omega)).mono fun _ _ ⟨a, b⟩ => ⟨a, b.symm⟩))))
      go_wp2_with fail
      have hw2 : WriterIs (wr.drewN nq) g F1 (putAll (ops.take k)) := hw1.then ((Only.refl _ _).drewN nq)
      have hown2 : (wr.drewN nq).ownsRow 0 5 1 (.slice A1 m c1) m (bytesV (flat (putAll (ops.take k)))) := hown
      have ho2 : Only F w (wr.drewN nq) := ho.drewN nq
      have hd0 : (wr.drewN nq).cell? ⟨b, off + k * 2, none⟩ = some (.int .u32 (v : Int)) := hc0
      have hd1 : (wr.drewN nq).cell? ⟨b, off + k * 2 + 1, none⟩ = some (.int .i64 nn) := hc1
      clear hc0 hc1 hw1 hown ho Hc
      generalize wr.drewN nq = w2 at hw2 hown2 ho2 hd0 hd1 ⊢
      have hbw : b < w.heap.size := by
        obtain ⟨_, _, e, hcc⟩ := Hr.out.plain (by omega) (by omega)
        injection e with e
        injection e with e1 e2
        subst e1
        exact World.block_lt_of_cell? w _ (hcc _ _ (List.getElem?_eq_getElem (l := opsV ops) (i := 0) (by rw [opsV_length]; omega)))
      have hbF : b ∉ F1 := by
        intro hb
        rcases hf b hb with h | h
        · exact hA (by omega) _ rfl h
        · omega
      have hlen := putAll_le (ops.take k)
      have hlen2 : (ops.take k).length ≤ 200 := by simp; omega
      go_region_held3 (fun w' => w'.cell? ⟨b, off + k * 2, none⟩ = some (.int .u32 (v : Int)) ∧ w'.cell? ⟨b, off + k * 2 + 1, none⟩ = some (.int .i64 nn))
        (first | exact ⟨hd0, hd1⟩ | exact ⟨(ho3.cell (World.block_lt_of_cell? _ _ hd0) hbF).trans hd0, (ho3.cell (World.block_lt_of_cell? _ _ hd1) hbF).trans hd1⟩)
        (first | (go_at_call 25; refine (put_any _ g F1 (putAll (ops.take k)) _ _ (by exact hw2.then (Only.refl _ _).drew) (by omega) (by omega)).mono ?_; rintro e w3 ⟨rfl, F3, hw3, ho3, hf3⟩))
      have hdis3 : ∀ x ∈ F3, x ∉ rowFp (.slice A1 m c1) := by
        intro x hx hx2
        rcases hf3 x hx with h | h
        · exact Hdis.out x h hx2
        · have := own_lt hown2 x hx2
          simp at h; omega
      have ho3' : Only F1 w2 w3 := (Only.refl _ _).drew.trans ho3 (Fresh.refl _ _)
      have hown3 := own_only hown2 ho3' (fun x hx hx2 => Hdis.out x hx2 hx)
      have ho4 : Only F w w3 := ho2.trans ho3' hf
      have hf4 : Fresh w F F3 := hf.trans ho2.size (by intro x hx; rcases hf3 x hx with h | h; exact .inl h; exact .inr (by simpa using h))
      have hbA : b ∉ rowFp (.slice A1 m c1) := by
        intro hx
        rcases hf0 b hx with h | h
        · cases h
        · omega
      have he0 := (ho3'.cell (p := ⟨b, off + k * 2, none⟩) (World.block_lt_of_cell? _ _ hd0) hbF).trans hd0
      have he1 := (ho3'.cell (p := ⟨b, off + k * 2 + 1, none⟩) (World.block_lt_of_cell? _ _ hd1) hbF).trans hd1
      have htk : ops.take (k + 1) = ops.take k ++ [(v, nn)] := by rw [List.take_add_one, Ho'.out]; rfl
      have Htk := Lib.hid htk
      have Hdis3 := Lib.hid hdis3
      clear htk hdis3 hd0 hd1 hown2 ho2 hw2 ho3 hf3 ho3' Hdis hf
      by_cases hpe : putErr (v : Int) nn = 0
      · have hpb : (putErr (v : Int) nn == 0) = true := by simpa using hpe
        have hb1 : putBits (putAll (ops.take k)) (v : Int) nn = putAll (ops.take k) ++ bitsOf v nn.toNat := by unfold putBits; rw [if_pos hpe]; simp
        have hnn : 0 ≤ nn ∧ nn ≤ 32 := by
          unfold putErr at hpe
          split at hpe
          · cases hpe
          · omega
        obtain ⟨n', rfl⟩ : ∃ n' : Nat, nn = n' := ⟨nn.toNat, by omega⟩
        have Hb1 := Lib.hid hb1
        have Hpe := Lib.hid hpe
        clear hb1 hpe
        go_wp2_with fail
        go_region_held3 (fun w' => w'.cell? ⟨b, off + k * 2, none⟩ = some (.int .u32 (v : Int)) ∧ w'.cell? ⟨b, off + k * 2 + 1, none⟩ = some (.int .i64 (n' : Int)))
          (first | exact ⟨he0, he1⟩ | exact ⟨(ho5.cell (World.block_lt_of_cell? _ _ he0) (by simp)).trans he0, (ho5.cell (World.block_lt_of_cell? _ _ he1) (by simp)).trans he1⟩ | exact ⟨(ho6.cell (World.block_lt_of_cell? _ _ hg0) hbA).trans hg0, (ho6.cell (World.block_lt_of_cell? _ _ hg1) hbA).trans hg1⟩)
          (first
           | (refine step_app _ rfl _ _ 25 (by rfl) 5 i0 (.int .u8 0) 1 1 Try.underlying25 hi0 hz0 hz1 hz2 rfl (by decide) A1 m c1 _ (by rfl) (by exact hown5) A5 n' c5 _ (by rfl) (by exact Reads.of_own hownB) (bytesV_one _) (by have := Hm.out; unfold maxLen; omega) (by have := Hm.out; omega) ?_; intro A6 c6 w6 hown6 ho6 hf6)
           | (go_at_call 47; refine (refBits_any _ v n' (by omega) (by omega)).mono ?_; rintro e w5 ⟨A5, c5, rfl, hownB, ho5, hf5⟩; have hown5 := own_only hown3 ((Only.refl [] _).drew.then ho5) (by simp); have hg0 := (ho5.cell (p := ⟨b, off + k * 2, none⟩) (World.block_lt_of_cell? _ _ he0) (by simp)).trans he0; have hg1 := (ho5.cell (p := ⟨b, off + k * 2 + 1, none⟩) (World.block_lt_of_cell? _ _ he1) (by simp)).trans he1))
        all_goals go_wp2_with fail
        have ho56 : Only [] w3 w5 := (Only.refl [] _).drew.then ho5
        have hw6 := (hw3.then ho56).only ho6 Hdis3.out
        refine (len_any _ _ _ _ hw6).mono ?_
        rintro e w7 ⟨rfl, rfl⟩
        have hl2 : (putBits (putAll (ops.take k)) (v : Int) (n' : Int)).length = m + n' := by rw [Hb1.out, List.length_append, bitsOf_length, ← Hm.out]; simp
        rw [hl2]
        go_wp2_with fail
        go_roundw
        case rel =>
          have ha : putAll (ops.take (k + 1)) = putBits (putAll (ops.take k)) (v : Int) (n' : Int) := by rw [Htk.out, putAll_snoc]
          refine ⟨k + 1, by omega, by go_num, A6, c6, F3, m + n', ?_, rfl, ?_, ?_, ?_, hf4, ?_, ?_⟩
          · show _ = _
            rw [ha, hl2]
          · rw [ha]; exact hw6
          · rw [ha, Hb1.out, flat_append, bytesV_append]; exact hown6
          · exact (ho4.then ho56).trans ho6 (fun x hx => .inr (by rcases hf0 x hx with h | h; cases h; exact h))
          · exact hf0.trans (ho4.then ho56).size hf6
          · show ∀ _, _
            intro x hx hx2
            rcases hf6 x hx2 with h | h
            · exact Hdis3.out x hx h
            · have := hw3.lt x hx
              have := ho56.size
              omega
        case measure => simp [intOf]; omega
      · have hpb : (putErr (v : Int) nn == 0) = false := by simpa using hpe
        have hb1 : putBits (putAll (ops.take k)) (v : Int) nn = putAll (ops.take k) := by unfold putBits; rw [if_neg hpe]
        have Hb1 := Lib.hid hb1
        clear hb1 hpe
        go_wp2_with fail
        refine (len_any _ _ _ _ hw3).mono ?_
        rintro e w7 ⟨rfl, rfl⟩
        have hl2 : (putBits (putAll (ops.take k)) (v : Int) nn).length = m := by rw [Hb1.out]; exact Hm.out.symm
        rw [hl2]
        go_wp2_with fail
        go_roundw
        case rel =>
          have ha : putAll (ops.take (k + 1)) = putAll (ops.take k) := by rw [Htk.out, putAll_snoc]; exact Hb1.out
          refine ⟨k + 1, by omega, by go_num, A1, c1, F3, m, ?_, rfl, ?_, ?_, ho4, hf4, hf0, Hdis3⟩
          · show _ = _
            rw [ha]; exact Hm.out
          · rw [ha, ← Hb1.out]; exact hw3
          · rw [ha]; exact hown3
        case measure => simp [intOf]; omega
    · go_wp2
      go_ret2
      have hkn : ops.take k = ops := List.take_of_length_le (by omega)
      have hm := Hm.out
      rw [hkn] at hm hw1 hown
      subst hm
      exact ⟨A1, c1, F1, rfl, hw1, hown, ho, hf, hf0, Hdis.out⟩
end Go.Proofs.Ytcpmaccahfdceaa
