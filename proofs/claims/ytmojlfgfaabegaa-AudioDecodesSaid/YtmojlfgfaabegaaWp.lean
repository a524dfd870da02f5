/- Contract of the writer's Payload. -/
import Derived.Test.YtmojlfgfaabegaaWr
namespace Go.Proofs.Ytmojlfgfaabegaa
open Go.RowKit bt

theorem bytesV_one (l : List Nat) : ∀ u ∈ bytesV l, u.oneCell' = true := by
  intro u hu
  simp only [bytesV, List.mem_map] at hu
  obtain ⟨b, _, rfl⟩ := hu
  rfl
theorem mark_byte (m : List Bool) : bits BinOp.or IntKind.u8 (byteAt m (m.length / 8) : Int) (128 / 2 ^ (m.length % 8)) = (byteAt (m ++ [true]) (m.length / 8) : Int) := by
  have h := put_byte m true
  have e : ((true.toNat : Int) * 2 ^ (7 - m.length % 8) % 256) = 128 / 2 ^ (m.length % 8) := by
    have : m.length % 8 < 8 := Nat.mod_lt _ (by omega)
    generalize m.length % 8 = k at this
    match k, this with
    | 0, _ => rfl
    | 1, _ => rfl
    | 2, _ => rfl
    | 3, _ => rfl
    | 4, _ => rfl
    | 5, _ => rfl
    | 6, _ => rfl
    | 7, _ => rfl
  rw [e] at h
  exact h
theorem copied (l : List Bool) : splice (List.replicate (l.length / 8 + 1) (Value.int .u8 0)) 0 ((bytesV (pack l)).take (l.length / 8 + 1)) = bytesV ((List.range (l.length / 8 + 1)).map (byteAt l)) := by
  have hl : (bytesV (pack l)).length = (l.length + 7) / 8 := by simp [bytesV, pack]
  rw [List.take_of_length_le (by omega)]
  simp only [splice, List.take_zero, List.nil_append, hl]
  by_cases h : l.length % 8 = 0
  · rw [← pack_grow l h]
    have e : 0 + (l.length + 7) / 8 = l.length / 8 := by omega
    rw [e]
    simp [bytesV]
  · rw [← pack_stay l h]
    have e : 0 + (l.length + 7) / 8 = l.length / 8 + 1 := by omega
    rw [e]
    simp

set_option maxHeartbeats 1000000 in
theorem payload_any (w : World) (g : Nat) (F : List Nat) (l : List Bool) (h : WriterIs w g F l) (hl : l.length ≤ 1099511627776) :
    Calls Try.prog 48 #[.pointer (some ⟨g, 0, none⟩)] w fun e w' => e = .returned (.slice (some ⟨w.heap.size, 0, none⟩) (l.length / 8 + 1) (l.length / 8 + 1)) ∧ Blk w' w.heap.size 5 (bytesV (payload l)).toArray ∧ Only [] w w' := by
  obtain ⟨A, c, hb, hown, hF⟩ := h
  obtain ⟨i0, hi0, hz0, hz1, hz2⟩ := info_parts info_u8
  have hsz : (Try.prog.info? 5).map (·.size) = some 1 := by rw [hi0]; simp [hz1]
  have hc1 := hb.cell 1
  simp only [List.getElem?_toArray, List.getElem?_cons_succ, List.getElem?_cons_zero] at hc1
  clear hF
  have hgl := hb.lt
  go_enter Try.func48, Try.ntmps48
  go_wp2_with (at_make; refine wpList_mk _ rfl _ _ 22 rfl 5 i0 (.int .u8 0) Try.underlying22 hi0 hz0 hz1 rfl _ _ _ _ (l.length / 8 + 1) rfl rfl (by omega) (by omega) (by rw [hz2]; omega) (by unfold maxLen; omega) ?_)
  intro w1 hb1 ho1 hs1
  have hbw := hb.only ho1 (by simp)
  have hd0 := hbw.cell 0
  have hd1 := hbw.cell 1
  simp only [List.getElem?_toArray, List.getElem?_cons_succ, List.getElem?_cons_zero] at hd0 hd1
  have hrd : Reads w1 A 1 ((l.length + 7) / 8) (bytesV (pack l)) := (Reads.of_own hown).then ho1
  have Hs1 := Lib.hid hs1
  clear hs1
  clear hc1
  go_wp2_with (with_reducible refine wpList_cp _ rfl _ _ 22 22 rfl 5 Try.underlying22 hsz w.heap.size 0 _ _ A _ c rfl rfl _ 5 hb1 _ hrd (by simp) (bytesV_one _) ?_)
  intro w2 hb2 ho2
  rw [copied] at hb2
  have hgn : w.heap.size ≠ g := by omega
  have hbw2 := hbw.only ho2 (by simp; omega)
  have ho3 : Only [] w w2 := ho1.first ho2 (by simp)
  clear hd0 hd1
  have hd1 := hbw2.cell 1
  simp only [List.getElem?_toArray, List.getElem?_cons_succ, List.getElem?_cons_zero] at hd1
  have her := hb2.cell (l.length / 8)
  have hef := hb2.frozen (l.length / 8)
  have hxs : (bytesV ((List.range (l.length / 8 + 1)).map (byteAt l))).toArray[l.length / 8]? = some (.int .u8 (byteAt l (l.length / 8) : Int)) := by simp [bytesV]
  rw [hxs] at her
  have hlt1 : (l.length : Int) / 8 < ((l.length / 8 + 1 : Nat) : Int) := by omega
  have hge1 : (0 : Int) ≤ (l.length : Int) / 8 := by omega
  clear hxs
  go_wp2_with fail
  go_region
  all_goals go_wp2_with fail
  go_ret
  refine ⟨rfl, ?_, ((ho3.setCell (p := ⟨w.heap.size, l.length / 8, none⟩) (.inr (Nat.le_refl _)) _)).drew⟩
  have h4 := (hb2.set_ (l.length / 8) (.int .u8 (bits BinOp.or IntKind.u8 (byteAt l (l.length / 8) : Int) (128 / 2 ^ (l.length % 8))))).drew
  rw [mark_byte] at h4 ⊢
  have e : (bytesV (payload l)) = (bytesV ((List.range (l.length / 8 + 1)).map (byteAt l))).set (l.length / 8) (.int .u8 (byteAt (l ++ [true]) (l.length / 8) : Int)) := by
    unfold payload
    rw [pack_snoc]; simp [bytesV, List.map_set]
  rw [e]
  simpa using h4
theorem payload_nil (w : World) : Calls Try.prog 48 #[.pointer none] w fun e w' => e = .returned (.slice none 0 0) ∧ w = w' := by
  go_enter Try.func48, Try.ntmps48
  go_wp2
  go_ret
  exact ⟨rfl, rfl⟩
end Go.Proofs.Ytmojlfgfaabegaa
