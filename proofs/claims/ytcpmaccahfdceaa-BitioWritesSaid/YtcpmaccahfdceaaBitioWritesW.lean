/- Proved: BitioWrites returns true for all lists of calls; its arguments read afterwards as before. No condition. -/
import Derived.Test.YtcpmaccahfdceaaOps
import Derived.Test.YtcpmaccahfdceaaTk
namespace Go.Proofs.Ytcpmaccahfdceaa.bitioWrites
open Go.ChangeShapes Go.WideShapes Go.ChangeAt Go.RowKit bt

/-- What 'written2' leaves: the bits of the call (or nothing) as a slice of its own. -/
def Wrote (w : World) (g : Nat) (F : List Nat) (l : List Bool) (v : Nat) (n : Int) (e : Ending) (w' : World) : Prop :=
  ∃ A c F' b, e = .returned (.tuple #[.slice A (List.length b) c, .bool true]) ∧ putBits l (v : Int) n = l ++ b ∧ b.length ≤ 32 ∧ WriterIs w' g F' (putBits l (v : Int) n) ∧ w'.ownsRow 0 5 1 (.slice A b.length c) b.length (bytesV (flat b)) ∧
    Only F w w' ∧ Fresh w F F'

set_option maxHeartbeats 2000000 in
theorem written2_any (w : World) (g : Nat) (F : List Nat) (l : List Bool) (v : Nat) (n : Int) (h : WriterIs w g F l) (hl : l.length ≤ 1000000) (hv : v < 4294967296) (hn : -9223372036854775808 ≤ n ∧ n ≤ 9223372036854775807) :
    Calls Try.prog 20 #[.pointer (some ⟨g, 0, none⟩), .agg #[.int .u32 (v : Int), .int .i64 n], .int .i64 (l.length : Int)] w (Wrote w g F l v n) := by
  have Hh := Lib.hid h
  clear h
  by_cases hpe : putErr (v : Int) n = 0
  · have hpb : (putErr (v : Int) n != 0) = false := by simpa using hpe
    obtain ⟨hn0, hn1, hvn⟩ := putErr_zero hpe
    obtain ⟨n', rfl⟩ : ∃ n' : Nat, n = n' := ⟨n.toNat, by omega⟩
    have hb1 : putBits l (v : Int) (n' : Int) = l ++ bitsOf v n' := by unfold putBits; rw [if_pos hpe]; simp
    have Hb1 := Lib.hid hb1
    have Hpe := Lib.hid hpe
    clear hpe hb1
    go_enter Try.func20, Try.ntmps20
    go_wp2_with fail
    refine (refMay_any _ _ _ (by omega) (by omega)).mono ?_
    rintro e w1 ⟨rfl, rfl⟩
    have hw1 := Hh.out.then ((Only.refl [] w).alloc (.cells #[.int .u32 (v : Int), .int .i64 (n' : Int)] 34))
    have hb := Blk.new w 34 #[.int .u32 (v : Int), .int .i64 (n' : Int)]
    have hFl := Hh.out.lt
    go_wp2_with fail
    refine (put_any _ _ _ _ _ _ hw1 (by omega) (by omega)).mono ?_
    rintro e w2 ⟨rfl, F2, hw2, ho2, hf2⟩
    have hgs : w.heap.size ∉ F := fun h => by have := hFl _ h; omega
    have hb2 := hb.only ho2 hgs
    have hc0 := hb2.cell 0
    have hc1 := hb2.cell 1
    simp only [List.getElem?_toArray, List.getElem?_cons_succ, List.getElem?_cons_zero] at hc0 hc1
    have ho02 : Only F w w2 := ((Only.refl F w).alloc _).trans ho2 (Fresh.refl _ _)
    have hf02 : Fresh w F F2 := fun x hx => by rcases hf2 x hx with h | h; exact .inl h; exact .inr (by simp at h; omega)
    clear hFl hgs hb hb2 hf2
    go_wp2_with fail
    have hlen : ((l.length : Int) + (n' : Int)) = (((putBits l (v : Int) (n' : Int)).length : Nat) : Int) := by rw [Hb1.out, List.length_append, bitsOf_length]; simp
    have heq : ((((putBits l (v : Int) (n' : Int)).length : Nat) : Int) == ((l.length : Int) + (n' : Int))) = true := by rw [hlen]; simp
    have Heq := Lib.hid heq
    clear hlen heq
    go_region_held3 (fun w' => w'.cell? ⟨w.heap.size, 0, none⟩ = some (.int .u32 (v : Int)) ∧ w'.cell? ⟨w.heap.size, 1, none⟩ = some (.int .i64 (n' : Int)))
      (first | exact ⟨hc0, hc1⟩ | exact ⟨(ho5.cell (p := ⟨w.heap.size, 0, none⟩) (World.block_lt_of_cell? _ _ hc0) (by simp)).trans hc0, (ho5.cell (p := ⟨w.heap.size, 1, none⟩) (World.block_lt_of_cell? _ _ hc1) (by simp)).trans hc1⟩)
      (first
       | (go_at_call 47; refine (refBits_any _ v n' (by omega) (by omega)).mono ?_; rintro e w5 ⟨A5, c5, rfl, hownB, ho5, hf5⟩)
       | (go_at_call 26; refine (len_any _ _ _ _ (by exact (hw2.then ((Only.refl [] w2).drew)).then ho5)).mono ?_; rintro e w6 ⟨rfl, rfl⟩))
    all_goals go_wp2_with fail
    go_ret2
    have hbl := bitsOf_length v n'
    refine ⟨A5, c5, F2, bitsOf v n', ?_, Hb1.out, by omega, (hw2.then ((Only.refl [] w2).drew)).then ho5, ?_, (ho02.drew).then ho5, hf02⟩
    · have hbt : ((((putBits l (v : Int) (n' : Int)).length : Nat) : Int) == IntKind.i64.wrap ((l.length : Int) + (n' : Int))) = true := by rw [IntWalk.i64_in _ (by omega)]; exact Heq.out
      rw [hbt, hbl]; rfl
    · rw [hbl]; exact hownB
  · have hpb : (putErr (v : Int) n != 0) = true := by simpa using hpe
    have hb1 : putBits l (v : Int) n = l := by unfold putBits; rw [if_neg hpe]
    have Hb1 := Lib.hid hb1
    clear hpe hb1
    go_enter Try.func20, Try.ntmps20
    go_wp2_with fail
    refine (refMay_any _ _ _ (by omega) (by omega)).mono ?_
    rintro e w1 ⟨rfl, rfl⟩
    have hw1 := Hh.out.then ((Only.refl [] w).alloc (.cells #[.int .u32 (v : Int), .int .i64 n] 34))
    go_wp2_with fail
    refine (put_any _ _ _ _ _ _ hw1 (by omega) (by omega)).mono ?_
    rintro e w2 ⟨rfl, F2, hw2, ho2, hf2⟩
    have ho02 : Only F w w2 := ((Only.refl F w).alloc _).trans ho2 (Fresh.refl _ _)
    have hf02 : Fresh w F F2 := fun x hx => by rcases hf2 x hx with h | h; exact .inl h; exact .inr (by simp at h; omega)
    go_wp2_with fail
    refine (len_any _ _ _ _ hw2).mono ?_
    rintro e w3 ⟨rfl, rfl⟩
    rw [Hb1.out]
    go_wp2_with fail
    go_ret2
    refine ⟨none, 0, F2, [], ?_, by rw [Hb1.out]; simp, by simp, hw2, World.ownsRow_nil _ _ _ _, ho02, hf02⟩
    simp

theorem putAll_app (a : List (Nat × Int)) (o : Nat × Int) (b : List Bool) (h : putBits (putAll a) (o.1 : Int) o.2 = putAll a ++ b) : putAll (a ++ [o]) = putAll a ++ b := by rw [putAll_snoc, h]

set_option maxHeartbeats 2000000 in
theorem walk (w : World) (A : Option Addr) (c : Nat) (a : List (Nat × Int)) (hr : Reads w A 2 a.length (opsV a)) (hm : a.length ≤ maxLen) (hv : ∀ o ∈ a, o.1 < 4294967296) (_hi : ∀ o ∈ a, -9223372036854775808 ≤ o.2 ∧ o.2 ≤ 9223372036854775807)
    (B : Option Addr) (d : Nat) (b : List (Nat × Int)) (hr' : Reads w B 2 b.length (opsV b)) (hm' : b.length ≤ maxLen) (hv' : ∀ o ∈ b, o.1 < 4294967296) (hi' : ∀ o ∈ b, -9223372036854775808 ≤ o.2 ∧ o.2 ≤ 9223372036854775807) :
    Calls Try.prog 3 #[.slice A a.length c, .slice B b.length d] w fun e w' => e = .returned (.bool true) ∧ Only [] w w' := by
  unfold maxLen at hm hm'
  by_cases hn : a.length ≤ 200
  · have hd0 : decide ((200 : Int) < (a.length : Int)) = false := by simp; omega
    by_cases hn' : b.length ≤ 200
    · have hd1 : decide ((200 : Int) < (b.length : Int)) = false := by simp; omega
      obtain ⟨i0, hi0, hz0, hz1, hz2⟩ := info_parts info_u8
      have Hr := Lib.hid hr
      have Hv := Lib.hid hv
      have Hr' := Lib.hid hr'
      have Hv' := Lib.hid hv'
      have Hi' := Lib.hid hi'
      have hla := putAll_le a
      clear hr hv hr' hv' _hi hi'
      go_enter Try.func3, Try.ntmps3
      go_wp2_with fail
      refine (newWriter_any _).mono ?_
      rintro e w1 ⟨rfl, hw1, ho1⟩
      go_wp2_with fail
      refine (written_any _ _ _ _ _ a hw1 (Hr.out.then ho1) (Hr.out.off_new (by omega) (by simp)) (by omega) Hv.out).mono ?_
      rintro e w2 ⟨A2, c2, F2, rfl, hw2, hx2, ho2, hf2, hg2, hdis2⟩
      go_wp2_with fail
      refine (payload_any _ _ _ _ hw2 (by omega)).mono ?_
      rintro e w3 ⟨rfl, hp3, ho3⟩
      go_wp2_with fail
      refine (refPayload_any _ _ _ (putAll a) (Reads.of_own (own_only hx2 ho3 (by simp))) (by omega)).mono ?_
      rintro e w4 ⟨rfl, hq4, ho4⟩
      have hp4 := hp3.only ho4 (by simp)
      go_wp2_with fail
      refine (same_any _ _ _ _ _ _ _ (payload (putAll a)) (payload (putAll a)) (payload_reads hp4) (payload_reads hq4) (payload_lt _) (payload_lt _)).mono ?_
      rintro e w5 ⟨rfl, rfl⟩
      have hdt : decide (payload (putAll a) = payload (putAll a)) = true := by simp
      rw [hdt]
      clear hdt
      have ho24 := ho3.then ho4
      have ho04 : Only [] w w4 := (ho1.first ho2 (by simp)).then ho24
      have hw4 := hw2.then ho24
      have hx4 := own_only hx2 ho24 (by simp)
      have hFw : ∀ x ∈ F2, w.heap.size ≤ x := by intro x hx; rcases hf2 x hx with h | h; simp at h; omega; have := ho1.size; omega
      clear hw1 ho1 hw2 hx2 ho2 hf2 hg2 hdis2 hp3 ho3 hq4 ho4 hp4 ho24
      have hx5 := hx4.alloc (.cells #[] 5)
      go_wp2_with (at_builtin; refine wpList_app _ rfl _ _ 25 rfl 5 i0 (.int .u8 0) 1 1 Try.underlying25 hi0 hz0 hz1 hz2 rfl (by decide) (some ⟨w4.heap.size, 0, none⟩) 0 0 [] rfl (World.ownsRow_made w4 #[] 0 (Nat.zero_le _) (Nat.zero_le _) rfl) A2 (putAll a).length c2 _ rfl (Reads.of_own hx5) (bytesV_one _) (by unfold maxLen; omega) (by omega) ?_)
      intro A6 c6 w6 hown6 ho6 hf6
      have ho46 : Only [] w4 w6 := ((Only.refl [] w4).alloc _).trans ho6 (by intro x hx; simp [rowFp, Value.ownBlock] at hx; right; omega)
      have hw6 := hw4.then ho46
      have ho06 := ho04.then ho46
      have hall : ∀ x ∈ rowFp (.slice A6 (putAll a).length c6), w.heap.size ≤ x ∧ x ∉ F2 := by
        intro x hx
        have h1 : w4.heap.size ≤ x := by
          rcases hf6 x hx with h | h
          · simp [rowFp, Value.ownBlock] at h; omega
          · simp at h; omega
        exact ⟨Nat.le_trans ho04.size h1, fun h => by have := hw4.lt x h; omega⟩
      have Hall := Lib.hid hall
      have HFw := Lib.hid hFw
      clear hall hFw hx4 hx5 hw4 ho04 ho6 hf6 ho46 hd0 hd1
      go_wp2_with fail
      go_loopw [8, 9] (fun s i wr => ∃ k : Nat, k ≤ b.length ∧ i = .int .i64 k ∧ ∃ A' c' F' m, Hid (m = (putAll (a ++ b.take k)).length) ∧ s = .slice A' m c' ∧ WriterIs wr w.heap.size F' (putAll (a ++ b.take k)) ∧ wr.ownsRow 0 5 1 (.slice A' m c') m (bytesV (flat (putAll (a ++ b.take k)))) ∧
          Only [] w wr ∧ Hid (∀ x ∈ F', w.heap.size ≤ x) ∧ Hid (∀ x ∈ rowFp (.slice A' m c'), w.heap.size ≤ x ∧ x ∉ F')) (fun _ i _ => b.length - (intOf i).toNat)
      case atStart => exact ⟨0, Nat.zero_le _, rfl, A6, c6, F2, (putAll a).length, show _ = _ by simp, rfl, by simpa using hw6, by simpa using hown6, ho06, HFw, Hall⟩
      case round =>
        obtain ⟨k, hk, rfl, A1, c1, F1, m, Hm, rfl, hw, hown, ho, HF, Hd⟩ := hrel
        have hlen := putAll_le (a ++ b.take k)
        have hlen2 : (a ++ b.take k).length ≤ 400 := by simp; omega
        by_cases hlt : k < b.length
        · obtain ⟨⟨v, nn⟩, ho'⟩ : ∃ o, b[k]? = some o := ⟨_, List.getElem?_eq_getElem hlt⟩
          obtain ⟨hx0, hx1⟩ := opsV_get b k (v, nn) ho'
          obtain ⟨bb, off, rfl, hc⟩ := (Hr'.out.then ho).plain (by omega) (by omega)
          have hc0 := hc _ _ hx0
          have hc1 := hc _ _ hx1
          rw [← Nat.add_assoc] at hc1
          have hvo := Hv'.out (v, nn) (List.mem_of_getElem? ho')
          have hio := Hi'.out (v, nn) (List.mem_of_getElem? ho')
          have hkl : (k : Int) < (b.length : Int) := by omega
          have htk : a ++ b.take (k + 1) = (a ++ b.take k) ++ [(v, nn)] := by rw [List.take_add_one, ho']; simp
          have Htk := Lib.hid htk
          clear hc hx0 hx1 ho' htk
          go_wp2_with fail
          have hm1 := Hm.out
          rw [hm1]
          rw [hm1] at hown Hd
          clear hm1
          refine (written2_any _ _ _ _ v nn hw (by omega) hvo hio).mono ?_
          rintro e w7 ⟨A7, c7, F7, nb, rfl, hpb, hnb, hw7, hown7, ho7, hf7⟩
          have hown8 := own_only hown ho7 (fun x hx => (Hd.out x hx).2)
          have Hpb := Lib.hid hpb
          clear hpb
          go_wp2_with (at_builtin; refine wpList_app _ rfl _ _ 25 rfl 5 i0 (.int .u8 0) 1 1 Try.underlying25 hi0 hz0 hz1 hz2 rfl (by decide) A1 (putAll (a ++ b.take k)).length c1 _ rfl hown8 A7 nb.length c7 _ rfl (Reads.of_own hown7) (bytesV_one _) (by unfold maxLen; omega) (by omega) ?_)
          intro A9 c9 w9 hown9 ho9 hf9
          have hd7 : ∀ x ∈ F7, x ∉ rowFp (.slice A1 (putAll (a ++ b.take k)).length c1) := by
            intro x hx hx2
            rcases hf7 x hx with h | h
            · exact (Hd.out x hx2).2 h
            · have := own_lt hown x hx2; omega
          have hw9 := hw7.only ho9 hd7
          have ho07 : Only [] w w7 := ho.first ho7 HF.out
          have ho09 : Only [] w w9 := ho07.first ho9 (fun x hx => (Hd.out x hx).1)
          go_wp2_with fail
          go_roundw
          case rel =>
            have ha : putAll (a ++ b.take (k + 1)) = putAll (a ++ b.take k) ++ nb := by rw [Htk.out]; exact putAll_app _ (v, nn) nb Hpb.out
            have ha2 : putBits (putAll (a ++ b.take k)) (v : Int) nn = putAll (a ++ b.take (k + 1)) := by rw [ha, Hpb.out]
            refine ⟨k + 1, by omega, by go_num, A9, c9, F7, _, ?_, rfl, ?_, ?_, ho09, ?_, ?_⟩
            · show _ = _
              rw [ha, List.length_append]
            · rw [← ha2]; exact hw9
            · rw [ha, flat_append, bytesV_append]; exact hown9
            · show ∀ _, _
              intro x hx
              rcases hf7 x hx with h | h
              · exact HF.out x h
              · have := ho.size; omega
            · show ∀ _, _
              intro x hx
              rcases hf9 x hx with h | h
              · exact ⟨(Hd.out x h).1, fun h2 => hd7 x h2 h⟩
              · exact ⟨by have := ho07.size; omega, fun h2 => by have := hw7.lt x h2; omega⟩
          case measure => simp [intOf]; omega
        · have hkb : b.take k = b := List.take_of_length_le (by omega)
          rw [hkb] at hw hown Hm hlen hlen2
          clear hkb
          have hm1 := Hm.out
          rw [hm1]
          rw [hm1] at hown
          clear hm1
          go_wp2_with fail
          refine (awake_any _).mono ?_
          rintro e w7 ⟨rfl, ho7⟩
          have hw7 := hw.then ho7
          have hown7 := own_only hown ho7 (by simp)
          go_wp2_with fail
          refine (payload_any _ _ _ _ hw7 (by omega)).mono ?_
          rintro e w8 ⟨rfl, hp8, ho8⟩
          go_wp2_with fail
          refine (refPayload_any _ _ _ (putAll (a ++ b)) (Reads.of_own (own_only hown7 ho8 (by simp))) (by omega)).mono ?_
          rintro e w9 ⟨rfl, hq9, ho9⟩
          have hp9 := hp8.only ho9 (by simp)
          go_wp2_with fail
          refine (same_any _ _ _ _ _ _ _ (payload (putAll (a ++ b))) (payload (putAll (a ++ b))) (payload_reads hp9) (payload_reads hq9) (payload_lt _) (payload_lt _)).mono ?_
          rintro e w10 ⟨rfl, rfl⟩
          go_wp2_with fail
          go_ret
          refine ⟨?_, ((ho.then ho7).then ho8).then ho9⟩
          simp
    · have hd1 : decide ((200 : Int) < (b.length : Int)) = true := by simp; omega
      clear hn'
      go_enter Try.func3, Try.ntmps3
      go_wp2
      go_ret
      exact ⟨rfl, Only.refl _ _⟩
  · have hd0 : decide ((200 : Int) < (a.length : Int)) = true := by simp; omega
    clear hn
    go_enter Try.func3, Try.ntmps3
    go_wp2
    go_ret
    exact ⟨rfl, Only.refl _ _⟩
end Go.Proofs.Ytcpmaccahfdceaa.bitioWrites
