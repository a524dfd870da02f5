/- The contract of chapter 13's sanity check. -/
import Derived.Test.YtmghfhjiodeaeaaV4
namespace Go.Proofs.Ytmghfhjiodeaeaa
open Go.RowKit

theorem sqA_get (s : Sq) (i : Nat) : (sqA s)[i]? = if i < 7 then (sqH s)[i]? else if i < 71 then some (.int .u8 (s.a (i - 7))) else if i < 135 then some (.int .u8 (s.b (i - 71))) else none := by
  simp only [sqA, List.getElem?_toArray, sqL]
  by_cases h7 : i < 7
  · rw [if_pos h7, List.getElem?_append_left (by simp [sqH]; omega)]
  · rw [if_neg h7, List.getElem?_append_right (by simp [sqH]; omega)]
    have e : (sqH s).length = 7 := by simp [sqH]
    rw [e]
    by_cases h71 : i < 71
    · rw [if_pos h71, List.getElem?_append_left (by rw [rowL_length]; omega)]
      simp [rowL, show i - 7 < 64 by omega]
    · rw [if_neg h71, List.getElem?_append_right (by rw [rowL_length]; omega), rowL_length]
      by_cases h135 : i < 135
      · rw [if_pos h135]
        rw [show i - 7 - 64 = i - 71 by omega]
        simp [rowL, show i - 71 < 64 by omega]
      · rw [if_neg h135, List.getElem?_eq_none (by rw [rowL_length]; omega)]
theorem sqA_setA (s : Sq) (k : Nat) (v : Int) (hk : k < 64) : (sqA s).setIfInBounds (7 + k) (.int .u8 v) = sqA { s with a := upd s.a k v } := by
  apply Array.ext_getElem?
  intro i
  rw [Array.getElem?_setIfInBounds, sqA_get, sqA_get, sqA_size]
  by_cases h : 7 + k = i
  · subst h
    rw [if_pos rfl, if_pos (by omega), if_neg (by omega), if_pos (by omega)]
    simp [upd]
  · rw [if_neg h]
    by_cases h7 : i < 7
    · rw [if_pos h7, if_pos h7]; rfl
    · rw [if_neg h7, if_neg h7]
      by_cases h71 : i < 71
      · rw [if_pos h71, if_pos h71]
        simp [upd, show i - 7 ≠ k by omega]
      · rw [if_neg h71, if_neg h71]
theorem sqA_setB (s : Sq) (k : Nat) (v : Int) (hk : k < 64) : (sqA s).setIfInBounds (71 + k) (.int .u8 v) = sqA { s with b := upd s.b k v } := by
  apply Array.ext_getElem?
  intro i
  rw [Array.getElem?_setIfInBounds, sqA_get, sqA_get, sqA_size]
  by_cases h : 71 + k = i
  · subst h
    rw [if_pos rfl, if_pos (by omega), if_neg (by omega), if_neg (by omega), if_pos (by omega)]
    simp [upd]
  · rw [if_neg h]
    by_cases h7 : i < 7
    · rw [if_pos h7, if_pos h7]; rfl
    · rw [if_neg h7, if_neg h7]
      by_cases h71 : i < 71
      · rw [if_pos h71, if_pos h71]
      · rw [if_neg h71, if_neg h71]
        by_cases h135 : i < 135
        · rw [if_pos h135, if_pos h135]
          simp [upd, show i - 71 ≠ k by omega]
        · rw [if_neg h135, if_neg h135]
theorem upd_upto (x : Nat → Int) (k : Nat) : upd (upto k x) k (x k) = upto (k + 1) x := by
  funext j
  unfold upd upto
  by_cases h1 : j = k
  · subst h1; simp
  · rw [if_neg h1]
    by_cases h2 : j < k
    · rw [if_pos h2, if_pos (by omega)]
    · rw [if_neg h2, if_neg (by omega)]
def f16 : Nat → Int := fun _ => 16
def sqk (k l : Nat) : Sq := ⟨16, 16, 25, 1, false, 1000, 200, upto k f16, upto l f16⟩
theorem sqk_I (k l : Nat) : SqI (sqk k l) := by
  refine ⟨?_, ?_, ?_, ?_, ?_, ?_⟩ <;> (show Big _; unfold Big sqk; simp)
theorem zeroS : (Try.prog.info? 26).map (·.zero) = some (some (.agg (sqA ⟨0, 0, 0, 0, false, 0, 0, fun _ => 0, fun _ => 0⟩))) := by kernel_rfl
theorem vs_sqk : vs (sqk 64 64) = true := by decide +kernel
theorem Cap_sqk : Cap (sqk 64 64) = 10000 := by unfold Cap; rw [vs_sqk]; decide +kernel
theorem Arl_sqk : Arl (sqk 64 64) 2 = 2000 := by unfold Arl; rw [vs_sqk]; decide +kernel
theorem Cst_sqk : Cst (sqk 64 64) 40 = 2000 := by unfold Cst; rw [vs_sqk]; decide +kernel
section
variable {ops : Array Oper} {rest : List Oper} {o : Oper} {a : Act} {w : World} {Q : Exit → Act → World → Prop} {X Y : Operand} {g : Nat} {s : Sq}
theorem gldS (h : Blk w g 26 (sqA s)) (hw : Region.wanted o (yielded ops a.tmps) = true) (ho : o.op = .load 26 X) (hx : a.eval X = .pointer (some ⟨g, 0, none⟩))
    (k : wpList Try.prog ops Q rest (a.put o.dst (.agg (sqA s))) w) : wpList Try.prog ops Q (o :: rest) a w :=
  wpList_step fun K hK => by
    rw [if_pos hw]
    exact wp_load_row _ X ho g hx _ _ (0, 0) _ h Try.underlying26 rfl (info_sq _) (hK _ _ k)
theorem bldS (cs : Array Value) {parts : Array (Nat × Operand)} (hgd : o.guard = none) (ho : o.op = .build 26 parts) (hb : Try.prog.built 26 (parts.map fun (i, x) => (i, a.eval x)).toList = some cs)
    (k : wpList Try.prog ops Q rest (a.put o.dst (.agg cs)) w) : wpList Try.prog ops Q (o :: rest) a w :=
  wpList_build hgd _ parts ho (by rw [hb]; rfl) (by rw [hb]; exact k)
theorem alS (hgd : o.guard = none) (ho : o.op = .alloc 26) (k : ∀ g w', Blk w' g 26 (sqA ⟨0, 0, 0, 0, false, 0, 0, fun _ => 0, fun _ => 0⟩) → Only [] w w' → w.heap.size ≤ g → wpList Try.prog ops Q rest (a.put o.dst (.pointer (some ⟨g, 0, none⟩))) w') : wpList Try.prog ops Q (o :: rest) a w :=
  wal _ _ hgd ho zeroS rfl k
theorem srS {s' : Sq} (h : Blk w g 26 (sqA s)) (hgd : o.guard = none) (ho : o.op = .store 26 X Y) (hx : a.eval X = .pointer (some ⟨g, 0, none⟩)) (hy : a.eval Y = .agg (sqA s'))
    (k : ∀ w', Blk w' g 26 (sqA s') → Only [g] w w' → w'.heap.size = w.heap.size → wpList Try.prog ops Q rest (a.put o.dst undef) w') : wpList Try.prog ops Q (o :: rest) a w :=
  wsr _ h hgd ho hx hy (info_sq _) (by rw [sqA_size, sqA_size]) (sqA_one _) k
end
set_option maxHeartbeats 1000000 in
set_option maxRecDepth 100000 in
theorem awake_of (w : World) (s : Sq) (hs : sqA (sqk 64 64) = sqA s) (hI : SqI s) (e1 : Cap s = 10000) (e2 : Arl s 2 = 2000) (e3 : Cst s 40 = 2000) :
    Calls Try.prog 11 #[] w fun e w' => e = .returned (.bool true) ∧ Only [] w w' := by
  have HS := Lib.hid hs
  have E1 := Lib.hid e1
  have E2 := Lib.hid e2
  have E3 := Lib.hid e3
  clear hs e1 e2 e3
  go_enter Try.func11, Try.ntmps11
  have tok : True := trivial
  have tok2 : True := trivial
  have tok3 : True := trivial
  go_wp2_with (first | (clear tok; refine bldS (sqA (sqk 0 0)) rfl rfl (by kernel_rfl) ?_) | (clear tok2; refine alS rfl rfl ?_; rintro g1 w1 b1 o1 l1) | (clear tok3; refine srS b1 rfl rfl rfl rfl ?_; rintro w2 b2 o2 x2))
  have ho2 := o1.own o2 l1
  clear b1 o1 o2
  go_loopw [2] (fun i wr => ∃ k : Nat, k ≤ 64 ∧ i = .int .i64 k ∧ Only [] w wr ∧ Blk wr g1 26 (sqA (sqk k k))) (fun i _ => 64 - (intOf i).toNat)
  case atStart => exact ⟨0, by omega, rfl, ho2, b2⟩
  case round =>
    obtain ⟨k, hk, rfl, ho, hb⟩ := hrel
    by_cases hlt : k < 64
    · have hd : decide ((k : Int) < 64) = true := by simp; omega
      have c1 := hb.cell (7 + k)
      rw [sqA_get, if_neg (by omega), if_pos (by omega)] at c1
      have z1 := hb.frozen (7 + k)
      obtain ⟨s1, s2⟩ := hb.set1 (7 + k) (.int .u8 16)
      rw [sqA_setA _ _ _ hlt] at s1
      have e1 : ({ sqk k k with a := upd (sqk k k).a k 16 } : Sq) = sqk (k + 1) k := by
        unfold sqk; simp only; rw [show (16 : Int) = f16 k from rfl, upd_upto]
      rw [e1] at s1
      have c2 := s1.cell (71 + k)
      rw [sqA_get, if_neg (by omega), if_neg (by omega), if_pos (by omega)] at c2
      have z2 := s1.frozen (71 + k)
      obtain ⟨s3, s4⟩ := s1.set1 (71 + k) (.int .u8 16)
      rw [sqA_setB _ _ _ hlt] at s3
      have e2 : ({ sqk (k + 1) k with b := upd (sqk (k + 1) k).b k 16 } : Sq) = sqk (k + 1) (k + 1) := by
        unfold sqk; simp only; rw [show (16 : Int) = f16 k from rfl, upd_upto]
      rw [e2] at s3
      have On := Lib.hid ((ho.own s2 l1).own s4 l1)
      have Hb := Lib.hid s3
      clear s1 s2 s3 s4 e1 e2
      go_wp2_with fail
      exact ⟨⟨k + 1, by omega, by go_num, On.out, Hb.out⟩, by simp [intOf]; omega⟩
    · obtain rfl : k = 64 := by omega
      rw [HS.out] at hb
      have tok : True := trivial
      go_wp2_with (clear tok; refine ldS hb rfl rfl rfl ?_)
      refine (Capacity_any _ s hI).mono ?_
      rintro e w4 ⟨rfl, o4⟩
      rw [E1.out]
      have hb4 := hb.only o4 (by simp)
      have tok : True := trivial
      go_wp2_with (clear tok; refine gldS hb4 rfl rfl rfl ?_)
      refine (Arrival_any _ s hI 2).mono ?_
      rintro e w5 ⟨rfl, o5⟩
      rw [E2.out]
      have hb5 := hb4.only o5 (by simp)
      have tok : True := trivial
      go_wp2_with (clear tok; refine gldS hb5 rfl rfl rfl ?_)
      refine (Cost_any _ s hI 40).mono ?_
      rintro e w6 ⟨rfl, o6⟩
      rw [E3.out]
      go_wp2_with fail
      go_ret
      exact ⟨rfl, ((ho.then o4).then o5).then o6⟩
theorem awake_any (w : World) : Calls Try.prog 11 #[] w fun e w' => e = .returned (.bool true) ∧ Only [] w w' :=
  awake_of w (sqk 64 64) rfl (sqk_I _ _) Cap_sqk Arl_sqk Cst_sqk
end Go.Proofs.Ytmghfhjiodeaeaa
