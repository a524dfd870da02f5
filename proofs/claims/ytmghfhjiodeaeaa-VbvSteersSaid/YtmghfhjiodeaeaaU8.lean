/- Contract of Pad. -/
import Derived.Test.YtmghfhjiodeaeaaP2
namespace Go.Proofs.Ytmghfhjiodeaeaa
open Go.RowKit

def PadC (s : Sq) (us : List Un) (st : Int) (w : World) (e : Ending) (w' : World) : Prop :=
  ∃ A c, e = .returned (.tuple #[.slice A (padR s us st).1.length c, .int .i64 (padR s us st).2]) ∧ Reads w' A 1 (padR s us st).1.length (iV (padR s us st).1) ∧ Only [] w w'
theorem PadC.of {s : Sq} {us : List Un} {st : Int} {w w' : World} {A : Option Addr} {c n : Nat} {ns : List Int} {r : Int} (he : padR s us st = (ns, r)) (hn : n = ns.length) (hr : Reads w' A 1 n (iV ns)) (ho : Only [] w w') :
    PadC s us st w (.returned (.tuple #[.slice A n c, .int .i64 r])) w' := by
  subst hn
  unfold PadC
  rw [he]
  exact ⟨A, c, rfl, hr, ho⟩
theorem aft_add (s : Sq) (x : Un) (f : Int) : f + (arl s x.d - cst s x.c) = aft s x f := by unfold aft; omega
set_option maxHeartbeats 2000000 in
set_option maxRecDepth 100000 in
theorem Pad_any (w : World) (s : Sq) (hI : SqI s) (A : Option Addr) (c : Nat) (us : List Un) (st : Int) (hr : Reads w A 4 us.length (uV us)) :
    Calls Try.prog 21 #[.agg (sqA s), .slice A us.length c, .int .i64 st] w (PadC s us st w) := by
  obtain ⟨i0, hi0, hz0, hz1, hz2⟩ := info_parts info_i64
  have Hr := Lib.hid hr
  clear hr
  go_enter Try.func21, Try.ntmps21
  have tok : True := trivial
  have tok2 : True := trivial
  have tok3 : True := trivial
  have tok4 : True := trivial
  have tok5 : True := trivial
  have tok6 : True := trivial
  go_wp2_with (first | (clear tok; refine bxS (s := s) rfl rfl rfl ?_; rintro g1 w1 b1 o1 l1) | (clear tok2; refine ldS b1 rfl rfl rfl ?_) | (clear tok3; refine bldB (s := s) rfl rfl rfl ?_) | (clear tok4; refine alBf rfl rfl ?_; rintro g2 w2 b2 o2 l2) | (clear tok5; refine srB (s' := s) b2 rfl rfl rfl rfl ?_; rintro w3 b3 o3 l3) | (clear tok6; refine ldB b3 rfl rfl rfl ?_))
  have ho3 : Only [] w w3 := o1.then (Only.own o2 o3 l2)
  refine (proper_any _ s hI _ c us st (Hr.out.then ho3)).mono ?_
  rintro e w4 ⟨rfl, o4⟩
  have ho := ho3.then o4
  have b4 := b3.only o4 (by simp)
  clear o1 o2 o3 o4 b1 b2 b3 ho3
  cases hp : prp s us st with
  | false =>
    have HE := Lib.hid (padR_bad hp)
    clear hp
    go_wp2_with fail
    go_ret2
    exact PadC.of HE.out rfl Reads.none_ ho
  | true =>
    obtain ⟨hv, hs0, hs1, hlen, hall⟩ := prp_true hp
    have hk := (vs_true.1 hv).ok
    have Hp := Lib.hid hp
    have Hall := Lib.hid hall
    clear hp hv hall
    have hcap := cap_bd hk
    have h8 := c8_bd hk
    go_wp2_with (at_make; refine wpList_mk _ rfl _ _ 41 rfl 2 i0 (.int .i64 0) Try.underlying41 hi0 hz0 hz1 rfl _ _ _ _ us.length rfl rfl (by omega) (by omega) (by rw [hz2]; omega) (by unfold maxLen; omega) ?_)
    intro w5 b5 o5 l5
    generalize hgp : w4.heap.size = gp at b5 l5
    have lgp : w4.heap.size ≤ gp := by omega
    clear l5 hgp
    have Hb5 := Lib.hid (show Blk w5 gp 2 (iV (List.replicate us.length 0)).toArray by unfold iV; rw [List.map_replicate]; exact b5)
    clear b5
    go_wp2_with fail
    go_loopw [10, 29] (fun f i wr => ∃ k : Nat, k ≤ us.length ∧ i = .int .i64 (k : Int) ∧ ∃ fv : Int, f = .int .i64 fv ∧ -17592186044416 ≤ fv ∧ fv ≤ 35184372088832 ∧ (k < us.length → fv ≤ cap s) ∧ ∃ ns, Hid (PI s us st k fv ns) ∧ Hid (Blk wr gp 2 (iV (ns ++ List.replicate (us.length - k) 0)).toArray) ∧ Only [] w4 wr) (fun _ i _ => us.length - (intOf i).toNat)
    case atStart => exact ⟨0, Nat.zero_le _, rfl, st, rfl, by omega, by omega, fun _ => hs1, [], PI.start _ _ _, Hb5, o5⟩
    case round =>
      obtain ⟨k, hkl, rfl, f, rfl, hf0, hf1, hf2, ns, HP, Hb, ho6⟩ := hrel
      by_cases hlt : k < us.length
      · have hfc := hf2 hlt
        clear hf2
        obtain ⟨x, hx⟩ : ∃ x, us[k]? = some x := ⟨_, List.getElem?_eq_getElem hlt⟩
        obtain ⟨b, off, rfl, hR⟩ := (Hr.out.then (ho.then ho6)).ur rfl hx
        have hu := uok_true (Hall.out x (List.mem_of_getElem? hx))
        have hcb := cst_bd hk (b := x.c) (by omega)
        have hab := arl_bd hk (f := x.d) (by omega)
        have Hx := Lib.hid hx
        have b6 := b4.only ho6 (by simp)
        have hkl' : (k : Int) < (us.length : Int) := by omega
        clear hx
        have tok4 : True := trivial
        have tok5 : True := trivial
        have tok6 : True := trivial
        have tok7 : True := trivial
        go_wp2_with (first | (clear tok4; refine ldU hR rfl rfl rfl ?_) | (clear tok5; refine alU rfl rfl ?_; rintro g7 w7 b7 o7 l7) | (clear tok6; refine srU b7 rfl rfl rfl rfl ?_; rintro w8 b8 o8 l8; obtain ⟨_, _, c2, c3⟩ := b8.un) | (clear tok7; refine ldB (b6.only (Only.own o7 o8 l7) (by simp)) rfl rfl rfl ?_))
        have o78 := Only.own o7 o8 l7
        refine (cost_any _ s hk x.c ⟨hu.1, hu.2.1⟩).mono ?_
        rintro e w9 ⟨rfl, o9⟩
        have b9 := b8.only o9 (by simp)
        have o69 := o78.then o9
        have ho9 := ho6.then o69
        have bb9 := b6.only o69 (by simp)
        have Hb9 := Lib.hid (Hb.out.only o69 (by simp))
        clear o7 o8 b7 b8 hR b6 o78 o69 o9 Hb c2 c3
        by_cases hfl : f < cst s x.c
        · have HE := Lib.hid (padR_none Hp.out (HP.out.fail Hx.out hfl))
          go_wp2_with fail
          go_ret2
          exact PadC.of HE.out rfl Reads.none_ (ho.then ho9)
        · have hfd : decide (f < cst s x.c) = false := decide_eq_false hfl
          have HPs := Lib.hid (fun l hl => HP.out.step Hx.out hfl l hl)
          have hf' : cst s x.c ≤ f := by omega
          clear hfl
          obtain ⟨_, _, _, c3⟩ := b9.un
          have tok8 : True := trivial
          go_wp2_with (clear tok8; refine ldB bb9 rfl rfl rfl ?_)
          refine (arrival_any _ s hk x.d (by omega)).mono ?_
          rintro e w10 ⟨rfl, o10⟩
          have ho10 := ho9.then o10
          have bb10 := bb9.only o10 (by simp)
          have Hb10 := Lib.hid (Hb9.out.only o10 (by simp))
          clear o10 b9 bb9 Hb9 ho9 c3
          have tok9 : True := trivial
          go_wp2_with (clear tok9; refine ldB bb10 rfl rfl rfl ?_)
          rw [aft_add]
          have haf : 0 ≤ aft s x f ∧ aft s x f ≤ cap s + 3298534883328 := by unfold aft; omega
          refine (capacity_any _ s hk).mono ?_
          rintro e w11 ⟨rfl, o11⟩
          have ho11 := ho10.then o11
          have bb11 := bb10.only o11 (by simp)
          have Hb11 := Lib.hid (Hb10.out.only o11 (by simp))
          clear o11 bb10 Hb10 ho10 hfd
          by_cases hov : 0 < aft s x f - cap s
          · by_cases hla : k + 1 < us.length
            · have hlb : decide ((k : Int) < (us.length : Int) - 1) = true := decide_eq_true (by omega)
              have HPn := Lib.hid (HPs.out false (decide_eq_false (by omega)))
              have tok10 : True := trivial
              go_wp2_with (clear tok10; refine ldB bb11 rfl rfl rfl ?_)
              refine (cost_any _ s hk 8 (by omega)).mono ?_
              rintro e w12 ⟨rfl, o12⟩
              have ho12 := ho11.then o12
              have hb12 := Hb11.out.only o12 (by simp)
              clear o12 ho11 Hb11 bb11 hlb
              have hpn := pn_bd hk hov
              have hnb := nxt_bd hk (x := x) (f := f)
              have Hpp := Lib.hid (pn_pos hov)
              have hq : (aft s x f - cap s + cst s 8 - 1).tdiv (cst s 8) = pn s (aft s x f) false := (pn_pos hov).symm
              have hmc : pn s (aft s x f) false * cst s 8 = cst s 8 * pn s (aft s x f) false := Int.mul_comm _ _
              have hcell := hb12.cell k
              have hz := hb12.frozen k
              obtain ⟨s1, s2⟩ := hb12.set1 k (.int .i64 (pn s (aft s x f) false))
              rw [pset HP.out.len hlt] at s1
              have hc2 := s1.cell k
              have On := Lib.hid (ho12.own s2 lgp)
              have Hb' := Lib.hid s1
              have hlen0 := HP.out.len
              have e1 : ((iV (ns ++ List.replicate (us.length - k) 0)).toArray)[k]? = some (.int .i64 0) := by
                obtain ⟨m, hm⟩ : ∃ m, us.length - k = m + 1 := ⟨us.length - k - 1, by omega⟩
                rw [hm, List.replicate_succ]; subst hlen0; simp [iV]
              have e2 : ((iV ((ns ++ [pn s (aft s x f) false]) ++ List.replicate (us.length - (k + 1)) 0)).toArray)[k]? = some (.int .i64 (pn s (aft s x f) false)) := by
                subst hlen0; simp [iV]
              rw [e1] at hcell
              rw [e2] at hc2
              clear s1 s2 e1 e2 hlen0 hb12 HPs HP Hpp
              have hnx : aft s x f - cst s 8 * pn s (aft s x f) false = nxt s x f false := rfl
              generalize pn s (aft s x f) false = q at *
              generalize nxt s x f false = nx at *
              generalize aft s x f = g at *
              have hmb : 0 ≤ cst s 8 * q ∧ cst s 8 * q ≤ 35184372088832 := by omega
              generalize cst s 8 * q = cq at *
              go_wp2_with fail
              go_roundw
              case rel => exact ⟨k + 1, by omega, by go_num, _, rfl, by omega, by omega, fun _ => hnb, _, HPn, Hb', On.out⟩
              case measure => simp [intOf]; omega
            · have hlb : decide ((k : Int) < (us.length : Int) - 1) = false := decide_eq_false (by omega)
              have HPn := Lib.hid (HPs.out true (decide_eq_true (by omega)))
              rw [nxt_last, pn_zero (.inr rfl)] at HPn
              have Hb' := Hb11
              rw [pkeep hlt] at Hb'
              go_wp2_with fail
              go_roundw
              case rel => exact ⟨k + 1, by omega, by go_num, _, rfl, by omega, by omega, fun h => absurd h hla, _, HPn, Hb', ho11⟩
              case measure => simp [intOf]; omega
          · have hod : decide (0 < aft s x f - cap s) = false := decide_eq_false hov
            have HPn := Lib.hid (HPs.out _ rfl)
            rw [nxt_low (by omega), pn_zero (.inl (by omega))] at HPn
            have Hb' := Hb11
            rw [pkeep hlt] at Hb'
            go_wp2_with fail
            go_roundw
            case rel => exact ⟨k + 1, by omega, by go_num, _, rfl, by omega, by omega, fun _ => by omega, _, HPn, Hb', ho11⟩
            case measure => simp [intOf]; omega
      · have hke : k = us.length := by omega
        subst hke
        have HE := Lib.hid (padR_some Hp.out HP.out.done)
        have HL := Lib.hid HP.out.len
        go_wp2_with fail
        go_ret2
        refine PadC.of HE.out HL.out.symm ?_ (ho.then ho6)
        have hb := Hb.out
        rw [Nat.sub_self, List.replicate_zero, List.append_nil] at hb
        have := Reads.of_blk hb
        rwa [iV_length, HL.out] at this
end Go.Proofs.Ytmghfhjiodeaeaa
