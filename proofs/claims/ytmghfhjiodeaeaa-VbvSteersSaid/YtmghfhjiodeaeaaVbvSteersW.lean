/- VbvSteers: the walk. -/
import Derived.Test.YtmghfhjiodeaeaaU14
import Derived.Test.YtmghfhjiodeaeaaVo
namespace Go.Proofs.Ytmghfhjiodeaeaa.vbvSteers
open Go.RowKit

theorem own_ne {w : World} {g g1 n cp : Nat} {xs : List Value} {cs : Array Value} (h : w.ownsRow 0 60 4 (.slice (some ⟨g, 0, none⟩) n cp) n xs) (hb : Blk w g1 26 cs) : g1 ≠ g := by
  have := own_blk_ne h hb (by decide)
  simp [Value.ownBlock] at this
  exact fun e => this e.symm
set_option maxHeartbeats 4000000 in
set_option maxRecDepth 100000 in
theorem walk (w : World) (s : Sq) (hI : SqI s) (A : Option Addr) (c : Nat) (us : List Un) (hr : Reads w A 4 us.length (uV us)) (_hc : us.length ≤ maxLen) (_hu : ∀ x ∈ us, UnI x) (st : Int) (_hs : -9223372036854775808 ≤ st ∧ st ≤ 9223372036854775807) (kk : Int) (_hw : -9223372036854775808 ≤ kk ∧ kk ≤ 9223372036854775807) :
    Calls Try.prog 10 #[.agg (sqA s), .slice A us.length c, .int .i64 st, .int .i64 kk] w fun e w' => e = .returned (.bool true) ∧ Only [] w w' := by
  have Hr := Lib.hid hr
  clear hr _hu
  go_enter Try.func10, Try.ntmps10
  by_cases hlen : us.length ≤ 100
  · have hd : decide ((100 : Int) < (us.length : Int)) = false := decide_eq_false (by omega)
    have tok : True := trivial
    go_wp2_with (clear tok; refine bxS (s := s) rfl rfl rfl ?_; rintro g1 w1 b1 o1 l1)
    clear hd
    refine (given_any _ A c us (Hr.out.then o1) (by omega)).mono ?_
    rintro e w2 ⟨A2, c2, rfl, own2, o2, -⟩
    have b2 := b1.only o2 (by simp)
    have ho2 := o1.then o2
    have R2 := Lib.hid (Reads.of_own own2)
    clear o1 o2 b1 own2
    have tok : True := trivial
    go_wp2_with (clear tok; refine ldS b2 rfl rfl rfl ?_)
    refine (Pad_any _ s hI A2 c2 us st R2.out).mono ?_
    rintro e w3 hC
    rcases padR_case s us st with ⟨e1, _⟩ | ⟨_, e1, _⟩ | ⟨hp, p, e1, hq, hl⟩
    · obtain ⟨Ap, cp, rfl, _, o3⟩ := PadC.to e1 hC
      have ho3 := ho2.then o3
      clear hC e1
      go_wp2_with fail
      refine (awake_any _).mono ?_
      rintro e w99 ⟨rfl, o99⟩
      go_wp2_with fail
      go_ret
      exact ⟨rfl, (ho3).then o99⟩
    · obtain ⟨Ap, cp, rfl, _, o3⟩ := PadC.to e1 hC
      have ho3 := ho2.then o3
      clear hC e1
      go_wp2_with fail
      refine (awake_any _).mono ?_
      rintro e w99 ⟨rfl, o99⟩
      go_wp2_with fail
      go_ret
      exact ⟨rfl, (ho3).then o99⟩
    · obtain ⟨Ap, cp, rfl, rp, o3⟩ := PadC.to e1 hC
      obtain ⟨ns, fe⟩ := p
      simp only at hl rp ⊢
      have b3 := b2.only o3 (by simp)
      have ho3 := ho2.then o3
      have R3 := Lib.hid (R2.out.then o3)
      have Rp3 := Lib.hid rp
      have Hp := Lib.hid hp
      have Hq := Lib.hid hq
      have Hl := Lib.hid hl
      obtain ⟨hv, hs0, hs1, _, hall⟩ := prp_true hp
      have hk := (vs_true.1 hv).ok
      have Hall := Lib.hid hall
      have Hnn := Lib.hid (pads_nn hk us st _ hall hs1 hq)
      have hl2 : (ns.length : Int) = (us.length : Int) := by omega
      clear hC e1 b2 ho2 R2 rp hp hq hl o3 hv hall
      go_wp2_with fail
      clear hl2
      refine (padded_any _ A2 c2 us R3.out (by omega) (fun x hx => by have := uok_true (Hall.out x hx); omega) Ap cp ns Rp3.out Hnn.out Hl.out).mono ?_
      rintro e w4 ⟨A4, c4, rfl, own4, o4, f4⟩
      have b4 := b3.only o4 (by simp)
      have ho4 := ho3.then o4
      have Rp4 := Lib.hid (Rp3.out.then o4)
      have Hown4 := Lib.hid own4
      have Hf4 := Lib.hid f4
      have Hsz := Lib.hid ho3.size
      clear b3 o4 own4 f4 Rp3 R3
      obtain ⟨V, hV⟩ : ∃ V, V = pu us ns := ⟨_, rfl⟩
      have hVl : V.length = us.length := by rw [hV, pu_len Hl.out]
      rw [← hV] at Hown4
      have HV := Lib.hid hV
      clear hV
      go_wp2_with fail
      go_loopw [13] (fun i wr => ∃ k : Nat, k ≤ us.length ∧ i = .int .i64 (k : Int) ∧ Hid (∀ j y, j < k → V[j]? = some y → y.c ≤ 8388608) ∧ Only [] w4 wr) (fun i _ => us.length - (intOf i).toNat)
      case atStart => exact ⟨0, Nat.zero_le _, rfl, Lib.hid (fun j y h => by omega), Only.refl _ _⟩
      case round =>
        obtain ⟨k, hk', rfl, HA, ho5⟩ := hrel
        by_cases hlt : k < us.length
        · obtain ⟨y, hy⟩ : ∃ y, V[k]? = some y := ⟨_, List.getElem?_eq_getElem (by omega)⟩
          obtain ⟨g, cg, hA, _⟩ := own_form1 Hown4.out (by omega)
          obtain ⟨rfl, rfl⟩ : A4 = some ⟨g, 0, none⟩ ∧ c4 = cg := by injection hA with h1 h2 h3; exact ⟨h1, h3⟩
          have cO := own_un (own_only Hown4.out ho5 (fun _ _ => List.not_mem_nil)) hy
          have hkl : (k : Int) < (us.length : Int) := by omega
          have Hy := Lib.hid hy
          clear hA hy
          by_cases hb : 8388608 < y.c
          · go_wp2_with fail
            refine (awake_any _).mono ?_
            rintro e w99 ⟨rfl, o99⟩
            go_wp2_with fail
            go_ret
            exact ⟨rfl, (ho4.then ho5).then o99⟩
          · have hbd : decide (8388608 < y.c) = false := decide_eq_false hb
            have hA2 : ∀ j z, j < k + 1 → V[j]? = some z → z.c ≤ 8388608 := fun j z hj hz => by
              by_cases hjk : j = k
              · subst hjk; rw [Hy.out] at hz; cases hz; omega
              · exact HA.out j z (by omega) hz
            have HA2 := Lib.hid hA2
            clear hA2 hb
            go_wp2_with fail
            go_roundw
            case rel => exact ⟨k + 1, by omega, by go_num, HA2, ho5⟩
            case measure => simp [intOf]; omega
        · have hke : k = us.length := by omega
          subst hke
          have hAll : ∀ y ∈ pu us ns, y.c ≤ 8388608 := fun y hy => by
            rw [← HV.out] at hy
            obtain ⟨j, hj⟩ := List.getElem?_of_mem hy
            exact HA.out j y (by have := (List.getElem?_eq_some_iff.1 hj).1; omega) hj
          obtain ⟨ls, hE⟩ := steers1 Hp.out Hq.out hAll
          have hE' : runE s V st = (ls, 0) := by rw [HV.out]; exact hE
          have HE := Lib.hid hE'
          have HAll := Lib.hid hAll
          have b5 := b4.only ho5 (by simp)
          have own5 := own_only Hown4.out ho5 (fun _ _ => List.not_mem_nil)
          have R5 := Reads.of_own own5
          rw [← hVl] at R5
          have HR5 := Lib.hid R5
          have Hown5 := Lib.hid own5
          have Rp5 := Lib.hid (Rp4.out.then ho5)
          have ho6 := ho4.then ho5
          have HVl := Lib.hid hVl
          clear hE hE' hAll own5 R5 Hown4 Rp4 b4 HA hlt
          have tok : True := trivial
          go_wp2_with (clear tok; refine ldS b5 rfl rfl rfl ?_)
          rw [← HVl.out]
          refine ((Run_any _ s hI A4 c4 V st HR5.out).mono fun e w' h => RunX.to HE.out h).mono ?_
          rw [HVl.out]
          rintro e w7 ⟨Ar, cr, rfl, _, o7⟩
          have b7 := b5.only o7 (by simp)
          have ho7 := ho6.then o7
          have Hown7 := Lib.hid (own_only Hown5.out o7 (fun _ _ => List.not_mem_nil))
          have Rp7 := Lib.hid (Rp5.out.then o7)
          have Ho47 := Lib.hid (ho5.then o7)
          clear o7 b5 ho5 Hown5 Rp5 HR5
          by_cases hk0 : kk < 0
          · go_wp2_with fail
            refine (awake_any _).mono ?_
            rintro e w99 ⟨rfl, o99⟩
            go_wp2_with fail
            go_ret
            exact ⟨rfl, (ho7).then o99⟩
          have hk0' : 0 ≤ kk := by omega
          obtain ⟨kn, rfl⟩ := Int.eq_ofNat_of_zero_le hk0'
          have hk0d : decide ((kn : Int) < 0) = false := decide_eq_false hk0
          clear hk0
          have hl2 : (ns.length : Int) = (us.length : Int) := by have := Hl.out; omega
          by_cases hk1 : (ns.length : Int) ≤ (kn : Int)
          · go_wp2_with fail
            refine (awake_any _).mono ?_
            rintro e w99 ⟨rfl, o99⟩
            go_wp2_with fail
            go_ret
            exact ⟨rfl, (ho7).then o99⟩
          have hk1' : (kn : Int) < (ns.length : Int) := by omega
          have hk1d : decide ((ns.length : Int) ≤ (kn : Int)) = false := decide_eq_false hk1
          clear hk1
          obtain ⟨q, hqk⟩ : ∃ q, ns[kn]? = some q := ⟨_, List.getElem?_eq_getElem (by omega)⟩
          obtain ⟨bp, offp, rfl, cP⟩ := Rp7.out.int hqk
          have Hqk := Lib.hid hqk
          clear hqk
          by_cases hq0 : q = 0
          · subst hq0
            go_wp2_with fail
            refine (awake_any _).mono ?_
            rintro e w99 ⟨rfl, o99⟩
            go_wp2_with fail
            go_ret
            exact ⟨rfl, (ho7).then o99⟩
          have hqd : (q == 0) = false := by simpa using hq0
          have hq0' : q ≠ 0 := hq0
          have Hq0 := Lib.hid hq0'
          clear hq0 hq0'
          obtain ⟨y, hy⟩ : ∃ y, V[kn]? = some y := ⟨_, List.getElem?_eq_getElem (by have := HVl.out; omega)⟩
          obtain ⟨g, cg, hA, _⟩ := own_form1 Hown7.out (by omega)
          obtain ⟨rfl, rfl⟩ : A4 = some ⟨g, 0, none⟩ ∧ c4 = cg := by injection hA with h1 h2 h3; exact ⟨h1, h3⟩
          have cO := own_un Hown7.out hy
          have zO := Hown7.out.frozenAt (kn * 4 + 2)
          have own8 := own_st Hown7.out hy (y.c - 8)
          have hg : w4.heap.size ≤ g ∨ w3.heap.size ≤ g := .inr ((Hf4.out g (by simp [rowFp, Value.ownBlock])).resolve_left (by simp))
          have hg0 : w.heap.size ≤ g := by
            rcases hg with h | h
            · exact Nat.le_trans ho4.size h
            · exact Nat.le_trans Hsz.out h
          have ho8 : Only [] w (w7.setCell ⟨g, kn * 4 + 2, none⟩ (.int .i64 (y.c - 8))) := ho7.setCell (.inr hg0) _
          have hb8 : Blk (w7.setCell ⟨g, kn * 4 + 2, none⟩ (.int .i64 (y.c - 8))) g1 26 (sqA s) := b7.far (p := ⟨g, kn * 4 + 2, none⟩) (own_ne Hown7.out b7) _
          have e8 : V.set kn ⟨y.a, y.b, y.c - 8, y.d⟩ = low kn V := low_set hy
          rw [e8] at own8
          have hF : frs s (low kn V) st = (kn : Int) := by rw [HV.out]; exact steers2 Hp.out Hq.out HAll.out Hqk.out Hq0.out
          have HF := Lib.hid hF
          have hyb : 0 ≤ y.c ∧ y.c ≤ 8388608 := by
            have h1 := HAll.out y (by rw [← HV.out]; exact List.mem_of_getElem? hy)
            have h2 := uok_true ((prp_true (prp_pu Hp.out Hq.out HAll.out)).2.2.2.2 y (by show y ∈ pu us ns; rw [← HV.out]; exact List.mem_of_getElem? hy))
            omega
          have R8 := Reads.of_own own8
          have hl8 : (low kn V).length = us.length := by rw [low_len, HVl.out]
          rw [← hl8] at R8
          have HR8 := Lib.hid R8
          have Ho8 := Lib.hid ho8
          have Hb8 := Lib.hid hb8
          have Hl8 := Lib.hid hl8
          have hkl : (kn : Int) < (us.length : Int) := by omega
          clear hy hA own8 ho8 hb8 e8 hF R8 hl8 hg hg0 Hown7 ho7 b7
          go_wp2_with fail
          refine (awake_any _).mono ?_
          rintro e w9 ⟨rfl, o9⟩
          have b9 := Hb8.out.only o9 (by simp)
          have ho9 := Ho8.out.then o9
          have R9 := Lib.hid (HR8.out.then o9)
          clear hqd hk1d hk0d cO zO cP o9
          have tok : True := trivial
          go_wp2_with (clear tok; refine gldS b9 rfl rfl rfl ?_)
          rw [← Hl8.out]
          refine (First_any _ s hI (some ⟨g, 0, none⟩) c4 (low kn V) st R9.out).mono ?_
          rw [Hl8.out]
          rintro e w10 ⟨rfl, o10⟩
          rw [HF.out]
          have ho10 := ho9.then o10
          go_wp2_with fail
          go_ret
          exact ⟨rfl, ho10⟩
  · have hd : decide ((100 : Int) < (us.length : Int)) = true := decide_eq_true (by omega)
    have tok : True := trivial
    go_wp2_with (clear tok; refine bxS (s := s) rfl rfl rfl ?_; rintro g1 w1 b1 o1 l1)
    go_ret
    exact ⟨rfl, o1⟩
end Go.Proofs.Ytmghfhjiodeaeaa.vbvSteers
