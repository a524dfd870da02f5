/- takeChannels. -/
import Derived.Test.YtmojlfgfaabegaaA8
import Derived.WalkMore
import Derived.ScopeJumps
namespace Go.Proofs.Ytmojlfgfaabegaa
open Go.RowKit bt

/-- A field of bits. -/
def fld (bs : List Bool) (i k : Nat) : Nat := num (window bs i k)
def shf (bs : List Bool) (c : Nat) : Nat := fld bs (292 * c) 4
def mnt (bs : List Bool) (c i : Nat) : Nat := fld bs (292 * c + 4 + 9 * i) 9
def sgn (m : Nat) : Int := if 256 ≤ m then (m : Int) - 512 else (m : Int)
def smp (bs : List Bool) (c i : Nat) : Int := sgn (mnt bs c i) * 2 ^ shf bs c + (hlfE (shf bs c) : Int)
/-- Channel c is undamaged. -/
def okc (bs : List Bool) (n c : Nat) : Bool := decide (shf bs c ≤ 7) && (List.range 32).all fun i => decide (i < n) || decide (mnt bs c i = 0)
def okA (bs : List Bool) (n ch : Nat) : Bool := (List.range ch).all (okc bs n)
def rowN (bs : List Bool) (n c : Nat) : List Int := (List.range n).map (smp bs c)
def rowU (bs : List Bool) (n c k : Nat) : List Int := (List.range n).map fun j => if j < k then smp bs c j else 0
theorem okc_true {bs : List Bool} {n c : Nat} : okc bs n c = true ↔ shf bs c ≤ 7 ∧ ∀ i, n ≤ i → i < 32 → mnt bs c i = 0 := by
  unfold okc
  simp only [Bool.and_eq_true, decide_eq_true_eq, List.all_eq_true, List.mem_range, Bool.or_eq_true]
  constructor
  · rintro ⟨h1, h2⟩
    refine ⟨h1, fun i hi hi2 => ?_⟩
    rcases h2 i hi2 with h | h
    · omega
    · exact h
  · rintro ⟨h1, h2⟩
    refine ⟨h1, fun i hi => ?_⟩
    by_cases h : i < n
    · exact .inl h
    · exact .inr (h2 i (by omega) hi)
theorem okA_true {bs : List Bool} {n ch : Nat} : okA bs n ch = true ↔ ∀ c, c < ch → okc bs n c = true := by
  unfold okA
  simp only [List.all_eq_true, List.mem_range]
theorem okA_bad {bs : List Bool} {n ch c : Nat} (hc : c < ch) (h : ¬ (shf bs c ≤ 7 ∧ ∀ i, n ≤ i → i < 32 → mnt bs c i = 0)) : okA bs n ch = false := by
  cases hA : okA bs n ch with
  | false => rfl
  | true => exact absurd (okc_true.1 (okA_true.1 hA c hc)) h
theorem rowU_zero (bs : List Bool) (n c : Nat) : sV (rowU bs n c 0) = List.replicate n (.int .i16 0) := by
  unfold rowU sV
  rw [List.map_map]
  apply List.ext_getElem
  · simp
  · intro i h1 h2
    simp
theorem rowU_end {bs : List Bool} {n c k : Nat} (h : n ≤ k) : rowU bs n c k = rowN bs n c := by
  unfold rowU rowN
  apply List.map_congr_left
  intro j hj
  rw [List.mem_range] at hj
  rw [if_pos (by omega)]
theorem rowU_stay {bs : List Bool} {n c k : Nat} (h : n ≤ k) : rowU bs n c (k + 1) = rowU bs n c k := by rw [rowU_end h, rowU_end (by omega)]
theorem rowU_len (bs : List Bool) (n c k : Nat) : (rowU bs n c k).length = n := by simp [rowU]
theorem rowU_step {bs : List Bool} {n c k : Nat} : ((sV (rowU bs n c k)).toArray.setIfInBounds k (.int .i16 (smp bs c k))) = (sV (rowU bs n c (k + 1))).toArray := by
  rw [List.setIfInBounds_toArray]
  congr 1
  apply List.ext_getElem
  · simp [sV, rowU]
  · intro i h1 h2
    rw [List.getElem_set]
    simp only [sV, rowU, List.getElem_map, List.getElem_range]
    by_cases hi : k = i
    · subst hi
      rw [if_pos rfl, if_pos (by omega)]
    · rw [if_neg hi]
      by_cases hlt : i < k
      · rw [if_pos hlt, if_pos (by omega)]
      · rw [if_neg hlt, if_neg (by omega)]
/-- The headers while the channels are made. -/
def hdrs (gs : List Nat) (n ch : Nat) : List Value := gs.map (fun x => .slice (some ⟨x, 0, none⟩) n n) ++ List.replicate (ch - gs.length) (.slice none 0 0)
theorem hdrs_len {gs : List Nat} {n ch : Nat} (h : gs.length ≤ ch) : (hdrs gs n ch).length = ch := by simp [hdrs]; omega
theorem hdrs_get {gs : List Nat} {n ch i x : Nat} (h : gs[i]? = some x) : (hdrs gs n ch)[i]? = some (.slice (some ⟨x, 0, none⟩) n n) := by
  have hlt := (List.getElem?_eq_some_iff.1 h).1
  unfold hdrs
  rw [List.getElem?_append_left (by simpa using hlt), List.getElem?_map, h]
  rfl
theorem hdrs_next {gs : List Nat} {n ch : Nat} (h : gs.length < ch) : (hdrs gs n ch)[gs.length]? = some (.slice none 0 0) := by
  unfold hdrs
  rw [List.getElem?_append_right (by simp), List.getElem?_replicate, if_pos (by simp; omega)]
theorem hdrs_step {gs : List Nat} {n ch x : Nat} (h : gs.length < ch) : (hdrs gs n ch).toArray.setIfInBounds gs.length (.slice (some ⟨x, 0, none⟩) n n) = (hdrs (gs ++ [x]) n ch).toArray := by
  rw [List.setIfInBounds_toArray]
  congr 1
  unfold hdrs
  rw [List.set_append_right _ _ (by simp)]
  obtain ⟨d, hd⟩ : ∃ d, ch - gs.length = d + 1 := ⟨ch - gs.length - 1, by omega⟩
  have hd2 : ch - (gs ++ [x]).length = d := by simp; omega
  rw [hd, hd2]
  simp [List.replicate_succ]
/-- What takeChannels comes to. -/
def TCC (bs : List Bool) (ch n g : Nat) (w : World) (e : Ending) (w' : World) : Prop :=
  Only [g] w w' ∧ (okA bs n ch = false ∧ e = .returned (.tuple #[.slice none 0 0, .bool false]) ∨ okA bs n ch = true ∧ ∃ gp gs, gs.length = ch ∧ e = .returned (.tuple #[.slice (some ⟨gp, 0, none⟩) ch ch, .bool true]) ∧
    Blk w' gp 39 (hdrs gs n ch).toArray ∧ (∀ i g', gs[i]? = some g' → Blk w' g' 45 (sV (rowN bs n i)).toArray ∧ w.heap.size ≤ g') ∧ w.heap.size ≤ gp)
/-- What holds at the jump. -/
def JT (g ch n : Nat) (bs : List Bool) (w : World) (a' : Act) (w' : World) : Prop := (∃ x0 x1 x2 x3 x4 x5 x6 x7 x8 x9 x10 x11 x12 x13 x14 x15 x16 x17 x18 x19 x20 x21 x22 x23 x24 x25 x26 x27 x28 x29 x30 x31 x32 x33 x34 x35 x36 x37 x38 x39 x40 x41 x42 x43 x44 x45 x46 x47 x48 x49 x50 x51 x52 x53 x54 x55 x56 x57 x58 x59 x60 x61 x62 x63 x64 x65 x66 x67 x68 x69 x70 x71 x72 x73 x74 x75 x76 x77 x78 x79 x80 x81 x82 x83 : Value, a' = { tmps := #[x0, x1, x2, x3, x4, x5, x6, x7, x8, x9, x10, x11, x12, x13, x14, x15, x16, x17, x18, x19, x20, x21, x22, x23, x24, x25, x26, x27, x28, x29, x30, x31, x32, x33, x34, x35, x36, x37, x38, x39, x40, x41, x42, x43, x44, x45, x46, x47, x48, x49, x50, x51, x52, x53, x54, x55, x56, x57, x58, x59, x60, x61, x62, x63, x64, x65, x66, x67, x68, x69, x70, x71, x72, x73, x74, x75, x76, x77, x78, x79, x80, x81, x82, x83], defers := [] }) ∧ Only [g] w w' ∧ okA bs n ch = false
theorem Only.new {F : List Nat} {a b c : World} {x : Nat} (h : Only F a b) (k : Only [x] b c) (hx : a.heap.size ≤ x) : Only F a c := h.trans k (fun y hy => .inr (by simp at hy; omega))
theorem wrap_i16 (n : Int) : IntKind.i16.wrap n = (n + 32768) % 65536 - 32768 := by
  simp [IntKind.wrap, IntKind.bits, IntKind.signed]
  split <;> omega
theorem smp_bd {m : Int} {s : Nat} (h1 : -256 ≤ m) (h2 : m ≤ 255) (hs : s ≤ 7) : -32768 ≤ m * 2 ^ s ∧ m * 2 ^ s ≤ 32640 ∧ (hlfE s : Int) ≤ 64 ∧ m * 2 ^ s + (hlfE s : Int) ≤ 32767 := by
  have : s = 0 ∨ s = 1 ∨ s = 2 ∨ s = 3 ∨ s = 4 ∨ s = 5 ∨ s = 6 ∨ s = 7 := by omega
  rcases this with rfl | rfl | rfl | rfl | rfl | rfl | rfl | rfl <;> simp [hlfE] <;> omega
theorem info_i16 : (Try.prog.info? 45).map (fun i => (i.zero, i.size, i.bytes)) = some (some (.int .i16 0), 1, 2) := by kernel_rfl
theorem info_s16 : (Try.prog.info? 39).map (fun i => (i.zero, i.size, i.bytes)) = some (some (.slice none 0 0), 1, 24) := by kernel_rfl
set_option maxRecDepth 100000 in
set_option maxHeartbeats 4000000 in
theorem takeChannels_any (w : World) (g b ch n nb : Nat) (p : List Nat) (h : ReaderIs w g b p nb 0) (hnb : nb = 292 * ch) (hch : 1 ≤ ch ∧ ch ≤ 4) (hn : 1 ≤ n ∧ n ≤ 32) :
    Calls Try.prog 36 #[.pointer (some ⟨g, 0, none⟩), .int .i64 (ch : Int), .int .i64 (n : Int)] w (TCC (bitsIn p nb) ch n g w) := by
  obtain ⟨i0, hi0, hz0, hz1, hz2⟩ := info_parts info_i16
  obtain ⟨i1, hi1, hy0, hy1, hy2⟩ := info_parts info_s16
  have hgl := h.1.lt
  have hbl := h.2.1.lt
  have HR := Lib.hid h
  have HNB := Lib.hid hnb
  obtain ⟨bs, hbs⟩ : ∃ bs, bs = bitsIn p nb := ⟨_, rfl⟩
  rw [← hbs]
  have HBS := Lib.hid hbs
  obtain ⟨hc1, hc4⟩ := hch
  obtain ⟨hn1, hn32⟩ := hn
  clear h hnb hbs
  go_enter Try.func36, Try.ntmps36
  go_wp2_with fail
  refine wp_scope_jumps 0 (JT g ch n bs w) (fun _ _ => 0) rfl ?_ ?_
  · have tok : True := trivial
    go_wp2_with (clear tok; at_make; refine wpList_mk _ rfl _ _ 28 rfl 39 i1 (.slice none 0 0) Try.underlying28 hi1 hy0 hy1 rfl _ _ _ _ ch rfl rfl rfl rfl (by rw [hy2]; omega) (by unfold maxLen; omega) ?_; rintro w1 b1 o1 l1)
    obtain ⟨gp, hgp⟩ : ∃ gp, gp = w.heap.size := ⟨_, rfl⟩
    rw [← hgp] at b1 ⊢
    have hgpw : w.heap.size ≤ gp := by omega
    have hgpg : gp ≠ g ∧ gp ≠ b := by omega
    have HB1 := Lib.hid (show Blk w1 gp 39 (hdrs [] n ch).toArray from b1)
    have HR1 := Lib.hid (show ReaderIs w1 g b p nb (292 * 0) from HR.out.only o1 (by simp) (by simp))
    have HO1 := Lib.hid (show Only [g] w w1 from o1.mono (by simp))
    clear b1 o1 l1 hgp HR
    go_wp2_with fail
    go_loopw [20] (fun i wr => ∃ k : Nat, k ≤ ch ∧ i = .int .i64 (k : Int) ∧ ∃ gs : List Nat, Hid (gs.length = k) ∧ Hid (ReaderIs wr g b p nb (292 * k)) ∧ Hid (Blk wr gp 39 (hdrs gs n ch).toArray) ∧ Hid (∀ i g', gs[i]? = some g' → Blk wr g' 45 (sV (rowN bs n i)).toArray ∧ w.heap.size ≤ g' ∧ g' ≠ gp) ∧ Hid (∀ c, c < k → okc bs n c = true) ∧ Hid (Only [g] w wr)) (fun i _ => ch - (intOf i).toNat)
    case atStart => exact ⟨0, Nat.zero_le _, rfl, [], Lib.hid rfl, HR1, HB1, Lib.hid (fun i g' h => by simp at h), Lib.hid (fun c hc => by omega), HO1⟩
    case round =>
      obtain ⟨k, hk, rfl, gs, HG, HRk, HBk, HGS, HOK, HO⟩ := hrel
      by_cases hlt : k < ch
      · have hki : (k : Int) < (ch : Int) := by omega
        have hwz := HO.out.size
        obtain ⟨gk, hgk⟩ : ∃ gk, gk = wr.heap.size := ⟨_, rfl⟩
        have ck : wr.cell? ⟨gp, k, none⟩ = some (.slice none 0 0) := by rw [HBk.out.cell k]; have := hdrs_next (gs := gs) (n := n) (ch := ch) (by rw [HG.out]; exact hlt); rw [HG.out] at this; simpa using this
        have zk := HBk.out.frozen k
        have tok : True := trivial
        go_wp2_with (clear tok; at_make; refine wpList_mk _ rfl _ _ 39 rfl 45 i0 (.int .i16 0) Try.underlying39 hi0 hz0 hz1 rfl _ _ _ _ n rfl rfl rfl rfl (by rw [hz2]; omega) (by unfold maxLen; omega) ?_)
        intro w2 b2 o2 l2
        rw [← hgk] at b2 ⊢
        have hgkp : gp < gk := by have := HBk.out.lt; omega
        have hgkg : g < gk ∧ b < gk := by omega
        have c2 : w2.cell? ⟨gp, k, none⟩ = some (.slice none 0 0) := (o2.cell HBk.out.lt (by simp)).trans ck
        have z2 : w2.frozen? ⟨gp, k, none⟩ = false := (HBk.out.only o2 (by simp)).frozen k
        obtain ⟨s1, s2⟩ := (HBk.out.only o2 (by simp)).set1 k (.slice (some ⟨gk, 0, none⟩) n n)
        rw [show k = gs.length from HG.out.symm, hdrs_step (by rw [HG.out]; exact hlt), HG.out] at s1
        have HB3 := Lib.hid s1
        have HRW3 := Lib.hid (show Blk (w2.setCell ⟨gp, k, none⟩ (.slice (some ⟨gk, 0, none⟩) n n)) gk 45 (sV (rowU bs n k 0)).toArray by rw [rowU_zero]; exact b2.far (by simp; omega) _)
        have HR3 := Lib.hid ((HRk.out.only o2 (by simp) (by simp)).only s2 (by simp; omega) (by simp; omega))
        have HO3 := Lib.hid ((HO.out.then o2).new s2 hgpw)
        have HGS3 := Lib.hid (show ∀ i g', gs[i]? = some g' → Blk (w2.setCell ⟨gp, k, none⟩ (.slice (some ⟨gk, 0, none⟩) n n)) g' 45 (sV (rowN bs n i)).toArray ∧ w.heap.size ≤ g' ∧ g' ≠ gp ∧ g' < gk from fun i g' hi => by
          obtain ⟨h1, h2, h3⟩ := HGS.out i g' hi
          exact ⟨(h1.only o2 (by simp)).only s2 (by simpa using h3), h2, h3, by have := h1.lt; omega⟩)
        have hgkw : w.heap.size ≤ gk := by omega
        clear s1 s2 b2 o2 l2 ck zk HRk HBk HGS HO hgk
        go_wp2_with fail
        clear c2 z2
        generalize w2.setCell ⟨gp, k, none⟩ (.slice (some ⟨gk, 0, none⟩) n n) = w3 at HB3 HRW3 HR3 HO3 HGS3 ⊢
        have hnbk : 292 * k + 292 ≤ nb := by have := HNB.out; omega
        refine (take_ok _ g b p nb (292 * k) 4 HR3.out (by omega) (by omega)).mono ?_
        rintro e w4 ⟨rfl, hr4, o4⟩
        have HS := Lib.hid (show num (window (bitsIn p nb) (292 * k) 4) = shf bs k by rw [HBS.out]; rfl)
        rw [HS.out]
        have hs16 : shf bs k < 16 := by rw [← HS.out]; have := num_lt (window (bitsIn p nb) (292 * k) 4); rw [window_length _ _ _ (by rw [bitsIn_length]; omega)] at this; exact this
        clear HS
        obtain ⟨s, hs⟩ : ∃ s, s = shf bs k := ⟨_, rfl⟩
        rw [← hs] at hs16 ⊢
        have HS := Lib.hid hs
        have HR4 := Lib.hid hr4
        have HB4 := Lib.hid (HB3.out.only o4 (by simp; omega))
        have HRW4 := Lib.hid (HRW3.out.only o4 (by simp; omega))
        have HO4 := Lib.hid (HO3.out.trans o4 (Fresh.refl _ _))
        have HGS4 := Lib.hid (show ∀ i g', gs[i]? = some g' → Blk w4 g' 45 (sV (rowN bs n i)).toArray ∧ w.heap.size ≤ g' ∧ g' ≠ gp ∧ g' < gk from fun i g' hi => by
          obtain ⟨h1, h2, h3, h4⟩ := HGS3.out i g' hi
          exact ⟨h1.only o4 (by simp; omega), h2, h3, h4⟩)
        clear hs hr4 o4 HB3 HRW3 HR3 HO3 HGS3
        by_cases hs7 : s ≤ 7
        · have hsd : decide ((7 : Int) < (s : Int)) = false := decide_eq_false (by omega)
          go_wp2_with fail
          clear hsd
          go_loopw [39] (fun iv wr => ∃ i : Nat, i ≤ 32 ∧ iv = .int .i64 (i : Int) ∧ Hid (ReaderIs wr g b p nb (292 * k + 4 + 9 * i)) ∧ Hid (Blk wr gp 39 (hdrs (gs ++ [gk]) n ch).toArray) ∧ Hid (Blk wr gk 45 (sV (rowU bs n k i)).toArray) ∧ Hid (∀ i g', gs[i]? = some g' → Blk wr g' 45 (sV (rowN bs n i)).toArray ∧ w.heap.size ≤ g' ∧ g' ≠ gp ∧ g' < gk) ∧ Hid (∀ j, n ≤ j → j < i → mnt bs k j = 0) ∧ Hid (Only [g] w wr)) (fun iv _ => 32 - (intOf iv).toNat)
          case atStart => exact ⟨0, by omega, rfl, HR4, HB4, HRW4, HGS4, Lib.hid (fun j h1 h2 => by omega), HO4⟩
          case round =>
            obtain ⟨i, hi, rfl, HR5, HB5, HRW5, HGS5, HZ5, HO5⟩ := hrel
            by_cases hi32 : i < 32
            · have hid : (i : Int) < 32 := by omega
              have hckk : (hdrs (gs ++ [gk]) n ch)[k]? = some (.slice (some ⟨gk, 0, none⟩) n n) := hdrs_get (by rw [← HG.out, List.getElem?_append_right (Nat.le_refl _)]; simp)
              have HCK := Lib.hid hckk
              clear hckk
              go_wp2_with fail
              refine (take_ok _ g b p nb (292 * k + 4 + 9 * i) 9 HR5.out (by omega) (by omega)).mono ?_
              rintro e w6 ⟨rfl, hr6, o6⟩
              have HM := Lib.hid (show num (window (bitsIn p nb) (292 * k + 4 + 9 * i) 9) = mnt bs k i by rw [HBS.out]; rfl)
              rw [HM.out]
              have hm512 : mnt bs k i < 512 := by rw [← HM.out]; have := num_lt (window (bitsIn p nb) (292 * k + 4 + 9 * i) 9); rw [window_length _ _ _ (by rw [bitsIn_length]; omega)] at this; exact this
              clear HM
              obtain ⟨M, hM⟩ : ∃ M, M = mnt bs k i := ⟨_, rfl⟩
              rw [← hM] at hm512 ⊢
              have HM := Lib.hid hM
              have HR6 := Lib.hid (show ReaderIs w6 g b p nb (292 * k + 4 + 9 * (i + 1)) by rw [show 292 * k + 4 + 9 * (i + 1) = 292 * k + 4 + 9 * i + 9 by omega]; exact hr6)
              have HB6 := Lib.hid (HB5.out.only o6 (by simp; omega))
              have HRW6 := Lib.hid (HRW5.out.only o6 (by simp; omega))
              have HO6 := Lib.hid (HO5.out.trans o6 (Fresh.refl _ _))
              have HGS6 := Lib.hid (show ∀ i g', gs[i]? = some g' → Blk w6 g' 45 (sV (rowN bs n i)).toArray ∧ w.heap.size ≤ g' ∧ g' ≠ gp ∧ g' < gk from fun i g' hi => by
                obtain ⟨h1, h2, h3, h4⟩ := HGS5.out i g' hi
                exact ⟨h1.only o6 (by simp; omega), h2, h3, h4⟩)
              clear hM hr6 o6 HB5 HRW5 HR5 HO5 HGS5
              by_cases hin : i < n
              · have HZ6 := Lib.hid (show ∀ j, n ≤ j → j < i + 1 → mnt bs k j = 0 from fun j h1 h2 => by omega)
                have hin1 : decide ((n : Int) ≤ (i : Int)) = false := decide_eq_false (by omega)
                have hin2 : (i : Int) < (n : Int) := by omega
                have cgp : w6.cell? ⟨gp, k, none⟩ = some (.slice (some ⟨gk, 0, none⟩) n n) := by rw [HB6.out.cell k]; simpa using HCK.out
                by_cases hM256 : 256 ≤ M
                · have hMd : (256 : Int) ≤ (M : Int) := by omega
                  have HMV := Lib.hid (show sgn M = (M : Int) - 512 by unfold sgn; rw [if_pos hM256])
                  have hb1 : -256 ≤ (M : Int) - 512 := by omega
                  have hb2 : (M : Int) - 512 ≤ 255 := by omega
                  go_wp2_with fail
                  clear hMd hM256
                  generalize (M : Int) - 512 = m' at HMV hb1 hb2 ⊢
                  have HV := Lib.hid (show smp bs k i = m' * 2 ^ s + (hlfE s : Int) by unfold smp; rw [← HM.out, HMV.out, ← HS.out])
                  obtain ⟨bd1, bd2, bd3, bd4⟩ := smp_bd hb1 hb2 hs7
                  have eq1 : wrap64 (m' * 2 ^ s) = m' * 2 ^ s := by unfold wrap64; omega
                  generalize hqv : m' * 2 ^ s = qv at HV bd1 bd2 bd4 eq1
                  have HOF := Lib.hid (fun w => offset_any w s hs7)
                  generalize hov : (hlfE s : Int) = ov at HV bd3 bd4 HOF
                  have hov0 : 0 ≤ ov := by rw [← hov]; omega
                  obtain ⟨z, hz⟩ : ∃ z, z = qv + ov := ⟨_, rfl⟩
                  have eq2 : wrap64 (qv + ov) = qv + ov := by unfold wrap64; omega
                  have eq3 : IntKind.i16.wrap (qv + ov) = z := by rw [wrap_i16]; omega
                  have HV2 := Lib.hid (show smp bs k i = z by rw [HV.out, hz])
                  have fh : ∀ w', Cls w6 w' → w'.cell? ⟨gp, k, none⟩ = some (.slice (some ⟨gk, 0, none⟩) n n) := fun w' h => h.cell cgp
                  clear HV hz hov HMV HM
                  refine rgnT (Cls w6) 14 (by kernel_rfl) (by kernel_rfl) Cls.refl ?_
                  simp only [List.take_succ_cons, List.take_zero, List.drop_succ_cons, List.drop_zero]
                  refine qW (.slice (some ⟨gp, 0, none⟩) ch ch) rfl rfl (fun w hC K hK => ?_) ?_
                  · (go_wp2_with fail) <;> (first | exact hC | exact hK _ hC)
                  simp only [Act.put, List.setIfInBounds_toArray, List.set_cons_zero, List.set_cons_succ]
                  refine qW (.int .i64 (k : Int)) rfl rfl (fun w hC K hK => ?_) ?_
                  · (go_wp2_with fail) <;> (first | exact hC | exact hK _ hC)
                  simp only [Act.put, List.setIfInBounds_toArray, List.set_cons_zero, List.set_cons_succ]
                  refine qW (.pointer (some ⟨gp, k, none⟩)) rfl rfl (fun w hC K hK => ?_) ?_
                  · (go_wp2_with fail) <;> (first | exact hC | exact hK _ hC)
                  simp only [Act.put, List.setIfInBounds_toArray, List.set_cons_zero, List.set_cons_succ]
                  refine qW (.slice (some ⟨gk, 0, none⟩) n n) rfl rfl (fun w hC K hK => ?_) ?_
                  · have fc := fh w hC; (go_wp2_with fail) <;> (first | exact hC | exact hK _ hC)
                  simp only [Act.put, List.setIfInBounds_toArray, List.set_cons_zero, List.set_cons_succ]
                  refine qW (.int .i64 (i : Int)) rfl rfl (fun w hC K hK => ?_) ?_
                  · (go_wp2_with fail) <;> (first | exact hC | exact hK _ hC)
                  simp only [Act.put, List.setIfInBounds_toArray, List.set_cons_zero, List.set_cons_succ]
                  refine qW (.int .i64 m') rfl rfl (fun w hC K hK => ?_) ?_
                  · (go_wp2_with fail) <;> (first | exact hC | exact hK _ hC)
                  simp only [Act.put, List.setIfInBounds_toArray, List.set_cons_zero, List.set_cons_succ]
                  refine qW (.int .u32 (s : Int)) rfl rfl (fun w hC K hK => ?_) ?_
                  · (go_wp2_with fail) <;> (first | exact hC | exact hK _ hC)
                  simp only [Act.put, List.setIfInBounds_toArray, List.set_cons_zero, List.set_cons_succ]
                  refine qW (.int .i64 qv) rfl rfl (fun w hC K hK => ?_) ?_
                  · (go_wp2_with fail) <;> (first | exact hC | exact hK _ hC)
                  simp only [Act.put, List.setIfInBounds_toArray, List.set_cons_zero, List.set_cons_succ]
                  refine qW (.int .u32 (s : Int)) rfl rfl (fun w hC K hK => ?_) ?_
                  · (go_wp2_with fail) <;> (first | exact hC | exact hK _ hC)
                  simp only [Act.put, List.setIfInBounds_toArray, List.set_cons_zero, List.set_cons_succ]
                  refine qW (.int .i64 (s : Int)) rfl rfl (fun w hC K hK => ?_) ?_
                  · (go_wp2_with fail) <;> (first | exact hC | exact hK _ hC)
                  simp only [Act.put, List.setIfInBounds_toArray, List.set_cons_zero, List.set_cons_succ]
                  refine qC (fun w hC => Calls.cls_same hC (HOF.out w)) rfl (fun w => ?_) ?_
                  · go_simp; try rfl
                  simp only [Act.put, List.setIfInBounds_toArray, List.set_cons_zero, List.set_cons_succ]
                  refine qW (.int .i64 (qv + ov)) rfl rfl (fun w hC K hK => ?_) ?_
                  · (go_wp2_with fail) <;> (first | exact hC | exact hK _ hC)
                  simp only [Act.put, List.setIfInBounds_toArray, List.set_cons_zero, List.set_cons_succ]
                  refine qW (.int .i16 z) rfl rfl (fun w hC K hK => ?_) ?_
                  · (go_wp2_with fail) <;> (first | exact hC | exact hK _ hC)
                  simp only [Act.put, List.setIfInBounds_toArray, List.set_cons_zero, List.set_cons_succ]
                  refine qW (.pointer (some ⟨gk, i, none⟩)) rfl rfl (fun w hC K hK => ?_) ?_
                  · (go_wp2_with fail) <;> (first | exact hC | exact hK _ hC)
                  simp only [Act.put, List.setIfInBounds_toArray, List.set_cons_zero, List.set_cons_succ]
                  refine qN ?_
                  intro w' hw'
                  have B7 := hw'.blk HRW6.out
                  have hl7 : (sV (rowU bs n k i)).toArray[i]? = some (.int .i16 0) := by simp [sV, rowU, hin]
                  have c7 : w'.cell? ⟨gk, i, none⟩ = some (.int .i16 0) := by rw [B7.cell i, hl7]
                  have z7 := B7.frozen i
                  obtain ⟨s1, s2⟩ := B7.set1 i (.int .i16 z)
                  rw [← HV2.out, rowU_step, HV2.out] at s1
                  have HRW8 := Lib.hid s1
                  have hwo : Only [] w6 w' := hw'
                  have HR8 := Lib.hid ((HR6.out.only hwo (by simp) (by simp)).only s2 (by simp; omega) (by simp; omega))
                  have HB8 := Lib.hid ((HB6.out.only hwo (by simp)).only s2 (by simp; omega))
                  have HO8 := Lib.hid ((HO6.out.then hwo).new s2 hgkw)
                  have HGS8 := Lib.hid (show ∀ j g', gs[j]? = some g' → Blk (w'.setCell ⟨gk, i, none⟩ (.int .i16 z)) g' 45 (sV (rowN bs n j)).toArray ∧ w.heap.size ≤ g' ∧ g' ≠ gp ∧ g' < gk from fun j g' hj => by
                    obtain ⟨h1, h2, h3, h4⟩ := HGS6.out j g' hj
                    exact ⟨(h1.only hwo (by simp)).only s2 (by simp; omega), h2, h3, h4⟩)
                  clear s1 s2 hl7 B7 hwo HR6 HB6 HO6 HGS6 HRW6 fh
                  go_wp2_with fail
                  go_roundw
                  case rel => exact ⟨i + 1, by omega, by go_num, HR8, HB8, HRW8, HGS8, HZ6, HO8⟩
                  case measure => simp [intOf]; omega
                · have hMd : (M : Int) < 256 := by omega
                  have HMV := Lib.hid (show sgn M = (M : Int) by unfold sgn; rw [if_neg hM256])
                  have hb1 : -256 ≤ (M : Int) := by omega
                  have hb2 : (M : Int) ≤ 255 := by omega
                  clear hM256
                  go_wp2_with fail
                  clear hMd
                  generalize hm' : (M : Int) = m' at HMV hb1 hb2 ⊢
                  clear hm'
                  have HV := Lib.hid (show smp bs k i = m' * 2 ^ s + (hlfE s : Int) by unfold smp; rw [← HM.out, HMV.out, ← HS.out])
                  obtain ⟨bd1, bd2, bd3, bd4⟩ := smp_bd hb1 hb2 hs7
                  have eq1 : wrap64 (m' * 2 ^ s) = m' * 2 ^ s := by unfold wrap64; omega
                  generalize hqv : m' * 2 ^ s = qv at HV bd1 bd2 bd4 eq1
                  have HOF := Lib.hid (fun w => offset_any w s hs7)
                  generalize hov : (hlfE s : Int) = ov at HV bd3 bd4 HOF
                  have hov0 : 0 ≤ ov := by rw [← hov]; omega
                  obtain ⟨z, hz⟩ : ∃ z, z = qv + ov := ⟨_, rfl⟩
                  have eq2 : wrap64 (qv + ov) = qv + ov := by unfold wrap64; omega
                  have eq3 : IntKind.i16.wrap (qv + ov) = z := by rw [wrap_i16]; omega
                  have HV2 := Lib.hid (show smp bs k i = z by rw [HV.out, hz])
                  have fh : ∀ w', Cls w6 w' → w'.cell? ⟨gp, k, none⟩ = some (.slice (some ⟨gk, 0, none⟩) n n) := fun w' h => h.cell cgp
                  clear HV hz hov HMV HM
                  refine rgnT (Cls w6) 14 (by kernel_rfl) (by kernel_rfl) Cls.refl ?_
                  simp only [List.take_succ_cons, List.take_zero, List.drop_succ_cons, List.drop_zero]
                  refine qW (.slice (some ⟨gp, 0, none⟩) ch ch) rfl rfl (fun w hC K hK => ?_) ?_
                  · (go_wp2_with fail) <;> (first | exact hC | exact hK _ hC)
                  simp only [Act.put, List.setIfInBounds_toArray, List.set_cons_zero, List.set_cons_succ]
                  refine qW (.int .i64 (k : Int)) rfl rfl (fun w hC K hK => ?_) ?_
                  · (go_wp2_with fail) <;> (first | exact hC | exact hK _ hC)
                  simp only [Act.put, List.setIfInBounds_toArray, List.set_cons_zero, List.set_cons_succ]
                  refine qW (.pointer (some ⟨gp, k, none⟩)) rfl rfl (fun w hC K hK => ?_) ?_
                  · (go_wp2_with fail) <;> (first | exact hC | exact hK _ hC)
                  simp only [Act.put, List.setIfInBounds_toArray, List.set_cons_zero, List.set_cons_succ]
                  refine qW (.slice (some ⟨gk, 0, none⟩) n n) rfl rfl (fun w hC K hK => ?_) ?_
                  · have fc := fh w hC; (go_wp2_with fail) <;> (first | exact hC | exact hK _ hC)
                  simp only [Act.put, List.setIfInBounds_toArray, List.set_cons_zero, List.set_cons_succ]
                  refine qW (.int .i64 (i : Int)) rfl rfl (fun w hC K hK => ?_) ?_
                  · (go_wp2_with fail) <;> (first | exact hC | exact hK _ hC)
                  simp only [Act.put, List.setIfInBounds_toArray, List.set_cons_zero, List.set_cons_succ]
                  refine qW (.int .i64 m') rfl rfl (fun w hC K hK => ?_) ?_
                  · (go_wp2_with fail) <;> (first | exact hC | exact hK _ hC)
                  simp only [Act.put, List.setIfInBounds_toArray, List.set_cons_zero, List.set_cons_succ]
                  refine qW (.int .u32 (s : Int)) rfl rfl (fun w hC K hK => ?_) ?_
                  · (go_wp2_with fail) <;> (first | exact hC | exact hK _ hC)
                  simp only [Act.put, List.setIfInBounds_toArray, List.set_cons_zero, List.set_cons_succ]
                  refine qW (.int .i64 qv) rfl rfl (fun w hC K hK => ?_) ?_
                  · (go_wp2_with fail) <;> (first | exact hC | exact hK _ hC)
                  simp only [Act.put, List.setIfInBounds_toArray, List.set_cons_zero, List.set_cons_succ]
                  refine qW (.int .u32 (s : Int)) rfl rfl (fun w hC K hK => ?_) ?_
                  · (go_wp2_with fail) <;> (first | exact hC | exact hK _ hC)
                  simp only [Act.put, List.setIfInBounds_toArray, List.set_cons_zero, List.set_cons_succ]
                  refine qW (.int .i64 (s : Int)) rfl rfl (fun w hC K hK => ?_) ?_
                  · (go_wp2_with fail) <;> (first | exact hC | exact hK _ hC)
                  simp only [Act.put, List.setIfInBounds_toArray, List.set_cons_zero, List.set_cons_succ]
                  refine qC (fun w hC => Calls.cls_same hC (HOF.out w)) rfl (fun w => ?_) ?_
                  · go_simp; try rfl
                  simp only [Act.put, List.setIfInBounds_toArray, List.set_cons_zero, List.set_cons_succ]
                  refine qW (.int .i64 (qv + ov)) rfl rfl (fun w hC K hK => ?_) ?_
                  · (go_wp2_with fail) <;> (first | exact hC | exact hK _ hC)
                  simp only [Act.put, List.setIfInBounds_toArray, List.set_cons_zero, List.set_cons_succ]
                  refine qW (.int .i16 z) rfl rfl (fun w hC K hK => ?_) ?_
                  · (go_wp2_with fail) <;> (first | exact hC | exact hK _ hC)
                  simp only [Act.put, List.setIfInBounds_toArray, List.set_cons_zero, List.set_cons_succ]
                  refine qW (.pointer (some ⟨gk, i, none⟩)) rfl rfl (fun w hC K hK => ?_) ?_
                  · (go_wp2_with fail) <;> (first | exact hC | exact hK _ hC)
                  simp only [Act.put, List.setIfInBounds_toArray, List.set_cons_zero, List.set_cons_succ]
                  refine qN ?_
                  intro w' hw'
                  have B7 := hw'.blk HRW6.out
                  have hl7 : (sV (rowU bs n k i)).toArray[i]? = some (.int .i16 0) := by simp [sV, rowU, hin]
                  have c7 : w'.cell? ⟨gk, i, none⟩ = some (.int .i16 0) := by rw [B7.cell i, hl7]
                  have z7 := B7.frozen i
                  obtain ⟨s1, s2⟩ := B7.set1 i (.int .i16 z)
                  rw [← HV2.out, rowU_step, HV2.out] at s1
                  have HRW8 := Lib.hid s1
                  have hwo : Only [] w6 w' := hw'
                  have HR8 := Lib.hid ((HR6.out.only hwo (by simp) (by simp)).only s2 (by simp; omega) (by simp; omega))
                  have HB8 := Lib.hid ((HB6.out.only hwo (by simp)).only s2 (by simp; omega))
                  have HO8 := Lib.hid ((HO6.out.then hwo).new s2 hgkw)
                  have HGS8 := Lib.hid (show ∀ j g', gs[j]? = some g' → Blk (w'.setCell ⟨gk, i, none⟩ (.int .i16 z)) g' 45 (sV (rowN bs n j)).toArray ∧ w.heap.size ≤ g' ∧ g' ≠ gp ∧ g' < gk from fun j g' hj => by
                    obtain ⟨h1, h2, h3, h4⟩ := HGS6.out j g' hj
                    exact ⟨(h1.only hwo (by simp)).only s2 (by simp; omega), h2, h3, h4⟩)
                  clear s1 s2 hl7 B7 hwo HR6 HB6 HO6 HGS6 HRW6 fh
                  go_wp2_with fail
                  go_roundw
                  case rel => exact ⟨i + 1, by omega, by go_num, HR8, HB8, HRW8, HGS8, HZ6, HO8⟩
                  case measure => simp [intOf]; omega
              · have hin1 : (n : Int) ≤ (i : Int) := by omega
                have hin2 : decide ((i : Int) < (n : Int)) = false := decide_eq_false (by omega)
                by_cases hM0 : M = 0
                · have HZ6 := Lib.hid (show ∀ j, n ≤ j → j < i + 1 → mnt bs k j = 0 from fun j h1 h2 => by
                    by_cases hji : j = i
                    · subst hji; rw [← HM.out]; exact hM0
                    · exact HZ5.out j h1 (by omega))
                  have HRW7 := Lib.hid (show Blk w6 gk 45 (sV (rowU bs n k (i + 1))).toArray by rw [rowU_stay (by omega)]; exact HRW6.out)
                  have hM0' : (M : Int) = 0 := by omega
                  subst hM0
                  clear hM0'
                  go_wp2_with fail
                  go_roundw
                  case rel => exact ⟨i + 1, by omega, by go_num, HR6, HB6, HRW7, HGS6, HZ6, HO6⟩
                  case measure => simp [intOf]; omega
                · have hM0' : ((M : Int) == 0) = false := beq_eq_false_iff_ne.2 (by omega)
                  have hM0n : (M : Int) ≠ 0 := by omega
                  have HBAD := Lib.hid (okA_bad (bs := bs) (n := n) (ch := ch) hlt (fun h => by have := h.2 i (by omega) hi32; rw [← HM.out] at this; omega))
                  clear hM0
                  go_wp2_with fail
                  go_step3
                  refine ⟨rfl, ⟨_, _, _, _, _, _, _, _, _, _, _, _, _, _, _, _, _, _, _, _, _, _, _, _, _, _, _, _, _, _, _, _, _, _, _, _, _, _, _, _, _, _, _, _, _, _, _, _, _, _, _, _, _, _, _, _, _, _, _, _, _, _, _, _, _, _, _, _, _, _, _, _, _, _, _, _, _, _, _, _, _, _, _, _, rfl⟩, HO6.out, HBAD.out⟩
            · have hi' : i = 32 := by omega
              subst hi'
              have HRn := Lib.hid (show ReaderIs wr g b p nb (292 * (k + 1)) by rw [show 292 * (k + 1) = 292 * k + 4 + 9 * 32 by omega]; exact HR5.out)
              have HGn := Lib.hid (show (gs ++ [gk]).length = k + 1 by rw [List.length_append, HG.out]; rfl)
              have HOKn := Lib.hid (show ∀ c, c < k + 1 → okc bs n c = true from fun c hc => by
                by_cases hck : c = k
                · subst hck; exact okc_true.2 ⟨by rw [← HS.out]; exact hs7, HZ5.out⟩
                · exact HOK.out c (by omega))
              have HGSn := Lib.hid (show ∀ i g', (gs ++ [gk])[i]? = some g' → Blk wr g' 45 (sV (rowN bs n i)).toArray ∧ w.heap.size ≤ g' ∧ g' ≠ gp from fun i g' hi => by
                by_cases hil : i < gs.length
                · rw [List.getElem?_append_left hil] at hi
                  obtain ⟨h1, h2, h3, _⟩ := HGS5.out i g' hi
                  exact ⟨h1, h2, h3⟩
                · rw [List.getElem?_append_right (by omega), List.getElem?_singleton] at hi
                  split at hi
                  · rename_i h0
                    cases hi
                    have hik : i = k := by have := HG.out; omega
                    subst hik
                    have := HRW5.out
                    rw [rowU_end hn32] at this
                    exact ⟨this, hgkw, by omega⟩
                  · cases hi)
              go_wp2_with fail
              go_roundw
              case rel => exact ⟨k + 1, by omega, by go_num, gs ++ [gk], HGn, HRn, HB5, HGSn, HOKn, HO5⟩
              case measure => simp [intOf]; omega
        · have hsd : (7 : Int) < (s : Int) := by omega
          have HBAD := Lib.hid (okA_bad (bs := bs) (n := n) (ch := ch) hlt (fun h => by rw [← HS.out] at h; omega))
          clear hs7
          go_wp2_with fail
          go_step3
          refine ⟨rfl, ⟨_, _, _, _, _, _, _, _, _, _, _, _, _, _, _, _, _, _, _, _, _, _, _, _, _, _, _, _, _, _, _, _, _, _, _, _, _, _, _, _, _, _, _, _, _, _, _, _, _, _, _, _, _, _, _, _, _, _, _, _, _, _, _, _, _, _, _, _, _, _, _, _, _, _, _, _, _, _, _, _, _, _, _, _, rfl⟩, HO4.out, HBAD.out⟩
      · have hke : k = ch := by omega
        subst hke
        have HALL := Lib.hid (okA_true.2 HOK.out)
        clear hlt
        go_wp2_with fail
        simp only [Exit.jump]
        go_ret2
        exact ⟨HO.out, .inr ⟨HALL.out, gp, gs, HG.out, rfl, HBk.out, fun i g' h => ⟨(HGS.out i g' h).1, (HGS.out i g' h).2.1⟩, hgpw⟩⟩
  · rintro a' w' ⟨⟨x0, x1, x2, x3, x4, x5, x6, x7, x8, x9, x10, x11, x12, x13, x14, x15, x16, x17, x18, x19, x20, x21, x22, x23, x24, x25, x26, x27, x28, x29, x30, x31, x32, x33, x34, x35, x36, x37, x38, x39, x40, x41, x42, x43, x44, x45, x46, x47, x48, x49, x50, x51, x52, x53, x54, x55, x56, x57, x58, x59, x60, x61, x62, x63, x64, x65, x66, x67, x68, x69, x70, x71, x72, x73, x74, x75, x76, x77, x78, x79, x80, x81, x82, x83, rfl⟩, HO, HB⟩
    go_wp2_with fail
    simp only [Exit.jump]
    go_ret2
    exact ⟨HO, .inl ⟨HB, rfl⟩⟩
end Go.Proofs.Ytmojlfgfaabegaa
