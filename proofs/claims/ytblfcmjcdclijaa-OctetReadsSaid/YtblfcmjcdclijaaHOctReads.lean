/- The reader of the document beside ours, and the statement OctetReads: what is read of any bytes, number by number, is the same. -/
import Derived.Test.YtblfcmjcdclijaaHOctAwake
import Derived.Test.YtblfcmjcdclijaaPOct
import Derived.Test.YtblfcmjcdclijaaWFoot

namespace Go.Proofs.Ytblfcmjcdclijaa.Q
open Go.RowKit Go.Proofs.YtblfcmjcdclijaaW.PrintWords Go.Proofs.YtblfcmjcdclijaaW.PrintLast Go.Proofs.YtblfcmjcdclijaaW.PrintMore
set_option linter.unusedSimpArgs false
set_option linter.unusedVariables false
/-- A number is read: what is answered, what is left, what went wrong. -/
def stNum (l : List Int) (e most : Int) : Int × List Int × Int :=
  if e = 0 then (match octet_Take.f l with
    | some (n, k, er) => if er = 0 then (if n ≤ most then (n, l.drop k.toNat, 0) else (0, [], 5)) else (0, [], er)
    | none => (0, l, e)) else (0, l, e)
/-- Eight bytes are read. -/
def stEight (l : List Int) (e : Int) : Int × List Int × Int :=
  if e = 0 then (if l.length < 8 then (0, [], 3) else (foldB (l.take 8) 0, l.drop 8, 0)) else (0, l, e)
theorem num_st (g : Nat) (S : Nat → Prop) (l : List Int) (e most : Int) (w : World) (h : RdS w g S l e) (hS : S g) (hb : l.all byteB = true) (he : e ≠ 0 → l = []) :
    Calls Try.prog 22 #[.pointer (some ⟨g, 0, none⟩), .int .u64 most] w fun en w' => en = .returned (.int .u64 (stNum l e most).1) ∧ RdS w' g S (stNum l e most).2.1 (stNum l e most).2.2 ∧ w.grownBy w' (some g) := by
  unfold stNum
  by_cases h0 : e = 0
  · subst h0
    obtain ⟨n, k, er, ht⟩ := take_some hb
    rw [if_pos rfl, ht]
    by_cases h1 : er = 0
    · subst h1
      by_cases h2 : n ≤ most
      · simp only [if_pos h2, if_true]
        exact num_ok g S l 0 most n k w h hS ht h2
      · simp only [if_neg h2, if_true]
        exact num_big g S l 0 most n k w h hS ht (by omega) rfl
    · simp only [if_neg h1]
      exact num_err g S l most n k er w h hS ht h1
  · have := he h0
    subst this
    rw [if_neg h0]
    exact num_gone g S e most w h hS h0
theorem eight_st (g : Nat) (S : Nat → Prop) (l : List Int) (e : Int) (w : World) (h : RdS w g S l e) (hS : S g) (hb : l.all byteB = true) (he : e ≠ 0 → l = []) :
    Calls Try.prog 20 #[.pointer (some ⟨g, 0, none⟩)] w fun en w' => en = .returned (.int .u64 (stEight l e).1) ∧ RdS w' g S (stEight l e).2.1 (stEight l e).2.2 ∧ w.grownBy w' (some g) := by
  unfold stEight
  by_cases h0 : e = 0
  · subst h0
    rw [if_pos rfl]
    by_cases h1 : l.length < 8
    · rw [if_pos h1]
      exact eight_short g S l w h hS h1
    · rw [if_neg h1]
      exact eight_ok g S l 0 w h hS (by omega) hb
  · have := he h0
    subst this
    rw [if_neg h0]
    exact eight_gone g S e w h h0
abbrev RdR := RdT 39
set_option maxHeartbeats 800000 in
set_option maxRecDepth 100000 in
theorem rnum_gone (g : Nat) (S : Nat → Prop) (l : List Int) (e most : Int) (w : World) (h : RdR w g S l e) (he : e ≠ 0) :
    Calls Try.prog 23 #[.pointer (some ⟨g, 0, none⟩), .int .u64 most] w fun en w' => en = .returned (.int .u64 0) ∧ Drawn0 w w' := by
  obtain ⟨A, c, h1, h2, h3⟩ := h
  have hz1 : w.cell? ⟨g, 1, none⟩ = some (.int .i64 e) := (blk_cell h1 1).trans rfl
  have hf1 := blk_frozen h1 1
  have he1 : (e != 0) = true := by simpa using he
  clear h1 h2 h3 he
  go_enter Try.func23, Try.ntmps23
  go_wp2
  go_ret
  exact ⟨rfl, Drawn0.refl _⟩
set_option maxHeartbeats 800000 in
set_option maxRecDepth 100000 in
theorem rnum_ok (g : Nat) (S : Nat → Prop) (l : List Int) (most n k : Int) (w : World) (h : RdR w g S l 0) (hS : S g) (hb : l.all byteB = true) (hl : l.length ≤ 140737488351232) (ht : octet_Take.f l = some (n, k, 0)) (hn : n ≤ most) :
    Calls Try.prog 23 #[.pointer (some ⟨g, 0, none⟩), .int .u64 most] w fun en w' => en = .returned (.int .u64 n) ∧ RdR w' g S (l.drop k.toNat) 0 ∧ w.grownBy w' (some g) := by
  obtain ⟨A, c, h1, h2, h3⟩ := h
  have hz0 : w.cell? ⟨g, 0, none⟩ = some (.slice A l.length c) := (blk_cell h1 0).trans rfl
  have hz1 : w.cell? ⟨g, 1, none⟩ = some (.int .i64 0) := (blk_cell h1 1).trans rfl
  have hf0 := blk_frozen h1 0
  have hf1 := blk_frozen h1 1
  have H1 := Aside0.mk h1
  have H3 := Aside0.mk h3
  have H2 := Aside0.mk h2
  obtain ⟨k1, k2⟩ := take_k l n k ht
  have HT : Aside0 (stratagemref06_Take.f 9 l = some (n, k, 0)) := ⟨(Pure.take_ref l 9 hb hl (by omega)).trans ht⟩
  have HS := Aside0.mk hS
  obtain ⟨k, rfl⟩ : ∃ j : Nat, k = j := ⟨k.toNat, by omega⟩
  clear h1 h3 ht hS h2 hb hl
  have hgt : decide (most < n) = false := by simp; exact hn
  go_enter Try.func23, Try.ntmps23
  go_wp2_with (go_at_call 13; refine (stratagemref06_Take.calls 9 _ _ _ _ _ _ _ (Kd.F_now H3.out) H2.out HT.out).mono ?_; rintro e w' ⟨rfl, hb⟩; have hz0 := (hb.cell (World.block_lt_of_cell? w _ hz0)).trans hz0; have hz1 := (hb.cell (World.block_lt_of_cell? w _ hz1)).trans hz1; have hf0 := blk_frozen (blk_below H1.out hb) 0; have HB := Aside0.mk hb; clear hb)
  all_goals
    go_ret
    refine ⟨rfl, ?_, grown_trans (grown_of_below HB.out _) (grown_set _ ⟨g, 0, none⟩ _)⟩
  · exact rds_cut HS.out (blk_below H1.out HB.out) H2.out (Kd.F_below H3.out HB.out) (by omega) (if_pos ‹_›).symm (by omega)
  · exact rds_cut HS.out (blk_below H1.out HB.out) H2.out (Kd.F_below H3.out HB.out) (by omega) (if_neg ‹_›).symm rfl
theorem rds_set1 {T : Nat} {W : World} {g : Nat} {S : Nat → Prop} {l : List Int} {e : Int} (h : RdT T W g S l e) (hS : S g) (e' : Int) : RdT T (W.setCell ⟨g, 1, none⟩ (.int .i64 e')) g S l e' := by
  obtain ⟨A, c, h1, h2, h3⟩ := h
  exact ⟨A, c, blk_put h1 1 _ rfl, h2, Kd.F_far h3 (p := ⟨g, 1, none⟩) (fun j hj he => hj (by rw [he]; exact hS)) _⟩
set_option maxHeartbeats 800000 in
set_option maxRecDepth 100000 in
theorem rnum_big (g : Nat) (S : Nat → Prop) (l : List Int) (most n k : Int) (w : World) (h : RdR w g S l 0) (hS : S g) (hb : l.all byteB = true) (hl : l.length ≤ 140737488351232) (ht : octet_Take.f l = some (n, k, 0)) (hn : most < n) :
    Calls Try.prog 23 #[.pointer (some ⟨g, 0, none⟩), .int .u64 most] w fun en w' => en = .returned (.int .u64 0) ∧ RdR w' g S l 5 ∧ w.grownBy w' (some g) := by
  have HR := Aside0.mk h
  obtain ⟨A, c, h1, h2, h3⟩ := h
  have hz0 : w.cell? ⟨g, 0, none⟩ = some (.slice A l.length c) := (blk_cell h1 0).trans rfl
  have hz1 : w.cell? ⟨g, 1, none⟩ = some (.int .i64 0) := (blk_cell h1 1).trans rfl
  have hf0 := blk_frozen h1 0
  have hf1 := blk_frozen h1 1
  have H1 := Aside0.mk h1
  have H3 := Aside0.mk h3
  have H2 := Aside0.mk h2
  have HT : Aside0 (stratagemref06_Take.f 9 l = some (n, k, 0)) := ⟨(Pure.take_ref l 9 hb hl (by omega)).trans ht⟩
  have HS := Aside0.mk hS
  clear h1 h3 ht hS h2 hb hl
  have hgt : decide (most < n) = true := by simp; exact hn
  go_enter Try.func23, Try.ntmps23
  go_wp2_with (go_at_call 13; refine (stratagemref06_Take.calls 9 _ _ _ _ _ _ _ (Kd.F_now H3.out) H2.out HT.out).mono ?_; rintro e w' ⟨rfl, hb⟩; have hz0 := (hb.cell (World.block_lt_of_cell? w _ hz0)).trans hz0; have hz1 := (hb.cell (World.block_lt_of_cell? w _ hz1)).trans hz1; have hf1 := blk_frozen (blk_below H1.out hb) 1; have HB := Aside0.mk hb; clear hb)
  go_ret
  exact ⟨rfl, rds_set1 (HR.out.below HB.out) HS.out 5, grown_trans (grown_of_below HB.out _) (grown_set _ ⟨g, 1, none⟩ _)⟩
set_option maxHeartbeats 800000 in
set_option maxRecDepth 100000 in
theorem rnum_err (g : Nat) (S : Nat → Prop) (l : List Int) (most n k er : Int) (w : World) (h : RdR w g S l 0) (hS : S g) (hb : l.all byteB = true) (hl : l.length ≤ 140737488351232) (ht : octet_Take.f l = some (n, k, er)) (hn : er ≠ 0) :
    Calls Try.prog 23 #[.pointer (some ⟨g, 0, none⟩), .int .u64 most] w fun en w' => en = .returned (.int .u64 0) ∧ RdR w' g S l er ∧ w.grownBy w' (some g) := by
  have HR := Aside0.mk h
  obtain ⟨A, c, h1, h2, h3⟩ := h
  have hz0 : w.cell? ⟨g, 0, none⟩ = some (.slice A l.length c) := (blk_cell h1 0).trans rfl
  have hz1 : w.cell? ⟨g, 1, none⟩ = some (.int .i64 0) := (blk_cell h1 1).trans rfl
  have hf0 := blk_frozen h1 0
  have hf1 := blk_frozen h1 1
  have H1 := Aside0.mk h1
  have H3 := Aside0.mk h3
  have H2 := Aside0.mk h2
  have HT : Aside0 (stratagemref06_Take.f 9 l = some (n, k, er)) := ⟨(Pure.take_ref l 9 hb hl (by omega)).trans ht⟩
  have HS := Aside0.mk hS
  have hb1 : (er == 0) = false := by simpa using hn
  have hb2 : (er != 0) = true := by simpa using hn
  clear h1 h3 ht hS h2 hb hl hn
  go_enter Try.func23, Try.ntmps23
  go_wp2_with (go_at_call 13; refine (stratagemref06_Take.calls 9 _ _ _ _ _ _ _ (Kd.F_now H3.out) H2.out HT.out).mono ?_; rintro e w' ⟨rfl, hb⟩; have hz0 := (hb.cell (World.block_lt_of_cell? w _ hz0)).trans hz0; have hz1 := (hb.cell (World.block_lt_of_cell? w _ hz1)).trans hz1; have hf1 := blk_frozen (blk_below H1.out hb) 1; have HB := Aside0.mk hb; clear hb)
  go_ret
  exact ⟨rfl, rds_set1 (HR.out.below HB.out) HS.out er, grown_trans (grown_of_below HB.out _) (grown_set _ ⟨g, 1, none⟩ _)⟩
set_option maxHeartbeats 800000 in
set_option maxRecDepth 100000 in
theorem reight_gone (g : Nat) (S : Nat → Prop) (l : List Int) (e : Int) (w : World) (h : RdR w g S l e) (he : e ≠ 0) :
    Calls Try.prog 21 #[.pointer (some ⟨g, 0, none⟩)] w fun en w' => en = .returned (.int .u64 0) ∧ Drawn0 w w' := by
  obtain ⟨A, c, h1, h2, h3⟩ := h
  have hz1 : w.cell? ⟨g, 1, none⟩ = some (.int .i64 e) := (blk_cell h1 1).trans rfl
  have hf1 := blk_frozen h1 1
  have he1 : (e != 0) = true := by simpa using he
  clear h1 h2 h3 he
  go_enter Try.func21, Try.ntmps21
  go_wp2
  go_ret
  exact ⟨rfl, Drawn0.refl _⟩
set_option maxHeartbeats 800000 in
set_option maxRecDepth 100000 in
theorem reight_short (g : Nat) (S : Nat → Prop) (l : List Int) (w : World) (h : RdR w g S l 0) (hS : S g) (hl : l.length < 8) :
    Calls Try.prog 21 #[.pointer (some ⟨g, 0, none⟩)] w fun en w' => en = .returned (.int .u64 0) ∧ RdR w' g S l 3 ∧ w.grownBy w' (some g) := by
  have HR := Aside0.mk h
  obtain ⟨A, c, h1, h2, h3⟩ := h
  have hz0 : w.cell? ⟨g, 0, none⟩ = some (.slice A l.length c) := (blk_cell h1 0).trans rfl
  have hz1 : w.cell? ⟨g, 1, none⟩ = some (.int .i64 0) := (blk_cell h1 1).trans rfl
  have hf0 := blk_frozen h1 0
  have hf1 := blk_frozen h1 1
  have H1 := Aside0.mk h1
  have H3 := Aside0.mk h3
  have H2 := Aside0.mk h2
  have HS := Aside0.mk hS
  clear h1 h3 hS h2
  have hb1 : decide (l.length < 8) = true := decide_eq_true hl
  go_enter Try.func21, Try.ntmps21
  go_wp2
  go_ret
  exact ⟨rfl, rds_set1 HR.out HS.out 3, grown_set _ ⟨g, 1, none⟩ _⟩
set_option maxHeartbeats 800000 in
set_option maxRecDepth 100000 in
theorem reight_ok (g : Nat) (S : Nat → Prop) (l : List Int) (w : World) (h : RdR w g S l 0) (hS : S g) (hl : 8 ≤ l.length) (hb : l.all byteB = true) :
    Calls Try.prog 21 #[.pointer (some ⟨g, 0, none⟩)] w fun en w' => en = .returned (.int .u64 (foldB (l.take 8) 0)) ∧ RdR w' g S (l.drop 8) 0 ∧ w.grownBy w' (some g) := by
  obtain ⟨A, c, h1, h2, h3⟩ := h
  have hz0 : w.cell? ⟨g, 0, none⟩ = some (.slice A l.length c) := (blk_cell h1 0).trans rfl
  have hz1 : w.cell? ⟨g, 1, none⟩ = some (.int .i64 0) := (blk_cell h1 1).trans rfl
  have hf0 := blk_frozen h1 0
  have hf1 := blk_frozen h1 1
  have H1 := Aside0.mk h1
  have H3 := Aside0.mk h3
  have H2 := Aside0.mk h2
  have HS := Aside0.mk hS
  have HR := Aside0.mk (Kd.F_now h3)
  have HA := Aside0.mk hb
  have hb1 : decide (l.length < 8) = false := decide_eq_false (by omega)
  have hc8 : 8 ≤ c := by omega
  have hc8' : (8 : Int) ≤ c := by omega
  have hl8' : (8 : Int) ≤ l.length := by omega
  clear h1 h3 hS h2 hb
  go_enter Try.func21, Try.ntmps21
  go_wp2
  go_loop [3, 4] (fun a i => ∃ k : Nat, k ≤ 8 ∧ i = .int .i64 k ∧ a = .int .u64 (foldB (l.take k) 0)) (fun _ i => 8 - (intOf i).toNat)
  case atStart => exact ⟨0, Nat.zero_le _, rfl, rfl⟩
  case round =>
    obtain ⟨k, hk, rfl, rfl⟩ := hrel
    by_cases hlt : k < 8
    · have HFb : Aside0 (0 ≤ foldB (l.take k) 0 ∧ foldB (l.take k) 0 < 2 ^ 56) := ⟨by
        have h2 := foldB_bound (all_take HA.out k) 0 0 (by omega) (by omega)
        refine ⟨h2.1, Int.lt_of_lt_of_le h2.2 ?_⟩
        have h3 : (l.take k).length ≤ k := List.length_take_le _ _
        exact pow2_le (by omega)⟩
      obtain ⟨N, hN⟩ : ∃ N, N = foldB (l.take k) 0 := ⟨_, rfl⟩
      rw [← hN] at HFb
      rw [← hN]
      obtain ⟨c1, c2⟩ := HFb.out
      have HN := Aside0.mk hN
      clear hN HFb
      obtain ⟨ad1, e1, hx1⟩ := Kd.at_int HR.out k (by omega) (by omega)
      subst e1
      rw [show (k : Int).toNat = k by omega] at hx1
      obtain ⟨b1, b2⟩ := rd_byte HA.out k
      have hlt' : (k : Int) < 8 := by omega
      have hlt2 : (k : Int) < l.length := by omega
      go_wp2
      go_round
      case rel => exact ⟨k + 1, by omega, by go_num, by
        rw [HN.out, List.take_succ_eq_append_getElem (by omega), foldB_snoc, Int.mul_comm 256]
        have e : rd l k = l[k]'(by omega) := by
          unfold rd
          rw [show (k : Int).toNat = k by omega]
          simp [List.getD_eq_getElem?_getD]
          rw [List.getElem?_eq_getElem (by omega)]; rfl
        rw [e]⟩
      case measure => simp [intOf]; omega
    · obtain rfl : k = 8 := by omega
      go_wp2
      all_goals
        go_ret
        refine ⟨rfl, ?_, grown_set _ ⟨g, 0, none⟩ _⟩
      · exact rds_cut HS.out (W := w) H1.out H2.out H3.out (by omega) (if_pos ‹_›).symm (by omega)
      · exact rds_cut HS.out (W := w) H1.out H2.out H3.out (by omega) (if_neg ‹_›).symm rfl
set_option maxHeartbeats 800000 in
set_option maxRecDepth 100000 in
theorem rleft_any (g : Nat) (S : Nat → Prop) (l : List Int) (e : Int) (w : World) (h : RdR w g S l e) :
    Calls Try.prog 25 #[.pointer (some ⟨g, 0, none⟩)] w fun en w' => en = .returned (.int .i64 (if e = 0 then (l.length : Int) else 0)) ∧ Drawn0 w w' := by
  obtain ⟨A, c, h1, h2, h3⟩ := h
  have hz0 : w.cell? ⟨g, 0, none⟩ = some (.slice A l.length c) := (blk_cell h1 0).trans rfl
  have hz1 : w.cell? ⟨g, 1, none⟩ = some (.int .i64 e) := (blk_cell h1 1).trans rfl
  have hf0 := blk_frozen h1 0
  have hf1 := blk_frozen h1 1
  clear h1 h2 h3
  by_cases he : e = 0
  · subst he
    rw [if_pos rfl]
    go_enter Try.func25, Try.ntmps25
    go_wp2
    go_ret
    exact ⟨rfl, Drawn0.refl _⟩
  · rw [if_neg he]
    have he1 : (e != 0) = true := by simpa using he
    clear he
    go_enter Try.func25, Try.ntmps25
    go_wp2
    go_ret
    exact ⟨rfl, Drawn0.refl _⟩
set_option maxHeartbeats 800000 in
set_option maxRecDepth 100000 in
theorem rend_any (g : Nat) (S : Nat → Prop) (l : List Int) (e : Int) (w : World) (h : RdR w g S l e) :
    Calls Try.prog 27 #[.pointer (some ⟨g, 0, none⟩)] w fun en w' => en = .returned (.int .i64 (endE l e)) ∧ Drawn0 w w' := by
  obtain ⟨A, c, h1, h2, h3⟩ := h
  have hz0 : w.cell? ⟨g, 0, none⟩ = some (.slice A l.length c) := (blk_cell h1 0).trans rfl
  have hz1 : w.cell? ⟨g, 1, none⟩ = some (.int .i64 e) := (blk_cell h1 1).trans rfl
  have hf0 := blk_frozen h1 0
  have hf1 := blk_frozen h1 1
  clear h1 h2 h3
  by_cases he : e = 0
  · subst he
    by_cases hl : 0 < l.length
    · have hb : decide (0 < l.length) = true := decide_eq_true hl
      have hE : Aside0 (endE l 0 = 4) := ⟨by simp [endE, hl]⟩
      clear hl
      go_enter Try.func27, Try.ntmps27
      go_wp2
      go_ret
      exact ⟨by rw [hE.out]; rfl, Drawn0.refl _⟩
    · have hb : decide (0 < l.length) = false := decide_eq_false hl
      have hE : Aside0 (endE l 0 = 0) := ⟨by simp [endE, hl]⟩
      clear hl
      go_enter Try.func27, Try.ntmps27
      go_wp2
      go_ret
      exact ⟨by rw [hE.out]; rfl, Drawn0.refl _⟩
  · have he1 : (e == 0) = false := by simpa using he
    have hE : Aside0 (endE l e = e) := ⟨by simp [endE, he]⟩
    clear he
    go_enter Try.func27, Try.ntmps27
    go_wp2
    go_ret
    exact ⟨by rw [hE.out]; rfl, Drawn0.refl _⟩
/-- The reader of the document, beside ours: what is left is the same as long as nothing went wrong. -/
theorem rnum_st (g : Nat) (S : Nat → Prop) (l l' : List Int) (e most : Int) (w : World) (h : RdR w g S l' e) (hS : S g) (hb : l.all byteB = true) (hl : l.length ≤ 140737488351232) (he : e = 0 → l' = l) :
    Calls Try.prog 23 #[.pointer (some ⟨g, 0, none⟩), .int .u64 most] w fun en w' => en = .returned (.int .u64 (stNum l e most).1) ∧ (∃ l2, RdR w' g S l2 (stNum l e most).2.2 ∧ ((stNum l e most).2.2 = 0 → l2 = (stNum l e most).2.1)) ∧ w.grownBy w' (some g) := by
  unfold stNum
  by_cases h0 : e = 0
  · subst h0
    obtain rfl := he rfl
    obtain ⟨n, k, er, ht⟩ := take_some hb
    rw [if_pos rfl, ht]
    by_cases h1 : er = 0
    · subst h1
      by_cases h2 : n ≤ most
      · simp only [if_pos h2, if_true]
        exact (rnum_ok g S l' most n k w h hS hb hl ht h2).mono fun _ _ ⟨a, b, c⟩ => ⟨a, ⟨_, b, fun _ => rfl⟩, c⟩
      · simp only [if_neg h2, if_true]
        exact (rnum_big g S l' most n k w h hS hb hl ht (by omega)).mono fun _ _ ⟨a, b, c⟩ => ⟨a, ⟨_, b, fun h => absurd h (by decide)⟩, c⟩
    · simp only [if_neg h1]
      exact (rnum_err g S l' most n k er w h hS hb hl ht h1).mono fun _ _ ⟨a, b, c⟩ => ⟨a, ⟨_, b, fun h => absurd h h1⟩, c⟩
  · rw [if_neg h0]
    exact (rnum_gone g S l' e most w h h0).mono fun _ _ ⟨a, b⟩ => ⟨a, ⟨_, h.drawn b, fun h => absurd h h0⟩, grown_drawn b _⟩
theorem reight_st (g : Nat) (S : Nat → Prop) (l l' : List Int) (e : Int) (w : World) (h : RdR w g S l' e) (hS : S g) (hb : l.all byteB = true) (he : e = 0 → l' = l) :
    Calls Try.prog 21 #[.pointer (some ⟨g, 0, none⟩)] w fun en w' => en = .returned (.int .u64 (stEight l e).1) ∧ (∃ l2, RdR w' g S l2 (stEight l e).2.2 ∧ ((stEight l e).2.2 = 0 → l2 = (stEight l e).2.1)) ∧ w.grownBy w' (some g) := by
  unfold stEight
  by_cases h0 : e = 0
  · subst h0
    obtain rfl := he rfl
    rw [if_pos rfl]
    by_cases h1 : l'.length < 8
    · rw [if_pos h1]
      exact (reight_short g S l' w h hS h1).mono fun _ _ ⟨a, b, c⟩ => ⟨a, ⟨_, b, fun h => absurd h (by decide)⟩, c⟩
    · rw [if_neg h1]
      exact (reight_ok g S l' w h hS (by omega) hb).mono fun _ _ ⟨a, b, c⟩ => ⟨a, ⟨_, b, fun _ => rfl⟩, c⟩
  · rw [if_neg h0]
    exact (reight_gone g S l' e w h h0).mono fun _ _ ⟨a, b⟩ => ⟨a, ⟨_, h.drawn b, fun h => absurd h h0⟩, grown_drawn b _⟩
/-- What a step leaves is as before: bytes, no more of them, and none behind something that went wrong. -/
theorem stNum_keeps (l : List Int) (e most : Int) (hb : l.all byteB = true) (he : e ≠ 0 → l = []) : (stNum l e most).2.1.all byteB = true ∧ (stNum l e most).2.1.length ≤ l.length ∧ ((stNum l e most).2.2 ≠ 0 → (stNum l e most).2.1 = []) := by
  unfold stNum
  by_cases h0 : e = 0
  · obtain ⟨n, k, er, ht⟩ := take_some hb
    rw [if_pos h0, ht]
    by_cases h1 : er = 0
    · subst h1
      by_cases h2 : n ≤ most
      · simp only [if_pos h2, if_true]
        exact ⟨all_drop hb _, by rw [List.length_drop]; omega, fun h => absurd rfl h⟩
      · simp only [if_neg h2, if_true]
        exact ⟨by simp, by simp, by simp⟩
    · simp only [if_neg h1]
      exact ⟨by simp, by simp, by simp⟩
  · rw [if_neg h0]
    exact ⟨hb, Nat.le_refl _, fun _ => he h0⟩
theorem stEight_keeps (l : List Int) (e : Int) (hb : l.all byteB = true) (he : e ≠ 0 → l = []) : (stEight l e).2.1.all byteB = true ∧ (stEight l e).2.1.length ≤ l.length ∧ ((stEight l e).2.2 ≠ 0 → (stEight l e).2.1 = []) := by
  unfold stEight
  by_cases h0 : e = 0
  · rw [if_pos h0]
    split
    · exact ⟨rfl, by simp, fun _ => rfl⟩
    · exact ⟨all_drop hb _, by simp, fun h => absurd rfl h⟩
  · rw [if_neg h0]
    exact ⟨hb, Nat.le_refl _, fun _ => he h0⟩
theorem rleft_st (g : Nat) (S : Nat → Prop) (l l' : List Int) (e : Int) (w : World) (h : RdR w g S l' e) (h0 : e = 0 → l' = l) (h1 : e ≠ 0 → l = []) :
    Calls Try.prog 25 #[.pointer (some ⟨g, 0, none⟩)] w fun en w' => en = .returned (.int .i64 l.length) ∧ Drawn0 w w' := by
  have e1 : (if e = 0 then (l'.length : Int) else 0) = l.length := by
    by_cases he : e = 0
    · rw [if_pos he, h0 he]
    · rw [if_neg he, h1 he]; rfl
  rw [← e1]
  exact rleft_any g S l' e w h
theorem rend_st (g : Nat) (S : Nat → Prop) (l l' : List Int) (e : Int) (w : World) (h : RdR w g S l' e) (h0 : e = 0 → l' = l) :
    Calls Try.prog 27 #[.pointer (some ⟨g, 0, none⟩)] w fun en w' => en = .returned (.int .i64 (endE l e)) ∧ Drawn0 w w' := by
  have e1 : endE l' e = endE l e := by
    by_cases he : e = 0
    · rw [h0 he]
    · simp only [endE]; rw [if_neg he, if_neg he]
  rw [← e1]
  exact rend_any g S l' e w h
def stratagemlaw06_OctetReads.f (l0 l1 : List Int) : Option Bool := if l0.all byteB then some true else none
set_option maxHeartbeats 4000000 in
set_option maxRecDepth 100000 in
theorem stratagemlaw06_OctetReads.calls (A0 : Option Addr) (c0 : Nat) (l0 : List Int) (A1 : Option Addr) (c1 : Nat) (l1 : List Int) (r : Bool) (w : World) (hr0 : Kd.C (Kd.int .u8) w A0 l0.length l0) (hc0 : l0.length ≤ c0) (hr1 : Kd.C (Kd.int .u64) w A1 l1.length l1) (hc1 : l1.length ≤ c1) (h : stratagemlaw06_OctetReads.f l0 l1 = some r) :
    Calls Try.prog 4 #[.slice A0 l0.length c0, .slice A1 l1.length c1] w fun e w' => e = .returned (.bool r) ∧ Below w.heap.size w w' := by
  unfold stratagemlaw06_OctetReads.f at h
  by_cases hall : l0.all byteB = true
  case neg => rw [if_neg hall] at h; exact absurd h (by simp)
  rw [if_pos hall] at h
  obtain rfl := Option.some.inj h
  clear h
  have HR0 := Aside0.mk hr0
  have HC0 := Aside0.mk hc0
  have HR1 := Aside0.mk hr1
  have HC1 := Aside0.mk hc1
  have HA := Aside0.mk hall
  clear hr0 hc0 hr1 hc1 hall
  by_cases h400 : 400 < l0.length
  · have hb1 : decide (400 < (l0.length : Int)) = true := decide_eq_true (by omega)
    clear h400
    go_enter Try.func4, Try.ntmps4
    go_wp2_with (go_at_call 9; refine (stratagemlaw06_awake.calls true _ rfl).mono ?_; rintro e w' ⟨rfl, hb⟩; have HB := Aside0.mk hb; clear hb)
    go_ret
    exact ⟨rfl, HB.out⟩
  have hb1 : decide (400 < (l0.length : Int)) = false := decide_eq_false (by omega)
  by_cases h60 : 60 < l1.length
  · have hb2 : decide (60 < (l1.length : Int)) = true := decide_eq_true (by omega)
    clear h400 h60
    go_enter Try.func4, Try.ntmps4
    go_wp2_with (go_at_call 9; refine (stratagemlaw06_awake.calls true _ rfl).mono ?_; rintro e w' ⟨rfl, hb⟩; have HB := Aside0.mk hb; clear hb)
    go_ret
    exact ⟨rfl, HB.out⟩
  have hb2 : decide (60 < (l1.length : Int)) = false := decide_eq_false (by omega)
  have HL := Aside0.mk h400
  have hL1 : l1.length ≤ 60 := by omega
  clear h400 h60
  go_enter Try.func4, Try.ntmps4
  go_wp2_with (fail)
  refine (stratagemlaw06_awake.calls true _ rfl).mono ?_
  rintro e w1 ⟨rfl, hb⟩
  have HB := Aside0.mk hb
  have HR := Aside0.mk (Kd.C_below HR0.out hb)
  have HF := Aside0.mk (Kd.F_below (Kd.C_F (Kd.heap_int .u8) HR0.out) hb)
  have HF1 := Aside0.mk (Kd.F_below (Kd.C_F (Kd.heap_int .u64) HR1.out) hb)
  clear hb
  go_wp2_with (fail)
  refine (new_any _ _ _ _ HR.out HC0.out (by have := HL.out; omega)).mono ?_
  rintro e w2 ⟨g, rfl, hg1, hg2, hR, hb⟩
  have HG : Aside0 (w.heap.size ≤ g ∧ g < w2.heap.size) := ⟨by have := HB.out.size; omega⟩
  have HS := Aside0.mk hR
  have HW : Aside0 (w1.heap.size ≤ g) := ⟨hg1⟩
  replace HF := Aside0.mk (Kd.F_below HF.out hb)
  replace HF1 := Aside0.mk (Kd.F_below HF1.out hb)
  replace HB := Aside0.mk (below_then HB.out HB.out.size hb)
  clear hb hg1 hg2 hR HR
  go_wp2_with (fail)
  have HA1 : Aside0 (RdS (w2.alloc (.cells #[.slice A0 l0.length c0, .int .i64 0] 39)) g (fun k => k = g ∨ k = w2.heap.size) l0 0) := ⟨(HS.out _ (fun k hk => .inr (by have := HG.out.2; omega))).below (below_alloc (Below.refl _ _) _)⟩
  have HA2 : Aside0 (RdR (w2.alloc (.cells #[.slice A0 l0.length c0, .int .i64 0] 39)) w2.heap.size (fun k => k = g ∨ k = w2.heap.size) l0 0) := ⟨⟨A0, c0, blk_new w2 _, HC0.out, Kd.F_alloc (Kd.F_mono HF.out (fun k hk hs => by have := HG.out; omega)) _⟩⟩
  have HK : Aside0 (((0 : Int) ≠ 0 → l0 = []) ∧ ((0 : Int) = 0 → l0 = l0) ∧ l0.all byteB = true ∧ l0.length ≤ 400) := ⟨fun h => absurd rfl h, fun _ => rfl, HA.out, by have := HL.out; omega⟩
  replace HF1 := Aside0.mk (Kd.F_alloc HF1.out (.cells #[.slice A0 l0.length c0, .int .i64 0] 39))
  replace HB := Aside0.mk (below_then HB.out HB.out.size (below_alloc (Below.refl w2.heap.size w2) (.cells #[.slice A0 l0.length c0, .int .i64 0] 39)))
  clear HS HW HF HR0 HR1 HL
  go_loopw [26] (fun i wr => ∃ (k : Nat) (l : List Int) (e : Int) (l' : List Int), k ≤ l1.length ∧ i = .int .i64 k ∧ Aside0 (RdS wr g (fun k => k = g ∨ k = w2.heap.size) l e) ∧ Aside0 (RdR wr w2.heap.size (fun k => k = g ∨ k = w2.heap.size) l' e) ∧ Aside0 ((e ≠ 0 → l = []) ∧ (e = 0 → l' = l) ∧ l.all byteB = true ∧ l.length ≤ 400) ∧ Aside0 (Kd.F (Kd.int .u64) wr (fun k => k < w.heap.size) A1 l1.length l1) ∧ Aside0 (Below w.heap.size w wr)) (fun i _ => l1.length - (intOf i).toNat)
  case atStart => exact ⟨0, l0, 0, l0, Nat.zero_le _, rfl, HA1, HA2, HK, HF1, HB⟩
  case round =>
    clear HA1 HA2 HK HF1 HB
    obtain ⟨k, l, e, l', hk, rfl, HA1, HA2, HK, HF1, HB⟩ := hrel
    by_cases hlt : k < l1.length
    · obtain ⟨ad1, e1, hx1⟩ := Kd.at_int (Kd.F_now HF1.out) k (by omega) (by omega)
      cases e1
      rw [show (k : Int).toNat = k by omega] at hx1
      have hlt' : (k : Int) < l1.length := by omega
      by_cases hz : rd l1 k = 0
      · have hz1 : (rd l1 k == 0) = true := by simpa using hz
        clear hz
        go_wp2_with (fail)
        refine (eight_st g _ l e wr HA1.out (.inl rfl) HK.out.2.2.1 HK.out.1).mono ?_
        rintro en wa ⟨rfl, ha, hg⟩
        have HA1' := Aside0.mk ha
        replace HA2 := Aside0.mk (HA2.out.keep hg (fun he => by injection he with he; have := HG.out.2; omega) (fun j hj => by injection hj with hj; exact .inl (.inl hj.symm)))
        replace HF1 := Aside0.mk (Kd.F_grown HF1.out hg (fun j hj he => by injection he with he; have := HG.out.1; omega))
        replace HB := Aside0.mk (pw_below_grown HB.out (some g) HB.out.size hg (fun j hj => by injection hj with hj; have := HG.out.1; omega))
        clear ha hg HA1
        go_wp2_with (fail)
        refine (reight_st w2.heap.size _ l l' e wa HA2.out (.inr rfl) HK.out.2.2.1 HK.out.2.1).mono ?_
        rintro en wb ⟨rfl, ⟨l2', ha, hz2⟩, hg⟩
        have hk2 := stEight_keeps l e HK.out.2.2.1 HK.out.1
        obtain ⟨n, l2, e2, hst⟩ : ∃ n l2 e2, stEight l e = (n, l2, e2) := ⟨_, _, _, rfl⟩
        rw [hst] at ha hz2 hk2 HA1' ⊢
        have HA1 := Aside0.mk (HA1'.out.keep hg (fun he => by injection he with he; have := HG.out.2; omega) (fun j hj => by injection hj with hj; exact .inl (.inr hj.symm)))
        replace HA2 := Aside0.mk ha
        have HK2 : Aside0 ((e2 ≠ 0 → l2 = []) ∧ (e2 = 0 → l2' = l2) ∧ l2.all byteB = true ∧ l2.length ≤ 400) := ⟨hk2.2.2, hz2, hk2.1, Nat.le_trans hk2.2.1 HK.out.2.2.2⟩
        replace HF1 := Aside0.mk (Kd.F_grown HF1.out hg (fun j hj he => by injection he with he; have := HG.out; omega))
        replace HB := Aside0.mk (pw_below_grown HB.out (some w2.heap.size) HB.out.size hg (fun j hj => by injection hj with hj; have := HG.out; omega))
        clear ha hz2 hk2 hst hg HA1' HK
        go_wp2_with (fail)
        refine (left_any g _ l2 e2 wb HA1.out).mono ?_
        rintro en wc ⟨rfl, hd⟩
        replace HA1 := Aside0.mk (HA1.out.drawn hd)
        replace HA2 := Aside0.mk (HA2.out.drawn hd)
        replace HF1 := Aside0.mk (Kd.F_below HF1.out hd.below)
        replace HB := Aside0.mk (below_then HB.out HB.out.size hd.below)
        clear hd
        go_wp2_with (fail)
        refine (rleft_st w2.heap.size _ l2 l2' e2 wc HA2.out HK2.out.2.1 HK2.out.1).mono ?_
        rintro en wd ⟨rfl, hd⟩
        replace HA1 := Aside0.mk (HA1.out.drawn hd)
        replace HA2 := Aside0.mk (HA2.out.drawn hd)
        replace HF1 := Aside0.mk (Kd.F_below HF1.out hd.below)
        replace HB := Aside0.mk (below_then HB.out HB.out.size hd.below)
        clear hd
        go_wp2_with (fail)
        refine (end_any g _ l2 e2 wd HA1.out).mono ?_
        rintro en we ⟨rfl, hd⟩
        replace HA1 := Aside0.mk (HA1.out.drawn hd)
        replace HA2 := Aside0.mk (HA2.out.drawn hd)
        replace HF1 := Aside0.mk (Kd.F_below HF1.out hd.below)
        replace HB := Aside0.mk (below_then HB.out HB.out.size hd.below)
        clear hd
        go_wp2_with (fail)
        refine (rend_st w2.heap.size _ l2 l2' e2 we HA2.out HK2.out.2.1).mono ?_
        rintro en wf ⟨rfl, hd⟩
        replace HA1 := Aside0.mk (HA1.out.drawn hd)
        replace HA2 := Aside0.mk (HA2.out.drawn hd)
        replace HF1 := Aside0.mk (Kd.F_below HF1.out hd.below)
        replace HB := Aside0.mk (below_then HB.out HB.out.size hd.below)
        clear hd
        go_wp2
        go_roundw
        case rel => exact ⟨k + 1, l2, e2, l2', by omega, by go_num, HA1, HA2, HK2, HF1, HB⟩
        case measure => simp [intOf]; omega
      · have hz1 : (rd l1 k == 0) = false := by simpa using hz
        clear hz
        go_wp2_with (fail)
        refine (num_st g _ l e _ wr HA1.out (.inl rfl) HK.out.2.2.1 HK.out.1).mono ?_
        rintro en wa ⟨rfl, ha, hg⟩
        have HA1' := Aside0.mk ha
        replace HA2 := Aside0.mk (HA2.out.keep hg (fun he => by injection he with he; have := HG.out.2; omega) (fun j hj => by injection hj with hj; exact .inl (.inl hj.symm)))
        replace HF1 := Aside0.mk (Kd.F_grown HF1.out hg (fun j hj he => by injection he with he; have := HG.out.1; omega))
        replace HB := Aside0.mk (pw_below_grown HB.out (some g) HB.out.size hg (fun j hj => by injection hj with hj; have := HG.out.1; omega))
        clear ha hg HA1
        go_wp2_with (fail)
        refine (rnum_st w2.heap.size _ l l' e _ wa HA2.out (.inr rfl) HK.out.2.2.1 (by have := HK.out.2.2.2; omega) HK.out.2.1).mono ?_
        rintro en wb ⟨rfl, ⟨l2', ha, hz2⟩, hg⟩
        have hk2 := stNum_keeps l e (rd l1 k) HK.out.2.2.1 HK.out.1
        obtain ⟨n, l2, e2, hst⟩ : ∃ n l2 e2, stNum l e (rd l1 k) = (n, l2, e2) := ⟨_, _, _, rfl⟩
        rw [hst] at ha hz2 hk2 HA1' ⊢
        have HA1 := Aside0.mk (HA1'.out.keep hg (fun he => by injection he with he; have := HG.out.2; omega) (fun j hj => by injection hj with hj; exact .inl (.inr hj.symm)))
        replace HA2 := Aside0.mk ha
        have HK2 : Aside0 ((e2 ≠ 0 → l2 = []) ∧ (e2 = 0 → l2' = l2) ∧ l2.all byteB = true ∧ l2.length ≤ 400) := ⟨hk2.2.2, hz2, hk2.1, Nat.le_trans hk2.2.1 HK.out.2.2.2⟩
        replace HF1 := Aside0.mk (Kd.F_grown HF1.out hg (fun j hj he => by injection he with he; have := HG.out; omega))
        replace HB := Aside0.mk (pw_below_grown HB.out (some w2.heap.size) HB.out.size hg (fun j hj => by injection hj with hj; have := HG.out; omega))
        clear ha hz2 hk2 hst hg HA1' HK
        go_wp2_with (fail)
        refine (left_any g _ l2 e2 wb HA1.out).mono ?_
        rintro en wc ⟨rfl, hd⟩
        replace HA1 := Aside0.mk (HA1.out.drawn hd)
        replace HA2 := Aside0.mk (HA2.out.drawn hd)
        replace HF1 := Aside0.mk (Kd.F_below HF1.out hd.below)
        replace HB := Aside0.mk (below_then HB.out HB.out.size hd.below)
        clear hd
        go_wp2_with (fail)
        refine (rleft_st w2.heap.size _ l2 l2' e2 wc HA2.out HK2.out.2.1 HK2.out.1).mono ?_
        rintro en wd ⟨rfl, hd⟩
        replace HA1 := Aside0.mk (HA1.out.drawn hd)
        replace HA2 := Aside0.mk (HA2.out.drawn hd)
        replace HF1 := Aside0.mk (Kd.F_below HF1.out hd.below)
        replace HB := Aside0.mk (below_then HB.out HB.out.size hd.below)
        clear hd
        go_wp2_with (fail)
        refine (end_any g _ l2 e2 wd HA1.out).mono ?_
        rintro en we ⟨rfl, hd⟩
        replace HA1 := Aside0.mk (HA1.out.drawn hd)
        replace HA2 := Aside0.mk (HA2.out.drawn hd)
        replace HF1 := Aside0.mk (Kd.F_below HF1.out hd.below)
        replace HB := Aside0.mk (below_then HB.out HB.out.size hd.below)
        clear hd
        go_wp2_with (fail)
        refine (rend_st w2.heap.size _ l2 l2' e2 we HA2.out HK2.out.2.1).mono ?_
        rintro en wf ⟨rfl, hd⟩
        replace HA1 := Aside0.mk (HA1.out.drawn hd)
        replace HA2 := Aside0.mk (HA2.out.drawn hd)
        replace HF1 := Aside0.mk (Kd.F_below HF1.out hd.below)
        replace HB := Aside0.mk (below_then HB.out HB.out.size hd.below)
        clear hd
        go_wp2
        go_roundw
        case rel => exact ⟨k + 1, l2, e2, l2', by omega, by go_num, HA1, HA2, HK2, HF1, HB⟩
        case measure => simp [intOf]; omega
    · obtain rfl : k = l1.length := by omega
      go_wp2
      go_ret
      exact ⟨rfl, HB.out⟩
end Go.Proofs.Ytblfcmjcdclijaa.Q
