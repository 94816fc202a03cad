/- The wake-up call of the statements of layer 6 answers true. -/
import Derived.Test.YtblfcmjcdclijaaHOct
import Derived.Test.YtblfcmjcdclijaaQx2
import Derived.Test.YtblfcmjcdclijaaQx3
namespace Go.Proofs.Ytblfcmjcdclijaa.Q
open Go.RowKit Go.Proofs.YtblfcmjcdclijaaW.PrintWords Go.Proofs.YtblfcmjcdclijaaW.PrintLast Go.Proofs.YtblfcmjcdclijaaW.PrintMore
set_option linter.unusedSimpArgs false
set_option linter.unusedVariables false
theorem C_lit (W : World) (k : IntKind) (xs : List Int) (n : Nat) (cs : Array Value) (t : Nat) (hn : xs.length = n) (hm : n ≤ 9223372036854775807) (hc : cs = (xs.map (Value.int k)).toArray) : Kd.C (Kd.int k) (W.alloc (.cells cs t)) (some ⟨W.heap.size, 0, none⟩) n xs := by
  refine Kd.C_of_reads (d := 0) (h1 := fun _ => rfl) ⟨hn, hm, fun hp => ⟨_, rfl, fun j hj => ?_⟩⟩
  rw [add_plain, blk_cell (blk_new W _) j, hc]
  simp [List.getElem?_eq_getElem (show j < xs.length by omega), List.getD_eq_getElem?_getD]
theorem tk1 : octet_Take.f [64, 64, 9] = some (64, 2, 0) := by decide +kernel
theorem tk2 : octet_Take.f [64, 63] = some (0, 0, 2) := by decide +kernel
theorem tk3 : octet_Take.f [128, 1, 1] = some (0, 0, 3) := by decide +kernel
theorem tk4 : octet_Take.f [5, 0, 0, 0, 0, 0, 0, 1, 2, 7] = some (5, 1, 0) := by decide +kernel
theorem tk5 : octet_Take.f [7] = some (7, 1, 0) := by decide +kernel
def stratagemlaw06_awake.f : Option Bool := some true
set_option maxHeartbeats 4000000 in
set_option maxRecDepth 100000 in
theorem stratagemlaw06_awake.calls (r : Bool) (w : World) (h : stratagemlaw06_awake.f = some r) :
    Calls Try.prog 9 #[] w fun e w' => e = .returned (.bool r) ∧ Below w.heap.size w w' := by
  obtain rfl := Option.some.inj h
  clear h
  go_enter Try.func9, Try.ntmps9
  go_wp2_with (fail)
  refine (octet_Put.calls 16384 [128, 0, 64, 0] 0 _ (by decide +kernel)).mono ?_
  rintro e w1 ⟨v1, rfl, ho, hb⟩
  obtain ⟨A1, c1, rfl, hc1⟩ := Kd.Q_slice ho
  have HA := Aside0.mk (Kd.F_bound (Kd.Q_F ho))
  have HB := Aside0.mk hb
  have HC1 := Aside0.mk hc1
  clear ho hb hc1
  go_wp2_with (fail)
  refine (octet_Put.calls 4611686018427387904 [] 5 _ (by decide +kernel)).mono ?_
  rintro e w2 ⟨v2, rfl, ho, hb⟩
  clear ho
  obtain ⟨N1, hN1⟩ : ∃ N1, N1 = w1.heap.size := ⟨_, rfl⟩
  have HN1 := Aside0.mk hN1
  replace HA := Aside0.mk (Kd.F_mono (ok' := fun k => k < N1) (Kd.F_below HA.out hb) (fun k hk => by rw [hN1]; exact hk.2))
  have HS2 : Aside0 (N1 ≤ w2.heap.size) := ⟨by rw [hN1]; exact hb.size⟩
  replace HB := Aside0.mk (below_then HB.out HB.out.size hb)
  clear hb hN1
  go_wp2_with (fail)
  have L := C_lit w2 .u8 [64, 64, 9] 3 #[.int .u8 64, .int .u8 64, .int .u8 9] 5 rfl (by omega) rfl
  refine (octet_Take.calls (some ⟨w2.heap.size, 0, none⟩) 3 [64, 64, 9] 64 2 0 _ L (Nat.le_refl 3) tk1).mono ?_
  rintro e w3 ⟨rfl, hd⟩
  have hb := below_then (below_alloc (Below.refl _ _) _) (by simp) hd.below
  replace HA := Aside0.mk (Kd.F_below HA.out hb)
  replace HS2 : Aside0 (N1 ≤ w3.heap.size) := ⟨Nat.le_trans HS2.out hb.size⟩
  replace HB := Aside0.mk (below_then HB.out HB.out.size hb)
  clear hb hd L
  go_wp2_with (fail)
  have L := C_lit w3 .u8 [64, 63] 2 #[.int .u8 64, .int .u8 63] 5 rfl (by omega) rfl
  refine (octet_Take.calls (some ⟨w3.heap.size, 0, none⟩) 2 [64, 63] 0 0 2 _ L (Nat.le_refl 2) tk2).mono ?_
  rintro e w4 ⟨rfl, hd⟩
  have hb := below_then (below_alloc (Below.refl _ _) _) (by simp) hd.below
  replace HA := Aside0.mk (Kd.F_below HA.out hb)
  replace HS2 : Aside0 (N1 ≤ w4.heap.size) := ⟨Nat.le_trans HS2.out hb.size⟩
  replace HB := Aside0.mk (below_then HB.out HB.out.size hb)
  clear hb hd L
  go_wp2_with (fail)
  have L := C_lit w4 .u8 [128, 1, 1] 3 #[.int .u8 128, .int .u8 1, .int .u8 1] 5 rfl (by omega) rfl
  refine (octet_Take.calls (some ⟨w4.heap.size, 0, none⟩) 3 [128, 1, 1] 0 0 3 _ L (Nat.le_refl 3) tk3).mono ?_
  rintro e w5 ⟨rfl, hd⟩
  have hb := below_then (below_alloc (Below.refl _ _) _) (by simp) hd.below
  replace HA := Aside0.mk (Kd.F_below HA.out hb)
  replace HS2 : Aside0 (N1 ≤ w5.heap.size) := ⟨Nat.le_trans HS2.out hb.size⟩
  replace HB := Aside0.mk (below_then HB.out HB.out.size hb)
  clear hb hd L
  go_wp2_with (fail)
  have L := C_lit w5 .u8 [5, 0, 0, 0, 0, 0, 0, 1, 2, 7] 10 #[.int .u8 5, .int .u8 0, .int .u8 0, .int .u8 0, .int .u8 0, .int .u8 0, .int .u8 0, .int .u8 1, .int .u8 2, .int .u8 7] 5 rfl (by omega) rfl
  refine (new_any (some ⟨w5.heap.size, 0, none⟩) 10 [5, 0, 0, 0, 0, 0, 0, 1, 2, 7] _ L (Nat.le_refl 10) (by decide)).mono ?_
  rintro e w6 ⟨g, rfl, hg1, hg2, hR, hb1⟩
  have hb := below_then (below_alloc (Below.refl _ _) _) (by simp) hb1
  have HR : Aside0 (RdS w6 g (fun k => k = g) [5, 0, 0, 0, 0, 0, 0, 1, 2, 7] 0) := ⟨hR _ (fun k hk => .inr (by omega))⟩
  have HG : Aside0 (N1 ≤ g ∧ w.heap.size ≤ g) := ⟨by
    have h1 := HS2.out
    have h2 := HB.out.size
    simp at hg1
    omega⟩
  replace HA := Aside0.mk (Kd.F_below HA.out hb)
  replace HB := Aside0.mk (below_then HB.out HB.out.size hb)
  clear hb L hb1 hR hg1 hg2 HS2
  go_wp2_with (fail)
  refine (num_ok g _ _ 0 5 5 1 w6 HR.out rfl tk4 (by omega)).mono ?_
  rintro e w7 ⟨rfl, hr, hg⟩
  replace HR : Aside0 (RdS w7 g (fun k => k = g) [0, 0, 0, 0, 0, 0, 1, 2, 7] 0) := ⟨by rw [show List.drop (Int.toNat 1) [5, 0, 0, 0, 0, 0, 0, 1, 2, 7] = [0, 0, 0, 0, 0, 0, 1, 2, (7 : Int)] from by decide] at hr; exact hr⟩
  replace HA := Aside0.mk (Kd.F_grown HA.out hg (fun k hk he => by have := HG.out.1; injection he with he; omega))
  replace HB := Aside0.mk (pw_below_grown HB.out (some g) HB.out.size hg (fun k hk => by injection hk with hk; have := HG.out.2; omega))
  clear hr hg
  go_wp2_with (fail)
  refine (eight_ok g _ _ 0 w7 HR.out rfl (by decide) (by decide)).mono ?_
  rintro e w8 ⟨rfl, hr, hg⟩
  replace HR : Aside0 (RdS w8 g (fun k => k = g) [7] 0) := ⟨by rw [show List.drop 8 [0, 0, 0, 0, 0, 0, 1, 2, 7] = [(7 : Int)] from by decide] at hr; exact hr⟩
  replace HA := Aside0.mk (Kd.F_grown HA.out hg (fun k hk he => by have := HG.out.1; injection he with he; omega))
  replace HB := Aside0.mk (pw_below_grown HB.out (some g) HB.out.size hg (fun k hk => by injection hk with hk; have := HG.out.2; omega))
  clear hr hg
  rw [show foldB (List.take 8 [0, 0, 0, 0, 0, 0, 1, 2, 7]) 0 = 258 from by decide]
  go_wp2_with (fail)
  refine (left_any g _ [7] 0 w8 HR.out).mono ?_
  rintro e w9 ⟨rfl, hd⟩
  replace HR := Aside0.mk (HR.out.drawn hd)
  replace HA := Aside0.mk (Kd.F_below HA.out hd.below)
  replace HB := Aside0.mk (below_then HB.out HB.out.size hd.below)
  clear hd
  go_wp2_with (fail)
  refine (end_any g _ [7] 0 w9 HR.out).mono ?_
  rintro e wa ⟨rfl, hd⟩
  replace HR := Aside0.mk (HR.out.drawn hd)
  replace HA := Aside0.mk (Kd.F_below HA.out hd.below)
  replace HB := Aside0.mk (below_then HB.out HB.out.size hd.below)
  clear hd
  rw [show endE [7] 0 = 4 from by decide]
  go_wp2_with (fail)
  refine (num_big g _ [7] 0 6 7 1 wa HR.out rfl tk5 (by omega) rfl).mono ?_
  rintro e wb ⟨rfl, hr, hg⟩
  replace HR := Aside0.mk hr
  replace HA := Aside0.mk (Kd.F_grown HA.out hg (fun k hk he => by have := HG.out.1; injection he with he; omega))
  replace HB := Aside0.mk (pw_below_grown HB.out (some g) HB.out.size hg (fun k hk => by injection hk with hk; have := HG.out.2; omega))
  clear hr hg
  go_wp2_with (fail)
  have L := C_lit wb .u8 [128, 0, 64, 0] 4 #[.int .u8 128, .int .u8 0, .int .u8 64, .int .u8 0] 5 rfl (by omega) rfl
  refine (stratagemref06_Same.calls 5 A1 c1 [128, 0, 64, 0] (some ⟨wb.heap.size, 0, none⟩) 4 [128, 0, 64, 0] true _ (Kd.C_alloc (Kd.F_now HA.out) _) HC1.out L (Nat.le_refl 4) (by decide +kernel)).mono ?_
  rintro e wc ⟨rfl, hd⟩
  have hb := below_then (below_alloc (Below.refl _ _) _) (by simp) hd.below
  replace HR := Aside0.mk (HR.out.below hb)
  replace HB := Aside0.mk (below_then HB.out HB.out.size hb)
  clear hb hd L HA
  go_wp2_with (fail)
  refine (octet_Mark.calls 1 none 0 [] 14695981039346656037 wc (Kd.C_nil _ _) (Nat.le_refl 0) (by decide +kernel)).mono ?_
  rintro e wd ⟨rfl, hd⟩
  replace HR := Aside0.mk (HR.out.drawn hd)
  replace HB := Aside0.mk (below_then HB.out HB.out.size hd.below)
  clear hd
  go_wp2_with (fail)
  have L := C_lit wd .u8 [97] 1 #[.int .u8 97] 5 rfl (by omega) rfl
  refine (octet_Mark.calls 2 (some ⟨wd.heap.size, 0, none⟩) 1 [97] 12638187200555641996 _ L (Nat.le_refl 1) (by decide +kernel)).mono ?_
  rintro e we ⟨rfl, hd⟩
  have hb := below_then (below_alloc (Below.refl _ _) _) (by simp) hd.below
  replace HR := Aside0.mk (HR.out.below hb)
  replace HB := Aside0.mk (below_then HB.out HB.out.size hb)
  clear hb hd L
  go_wp2_with (fail)
  refine (octet_Eight.calls 258 [0, 0, 0, 0, 0, 0, 1, 2] we (by decide +kernel)).mono ?_
  rintro e wf ⟨v8, rfl, ho, hb⟩
  obtain ⟨A8, c8, rfl⟩ := Kd.R_slice ho
  have HO := Aside0.mk ho
  replace HR := Aside0.mk (HR.out.below hb)
  replace HB := Aside0.mk (below_then HB.out HB.out.size hb)
  clear hb ho
  go_wp2_with (fail)
  have L := C_lit wf .u8 [0, 0, 0, 0, 0, 0, 1, 2] 8 #[.int .u8 0, .int .u8 0, .int .u8 0, .int .u8 0, .int .u8 0, .int .u8 0, .int .u8 1, .int .u8 2] 5 rfl (by omega) rfl
  refine (stratagemref06_Same.calls 9 A8 c8 [0, 0, 0, 0, 0, 0, 1, 2] (some ⟨wf.heap.size, 0, none⟩) 8 [0, 0, 0, 0, 0, 0, 1, 2] true _ (Kd.C_alloc (Kd.R_reads' HO.out).2.2 _) (Kd.R_reads' HO.out).2.1 L (Nat.le_refl 8) (by decide +kernel)).mono ?_
  rintro e wg ⟨rfl, hd⟩
  have hb := below_then (below_alloc (Below.refl _ _) _) (by simp) hd.below
  replace HR := Aside0.mk (HR.out.below hb)
  replace HB := Aside0.mk (below_then HB.out HB.out.size hb)
  clear hb hd L HO
  go_wp2_with (fail)
  refine (end_any g _ [] 5 wg HR.out).mono ?_
  rintro e wh ⟨rfl, hd⟩
  replace HR := Aside0.mk (HR.out.drawn hd)
  replace HB := Aside0.mk (below_then HB.out HB.out.size hd.below)
  clear hd
  rw [show endE [] 5 = 5 from by decide]
  go_wp2_with (fail)
  refine (left_any g _ [] 5 wh HR.out).mono ?_
  rintro e wi ⟨rfl, hd⟩
  replace HB := Aside0.mk (below_then HB.out HB.out.size hd.below)
  clear hd HR
  go_wp2_with (fail)
  go_ret
  exact ⟨rfl, HB.out⟩
end Go.Proofs.Ytblfcmjcdclijaa.Q
