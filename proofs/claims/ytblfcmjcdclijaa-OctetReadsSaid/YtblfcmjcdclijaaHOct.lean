/- The number's bytes, what bytes begin with, a copy of bytes, and the reader of bytes: what the Go functions of package octet do, as lists. -/
import Derived.Test.YtblfcmjcdclijaaQx0
import Derived.Lib.SliceRun
import Derived.Test.YtblfcmjcdclijaaWQPut
namespace Go.Proofs.Ytblfcmjcdclijaa.Q
open Go.RowKit Go.Proofs.YtblfcmjcdclijaaW.PrintWords Go.Proofs.YtblfcmjcdclijaaW.PrintLast Go.Proofs.YtblfcmjcdclijaaW.PrintMore
set_option linter.unusedSimpArgs false
set_option linter.unusedVariables false
def foldB (l : List Int) (a : Int) : Int := l.foldl (fun n c => n * 256 + c) a
def byteB (c : Int) : Bool := decide (0 ≤ c) && decide (c ≤ 255)
def kindN (n : Int) : Nat := if n ≥ 1073741824 then 3 else if n ≥ 16384 then 2 else if n ≥ 64 then 1 else 0
theorem kind_any (n : Int) (w : World) : Calls Try.prog 33 #[.int .u64 n] w fun e w' => e = .returned (.int .i64 (kindN n)) ∧ w = w' := by
  unfold kindN
  by_cases h1 : n ≥ 1073741824
  · have h1b : decide (1073741824 ≤ n) = true := decide_eq_true h1
    go_enter Try.func33, Try.ntmps33
    go_wp2
    go_ret
    simp [h1]
  have h1b : decide (1073741824 ≤ n) = false := decide_eq_false h1
  by_cases h2 : n ≥ 16384
  · have h2b : decide (16384 ≤ n) = true := decide_eq_true h2
    go_enter Try.func33, Try.ntmps33
    go_wp2
    go_ret
    simp [h1, h2]
  have h2b : decide (16384 ≤ n) = false := decide_eq_false h2
  by_cases h3 : n ≥ 64
  · have h3b : decide (64 ≤ n) = true := decide_eq_true h3
    go_enter Try.func33, Try.ntmps33
    go_wp2
    go_ret
    simp [h1, h2, h3]
  have h3b : decide (64 ≤ n) = false := decide_eq_false h3
  go_enter Try.func33, Try.ntmps33
  go_wp2
  go_ret
  simp [h1, h2, h3]
theorem rd_byte {l : List Int} (h : l.all byteB = true) (i : Int) : 0 ≤ rd l i ∧ rd l i ≤ 255 := by
  unfold rd
  rw [List.getD_eq_getElem?_getD]
  cases e : l[i.toNat]? with
  | none => simp
  | some c =>
    have := List.all_eq_true.1 h c (List.mem_of_getElem? e)
    simpa [byteB] using this
theorem pow2_le {a b : Nat} (h : a ≤ b) : (2 : Int) ^ a ≤ 2 ^ b := by
  have := Nat.pow_le_pow_right (n := 2) (by omega) h
  exact_mod_cast this
theorem wraps_u64 (n : Int) (h₀ : 0 ≤ n) (h₁ : n < 2 ^ 64) : IntKind.u64.wrap n = n := by rw [IntKind.wrap_u64]; omega
theorem or8 (x y : Int) (h0 : 0 ≤ x) (h1 : x < 2 ^ 56) (h2 : 0 ≤ y) (h3 : y ≤ 255) : bits .or .u64 (x * 256) y = x * 256 + y :=
  bits_join .u64 64 (by decide) wraps_u64 8 (x * 256) y (by omega) (by omega) (by omega) h2 (by omega) (by omega)
theorem foldB_snoc (l : List Int) (c a : Int) : foldB (l ++ [c]) a = foldB l a * 256 + c := by simp [foldB, List.foldl_append]
theorem foldB_bound {l : List Int} (h : l.all byteB = true) (a : Int) (m : Nat) (h0 : 0 ≤ a) (h1 : a < 2 ^ m) : 0 ≤ foldB l a ∧ foldB l a < 2 ^ (m + 8 * l.length) := by
  induction l generalizing a m with
  | nil => exact ⟨h0, h1⟩
  | cons c l ih =>
    simp only [List.all_cons, Bool.and_eq_true] at h
    have hc : 0 ≤ c ∧ c ≤ 255 := by simpa [byteB] using h.1
    have h2 : a * 256 + c < 2 ^ (m + 8) := by
      have : (2 : Int) ^ (m + 8) = 2 ^ m * 256 := by rw [Int.pow_add]; rfl
      omega
    have := ih h.2 (a * 256 + c) (m + 8) (by omega) h2
    simp only [foldB, List.foldl_cons, List.length_cons] at this ⊢
    rw [show m + 8 * (l.length + 1) = m + 8 + 8 * l.length by omega]
    exact this
theorem all_take {l : List Int} (h : l.all byteB = true) (k : Nat) : (l.take k).all byteB = true := by
  rw [List.all_eq_true] at h ⊢
  exact fun x hx => h x (List.mem_of_mem_take hx)
theorem all_drop {l : List Int} (h : l.all byteB = true) (k : Nat) : (l.drop k).all byteB = true := by
  rw [List.all_eq_true] at h ⊢
  exact fun x hx => h x (List.mem_of_mem_drop hx)

def octet_Take.f (l0 : List Int) : Option (Int × Int × Int) :=
  if l0.all byteB then
    if l0.length = 0 then some (0, 0, 3)
    else if l0.length < 2 ^ (rd l0 0 / 64).toNat then some (0, 0, 3)
    else if kindN (foldB ((l0.drop 1).take (2 ^ (rd l0 0 / 64).toNat - 1)) (rd l0 0 % 64)) = (rd l0 0 / 64).toNat then
      some (foldB ((l0.drop 1).take (2 ^ (rd l0 0 / 64).toNat - 1)) (rd l0 0 % 64), ((2 ^ (rd l0 0 / 64).toNat : Nat) : Int), 0)
    else some (0, 0, 2)
  else none
set_option maxHeartbeats 800000 in
set_option maxRecDepth 100000 in
theorem octet_Take.calls (A0 : Option Addr) (c0 : Nat) (l0 : List Int) (r1 r2 r3 : Int) (w : World) (hr0 : Kd.C (Kd.int .u8) w A0 l0.length l0) (hc0 : l0.length ≤ c0) (h : octet_Take.f l0 = some (r1, r2, r3)) :
    Calls Try.prog 12 #[.slice A0 l0.length c0] w fun e w' => e = .returned (.tuple #[.int .u64 r1, .int .i64 r2, .int .i64 r3]) ∧ Drawn0 w w' := by
  have HR0 := Aside0.mk hr0
  clear hr0
  unfold octet_Take.f at h
  by_cases hall : l0.all byteB = true
  · rw [if_pos hall] at h
    by_cases hl : l0.length = 0
    · rw [if_pos hl] at h
      injection h with h; injection h with e1 h; injection h with e2 e3
      subst e1 e2 e3
      have h0 : ((l0.length : Int) == 0) = true := by simp [hl]
      clear hl
      go_enter Try.func12, Try.ntmps12
      go_wp2
      go_ret3
      exact ⟨rfl, Drawn0.refl _⟩
    · rw [if_neg hl] at h
      obtain ⟨d1, d2⟩ := rd_byte hall 0
      obtain ⟨kk, hkk⟩ : ∃ kk : Nat, rd l0 0 / 64 = (kk : Int) := ⟨(rd l0 0 / 64).toNat, by omega⟩
      have hk4 : kk < 4 := by omega
      obtain ⟨sz, hsz⟩ : ∃ sz : Nat, sz = 2 ^ kk := ⟨_, rfl⟩
      rw [hkk, Int.toNat_natCast, ← hsz] at h
      have hsz1 : 1 ≤ sz := by rw [hsz]; exact Nat.one_le_two_pow
      have hsz8 : sz ≤ 8 := by rw [hsz]; exact Nat.pow_le_pow_right (n := 2) (by omega) (show kk ≤ 3 by omega)
      have hw : wrap64 (2 ^ kk) = (sz : Int) := by
        have : ((2 : Int) ^ kk) = ((2 ^ kk : Nat) : Int) := by simp
        rw [this, ← hsz]; unfold wrap64; omega
      have hl' : (0 : Int) < l0.length := by omega
      have h0 : ((l0.length : Int) == 0) = false := by rw [beq_eq_false_iff_ne]; omega
      obtain ⟨ad, e1, hx⟩ := Kd.at_int HR0.out 0 (by omega) hl'
      cases e1
      rw [show ((0 : Int)).toNat = 0 from rfl, Addr.add_zero'] at hx
      have HS := Aside0.mk hsz
      have HL := Aside0.mk hl
      have HA := Aside0.mk hall
      clear hsz hl hall
      by_cases hlt : l0.length < sz
      · rw [if_pos hlt] at h
        injection h with h; injection h with e1 h; injection h with e2 e3
        subst e1 e2 e3
        have hb1 : decide (l0.length < sz) = true := decide_eq_true hlt
        clear hlt
        go_enter Try.func12, Try.ntmps12
        go_wp2
        go_ret3
        exact ⟨rfl, Drawn0.refl _⟩
      · rw [if_neg hlt] at h
        have hb1 : decide (l0.length < sz) = false := decide_eq_false hlt
        have hb5 : sz ≤ l0.length := by omega
        have hb6 : sz ≤ c0 := by omega
        have hb2 : (sz : Int) ≤ l0.length := by omega
        have hb3 : (sz : Int) ≤ c0 := by omega
        have hb4 : (1 : Int) ≤ sz := by omega
        have H' := Aside0.mk h
        clear hlt h
        go_enter Try.func12, Try.ntmps12
        go_wp2
        all_goals
          go_loop [7, 9, 34] (fun a v i => ∃ k : Nat, k ≤ sz - 1 ∧ i = .int .i64 k ∧ a = .int .u64 (foldB ((l0.drop 1).take k) (rd l0 0 % 64))) (fun _ _ i => sz - 1 - (intOf i).toNat)
          case atStart => exact ⟨0, Nat.zero_le _, rfl, rfl⟩
          case round =>
            obtain ⟨k, hk, rfl, rfl⟩ := hrel
            by_cases hlt : k < sz - 1
            · have HFb : Aside0 (0 ≤ foldB ((l0.drop 1).take k) (rd l0 0 % 64) ∧ foldB ((l0.drop 1).take k) (rd l0 0 % 64) < 2 ^ 55) := ⟨by
                have h2 := foldB_bound (all_take (all_drop HA.out 1) k) (rd l0 0 % 64) 6 (by omega) (by omega)
                refine ⟨h2.1, Int.lt_of_lt_of_le h2.2 ?_⟩
                have h3 : ((l0.drop 1).take k).length ≤ k := List.length_take_le _ _
                exact pow2_le (by omega)⟩
              obtain ⟨N, hN⟩ : ∃ N, N = (foldB ((l0.drop 1).take k) (rd l0 0 % 64)) := ⟨_, rfl⟩
              rw [← hN] at HFb
              rw [← hN]
              obtain ⟨c1, c2⟩ := HFb.out
              have HN := Aside0.mk hN
              clear hN HFb
              obtain ⟨ad1, e1, hx1⟩ := Kd.at_int HR0.out (k+1) (by omega) (by omega)
              cases e1
              rw [show ((k : Int)+1).toNat = k + 1 by omega, show ad.add (k + 1) = ⟨ad.block, ad.off + 1 + k, none⟩ by simp [Addr.add]; omega] at hx1
              obtain ⟨b1, b2⟩ := rd_byte HA.out (k+1)
              have hlt' : (k : Int) < sz - 1 := by omega
              first
              | (exfalso; omega)
              | (go_wp2
                 go_round
                 case rel => exact ⟨k + 1, by omega, by go_num, by
                   rw [or8 _ _ c1 (by omega) b1 b2, HN.out, List.take_succ_eq_append_getElem (by simp; omega), foldB_snoc]
                   have e : rd l0 (k+1) = (List.drop 1 l0)[k]'(by simp; omega) := by
                     unfold rd
                     rw [show ((k : Int)+1).toNat = k + 1 by omega]
                     simp [List.getD_eq_getElem?_getD]
                     rw [List.getElem?_eq_getElem (by omega)]; rfl
                   rw [e]⟩
                 case measure => simp [intOf]; omega)
            · have e : k = sz - 1 := by omega
              subst e
              have H := H'.out
              obtain ⟨N, hN⟩ : ∃ N, N = (foldB ((l0.drop 1).take (sz - 1)) (rd l0 0 % 64)) := ⟨_, rfl⟩
              rw [← hN] at H
              rw [← hN]
              clear H' hN
              by_cases hz : kindN N = kk
              · rw [if_pos hz] at H
                injection H with h; injection h with e1 h; injection h with e2 e3
                subst e1 e2 e3
                have hz1 : ((kindN N : Int) == (kk : Int)) = true := by rw [beq_iff_eq]; omega
                have hz2 : ((kindN N : Int) != (kk : Int)) = false := by rw [bne_eq_false_iff_eq]; omega
                clear hz
                go_wp2_with (go_at_call 33; refine (kind_any _ _).mono ?_; rintro e w' ⟨rfl, rfl⟩)
                go_ret3
                exact ⟨by first | rfl | (simp [*]; done), Drawn0.refl _⟩
              · rw [if_neg hz] at H
                injection H with h; injection h with e1 h; injection h with e2 e3
                subst e1 e2 e3
                have hz1 : ((kindN N : Int) == (kk : Int)) = false := by rw [beq_eq_false_iff_ne]; omega
                have hz2 : ((kindN N : Int) != (kk : Int)) = true := by rw [bne_iff_ne]; omega
                clear hz
                go_wp2_with (go_at_call 33; refine (kind_any _ _).mono ?_; rintro e w' ⟨rfl, rfl⟩)
                go_ret3
                exact ⟨by first | rfl | (simp [*]; done), Drawn0.refl _⟩
  · rw [if_neg hall] at h
    exact absurd h (by simp)

def be8 (n : Int) (k : Nat) : List Int := (List.range k).map fun i => n / 2 ^ (56 - 8 * i) % 256
theorem be8_succ (n : Int) (k : Nat) : be8 n (k + 1) = be8 n k ++ [n / 2 ^ (56 - 8 * k) % 256] := by simp [be8, List.range_succ]
theorem be8_len (n : Int) (k : Nat) : (be8 n k).length = k := by simp [be8]
def octet_Eight.f (a0 : Int) : Option (List Int) := if 0 ≤ a0 then (if a0 < 2 ^ 64 then some (be8 a0 8) else none) else none
set_option maxHeartbeats 800000 in
set_option maxRecDepth 100000 in
theorem octet_Eight.calls (a0 : Int) (r : List Int) (w : World) (h : octet_Eight.f a0 = some r) :
    Calls Try.prog 17 #[.int .u64 a0] w fun e w' => ∃ v0_ : Value, e = .returned v0_ ∧ Kd.R (Kd.int .u8) 5 w' w.heap.size (fun _ => True) v0_ r ∧ Below w.heap.size w w' := by
  unfold octet_Eight.f at h
  by_cases h0 : 0 ≤ a0
  case neg => rw [if_neg h0] at h; exact absurd h (by simp)
  rw [if_pos h0] at h
  by_cases h1 : a0 < 2 ^ 64
  case neg => rw [if_neg h1] at h; exact absurd h (by simp)
  rw [if_pos h1] at h
  injection h with h
  have Hr := Aside0.mk h
  clear h
  have hmk : ∀ W : World, (Instr.makeSlice 23 (.int .i64 0) (.int .i64 8)).run Try.prog W = .ok (.slice (some ⟨W.heap.size, 0, none⟩) 0 8) (W.alloc (.cells #[.int .u8 0, .int .u8 0, .int .u8 0, .int .u8 0, .int .u8 0, .int .u8 0, .int .u8 0, .int .u8 0] 5)) := fun _ => by kernel_rfl
  go_enter Try.func17, Try.ntmps17
  go_wp2
  have HO : Aside0 (Kd.R (Kd.int .u8) 5 (w.alloc (.cells #[.int .u8 0, .int .u8 0, .int .u8 0, .int .u8 0, .int .u8 0, .int .u8 0, .int .u8 0, .int .u8 0] 5)) w.heap.size (fun _ => True) (.slice (some ⟨w.heap.size, 0, none⟩) 0 8) ([] : List Int)) :=
    ⟨⟨fun _ _ => trivial, [], World.ownsRow_made w _ 8 (Nat.le_refl _) (by decide) rfl, Reps.none _ _⟩⟩
  have HB : Aside0 (Below w.heap.size w (w.alloc (.cells #[.int .u8 0, .int .u8 0, .int .u8 0, .int .u8 0, .int .u8 0, .int .u8 0, .int .u8 0, .int .u8 0] 5))) := ⟨below_alloc (Below.refl _ _) _⟩
  go_loopw [3, 4] (fun v i wr => ∃ k : Nat, k ≤ 8 ∧ i = .int .i64 (56 - 8 * (k : Int)) ∧ Aside0 (Kd.R (Kd.int .u8) 5 wr w.heap.size (fun _ => True) v (be8 a0 k)) ∧ Aside0 (Below w.heap.size w wr)) (fun _ i _ => (intOf i + 8).toNat)
  case atStart => exact ⟨0, Nat.zero_le _, rfl, HO, HB⟩
  case round =>
    clear HO HB
    obtain ⟨k, hk, rfl, HO, HB⟩ := hrel
    by_cases hlt : k < 8
    · have hp : (0 : Int) ≤ 56 - 8 * (k : Int) := by omega
      have hp2 : (56 - 8 * (k : Int)).toNat = 56 - 8 * k := by omega
      have hp3 : 56 - 8 * k ≤ 56 := by omega
      have hp4 : (be8 a0 k).length < 8 := by rw [be8_len]; exact hlt
      go_wp2_with (first | ((with_reducible refine gate_builtin (b := .append) (xs := #[.tmp 10, .tmp 15]) rfl ?_); at_builtin; refine Kd.R_append (Kd.int .u8) (w0 := w) w.heap.size rfl (.tmp 10) (.tmp 15) 23 5 (.int .u8 0) 1 rfl Try.underlying23 info5 rfl (by decide) (by omega) u3 (be8 a0 k) (a0 / 2 ^ (56 - 8 * k) % 256) [.int .u8 (a0 / 2 ^ (56 - 8 * k) % 256)] (fun _ => True) (fun _ => False) rfl (by first | (go_simp; done) | (go_simp; rfl)) rfl (fun _ hk => hk.elim) (fun _ _ => trivial) HO.out HB.out (below_size HB.out) (by omega) ?_; intro v1 w1 ho hb hg hat; rw [← be8_succ] at ho; have n1 := Aside0.mk ho; have n2 := Aside0.mk hb; clear ho hb hg hat HO HB hp4))
      go_roundw
      case rel => exact ⟨k + 1, by omega, by go_num, n1, n2⟩
      case measure => simp [intOf]; omega
    · obtain rfl : k = 8 := by omega
      go_wp2
      go_ret
      exact ⟨_, rfl, Hr.out ▸ HO.out, HB.out⟩
def slices_Clone_byte_byte.f (l0 : List Int) : Option (List Int) := if l0.length ≤ 140737488355328 then some l0 else none
set_option maxHeartbeats 800000 in
set_option maxRecDepth 100000 in
theorem slices_Clone_byte_byte.calls (A0 : Option Addr) (c0 : Nat) (l0 : List Int) (r : List Int) (w : World) (hr0 : Kd.C (Kd.int .u8) w A0 l0.length l0) (hc0 : l0.length ≤ c0) (h : slices_Clone_byte_byte.f l0 = some r) :
    Calls Try.prog 37 #[.slice A0 l0.length c0] w fun e w' => ∃ v0_ : Value, e = .returned v0_ ∧ Kd.R (Kd.int .u8) 5 w' w.heap.size (fun _ => True) v0_ r ∧ Below w.heap.size w w' := by
  unfold slices_Clone_byte_byte.f at h
  by_cases h0 : l0.length ≤ 140737488355328
  case neg => rw [if_neg h0] at h; exact absurd h (by simp)
  rw [if_pos h0] at h
  obtain rfl := Option.some.inj h
  clear h
  have HR0 := Aside0.mk hr0
  have hcmp : ∀ W : World, (binOp .eql 23 (.slice A0 l0.length c0) (.slice none 0 0)).run Try.prog W = .ok (.bool A0.isNone) W := fun W => Lib.run_eql_slice_nil W 23 5 A0 _ _ _ _ Try.underlying23
  rcases A0 with _ | ad
  · have hl : l0 = [] := by
      rcases Nat.eq_zero_or_pos l0.length with h | h
      · exact List.eq_nil_of_length_eq_zero h
      · obtain ⟨ad, h, _⟩ := HR0.out.2.2 h
        cases h
    subst hl
    clear hr0 HR0 hc0 h0 hcmp
    have hcmp : ∀ W : World, (binOp .eql 23 (.slice none 0 c0) (.slice none 0 0)).run Try.prog W = .ok (.bool true) W := fun W => Lib.run_eql_slice_nil W 23 5 none _ _ _ _ Try.underlying23
    go_enter Try.func37, Try.ntmps37
    go_wp2
    go_ret
    exact ⟨_, rfl, Kd.R_nil _ _ _ _ _, Below.refl _ _⟩
  · clear hr0
    go_enter Try.func37, Try.ntmps37
    go_wp2_with (first | ((with_reducible refine gate_dst (N := 5) rfl ?_); refine Kd.R_lit (Kd.int .u8) w.heap.size 5 ?hg (N := 5) ?hd (xs := ([] : List Int)) (inner := []) (ok := fun _ => True) (okp := fun _ => True) ?hr ?hp (fun _ hk => hk) trivial (Below.refl _ _) (Nat.le_refl _) (by simp) ?_; (case hd => rfl); (case hg => rfl); (case hr => first | (go_simp; done) | (go_simp; rfl)); (case hp => exact (Reps.none _ _)); intro v110 w2 ho3 hb hg_ hnew_; have n1 := Aside0.mk ho3; have n2 := Aside0.mk hb; have n3 := Aside0.mk (Kd.C_below HR0.out hb); clear hg_ hnew_ ho3 hb HR0) | ((with_reducible refine gate_builtin (b := .append) (xs := #[.tmp 5, .tmp 6]) rfl ?_); at_builtin; refine Kd.R_append_rows (Kd.int .u8) (w0 := w) w.heap.size rfl (.tmp 5) (.tmp 6) 23 5 (.int .u8 0) 1 rfl Try.underlying23 info5 rfl (by decide) (by omega) v110 [] l0 _ _ _ (fun _ => True) (fun _ => False) rfl rfl n1.out n3.out (fun _ _ h => h) (fun _ h => h.elim) (fun _ _ => trivial) n2.out (below_size n2.out) ?aL ?_; (case aL => simp; omega); intro v1 w1 ho hb hg hat; have m1 := Aside0.mk ho; have m2 := Aside0.mk hb; clear ho hb hg hat n1 n2 n3))
    go_ret
    exact ⟨_, rfl, m1.out, m2.out⟩

theorem R_foot {k : IntKind} {e base : Nat} {w : World} {ok : Nat → Prop} {v : Value} {xs : List Int} (h : Kd.R (Kd.int k) e w base ok v xs) : Kd.R (Kd.int k) e w base (fun j => base ≤ j ∧ j < w.heap.size) v xs := by
  obtain ⟨h0, inner, hown, hr⟩ := h
  exact ⟨fun j hj => ⟨own_base hown j hj, own_lt hown j hj⟩, inner, hown, hr.imp_ (fun _ _ h => h)⟩

theorem kind_eq (n : Int) (j : Nat) (h : kindN n = j) (w : World) : Calls Try.prog 33 #[.int .u64 n] w fun e w' => e = .returned (.int .i64 j) ∧ w = w' := h ▸ kind_any n w
theorem or64 (x : Int) (j : Nat) (h0 : 0 ≤ x) (h1 : x < 64) (hj : j < 4) : bits .or .u8 x (64 * (j : Nat)) = x + 64 * (j : Nat) := by
  obtain ⟨a, rfl⟩ := Int.eq_ofNat_of_zero_le h0
  have ha : a < 2 ^ 6 := by omega
  have e : (64 * (j : Nat) : Int) = ((2 ^ 6 * j : Nat) : Int) := by omega
  rw [e, (bits_nat .u8 8 (by decide) wraps_u8 a (2 ^ 6 * j) (by omega) (by omega)).2, Nat.or_comm, ← Nat.two_pow_add_eq_or_of_lt ha j]
  omega
def putB (n : Int) : List Int := ((be8 n 8).drop (8 - 2 ^ kindN n)).set 0 (rd ((be8 n 8).drop (8 - 2 ^ kindN n)) 0 + 64 * kindN n)
def octet_Put.f (a0 : Int) : Option (List Int × Int) := if a0 > 4611686018427387903 then some ([], 5) else if 0 ≤ a0 then some (putB a0, 0) else none
theorem put_cut {w : World} {base g cap k : Nat} {ok : Nat → Prop} {xs : List Int} (h : Kd.R (Kd.int .u8) 5 w base ok (.slice (some ⟨g, 0, none⟩) 8 cap) xs) (hk : k < 8) (hxs : xs.length = 8) : Kd.Q (Kd.int .u8) 5 w base ok (.slice (some ⟨g, k, none⟩) (8 - k) (cap - k)) (xs.drop k) := by
  have h1 := Kd.Q_drop (k := k) (Kd.Q_of_R h) (by omega)
  have h2 : 8 ≤ cap := (Kd.R_reads' h).2.1
  rw [if_neg (by omega)] at h1
  have e1 : (Kd.int .u8).sz = 1 := rfl
  rw [e1, Nat.mul_one] at h1
  simp only [Option.map_some, add_plain] at h1
  exact h1
theorem put_form {w : World} {base : Nat} {ok : Nat → Prop} {v : Value} {xs : List Int} (h : Kd.R (Kd.int .u8) 5 w base ok v xs) (hp : 0 < xs.length) : ∃ g cap, v = .slice (some ⟨g, 0, none⟩) xs.length cap ∧ xs.length ≤ cap := by
  obtain ⟨inner, ho⟩ := Kd.R_own h
  obtain ⟨g, cap, e, _⟩ := ho.form hp
  refine ⟨g, cap, e, ?_⟩
  subst e
  exact (Kd.R_reads' h).2.1
set_option maxHeartbeats 1600000 in
set_option maxRecDepth 100000 in
theorem octet_Put.calls (a0 : Int) (r1 : List Int) (r2 : Int) (w : World) (h : octet_Put.f a0 = some (r1, r2)) :
    Calls Try.prog 10 #[.int .u64 a0] w fun e w' => ∃ v0_ : Value, e = .returned (.tuple #[v0_, .int .i64 r2]) ∧ Kd.Q (Kd.int .u8) 5 w' w.heap.size (fun _ => True) v0_ r1 ∧ Below w.heap.size w w' := by
  unfold octet_Put.f at h
  by_cases h1 : a0 > 4611686018427387903
  · rw [if_pos h1] at h
    simp only [Option.some.injEq, Prod.mk.injEq] at h
    obtain ⟨rfl, rfl⟩ := h
    have hb : decide (4611686018427387903 < a0) = true := decide_eq_true h1
    clear h1
    go_enter Try.func10, Try.ntmps10
    go_wp2
    go_ret2
    exact ⟨_, rfl, Kd.Q_nil _ _ _ _ _, Below.refl _ _⟩
  rw [if_neg h1] at h
  by_cases h2 : 0 ≤ a0
  case neg => rw [if_neg h2] at h; exact absurd h (by simp)
  rw [if_pos h2] at h
  simp only [Option.some.injEq, Prod.mk.injEq] at h
  obtain ⟨rfl, rfl⟩ := h
  have hb : decide (4611686018427387903 < a0) = false := decide_eq_false h1
  have HE : Aside0 (octet_Eight.f a0 = some (be8 a0 8)) := ⟨by unfold octet_Eight.f; rw [if_pos h2, if_pos (by omega)]⟩
  have hk4 : kindN a0 = 0 ∨ kindN a0 = 1 ∨ kindN a0 = 2 ∨ kindN a0 = 3 := by unfold kindN; split; · simp
                                                                             split; · simp
                                                                             split <;> simp
  obtain hk | hk | hk | hk := hk4
  · have HK := Aside0.mk hk
    have HX : Aside0 (0 ≤ rd ((be8 a0 8).drop 7) 0 ∧ rd ((be8 a0 8).drop 7) 0 < 64) := ⟨by
      have e : rd ((be8 a0 8).drop 7) 0 = a0 / 2 ^ (56 - 8 * 7) % 256 := rfl
      unfold kindN at hk
      rw [e]
      split at hk <;> (try split at hk) <;> (try split at hk) <;> omega⟩
    have HP : Aside0 (putB a0 = ((be8 a0 8).drop 7).set 0 (rd ((be8 a0 8).drop 7) 0 + 64 * (0 : Nat))) := ⟨by unfold putB; rw [hk]⟩
    clear hk h1 h2
    obtain ⟨X, hX⟩ : ∃ X, X = rd ((be8 a0 8).drop 7) 0 := ⟨_, rfl⟩
    rw [← hX] at HX HP
    obtain ⟨x1, x2⟩ := HX.out
    have H1 := Aside0.mk hX
    have HO : Aside0 (bits .or .u8 X 0 = X + 64 * (0 : Nat)) := ⟨or64 X 0 x1 x2 (by decide)⟩
    clear hX
    go_enter Try.func10, Try.ntmps10
    go_wp2_with (first | (go_at_call 33; refine (kind_eq _ _ HK.out _).mono ?_; rintro e w' ⟨rfl, rfl⟩) | (go_at_call 17; refine (octet_Eight.calls _ _ _ HE.out).mono ?_; rintro e w' ⟨v, rfl, ho, hb⟩; obtain ⟨g, cap, ev, hcap⟩ := put_form ho (by rw [be8_len]; decide); rw [be8_len] at ev hcap; subst ev; have HB := Aside0.mk hb; have HQ := Aside0.mk (put_cut (k := 7) ho (by omega) (be8_len _ _)); clear ho hb; have hne : (cap = 7) = False := eq_false (by omega); have hc1 : w'.cell? ⟨g, 7, none⟩ = some (.int .u8 X) := (by rw [H1.out]; exact (Kd.Q_cell 0 HQ.out 0 (by omega) (by omega)).1); have hc2 : w'.frozen? ⟨g, 7, none⟩ = false := (Kd.Q_cell 0 HQ.out 0 (by omega) (by omega)).2))
    go_ret2
    rw [HO.out, HP.out]
    exact ⟨_, rfl, (Kd.Q_putg HQ.out 0 (by omega) (by omega) (X + 64 * (0 : Nat))).1, pw_below_grown HB.out (some g) HB.out.size (Kd.Q_putg HQ.out 0 (by omega) (by omega) (X + 64 * (0 : Nat))).2 (fun k hk => Kd.Q_base HQ.out k hk)⟩
  · have HK := Aside0.mk hk
    have HX : Aside0 (0 ≤ rd ((be8 a0 8).drop 6) 0 ∧ rd ((be8 a0 8).drop 6) 0 < 64) := ⟨by
      have e : rd ((be8 a0 8).drop 6) 0 = a0 / 2 ^ (56 - 8 * 6) % 256 := rfl
      unfold kindN at hk
      rw [e]
      split at hk <;> (try split at hk) <;> (try split at hk) <;> omega⟩
    have HP : Aside0 (putB a0 = ((be8 a0 8).drop 6).set 0 (rd ((be8 a0 8).drop 6) 0 + 64 * (1 : Nat))) := ⟨by unfold putB; rw [hk]⟩
    clear hk h1 h2
    obtain ⟨X, hX⟩ : ∃ X, X = rd ((be8 a0 8).drop 6) 0 := ⟨_, rfl⟩
    rw [← hX] at HX HP
    obtain ⟨x1, x2⟩ := HX.out
    have H1 := Aside0.mk hX
    have HO : Aside0 (bits .or .u8 X 64 = X + 64 * (1 : Nat)) := ⟨or64 X 1 x1 x2 (by decide)⟩
    clear hX
    go_enter Try.func10, Try.ntmps10
    go_wp2_with (first | (go_at_call 33; refine (kind_eq _ _ HK.out _).mono ?_; rintro e w' ⟨rfl, rfl⟩) | (go_at_call 17; refine (octet_Eight.calls _ _ _ HE.out).mono ?_; rintro e w' ⟨v, rfl, ho, hb⟩; obtain ⟨g, cap, ev, hcap⟩ := put_form ho (by rw [be8_len]; decide); rw [be8_len] at ev hcap; subst ev; have HB := Aside0.mk hb; have HQ := Aside0.mk (put_cut (k := 6) ho (by omega) (be8_len _ _)); clear ho hb; have hne : (cap = 6) = False := eq_false (by omega); have hc1 : w'.cell? ⟨g, 6, none⟩ = some (.int .u8 X) := (by rw [H1.out]; exact (Kd.Q_cell 0 HQ.out 0 (by omega) (by omega)).1); have hc2 : w'.frozen? ⟨g, 6, none⟩ = false := (Kd.Q_cell 0 HQ.out 0 (by omega) (by omega)).2))
    go_ret2
    rw [HO.out, HP.out]
    exact ⟨_, rfl, (Kd.Q_putg HQ.out 0 (by omega) (by omega) (X + 64 * (1 : Nat))).1, pw_below_grown HB.out (some g) HB.out.size (Kd.Q_putg HQ.out 0 (by omega) (by omega) (X + 64 * (1 : Nat))).2 (fun k hk => Kd.Q_base HQ.out k hk)⟩
  · have HK := Aside0.mk hk
    have HX : Aside0 (0 ≤ rd ((be8 a0 8).drop 4) 0 ∧ rd ((be8 a0 8).drop 4) 0 < 64) := ⟨by
      have e : rd ((be8 a0 8).drop 4) 0 = a0 / 2 ^ (56 - 8 * 4) % 256 := rfl
      unfold kindN at hk
      rw [e]
      split at hk <;> (try split at hk) <;> (try split at hk) <;> omega⟩
    have HP : Aside0 (putB a0 = ((be8 a0 8).drop 4).set 0 (rd ((be8 a0 8).drop 4) 0 + 64 * (2 : Nat))) := ⟨by unfold putB; rw [hk]⟩
    clear hk h1 h2
    obtain ⟨X, hX⟩ : ∃ X, X = rd ((be8 a0 8).drop 4) 0 := ⟨_, rfl⟩
    rw [← hX] at HX HP
    obtain ⟨x1, x2⟩ := HX.out
    have H1 := Aside0.mk hX
    have HO : Aside0 (bits .or .u8 X 128 = X + 64 * (2 : Nat)) := ⟨or64 X 2 x1 x2 (by decide)⟩
    clear hX
    go_enter Try.func10, Try.ntmps10
    go_wp2_with (first | (go_at_call 33; refine (kind_eq _ _ HK.out _).mono ?_; rintro e w' ⟨rfl, rfl⟩) | (go_at_call 17; refine (octet_Eight.calls _ _ _ HE.out).mono ?_; rintro e w' ⟨v, rfl, ho, hb⟩; obtain ⟨g, cap, ev, hcap⟩ := put_form ho (by rw [be8_len]; decide); rw [be8_len] at ev hcap; subst ev; have HB := Aside0.mk hb; have HQ := Aside0.mk (put_cut (k := 4) ho (by omega) (be8_len _ _)); clear ho hb; have hne : (cap = 4) = False := eq_false (by omega); have hc1 : w'.cell? ⟨g, 4, none⟩ = some (.int .u8 X) := (by rw [H1.out]; exact (Kd.Q_cell 0 HQ.out 0 (by omega) (by omega)).1); have hc2 : w'.frozen? ⟨g, 4, none⟩ = false := (Kd.Q_cell 0 HQ.out 0 (by omega) (by omega)).2))
    go_ret2
    rw [HO.out, HP.out]
    exact ⟨_, rfl, (Kd.Q_putg HQ.out 0 (by omega) (by omega) (X + 64 * (2 : Nat))).1, pw_below_grown HB.out (some g) HB.out.size (Kd.Q_putg HQ.out 0 (by omega) (by omega) (X + 64 * (2 : Nat))).2 (fun k hk => Kd.Q_base HQ.out k hk)⟩
  · have HK := Aside0.mk hk
    have HX : Aside0 (0 ≤ rd ((be8 a0 8).drop 0) 0 ∧ rd ((be8 a0 8).drop 0) 0 < 64) := ⟨by
      have e : rd ((be8 a0 8).drop 0) 0 = a0 / 2 ^ (56 - 8 * 0) % 256 := rfl
      unfold kindN at hk
      rw [e]
      split at hk <;> (try split at hk) <;> (try split at hk) <;> omega⟩
    have HP : Aside0 (putB a0 = ((be8 a0 8).drop 0).set 0 (rd ((be8 a0 8).drop 0) 0 + 64 * (3 : Nat))) := ⟨by unfold putB; rw [hk]⟩
    clear hk h1 h2
    obtain ⟨X, hX⟩ : ∃ X, X = rd ((be8 a0 8).drop 0) 0 := ⟨_, rfl⟩
    rw [← hX] at HX HP
    obtain ⟨x1, x2⟩ := HX.out
    have H1 := Aside0.mk hX
    have HO : Aside0 (bits .or .u8 X 192 = X + 64 * (3 : Nat)) := ⟨or64 X 3 x1 x2 (by decide)⟩
    clear hX
    go_enter Try.func10, Try.ntmps10
    go_wp2_with (first | (go_at_call 33; refine (kind_eq _ _ HK.out _).mono ?_; rintro e w' ⟨rfl, rfl⟩) | (go_at_call 17; refine (octet_Eight.calls _ _ _ HE.out).mono ?_; rintro e w' ⟨v, rfl, ho, hb⟩; obtain ⟨g, cap, ev, hcap⟩ := put_form ho (by rw [be8_len]; decide); rw [be8_len] at ev hcap; subst ev; have HB := Aside0.mk hb; have HQ := Aside0.mk (put_cut (k := 0) ho (by omega) (be8_len _ _)); clear ho hb; have hne : (cap = 0) = False := eq_false (by omega); have hc1 : w'.cell? ⟨g, 0, none⟩ = some (.int .u8 X) := (by rw [H1.out]; exact (Kd.Q_cell 0 HQ.out 0 (by omega) (by omega)).1); have hc2 : w'.frozen? ⟨g, 0, none⟩ = false := (Kd.Q_cell 0 HQ.out 0 (by omega) (by omega)).2))
    go_ret2
    rw [HO.out, HP.out]
    exact ⟨_, rfl, (Kd.Q_putg HQ.out 0 (by omega) (by omega) (X + 64 * (3 : Nat))).1, pw_below_grown HB.out (some g) HB.out.size (Kd.Q_putg HQ.out 0 (by omega) (by omega) (X + 64 * (3 : Nat))).2 (fun k hk => Kd.Q_base HQ.out k hk)⟩
/-! The reader: a block of two cells; what its bytes lie in is none of S. -/
def RdT (T : Nat) (W : World) (g : Nat) (S : Nat → Prop) (l : List Int) (e : Int) : Prop :=
  ∃ A c, W.heap[g]? = some (.cells #[.slice A l.length c, .int .i64 e] T (0, 0)) ∧ l.length ≤ c ∧ Kd.F (Kd.int .u8) W (fun k => ¬ S k) A l.length l
abbrev RdS := RdT 66
theorem grown_set (w : World) (p : Addr) (u : Value) : w.grownBy (w.setCell p u) (some p.block) :=
  ⟨rfl, rfl, rfl, by simp [World.setCell], fun k hk hne => Below.heap_setCell _ _ _ _ (fun e => hne (by rw [e]))⟩
theorem grown_trans {a b c : World} {g : Nat} (h : a.grownBy b (some g)) (k : b.grownBy c (some g)) : a.grownBy c (some g) :=
  ⟨k.os.trans h.os, k.tape.trans h.tape, k.output.trans h.output, Nat.le_trans h.size k.size, fun i hi hr => (k.block i (Nat.lt_of_lt_of_le hi h.size) hr).trans (h.block i hi hr)⟩
theorem grown_refl (a : World) (g : Option Nat) : a.grownBy a g := ⟨rfl, rfl, rfl, Nat.le_refl _, fun _ _ _ => rfl⟩
theorem grown_drawn {a b : World} (h : Drawn0 a b) (g : Option Nat) : a.grownBy b g := grown_of_below h.below g
theorem RdT.keep {T : Nat} {W W1 : World} {g : Nat} {S : Nat → Prop} {l : List Int} {e : Int} (h : RdT T W g S l e) {row : Option Nat} (hg : W.grownBy W1 row) (hne : some g ≠ row) (hS : ∀ k, row = some k → S k ∨ W.heap.size ≤ k) : RdT T W1 g S l e := by
  obtain ⟨A, c, h1, h2, h3⟩ := h
  refine ⟨A, c, blk_grown h1 hg hne, h2, Kd.F_step h3 (fun k hk hlt => hg.block k hlt (fun he => ?_))⟩
  rcases hS k he.symm with h | h
  · exact hk h
  · omega
theorem RdT.below {T : Nat} {W W1 : World} {g : Nat} {S : Nat → Prop} {l : List Int} {e : Int} (h : RdT T W g S l e) (hb : Below W.heap.size W W1) : RdT T W1 g S l e := h.keep (grown_of_below hb none) (by simp) (by simp)
theorem RdT.drawn {T : Nat} {W W1 : World} {g : Nat} {S : Nat → Prop} {l : List Int} {e : Int} (h : RdT T W g S l e) (hb : Drawn0 W W1) : RdT T W1 g S l e := h.below hb.below

set_option maxHeartbeats 800000 in
set_option maxRecDepth 100000 in
theorem wrong_no (g : Nat) (e e' : Int) (w : World) (v0 : Value) (h1 : w.heap[g]? = some (.cells #[v0, .int .i64 e] 66 (0, 0))) (he : e ≠ 0) :
    Calls Try.prog 38 #[.pointer (some ⟨g, 0, none⟩), .int .i64 e'] w fun en w' => en = .returned (.tuple #[]) ∧ Drawn0 w w' := by
  have hz1 : w.cell? ⟨g, 1, none⟩ = some (.int .i64 e) := (blk_cell h1 1).trans rfl
  have hf1 := blk_frozen h1 1
  clear h1
  have he1 : (e == 0) = false := by simpa using he
  clear he
  go_enter Try.func38, Try.ntmps38
  go_wp2
  go_end0
  exact ⟨rfl, Drawn0.refl _⟩
set_option maxHeartbeats 800000 in
set_option maxRecDepth 100000 in
theorem wrong_ok (g : Nat) (e' : Int) (w : World) (v0 : Value) (h1 : w.heap[g]? = some (.cells #[v0, .int .i64 0] 66 (0, 0))) :
    Calls Try.prog 38 #[.pointer (some ⟨g, 0, none⟩), .int .i64 e'] w fun en w' => en = .returned (.tuple #[]) ∧ w'.heap[g]? = some (.cells #[.slice none 0 0, .int .i64 e'] 66 (0, 0)) ∧ w.grownBy w' (some g) := by
  have hz0 : w.cell? ⟨g, 0, none⟩ = some v0 := (blk_cell h1 0).trans rfl
  have hz1 : w.cell? ⟨g, 1, none⟩ = some (.int .i64 0) := (blk_cell h1 1).trans rfl
  have hf0 := blk_frozen h1 0
  have hf1 := blk_frozen h1 1
  have H1 := Aside0.mk h1
  clear h1
  go_enter Try.func38, Try.ntmps38
  go_wp2
  go_end0
  exact ⟨rfl, blk_put (blk_put H1.out 0 _ rfl) 1 _ rfl, grown_trans (grown_set _ _ _) (grown_set _ ⟨g, 1, none⟩ _)⟩

set_option maxHeartbeats 800000 in
set_option maxRecDepth 100000 in
theorem left_any (g : Nat) (S : Nat → Prop) (l : List Int) (e : Int) (w : World) (h : RdS w g S l e) :
    Calls Try.prog 24 #[.pointer (some ⟨g, 0, none⟩)] w fun en w' => en = .returned (.int .i64 l.length) ∧ Drawn0 w w' := by
  obtain ⟨A, c, h1, h2, h3⟩ := h
  have hz0 : w.cell? ⟨g, 0, none⟩ = some (.slice A l.length c) := (blk_cell h1 0).trans rfl
  have hf0 := blk_frozen h1 0
  clear h1 h2 h3
  go_enter Try.func24, Try.ntmps24
  go_wp2
  go_ret
  exact ⟨rfl, Drawn0.refl _⟩
def endE (l : List Int) (e : Int) : Int := if e = 0 then (if 0 < l.length then 4 else 0) else e
set_option maxHeartbeats 800000 in
set_option maxRecDepth 100000 in
theorem end_any (g : Nat) (S : Nat → Prop) (l : List Int) (e : Int) (w : World) (h : RdS w g S l e) :
    Calls Try.prog 26 #[.pointer (some ⟨g, 0, none⟩)] w fun en w' => en = .returned (.int .i64 (endE l e)) ∧ Drawn0 w w' := by
  obtain ⟨A, c, h1, h2, h3⟩ := h
  have hz0 : w.cell? ⟨g, 0, none⟩ = some (.slice A l.length c) := (blk_cell h1 0).trans rfl
  have hz1 : w.cell? ⟨g, 1, none⟩ = some (.int .i64 e) := (blk_cell h1 1).trans rfl
  have hf0 := blk_frozen h1 0
  have hf1 := blk_frozen h1 1
  clear h1 h2 h3
  by_cases he : e = 0
  · subst he
    by_cases hl : 0 < l.length
    · have hb : decide (0 < l.length) = true := decide_eq_true hl
      have hE : Aside0 (endE l 0 = 4) := ⟨by simp [endE, hl]⟩
      clear hl
      go_enter Try.func26, Try.ntmps26
      go_wp2
      go_ret
      exact ⟨by rw [hE.out]; rfl, Drawn0.refl _⟩
    · have hb : decide (0 < l.length) = false := decide_eq_false hl
      have hE : Aside0 (endE l 0 = 0) := ⟨by simp [endE, hl]⟩
      clear hl
      go_enter Try.func26, Try.ntmps26
      go_wp2
      go_ret
      exact ⟨by rw [hE.out]; rfl, Drawn0.refl _⟩
  · have he1 : (e == 0) = false := by simpa using he
    have hE : Aside0 (endE l e = e) := ⟨by simp [endE, he]⟩
    clear he
    go_enter Try.func26, Try.ntmps26
    go_wp2
    go_ret
    exact ⟨by rw [hE.out]; rfl, Drawn0.refl _⟩

theorem rds_cut {T : Nat} {W : World} {g : Nat} {S : Nat → Prop} {l : List Int} {e : Int} {A A' : Option Addr} {c c' k : Nat} (hS : S g) (h1 : W.heap[g]? = some (.cells #[.slice A l.length c, .int .i64 e] T (0, 0))) (h2 : l.length ≤ c) (h3 : Kd.F (Kd.int .u8) W (fun k => ¬ S k) A l.length l) (hk : k ≤ l.length) (hA : A' = if c = k then A else A.map (·.add k)) (hc : c' = c - k) :
    RdT T (W.setCell ⟨g, 0, none⟩ (.slice A' (l.length - k) c')) g S (l.drop k) e := by
  subst hA hc
  have h4 := Kd.F_cut h3 hk h2
  refine ⟨_, _, blk_put h1 0 _ (by rw [List.length_drop]; rfl), by rw [List.length_drop]; omega, ?_⟩
  have e1 : (Kd.int .u8).sz = 1 := rfl
  rw [e1, Nat.mul_one] at h4
  exact Kd.F_far h4 (p := ⟨g, 0, none⟩) (fun j hj he => hj (by rw [he]; exact hS)) _
theorem rds_nil {T : Nat} {W : World} {g : Nat} {S : Nat → Prop} {e : Int} (h : W.heap[g]? = some (.cells #[.slice none 0 0, .int .i64 e] T (0, 0))) : RdT T W g S [] e :=
  ⟨none, 0, h, Nat.le_refl _, Kd.F_nil _ _ _⟩
/-- What a number's reading answers and leaves, of a reader's bytes and what went wrong. -/
def numE (l : List Int) (most : Int) : Int := match octet_Take.f l with
  | some (n, _, e) => if e = 0 then (if most < n then 5 else 0) else e
  | none => 0
def numN (l : List Int) : Int := match octet_Take.f l with
  | some (n, _, _) => n
  | none => 0
def numK (l : List Int) : Nat := match octet_Take.f l with
  | some (_, k, _) => k.toNat
  | none => 0
theorem take_k (l : List Int) (n k : Int) (h : octet_Take.f l = some (n, k, 0)) : 1 ≤ k ∧ k ≤ l.length := by
  unfold octet_Take.f at h
  split at h
  · split at h
    · simp at h
    · split at h
      · simp at h
      · split at h
        · have e2 : ((2 ^ (rd l 0 / 64).toNat : Nat) : Int) = k := by
            have := Option.some.inj h
            exact congrArg (fun x => x.2.1) this
          have : 1 ≤ 2 ^ (rd l 0 / 64).toNat := Nat.one_le_two_pow
          omega
        · simp at h
  · simp at h
theorem take_some {l : List Int} (h : l.all byteB = true) : ∃ n k e, octet_Take.f l = some (n, k, e) := by
  unfold octet_Take.f
  rw [if_pos h]
  split
  · exact ⟨_, _, _, rfl⟩
  · split
    · exact ⟨_, _, _, rfl⟩
    · split <;> exact ⟨_, _, _, rfl⟩
set_option maxHeartbeats 800000 in
set_option maxRecDepth 100000 in
theorem num_ok (g : Nat) (S : Nat → Prop) (l : List Int) (e most n k : Int) (w : World) (h : RdS w g S l e) (hS : S g) (ht : octet_Take.f l = some (n, k, 0)) (hn : n ≤ most) :
    Calls Try.prog 22 #[.pointer (some ⟨g, 0, none⟩), .int .u64 most] w fun en w' => en = .returned (.int .u64 n) ∧ RdS w' g S (l.drop k.toNat) e ∧ w.grownBy w' (some g) := by
  obtain ⟨A, c, h1, h2, h3⟩ := h
  have hz0 : w.cell? ⟨g, 0, none⟩ = some (.slice A l.length c) := (blk_cell h1 0).trans rfl
  have hf0 := blk_frozen h1 0
  have H1 := Aside0.mk h1
  have H3 := Aside0.mk h3
  have H2 := Aside0.mk h2
  obtain ⟨k1, k2⟩ := take_k l n k ht
  have HT := Aside0.mk ht
  have HS := Aside0.mk hS
  obtain ⟨k, rfl⟩ : ∃ j : Nat, k = j := ⟨k.toNat, by omega⟩
  clear h1 h3 ht hS h2
  have hgt : decide (most < n) = false := by simp; exact hn
  go_enter Try.func22, Try.ntmps22
  go_wp2_with (go_at_call 12; refine (octet_Take.calls _ _ _ _ _ _ _ (Kd.F_now H3.out) H2.out HT.out).mono ?_; rintro e w' ⟨rfl, ⟨q, rfl⟩⟩)
  all_goals
    go_ret
    refine ⟨rfl, ?_, grown_trans (grown_drawn ⟨⟨q, rfl⟩⟩ _) (grown_set _ ⟨g, 0, none⟩ _)⟩
  · exact rds_cut HS.out (W := w.drewN q) H1.out H2.out (Kd.F_drewN H3.out q) (by omega) (if_pos h).symm (by omega)
  · exact rds_cut HS.out (W := w.drewN q) H1.out H2.out (Kd.F_drewN H3.out q) (by omega) (if_neg h).symm rfl
set_option maxHeartbeats 800000 in
set_option maxRecDepth 100000 in
theorem num_big (g : Nat) (S : Nat → Prop) (l : List Int) (e most n k : Int) (w : World) (h : RdS w g S l e) (hS : S g) (ht : octet_Take.f l = some (n, k, 0)) (hn : most < n) (he : e = 0) :
    Calls Try.prog 22 #[.pointer (some ⟨g, 0, none⟩), .int .u64 most] w fun en w' => en = .returned (.int .u64 0) ∧ RdS w' g S [] 5 ∧ w.grownBy w' (some g) := by
  subst he
  obtain ⟨A, c, h1, h2, h3⟩ := h
  have hz0 : w.cell? ⟨g, 0, none⟩ = some (.slice A l.length c) := (blk_cell h1 0).trans rfl
  have hf0 := blk_frozen h1 0
  have H1 := Aside0.mk h1
  have H3 := Aside0.mk h3
  have H2 := Aside0.mk h2
  have HT := Aside0.mk ht
  have HS := Aside0.mk hS
  clear h1 h3 ht hS h2
  have hgt : decide (most < n) = true := by simp; exact hn
  go_enter Try.func22, Try.ntmps22
  go_wp2_with (first | (go_at_call 12; refine (octet_Take.calls _ _ _ _ _ _ _ (Kd.F_now H3.out) H2.out HT.out).mono ?_; rintro e w' ⟨rfl, ⟨q, rfl⟩⟩) | (go_at_call 38; refine (wrong_ok g 5 (w.drewN q) _ H1.out).mono ?_; rintro e w' ⟨rfl, hb, hg⟩))
  go_ret
  exact ⟨rfl, rds_nil hb, grown_trans (grown_drawn ⟨⟨q, rfl⟩⟩ _) hg⟩
set_option maxHeartbeats 800000 in
set_option maxRecDepth 100000 in
theorem num_err (g : Nat) (S : Nat → Prop) (l : List Int) (most n k er : Int) (w : World) (h : RdS w g S l 0) (hS : S g) (ht : octet_Take.f l = some (n, k, er)) (hn : er ≠ 0) :
    Calls Try.prog 22 #[.pointer (some ⟨g, 0, none⟩), .int .u64 most] w fun en w' => en = .returned (.int .u64 0) ∧ RdS w' g S [] er ∧ w.grownBy w' (some g) := by
  obtain ⟨A, c, h1, h2, h3⟩ := h
  have hz0 : w.cell? ⟨g, 0, none⟩ = some (.slice A l.length c) := (blk_cell h1 0).trans rfl
  have hf0 := blk_frozen h1 0
  have H1 := Aside0.mk h1
  have H3 := Aside0.mk h3
  have H2 := Aside0.mk h2
  have HT := Aside0.mk ht
  have HS := Aside0.mk hS
  clear h1 h3 ht hS h2
  have hb1 : (er == 0) = false := by simpa using hn
  have hb2 : (er != 0) = true := by simpa using hn
  clear hn
  go_enter Try.func22, Try.ntmps22
  go_wp2_with (first | (go_at_call 12; refine (octet_Take.calls _ _ _ _ _ _ _ (Kd.F_now H3.out) H2.out HT.out).mono ?_; rintro e w' ⟨rfl, ⟨q, rfl⟩⟩) | (go_at_call 38; refine (wrong_ok g er (w.drewN q) _ H1.out).mono ?_; rintro e w' ⟨rfl, hb, hg⟩))
  go_ret
  exact ⟨rfl, rds_nil hb, grown_trans (grown_drawn ⟨⟨q, rfl⟩⟩ _) hg⟩
set_option maxHeartbeats 800000 in
set_option maxRecDepth 100000 in
/-- Behind something that went wrong nothing is left. -/
theorem num_gone (g : Nat) (S : Nat → Prop) (e most : Int) (w : World) (h : RdS w g S [] e) (hS : S g) (he : e ≠ 0) :
    Calls Try.prog 22 #[.pointer (some ⟨g, 0, none⟩), .int .u64 most] w fun en w' => en = .returned (.int .u64 0) ∧ RdS w' g S [] e ∧ w.grownBy w' (some g) := by
  have HR := Aside0.mk h
  obtain ⟨A, c, h1, h2, h3⟩ := h
  have hz0 : w.cell? ⟨g, 0, none⟩ = some (.slice A 0 c) := (blk_cell h1 0).trans rfl
  have hf0 := blk_frozen h1 0
  have H1 := Aside0.mk h1
  have H3 := Aside0.mk h3
  have H2 := Aside0.mk h2
  have HT : Aside0 (octet_Take.f [] = some (0, 0, 3)) := ⟨by decide⟩
  have HE := Aside0.mk he
  clear h1 h3 hS h2 he
  go_enter Try.func22, Try.ntmps22
  go_wp2_with (first | (go_at_call 12; refine (octet_Take.calls _ _ [] _ _ _ _ (Kd.F_now H3.out) H2.out HT.out).mono ?_; rintro e w' ⟨rfl, ⟨q, rfl⟩⟩) | (go_at_call 38; refine (wrong_no g e 3 (w.drewN q) _ H1.out HE.out).mono ?_; rintro e w' ⟨rfl, ⟨q2, rfl⟩⟩))
  go_ret
  exact ⟨rfl, HR.out.drawn ⟨⟨q + q2, rfl⟩⟩, grown_drawn ⟨⟨q + q2, rfl⟩⟩ _⟩
set_option maxHeartbeats 800000 in
set_option maxRecDepth 100000 in
theorem eight_short (g : Nat) (S : Nat → Prop) (l : List Int) (w : World) (h : RdS w g S l 0) (hS : S g) (hl : l.length < 8) :
    Calls Try.prog 20 #[.pointer (some ⟨g, 0, none⟩)] w fun en w' => en = .returned (.int .u64 0) ∧ RdS w' g S [] 3 ∧ w.grownBy w' (some g) := by
  obtain ⟨A, c, h1, h2, h3⟩ := h
  have hz0 : w.cell? ⟨g, 0, none⟩ = some (.slice A l.length c) := (blk_cell h1 0).trans rfl
  have hf0 := blk_frozen h1 0
  have H1 := Aside0.mk h1
  clear h1 h3 hS h2
  have hb1 : decide (l.length < 8) = true := decide_eq_true hl
  go_enter Try.func20, Try.ntmps20
  go_wp2_with (first | (go_at_call 38; refine (wrong_ok g 3 w _ H1.out).mono ?_; rintro e w' ⟨rfl, hb, hg⟩))
  go_ret
  exact ⟨rfl, rds_nil hb, hg⟩
set_option maxHeartbeats 800000 in
set_option maxRecDepth 100000 in
theorem eight_gone (g : Nat) (S : Nat → Prop) (e : Int) (w : World) (h : RdS w g S [] e) (he : e ≠ 0) :
    Calls Try.prog 20 #[.pointer (some ⟨g, 0, none⟩)] w fun en w' => en = .returned (.int .u64 0) ∧ RdS w' g S [] e ∧ w.grownBy w' (some g) := by
  have HR := Aside0.mk h
  obtain ⟨A, c, h1, h2, h3⟩ := h
  have hz0 : w.cell? ⟨g, 0, none⟩ = some (.slice A 0 c) := (blk_cell h1 0).trans rfl
  have hf0 := blk_frozen h1 0
  have H1 := Aside0.mk h1
  have HE := Aside0.mk he
  clear h1 h3 h2 he
  go_enter Try.func20, Try.ntmps20
  go_wp2_with (first | (go_at_call 38; refine (wrong_no g e 3 w _ H1.out HE.out).mono ?_; rintro e w' ⟨rfl, ⟨q2, rfl⟩⟩))
  go_ret
  exact ⟨rfl, HR.out.drawn ⟨⟨q2, rfl⟩⟩, grown_drawn ⟨⟨q2, rfl⟩⟩ _⟩
theorem rd_take (l : List Int) (m k : Nat) (h : k < m) : rd (l.take m) k = rd l k := by
  unfold rd
  simp [List.getD_eq_getElem?_getD, List.getElem?_take, h]
set_option maxHeartbeats 800000 in
set_option maxRecDepth 100000 in
theorem eight_ok (g : Nat) (S : Nat → Prop) (l : List Int) (e : Int) (w : World) (h : RdS w g S l e) (hS : S g) (hl : 8 ≤ l.length) (hb : l.all byteB = true) :
    Calls Try.prog 20 #[.pointer (some ⟨g, 0, none⟩)] w fun en w' => en = .returned (.int .u64 (foldB (l.take 8) 0)) ∧ RdS w' g S (l.drop 8) e ∧ w.grownBy w' (some g) := by
  obtain ⟨A, c, h1, h2, h3⟩ := h
  have hz0 : w.cell? ⟨g, 0, none⟩ = some (.slice A l.length c) := (blk_cell h1 0).trans rfl
  have hf0 := blk_frozen h1 0
  have H1 := Aside0.mk h1
  have H3 := Aside0.mk h3
  have H2 := Aside0.mk h2
  have HS := Aside0.mk hS
  have HR := Aside0.mk (Kd.F_now h3)
  have HA := Aside0.mk hb
  have hb1 : decide (l.length < 8) = false := decide_eq_false (by omega)
  have hc8 : 8 ≤ c := by omega
  have hc8' : (8 : Int) ≤ c := by omega
  have hl8' : (8 : Int) ≤ l.length := by omega
  clear h1 h3 hS h2 hb
  go_enter Try.func20, Try.ntmps20
  go_wp2
  go_loop [3, 5, 20] (fun a v i => ∃ k : Nat, k ≤ 8 ∧ i = .int .i64 k ∧ a = .int .u64 (foldB (l.take k) 0)) (fun _ _ i => 8 - (intOf i).toNat)
  case atStart => exact ⟨0, Nat.zero_le _, rfl, rfl⟩
  case round =>
    obtain ⟨k, hk, rfl, rfl⟩ := hrel
    by_cases hlt : k < 8
    · have HFb : Aside0 (0 ≤ foldB (l.take k) 0 ∧ foldB (l.take k) 0 < 2 ^ 56) := ⟨by
        have h2 := foldB_bound (all_take HA.out k) 0 0 (by omega) (by omega)
        refine ⟨h2.1, Int.lt_of_lt_of_le h2.2 ?_⟩
        have h3 : (l.take k).length ≤ k := List.length_take_le _ _
        exact pow2_le (by omega)⟩
      obtain ⟨N, hN⟩ : ∃ N, N = foldB (l.take k) 0 := ⟨_, rfl⟩
      rw [← hN] at HFb
      rw [← hN]
      obtain ⟨c1, c2⟩ := HFb.out
      have HN := Aside0.mk hN
      clear hN HFb
      obtain ⟨ad1, e1, hx1⟩ := Kd.at_int HR.out k (by omega) (by omega)
      subst e1
      rw [show (k : Int).toNat = k by omega] at hx1
      obtain ⟨b1, b2⟩ := rd_byte HA.out k
      have hlt' : (k : Int) < 8 := by omega
      go_wp2
      go_round
      case rel => exact ⟨k + 1, by omega, by go_num, by
        rw [or8 _ _ c1 (by omega) b1 b2, HN.out, List.take_succ_eq_append_getElem (by omega), foldB_snoc]
        have e : rd l k = l[k]'(by omega) := by
          unfold rd
          rw [show (k : Int).toNat = k by omega]
          simp [List.getD_eq_getElem?_getD]
          rw [List.getElem?_eq_getElem (by omega)]; rfl
        rw [e]⟩
      case measure => simp [intOf]; omega
    · obtain rfl : k = 8 := by omega
      go_wp2
      all_goals
        go_ret
        refine ⟨rfl, ?_, grown_set _ ⟨g, 0, none⟩ _⟩
      · exact rds_cut HS.out (W := w) H1.out H2.out H3.out (by omega) (if_pos ‹_›).symm (by omega)
      · exact rds_cut HS.out (W := w) H1.out H2.out H3.out (by omega) (if_neg ‹_›).symm rfl
set_option maxHeartbeats 800000 in
set_option maxRecDepth 100000 in
theorem new_any (A : Option Addr) (c : Nat) (l : List Int) (w : World) (hr : Kd.C (Kd.int .u8) w A l.length l) (hc : l.length ≤ c) (hl : l.length ≤ 140737488355328) :
    Calls Try.prog 19 #[.slice A l.length c] w fun en w' => ∃ g, en = .returned (.pointer (some ⟨g, 0, none⟩)) ∧ w.heap.size ≤ g ∧ g < w'.heap.size ∧ (∀ S : Nat → Prop, (∀ k, S k → k < w.heap.size ∨ g ≤ k) → RdS w' g S l 0) ∧ Below w.heap.size w w' := by
  have HR := Aside0.mk hr
  have HC := Aside0.mk hc
  have HL : Aside0 (slices_Clone_byte_byte.f l = some l) := ⟨by unfold slices_Clone_byte_byte.f; rw [if_pos hl]⟩
  clear hr hc hl
  go_enter Try.func19, Try.ntmps19
  go_wp2_with (first | (go_at_call 37; refine (slices_Clone_byte_byte.calls _ _ _ _ _ HR.out HC.out HL.out).mono ?_; rintro e w' ⟨v, rfl, ho, hb⟩; obtain ⟨A1, c1, ev⟩ := Kd.R_slice ho; subst ev; have HO := Aside0.mk ho; have HB := Aside0.mk hb; clear ho hb))
  go_ret
  refine ⟨w'.heap.size, rfl, HB.out.size, by simp, fun S hS => ⟨A1, c1, blk_new w' _, (Kd.R_reads' HO.out).2.1, ?_⟩, below_alloc HB.out _⟩
  exact Kd.F_alloc (Kd.F_mono (Kd.R_F (R_foot HO.out)) (fun k hk hs => by have := hS k hs; omega)) _
end Go.Proofs.Ytblfcmjcdclijaa.Q
