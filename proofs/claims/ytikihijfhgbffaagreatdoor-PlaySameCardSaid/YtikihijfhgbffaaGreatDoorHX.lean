/- A node as a text: what tree.text tells. -/
import Derived.Test.YtikihijfhgbffaaGreatDoorHS
import Derived.WalkKit
import Derived.ProofKit
import Derived.Below
import Derived.Shelf.Strings.Builder1
import Derived.Deep.RegionWith
import Derived.Deep.Cut
import Derived.Deep.CutRange
import Derived.Lib.ItoaLen
set_option linter.unusedVariables false
set_option linter.unusedSimpArgs false
namespace Go.Proofs.YtikihijfhgbffaaGreatDoor.treeText
open Go.RowKit
set_option linter.unusedSimpArgs false
set_option linter.unusedVariables false
set_option maxRecDepth 100000
def bR : Go.Shelf.Ren := ⟨fun | 166 => 113 | 240 => 128 | 276 => 152 | n => n, fun | 0 => 0 | 3 => 3 | 4 => 4 | 5 => 5 | 9 => 9 | 20 => 20 | 37 => 135 | 70 => 134 | 72 => 137 | 75 => 139 | 164 => 171 | 80 => 143 | n => n, fun n => n⟩
theorem bL : Go.Proofs.Lays.n166 Tryz.prog bR := {
 mixed := by kernel_rfl
 f166 := Tryz.func113.trans (congrArg some (by kernel_rfl))
 f240 := Tryz.func128.trans (congrArg some (by kernel_rfl))
 f276 := Tryz.func152.trans (congrArg some (by kernel_rfl))
 t0 := Tryz.underlying0
 a0 := Tryz.isAgg0
 z0 := Tryz.sizeOf0
 v0 := Tryz.zeroValue0
 t3 := Tryz.underlying3
 a3 := Tryz.isAgg3
 z3 := Tryz.sizeOf3
 v3 := Tryz.zeroValue3
 t4 := Tryz.underlying4
 a4 := Tryz.isAgg4
 z4 := Tryz.sizeOf4
 v4 := Tryz.zeroValue4
 t9 := Tryz.underlying9
 a9 := Tryz.isAgg9
 z9 := Tryz.sizeOf9
 v9 := Tryz.zeroValue9
 t20 := Tryz.underlying20
 a20 := Tryz.isAgg20
 z20 := Tryz.sizeOf20
 v20 := Tryz.zeroValue20
 t37 := Tryz.underlying135
 a37 := Tryz.isAgg135
 z37 := Tryz.sizeOf135
 v37 := Tryz.zeroValue135
 t70 := Tryz.underlying134
 a70 := Tryz.isAgg134
 z70 := Tryz.sizeOf134
 v70 := Tryz.zeroValue134
 t72 := Tryz.underlying137
 a72 := Tryz.isAgg137
 z72 := Tryz.sizeOf137
 v72 := Tryz.zeroValue137
 t75 := Tryz.underlying139
 a75 := Tryz.isAgg139
 z75 := Tryz.sizeOf139
 v75 := Tryz.zeroValue139
 t164 := Tryz.underlying171
 a164 := Tryz.isAgg171
 z164 := Tryz.sizeOf171
 v164 := Tryz.zeroValue171 }
theorem bX : Builder.Extra Tryz.prog bR := {
 sizeBuilder := by kernel_rfl
 liesBuilder := by kernel_rfl
 t5 := Tryz.underlying5
 a5 := Tryz.isAgg5
 z5 := Tryz.sizeOf5
 v5 := Tryz.zeroValue5
 infoByte := by kernel_rfl
 cellsByte := by kernel_rfl
 sizeByte := by kernel_rfl
 neB5 := by decide }
theorem wstr (B b : Nat) (bs : List Value) (s : ByteArray) (w : World) (h : Lib.IsBuilder 137 5 B b bs w) (hlen : bs.length + s.size ≤ 140737488355328) (hBw : B ≤ w.heap.size) :
  Calls Tryz.prog 113 #[.pointer (some ⟨b, 0, none⟩), .string s] w fun e w' => e = .returned (.tuple #[.int .i64 s.size, .nilIface]) ∧ (Lib.BuilderAt 137 5 B b (.pointer (some ⟨b, 0, none⟩)) (bs ++ Lib.strCells s) w' ∧ Below B w w') := Any.Builder_WriteString bL bX B b bs s w h hlen hBw
/-- The library's table of tens is as it was laid. -/
def G (w : World) : Prop := Lib.TabIs Tryz.prog w "internal/strconv.uint64pow10" .u64 Lib.pow10Tab
theorem G.below {B : Nat} {w w' : World} (h : G w) (hb : Below B w w') (hB : 4 ≤ B) : G w' := by
 have hg : Tryz.prog.globalNamed "internal/strconv.uint64pow10" = some 3 := by kernel_rfl
 unfold G Lib.TabIs World.var? at h ⊢
 rw [hg] at h ⊢
 simp only [Option.bind_eq_bind, Option.bind_some] at h ⊢
 rw [hb.block 3 (by omega)]
 exact h
theorem itoa (n : Int) (h0 : -9223372036854775808 ≤ n) (h1 : n ≤ 9223372036854775807) (w : World) (hG : G w) : Calls Tryz.prog 114 #[.int .i64 n] w fun e w' => e = .returned (.string ⟨(Lib.itoa n).toArray⟩) ∧ Below w.heap.size w w' := by
 refine (Tryz.strconv_Itoa n h0 h1 w hG).mono fun e w' ⟨h, k, os, hw⟩ => ⟨h, ?_⟩
 subst hw
 exact ⟨rfl, rfl, rfl, by simp [Sort.grow, World.drewN], fun j hj => by simp [Sort.grow, World.drewN]; exact Array.getElem?_append_left hj⟩
end Go.Proofs.YtikihijfhgbffaaGreatDoor.treeText
namespace Go.Proofs.YtikihijfhgbffaaGreatDoor.treeText
open Go.RowKit
set_option linter.unusedSimpArgs false
set_option linter.unusedVariables false
set_option maxRecDepth 100000
set_option maxHeartbeats 16000000
def cat (b : List UInt8) (kids : List Int) : List UInt8 := kids.foldl (fun b k => b ++ (32 :: Lib.itoa k)) b
def textB (kind pick : Int) (kids : List Int) : List UInt8 := cat (Lib.itoa kind ++ [32] ++ Lib.itoa pick) kids
/-- what lies below the builder's buffer: the node, the builder -/
abbrev laid (kind pick : Int) (v : Value) (w : World) : World := (w.alloc (.cells #[.int .i64 kind, .int .i64 pick, v] 51)).alloc (.cells #[.pointer none, .slice none 0 0] 137)
theorem alloc_heap (u : World) (o : Obj) : (u.alloc o).heap = u.heap.push o := rfl
theorem alloc_size (u : World) (o : Obj) : (u.alloc o).heap.size = u.heap.size + 1 := by rw [alloc_heap, Array.size_push]
theorem laid_size {kind pick : Int} {v : Value} {w : World} : (laid kind pick v w).heap.size = w.heap.size + 2 := by rw [alloc_size, alloc_size]
theorem laid_cells {kind pick : Int} {v : Value} {w W : World} (h : Below (w.heap.size + 2) (laid kind pick v w) W) : W.cell? ⟨w.heap.size, 0, none⟩ = some (.int .i64 kind) ∧ W.cell? ⟨w.heap.size, 1, none⟩ = some (.int .i64 pick) ∧ W.cell? ⟨w.heap.size, 2, none⟩ = some v ∧ Lib.IsBuilder 137 5 (w.heap.size + 1) (w.heap.size + 1) [] W ∧ w.heap.size + 2 ≤ W.heap.size ∧ Below w.heap.size w W := by
 have b0 : (laid kind pick v w).heap[w.heap.size]? = some (.cells #[.int .i64 kind, .int .i64 pick, v] 51) := by
  rw [Below.heap_alloc _ _ _ (by rw [alloc_size]; omega), alloc_heap, Array.getElem?_push_size]
 have b1 : (laid kind pick v w).heap[w.heap.size + 1]? = some (.cells #[.pointer none, .slice none 0 0] 137) := by
  rw [show w.heap.size + 1 = (w.alloc (.cells #[.int .i64 kind, .int .i64 pick, v] 51)).heap.size from (alloc_size _ _).symm, alloc_heap, Array.getElem?_push_size]
 have e0 := (h.block w.heap.size (by omega)).trans b0
 have e1 := (h.block (w.heap.size + 1) (by omega)).trans b1
 have hs := h.size
 rw [laid_size] at hs
 refine ⟨by rw [Lib.cell_of_heap e0]; rfl, by rw [Lib.cell_of_heap e0]; rfl, by rw [Lib.cell_of_heap e0]; rfl, .inl ⟨Nat.le_refl _, .slice none 0 0, e1, ?_, by simp [Value.ownBlock]⟩, by omega, ?_⟩
 ·exact ⟨rfl, .inl ⟨rfl, rfl⟩⟩
 ·exact ((((Below.refl _ w).alloc (Nat.le_refl _) _).alloc (by rw [alloc_size]; omega) _)).trans (h.mono (by omega))
theorem itoaP {B : Nat} {w0 W : World} (n : Int) (h0 : -9223372036854775808 ≤ n ∧ n ≤ 9223372036854775807) (hG : G w0) (hB : 4 ≤ B) (hb : Below B w0 W) (hs : B ≤ W.heap.size) : Calls Tryz.prog 114 #[.int .i64 n] W fun e w' => e = .returned (.string ⟨(Lib.itoa n).toArray⟩) ∧ Below B w0 w' ∧ B ≤ w'.heap.size := by
 refine (itoa n h0.1 h0.2 W (hG.below hb hB)).mono fun e w' ⟨h1, h2⟩ => ⟨h1, hb.trans (h2.mono hs), Nat.le_trans hs h2.size⟩
theorem sz3 (a b : List UInt8) : ((⟨a.toArray⟩ : ByteArray) ++ ⟨#[32]⟩ ++ ⟨b.toArray⟩).size = a.length + 1 + b.length := by
 rw [ByteArray.size_append, ByteArray.size_append]
 simp [ByteArray.size]
theorem cat_len (kids : List Int) (hk : ∀ k ∈ kids, -9223372036854775808 ≤ k ∧ k ≤ 9223372036854775807) : ∀ (b : List UInt8), (cat b kids).length ≤ b.length + 22 * kids.length := by
 induction kids with
 | nil => intro b; simp [cat]
 | cons k r ih =>
  intro b
  have h1 := ih (fun x hx => hk x (by simp [hx])) (b ++ (32 :: Lib.itoa k))
  have h2 := hk k (by simp)
  have h3 := Lib.itoa_length_le k h2.1 h2.2
  simp only [cat, List.foldl_cons, List.length_append, List.length_cons] at h1 ⊢
  omega
theorem cat_take (b : List UInt8) (kids : List Int) (k : Nat) (h : k < kids.length) : cat b (kids.take (k + 1)) = cat b (kids.take k) ++ (32 :: Lib.itoa kids[k]) := by
 unfold cat
 rw [← List.take_append_getElem h, List.foldl_append]
 rfl
theorem sz2 (a : List UInt8) : ((⟨#[32]⟩ : ByteArray) ++ ⟨a.toArray⟩).size = 1 + a.length := by
 rw [ByteArray.size_append]
 simp [ByteArray.size]
theorem by2 (a : List UInt8) : ((⟨#[32]⟩ : ByteArray) ++ ⟨a.toArray⟩).data.toList = 32 :: a := by
 simp [ByteArray.data_append]
theorem by3 (a b : List UInt8) : ((⟨a.toArray⟩ : ByteArray) ++ ⟨#[32]⟩ ++ ⟨b.toArray⟩).data.toList = a ++ [32] ++ b := by
 simp [ByteArray.data_append]
theorem ahead {T e : TypeId} {B b : Nat} {p : Value} {bs : List Value} {w w' : World} (h : Lib.BuilderAt T e B b p bs w) (hb : Below w.heap.size w w') : Lib.BuilderAt T e B b p bs w' := by
 have hlt := h.lt
 obtain ⟨hB, v, h1, ⟨h2, h3⟩, h4⟩ := h
 refine ⟨hB, v, (hb.block b hlt).trans h1, ⟨h2, ?_⟩, h4⟩
 rcases h3 with h3 | ⟨g, cap, cur, q1, q2, q3, q4, q5, q6, q7⟩
 ·exact .inl h3
 ·have hg : g < w.heap.size := by
   rcases Nat.lt_or_ge g w.heap.size with h' | h'
   ·exact h'
   ·simp [Array.getElem?_eq_none h'] at q3
  exact .inr ⟨g, cap, cur, q1, q2, (hb.block g hg).trans q3, q4, q5, q6, q7⟩
theorem add_blk (a : Addr) (n : Nat) : (a.add n).block = a.block := by unfold Addr.add; split <;> rfl
theorem text_walk (kind pick : Int) (kids : List Int) (h0 : -9223372036854775808 ≤ kind ∧ kind ≤ 9223372036854775807) (h1 : -9223372036854775808 ≤ pick ∧ pick ≤ 9223372036854775807) (hk : ∀ k ∈ kids, -9223372036854775808 ≤ k ∧ k ≤ 9223372036854775807) (hn : kids.length ≤ 1000000) (A : Option Addr) (c : Nat) (w : World) (hG : G w) (hsz : 4 ≤ w.heap.size)
  (hc : ∀ j (hj : j < kids.length), ∃ ad : Addr, A = some ad ∧ ad.block < w.heap.size ∧ w.cell? (ad.add j) = some (.int .i64 kids[j])) (hcap : kids.length ≤ c) :
  Calls Tryz.prog 91 #[.agg #[.int .i64 kind, .int .i64 pick, .slice A kids.length c]] w fun e w' => e = .returned (.string ⟨(textB kind pick kids).toArray⟩) ∧ Below w.heap.size w w' := by
 have hG2 : G (laid kind pick (.slice A kids.length c) w) := hG.below (((Below.refl _ w).alloc (Nat.le_refl _) _).alloc (by rw [alloc_size]; omega) _) hsz
 have hb0 : Below (w.heap.size + 2) (laid kind pick (.slice A kids.length c) w) (laid kind pick (.slice A kids.length c) w).drew := (Below.refl _ _).drew
 have hs0 : w.heap.size + 2 ≤ (laid kind pick (.slice A kids.length c) w).drew.heap.size := Nat.le_of_eq laid_size.symm
 have hbs := sz3 (Lib.itoa kind) (Lib.itoa pick)
 have hl0 := Lib.itoa_length_le kind h0.1 h0.2
 have hl1 := Lib.itoa_length_le pick h1.1 h1.2
 go_enter Tryz.func91, Tryz.ntmps91
 go_wp2_with fail
 go_cut [2] from 6 to 14 (fun v2 wr => v2 = .string ⟨#[]⟩ ∧ Hid (Lib.BuilderAt 137 5 (w.heap.size + 1) (w.heap.size + 1) (.pointer (some ⟨w.heap.size + 1, 0, none⟩)) (Lib.byteCells (Lib.itoa kind ++ [32] ++ Lib.itoa pick)) wr) ∧ Hid (Below w.heap.size w wr) ∧ wr.cell? ⟨w.heap.size, 2, none⟩ = some (.slice A kids.length c) ∧ w.heap.size + 2 ≤ wr.heap.size)
 case first =>
  go_region_with (first
   | (go_at_call 114; refine (itoaP (B := w.heap.size + 2) _ (by assumption) hG2 (by omega) (by first | exact hb0 | assumption) (by first | exact hs0 | assumption)).mono ?_; rintro e wi ⟨rfl, hbi, hsi⟩; obtain ⟨k0, k1, k2, k3, k4, k5⟩ := laid_cells hbi)
   | (go_at_call 113; refine (wstr (w.heap.size + 1) (w.heap.size + 1) [] _ _ (by assumption) (by rw [hbs]; simp only [List.length_nil]; omega) (by omega)).mono ?_; rintro e wj ⟨rfl, hbj, hsj⟩))
  all_goals (try go_wp2_with fail)
  all_goals go_meet
  all_goals (rw [List.nil_append, Lib.strCells_eq, by3] at hbj; exact ⟨rfl, hbj, k5.trans (hsj.mono (by omega)), (hsj.cell (by show w.heap.size < w.heap.size + 1; omega)).trans k2, Nat.le_trans k4 hsj.size⟩)
 case rest =>
  obtain ⟨rfl, hB, hW, hc2, hs2⟩ := hcut
  have HC : Hid (∀ j (hj : j < kids.length), ∃ ad : Addr, A = some ad ∧ ad.block < w.heap.size ∧ w.cell? (ad.add j) = some (.int .i64 kids[j])) := hc
  have HK : Hid (∀ k ∈ kids, -9223372036854775808 ≤ k ∧ k ≤ 9223372036854775807) := hk
  clear hc hk
  go_wp2_with fail
  go_loopw [5, 18] (fun v i wr => ∃ k : Nat, k ≤ kids.length ∧ i = .int .i64 k ∧ Hid (Lib.BuilderAt 137 5 (w.heap.size + 1) (w.heap.size + 1) (.pointer (some ⟨w.heap.size + 1, 0, none⟩)) (Lib.byteCells (cat (Lib.itoa kind ++ [32] ++ Lib.itoa pick) (kids.take k))) wr) ∧ Hid (Below w.heap.size w wr) ∧ w.heap.size + 2 ≤ wr.heap.size) (fun _ i _ => kids.length - (intOf i).toNat)
  case atStart => exact ⟨0, Nat.zero_le _, rfl, hB, hW, hs2⟩
  case round =>
   clear hB hW hc2
   obtain ⟨k, hkl, rfl, hB, hW, hs3⟩ := hrel
   by_cases hlt : k < kids.length
   ·obtain ⟨ad, rfl, had, hcell⟩ := HC k hlt
    have hlt2 : (k : Int) < kids.length := by omega
    have hcw : wr.cell? (ad.add k) = some (.int .i64 kids[k]) := (hW.cell (by rw [add_blk]; exact had)).trans hcell
    have hki := HK kids[k] (List.getElem_mem hlt)
    have hll := Lib.itoa_length_le kids[k] hki.1 hki.2
    have hbs2 := sz2 (Lib.itoa kids[k])
    have hcl := cat_len (kids.take k) (fun x hx => HK x (List.mem_of_mem_take hx)) (Lib.itoa kind ++ [32] ++ Lib.itoa pick)
    simp only [List.length_append, List.length_cons, List.length_nil, List.length_take] at hcl
    have hcl2 : (Lib.byteCells (cat (Lib.itoa kind ++ [32] ++ Lib.itoa pick) (kids.take k))).length ≤ 30000000 := by rw [Lib.byteCells_length]; omega
    have hGw : G wr := hG.below hW hsz
    clear HC hcell
    go_wp2_with (first
     | (go_at_call 114; refine (itoa kids[k] hki.1 hki.2 wr hGw).mono ?_; rintro e wi ⟨rfl, hbi⟩; have hB2 := ahead hB hbi; have hW2 := hW.trans (hbi.mono (by omega)); have hs4 := Nat.le_trans hs3 hbi.size)
     | (go_at_call 113; refine (wstr (w.heap.size + 1) (w.heap.size + 1) _ _ _ (.inr hB2) (by rw [hbs2]; omega) (by omega)).mono ?_; rintro e wj ⟨rfl, hbj, hsj⟩))
    rw [Lib.strCells_eq, by2] at hbj
    have hbj2 : Lib.BuilderAt 137 5 (w.heap.size + 1) (w.heap.size + 1) (.pointer (some ⟨w.heap.size + 1, 0, none⟩)) (Lib.byteCells (cat (Lib.itoa kind ++ [32] ++ Lib.itoa pick) (kids.take (k + 1)))) wj := by
     rw [cat_take _ _ _ hlt]
     simpa [Lib.byteCells] using hbj
    have hW3 := hW2.trans (hsj.mono (show w.heap.size ≤ w.heap.size + 1 by omega))
    have hs5 := Nat.le_trans hs4 hsj.size
    go_wp2
    go_roundw
    case rel => exact ⟨k + 1, by omega, by go_num, hbj2, hW3, hs5⟩
    case measure => simp [intOf]; omega
   ·obtain rfl : k = kids.length := by omega
    rw [List.take_length] at hB
    go_wp2_with (go_at_call 115; refine (Tryz.Builder_String_any (w.heap.size + 1) (w.heap.size + 1) _ _ (.inr hB) (by omega)).mono ?_; rintro e wj ⟨rfl, hsj⟩)
    go_ret
    exact ⟨by simp [textB], hW.trans (hsj.mono (by omega))⟩
end Go.Proofs.YtikihijfhgbffaaGreatDoor.treeText
