/-
  The claim's own texts, packed. Conditions: those typed in each theorem.
-/
import Derived.Test.YtcklofamaooegaaGreatDoorZHaak
import Derived.Test.YtcklofamaooegaaGreatDoorZHaae
import Derived.Test.YtcklofamaooegaaGreatDoorZHaaf
import Derived.ChangeSlices
namespace Go.Proofs.YtcklofamaooegaaGreatDoor
open Go.RowKit
set_option linter.unusedVariables false
theorem mask_i64 (k : Nat) (hk : k ≤ 62) (n : Int) (m : Int) (hm : m = 2 ^ k - 1) : bits BinOp.and IntKind.i64 n m = n % 2 ^ k := by
 subst hm
 have hp : (2 : Nat) ^ k ≤ 2 ^ 62 := Nat.pow_le_pow_right (by decide) hk
 have h1 : 1 ≤ (2 : Nat) ^ k := Nat.one_le_two_pow
 have e : ((2 : Int) ^ k) = ((2 ^ k : Nat) : Int) := by simp
 have hb : IntKind.i64.bits = 64 := rfl
 have e64 : (2 : Int) ^ 64 = 18446744073709551616 := by decide
 have e62 : (2 : Nat) ^ 62 = 4611686018427387904 := by decide
 have a1 : (BitVec.ofInt 64 n).toNat = (n % 18446744073709551616).toNat := by rw [BitVec.toNat_ofInt]; rfl
 have a2 : (BitVec.ofInt 64 ((2 : Int) ^ k - 1)).toNat = 2 ^ k - 1 := by
  rw [BitVec.toNat_ofInt]
  rw [e]
  show ((((2 ^ k : Nat) : Int) - 1) % ((18446744073709551616 : Nat) : Int)).toNat = _
  generalize (2 : Nat) ^ k = p at *
  omega
 have key : (BitVec.ofInt 64 n).toNat &&& (BitVec.ofInt 64 ((2 : Int) ^ k - 1)).toNat = (n % 18446744073709551616).toNat % 2 ^ k := by rw [a1, a2, Nat.and_two_pow_sub_one_eq_mod]
 show IntKind.i64.wrap (((BitVec.ofInt 64 n &&& BitVec.ofInt 64 ((2 : Int) ^ k - 1)).toNat : Nat) : Int) = _
 rw [BitVec.toNat_and, key, e]
 have hdvd : (2 ^ k : Nat) ∣ 18446744073709551616 := ⟨2 ^ (64 - k), by rw [← Nat.pow_add, show k + (64 - k) = 64 by omega]⟩
 obtain ⟨q, hq⟩ := hdvd
 have hmod : ((n % 18446744073709551616).toNat % 2 ^ k : Nat) = (n % ((2 ^ k : Nat) : Int)).toNat := by
  apply Int.ofNat_inj.1
  rw [Int.natCast_emod, Int.toNat_of_nonneg (Int.emod_nonneg _ (by decide)), Int.toNat_of_nonneg (Int.emod_nonneg _ (by omega))]
  exact Int.emod_emod_of_dvd n ⟨(q : Int), by rw [← Int.natCast_mul, ← hq]; rfl⟩
 rw [hmod, Int.toNat_of_nonneg (Int.emod_nonneg _ (by omega))]
 apply IntWalk.i64_in
 have := Int.emod_nonneg n (show ((2 ^ k : Nat) : Int) ≠ 0 by omega)
 have := Int.emod_lt_of_pos n (show (0 : Int) < ((2 ^ k : Nat) : Int) by omega)
 omega
end Go.Proofs.YtcklofamaooegaaGreatDoor
namespace Go.Proofs.YtcklofamaooegaaGreatDoor
open Go.RowKit
set_option linter.unusedVariables false
def IsInts (W : World) (a : Option Addr) (len cap : Nat) (zs : List Int) : Prop :=
 (a = none ∧ len = 0 ∧ cap = 0 ∧ zs = []) ∨ ∃ x : Addr, a = some x ∧ len ≤ cap ∧ cap ≤ maxLen ∧ zs.length = cap ∧ (∀ i, i < zs.length → W.cell? (x.add i) = some (.int .i64 (zs.getD i 0))) ∧ (∀ n ∈ zs, (Lit.int .i64 n).wf = true)
def TQ (g : Nat) (w : World) (a : Option Addr) (len cap k : Nat) (zs : List Int) : Prop :=
 Known w g 66 #[.slice a len cap, .int .i64 k] ∧ IsInts w a len cap zs ∧ k ≤ len ∧ ∀ x, a = some x → 0 < cap → x.block < g
def TP (g : Nat) (w : World) : Prop := ∃ (a : Option Addr) (len cap k : Nat) (zs : List Int), TQ g w a len cap k zs
theorem TP.lt {g : Nat} {w : World} (h : TP g w) : g < w.heap.size := by
 obtain ⟨a, len, cap, k, zs, h, -⟩ := h; exact h.lt
theorem add_block (x : Addr) (i : Nat) : (x.add i).block = x.block := by unfold Addr.add; split <;> rfl
theorem IsInts.keep {W W' : World} {a : Option Addr} {len cap : Nat} {zs : List Int} (h : IsInts W a len cap zs) (hw : ∀ x i, a = some x → 0 < cap → W'.cell? (x.add i) = W.cell? (x.add i)) : IsInts W' a len cap zs := by
 rcases h with h | ⟨x, h1, h2, h3, h4, h5, h6⟩
 ·exact .inl h
 ·exact .inr ⟨x, h1, h2, h3, h4, fun i hi => (hw x i h1 (by omega)).trans (h5 i hi), h6⟩
theorem TQ.below {g : Nat} {w w' : World} {a : Option Addr} {len cap k : Nat} {zs : List Int} (h : TQ g w a len cap k zs) (s : Below w.heap.size w w') : TQ g w' a len cap k zs := by
 obtain ⟨h1, h2, h3, h4⟩ := h
 have hl := h1.lt
 exact ⟨h1.on s, h2.keep (fun x i hx hp => s.cell (p := x.add i) (by have := h4 x hx hp; rw [add_block]; omega)), h3, h4⟩
theorem TP.below {g : Nat} {w w' : World} (h : TP g w) (s : Below w.heap.size w w') : TP g w' := by
 obtain ⟨a, len, cap, k, zs, h⟩ := h
 exact ⟨a, len, cap, k, zs, h.below s⟩
theorem TQ.parts {g : Nat} {w : World} {a : Option Addr} {len cap k : Nat} {zs : List Int} (h : TQ g w a len cap k zs) : w.cell? ⟨g, 0, none⟩ = some (.slice a len cap) ∧ w.cell? ⟨g, 1, none⟩ = some (.int .i64 k) ∧ w.frozen? ⟨g, 1, none⟩ = false := ⟨h.1.cell 0, h.1.cell 1, h.1.free 1⟩
theorem TQ.max {g : Nat} {w : World} {a : Option Addr} {len cap k : Nat} {zs : List Int} (h : TQ g w a len cap k zs) : len ≤ maxLen := by
 rcases h.2.1 with ⟨_, h, _, _⟩ | ⟨x, _, h, h', _⟩
 ·rw [h]; exact Nat.zero_le _
 ·exact Nat.le_trans h h'
theorem TQ.more {g : Nat} {w : World} {a : Option Addr} {len cap k : Nat} {zs : List Int} (h : TQ g w a len cap k zs) (hk : k < len) :
  ∃ x, a = some x ∧ x.block < g ∧ w.cell? (x.add k) = some (.int .i64 (zs.getD k 0)) ∧ TQ g (w.setCell ⟨g, 1, none⟩ (.int .i64 ((k : Int) + 1))) a len cap (k + 1) zs := by
 obtain ⟨h1, h2, h3, h4⟩ := h
 rcases h2 with ⟨_, h, _, _⟩ | ⟨x, hx, h5, h6, h7, h8, h9⟩
 ·omega
 ·have hb := h4 x hx (by omega)
  refine ⟨x, hx, hb, h8 k (by omega), h1.put 1 _, .inr ⟨x, hx, h5, h6, h7, fun i hi => ?_, h9⟩, by omega, h4⟩
  rw [((Below.refl g w).setCell (p := ⟨g, 1, none⟩) (Nat.le_refl _) _).cell (p := x.add i) (by rw [add_block]; exact hb)]
  exact h8 i hi
set_option maxHeartbeats 1000000 in
theorem tapeNext (g : Nat) (n : Nat) (w : World) (hn : 0 < n) (hn2 : n ≤ 1000) (h : TP g w) :
  Calls Tryz.prog 17 #[.pointer (some ⟨g, 0, none⟩), .int .i64 n] w fun e w' => ∃ r : Nat, e = .returned (.int .i64 r) ∧ r < n ∧ Step g w w' ∧ TP g w' := by
 have hg := h.lt
 have hV := fun w5 => h.below (gr_below w w5)
 obtain ⟨a, len, cap, k, zs, hQ⟩ := h
 obtain ⟨c0, c1, f1⟩ := hQ.parts
 have hm := hQ.max
 have hk : k ≤ len := hQ.2.2.1
 by_cases hlt : k < len
 ·have hQ5 := fun w5 => hQ.below (gr_below w w5)
  have gg : decide ((len : Int) ≤ (k : Int)) = false := by rw [decide_eq_false_iff_not]; omega
  have hM : maxLen = 9223372036854775807 := rfl
  obtain ⟨x, rfl, hb, -⟩ := hQ.more hlt
  clear hV hQ
  go_enter Tryz.func17, Tryz.ntmps17
  go_wp2_with fail
  refine wp_region_gr (by kernel_rfl) (by kernel_rfl) ?_
  repeat (go_big_quiet_step (fail))
  refine wpQuiet_nil ?_
  intro _ hw'; obtain ⟨w5, hw''⟩ := hw'; subst hw''
  replace hQ5 := hQ5 w5
  have B5 := gr_below w w5
  generalize gr w w5 = V at *
  have zV := B5.size
  obtain ⟨d0, d1, e1⟩ := hQ5.parts
  have hQ6 := fun w6 => hQ5.below (gr_below V w6)
  obtain ⟨x', hx', -, cx, -⟩ := hQ5.more hlt
  obtain rfl : x' = x := (Option.some.inj hx').symm
  generalize zs.getD k 0 = m at cx
  have hB : bits BinOp.and IntKind.i64 m 16777215 = m % 16777216 := mask_i64 24 (by decide) m _ (by decide)
  have hgV : g < V.heap.size := by omega
  have hxV : (x'.add k).block < V.heap.size := by rw [add_block]; omega
  clear c0 c1 f1 hx' hQ5
  go_wp2_with fail
  refine wp_region_gr (by kernel_rfl) (by kernel_rfl) ?_
  repeat (go_big_quiet_step (fail))
  refine wpQuiet_nil ?_
  intro _ hw'; obtain ⟨w6, hw''⟩ := hw'; subst hw''
  replace hQ6 := hQ6 w6
  have B6 := gr_below V w6
  generalize gr V w6 = U at *
  obtain ⟨u0, u1, v1⟩ := hQ6.parts
  obtain ⟨x', hx', -, -, hT⟩ := hQ6.more hlt
  have HT := Lib.hid hT
  clear hT d0 d1 e1 cx hQ6
  go_wp2_with fail
  go_ret
  have h0 := Int.emod_nonneg (m % 16777216) (show (n : Int) ≠ 0 by omega)
  have h1 := Int.emod_lt_of_pos (m % 16777216) (show (0 : Int) < n by omega)
  refine ⟨(m % 16777216 % (n : Int)).toNat, congrArg (fun z => Ending.returned (.int .i64 z)) (Int.toNat_of_nonneg h0).symm, by omega, ((Step.of_below B5 (by omega)).trans (Step.of_below B6 (by omega))).put 1 _, _, _, _, _, _, HT.out⟩
 ·have gg : decide ((len : Int) ≤ (k : Int)) = true := by rw [decide_eq_true_eq]; omega
  go_enter Tryz.func17, Tryz.ntmps17
  go_wp2_with fail
  refine wp_region_gr (by kernel_rfl) (by kernel_rfl) ?_
  repeat (go_big_quiet_step (fail))
  refine wpQuiet_nil ?_
  intro _ hw'; obtain ⟨w5, hw''⟩ := hw'; subst hw''
  go_wp2_with fail
  go_ret
  exact ⟨0, rfl, hn, Step.of_below (gr_below w w5) (by omega), hV w5⟩
set_option maxHeartbeats 1000000 in
theorem tapeOf (g x : Nat) (l : List ByteArray) (w : World) (h0 : 0 < l.length) (h1 : l.length ≤ 1000) (hL : Strs w x l) (hx : x < w.heap.size) (hxg : x ≠ g) (h : TP g w) :
  Calls Tryz.prog 18 #[.pointer (some ⟨g, 0, none⟩), .slice (some ⟨x, 0, none⟩) l.length l.length] w fun e w' => ∃ t, e = .returned (.string t) ∧ t ∈ l ∧ Step g w w' ∧ TP g w' := by
 have hC := tapeNext g l.length w h0 h1 h
 obtain ⟨n, hn⟩ : ∃ n, n = l.length := ⟨_, rfl⟩
 rw [← hn] at hC ⊢
 have HN := Lib.hid hn
 clear hn h
 go_enter Tryz.func18, Tryz.ntmps18
 go_wp2_with fail
 refine hC.mono ?_
 rintro e w1 ⟨r, rfl, hr, st, tp⟩
 have hr' : r < l.length := by rw [← HN.out]; exact hr
 have hc := (hL.step st hxg hx) r hr'
 have hm := List.getElem_mem hr'
 generalize l[r] = t at hc hm
 clear hC hL
 go_wp2_with fail
 go_ret
 exact ⟨t, rfl, hm, st, tp⟩
end Go.Proofs.YtcklofamaooegaaGreatDoor
