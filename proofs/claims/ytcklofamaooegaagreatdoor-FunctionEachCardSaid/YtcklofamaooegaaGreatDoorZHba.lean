/-
  The claim's own texts, packed. Conditions: those typed in each theorem.
-/
import Derived.Test.YtcklofamaooegaaGreatDoorZHabt
import Derived.Test.YtcklofamaooegaaGreatDoorCards
import Derived.Test.YtcklofamaooegaaGreatDoorTie
import Derived.Test.YtcklofamaooegaaGreatDoorZHaaz
import Derived.ProofKit
import Derived.OpenShut
import Derived.ShutString
import Derived.ChangeOld
import Derived.Below
import Derived.Lib.SmallJoins
import Derived.Deep.DeepHandedRow
namespace Go.Proofs.YtcklofamaooegaaGreatDoor
open Go.RowKit
set_option linter.unusedVariables false
attribute [local go_sem ↓] Go.wp_at_zero Go.wp_at_succ
theorem mask_i64 (k : Nat) (hk : k ≤ 62) (n : Int) (m : Int) (hm : m = 2 ^ k - 1) : bits BinOp.and IntKind.i64 n m = n % 2 ^ k := by
 subst hm
 have hp : (2 : Nat) ^ k ≤ 2 ^ 62 := Nat.pow_le_pow_right (by decide) hk
 have h1 : 1 ≤ (2 : Nat) ^ k := Nat.one_le_two_pow
 have e : ((2 : Int) ^ k) = ((2 ^ k : Nat) : Int) := by simp
 have hb : IntKind.i64.bits = 64 := rfl
 have e64 : (2 : Int) ^ 64 = 18446744073709551616 := by decide
 have e62 : (2 : Nat) ^ 62 = 4611686018427387904 := by decide
 have a1 : (BitVec.ofInt 64 n).toNat = (n % 18446744073709551616).toNat := by rw [BitVec.toNat_ofInt]; rfl
 have a2 : (BitVec.ofInt 64 ((2 : Int) ^ k - 1)).toNat = 2 ^ k - 1 := by
  rw [BitVec.toNat_ofInt]
  rw [e]
  show ((((2 ^ k : Nat) : Int) - 1) % ((18446744073709551616 : Nat) : Int)).toNat = _
  generalize (2 : Nat) ^ k = p at *
  omega
 have key : (BitVec.ofInt 64 n).toNat &&& (BitVec.ofInt 64 ((2 : Int) ^ k - 1)).toNat = (n % 18446744073709551616).toNat % 2 ^ k := by rw [a1, a2, Nat.and_two_pow_sub_one_eq_mod]
 show IntKind.i64.wrap (((BitVec.ofInt 64 n &&& BitVec.ofInt 64 ((2 : Int) ^ k - 1)).toNat : Nat) : Int) = _
 rw [BitVec.toNat_and, key, e]
 have hdvd : (2 ^ k : Nat) ∣ 18446744073709551616 := ⟨2 ^ (64 - k), by rw [← Nat.pow_add, show k + (64 - k) = 64 by omega]⟩
 obtain ⟨q, hq⟩ := hdvd
 have hmod : ((n % 18446744073709551616).toNat % 2 ^ k : Nat) = (n % ((2 ^ k : Nat) : Int)).toNat := by
  apply Int.ofNat_inj.1
  rw [Int.natCast_emod, Int.toNat_of_nonneg (Int.emod_nonneg _ (by decide)), Int.toNat_of_nonneg (Int.emod_nonneg _ (by omega))]
  exact Int.emod_emod_of_dvd n ⟨(q : Int), by rw [← Int.natCast_mul, ← hq]; rfl⟩
 rw [hmod, Int.toNat_of_nonneg (Int.emod_nonneg _ (by omega))]
 apply IntWalk.i64_in
 have := Int.emod_nonneg n (show ((2 ^ k : Nat) : Int) ≠ 0 by omega)
 have := Int.emod_lt_of_pos n (show (0 : Int) < ((2 ^ k : Nat) : Int) by omega)
 omega

theorem pick_name (k : Nat) : ∃ N, nms[k % 17]? = some N ∧ N ∈ nms := by
 have h : k % 17 < nms.length := Nat.mod_lt _ (by decide)
 exact ⟨nms[k % 17], List.getElem?_eq_getElem h, List.getElem_mem h⟩

set_option maxRecDepth 10000 in
set_option maxHeartbeats 4000000 in
theorem law_each (a : Int) (l : List ByteArray) (p : Option Addr) (c : Nat) (w : World) (hS : SL w p c l) (hz : ∀ x ∈ l, x.size ≤ 9223372036854775807) (he : Env w) :
  Calls Tryz.prog 4 #[.int .i64 a, .slice p l.length c] w fun e w' => e = .returned (.bool true) ∧ Below w.heap.size w w' := by
 have hK := fun W (hb : Below w.heap.size w W) => known11_any W (he.below hb)
 have HK := Lib.hid hK
 have HE := Lib.hid he
 have hL := large_any l p c w hS hz
 have hcap := hS.1
 have hcap2 := hS.2.1
 have HS := Lib.hid hS
 have hB : bits BinOp.and IntKind.i64 a 65535 = a % 65536 := mask_i64 16 (by omega) a 65535 (by decide)
 obtain ⟨k, hk⟩ : ∃ k : Nat, a % 65536 = (k : Int) := ⟨(a % 65536).toNat, by omega⟩
 have hk2 : k < 65536 := by omega
 obtain ⟨N, hN, hmem⟩ := pick_name k
 have HNN := Lib.hid hN
 have hmod : Int.tmod (a % 65536) 17 = ((k % 17 : Nat) : Int) := by rw [hk, Int.tmod_eq_emod_of_nonneg (by omega)]; simp
 have hmod2 : (a % 65536) % 17 = ((k % 17 : Nat) : Int) := by rw [hk]; simp
 have hr17 : k % 17 < 17 := Nat.mod_lt _ (by decide)
 have HT := Lib.hid (two_calls N l)
 obtain ⟨n, hn⟩ : ∃ n, n = l.length := ⟨_, rfl⟩
 have hTS := fun S (z : Int) (h : CallP N l S z) W p c (h1 : SL W p c l) (h2 : Env W) => h W p c h1 h2
 have hTQ := fun S (z : Int) (h : CallQ N l S z) W p c (h1 : SL W p c l) => h W p c h1
 rw [← hn] at hL hcap hTS hTQ ⊢
 have HTS := Lib.hid hTS
 have HTQ := Lib.hid hTQ
 clear hK he hS hz hTS hTQ hn hN hmem
 go_enter Tryz.func4, Tryz.ntmps4
 go_wp2_with fail
 refine hL.mono ?_
 rintro E w1 ⟨⟨b, rfl, hb⟩, rfl⟩
 cases b with
 | true =>
   go_wp2_with fail
   refine (HK.out _ (Below.refl _ _)).mono ?_
   rintro E w1 ⟨rfl, hb1⟩
   go_wp2_with fail
   go_ret
   exact ⟨rfl, hb1⟩
 | false =>
   obtain ⟨S, z, hP, hQ⟩ := HT.out (hb rfl)
   have hD := HTQ.out S z hQ
   have hC := fun W => HTS.out S z hP W p c
   have HC := Lib.hid hC
   have HD := Lib.hid hD
   clear hP hQ hC hD hb hL
   go_wp2_with fail
   refine (rnames_any w).mono ?_
   rintro E w1 ⟨q, rfl, hq, hb1⟩
   obtain ⟨b0, o, rfl, hbl, hcc⟩ := hq.all (by decide)
   have d0 := hcc (k % 17) N HNN.out
   have HB1 := Lib.hid hb1
   clear hq hcc hb1
   go_wp2_with fail
   refine (HC.out w1 (HS.out.below HB1.out) (HE.out.below HB1.out)).mono ?_
   rintro E w2 ⟨rfl, hb2⟩
   have hb3 := below_then HB1.out hb2
   clear hb2 d0
   go_wp2_with fail
   refine (HD.out w2 p c (HS.out.below hb3)).mono ?_
   rintro E w4 ⟨rfl, hb4⟩
   have hbb := below_then hb3 hb4
   clear hb3 hb4
   go_wp2_with fail
   refine (HK.out _ hbb).mono ?_
   rintro E w6 ⟨rfl, hb6⟩
   go_wp2_with fail
   go_ret
   exact ⟨rfl, below_then hbb hb6⟩
end Go.Proofs.YtcklofamaooegaaGreatDoor
namespace Go.Proofs.YtcklofamaooegaaGreatDoor.functionEach
open Go.ChangeShapes Go.WideShapes Go.ChangeAt Go.RowKit
open Go.ChangeMaps (open_string shut_string)
set_option linter.unusedVariables false
set_option maxRecDepth 100000 in
theorem contract (H : Type) (enc : TypeId × Value → H) (W : World) (base : Nat) (args : Array Value) (ds gs : List (DataW H)) (before : List MemPlace)
  (hval : ∀ (j : Nat) t v, Tryz.f4.params[j]? = some t → args[j]? = some v → Value.okWide Tryz.prog W .any base t v)
  (hW : DataW.Whole enc Tryz.prog Tryz.f4.params.toList Rows.functionEachSpec.vars false W args.toList ds gs before) (hL : laidMetH Tryz.prog Rows.functionEachRow.laid W) (hsh : W.ShapedOpen Tryz.prog) :
  Calls Tryz.prog 4 args W fun e W' => ∃ v, e = .returned v ∧ Rows.functionEachSpec.post enc Tryz.prog Tryz.f4 false true false false W args v W' := by
 have he : Env W := ⟨tab_of_laid2 hL, maxLen_of_shaped hsh⟩
 have hW' := hW
 obtain ⟨p, q, hA0, hV, rfl, hfz, hnd⟩ := hW
 have hA : DataW.TrodAll enc Tryz.prog W 0 (fun _ => true) true Tryz.f4.params.toList args.toList ds p := hA0
 rw [Tryz.params4] at hA hval
 obtain ⟨v0, vs0, d0, ds0, p0, q0, hargs, rfl, rfl, h0, r0⟩ := trodAll_cons hA
 obtain ⟨v1, vs1, d1, ds1, p1, q1, rfl, rfl, rfl, h1, r1⟩ := trodAll_cons r0
 obtain ⟨rfl, rfl, rfl⟩ := trodAll_nil r1
 obtain rfl : args = #[v0, v1] := by cases args; simp_all
 obtain ⟨rfl, rfl⟩ := trodVars_none hV
 have k0 := h0
 have lt0 : ∀ x ∈ p0, x.block < W.heap.size := by obtain ⟨m, hm⟩ := k0; exact DataW.trod_lt m _ _ _ hm
 have k1 := h1
 have lt1 : ∀ x ∈ p1, x.block < W.heap.size := by obtain ⟨m, hm⟩ := k1; exact DataW.trod_lt m _ _ _ hm
 obtain ⟨a0, rfl, rfl, rfl, w0⟩ := open_int Tryz.underlying3 (hval 0 3 v0 rfl rfl) h0
 have w0 := bounds_i64 w0
 obtain ⟨a1, l1, cap1, rfl, w1, z1⟩ := open_strs (hval 1 22 v1 rfl rfl) h1
 clear hA0
 refine (law_each a0 l1 a1 cap1 W w1 z1 he).mono fun e W' ⟨he, bel⟩ => ?_
 subst he
 exact ⟨_, rfl, _, _, _, [], _, [], hW', trodAll_mk1 (shut_bool Tryz.underlying4 _), (trodAll_cons_mk (Below.trod laidOut (by kernel_rfl) (of_decide_eq_true (by kernel_rfl)) k0 bel lt0) (trodAll_cons_mk (Below.trod laidOut (by kernel_rfl) (of_decide_eq_true (by kernel_rfl)) k1 bel lt1) trodAll_mk0)), rfl, bel.frame _, fun h => by cases h⟩
theorem laid_met (os : Os) : laidMet Tryz.prog Rows.functionEachRow.laid ((laidWorld2 os).forCall (fun _ _ => 0) ⟨#[], #[.int .i64 0, .slice none 0 0], []⟩).memory :=
 laidMet_of_run' 8 (by kernel_rfl) (by kernel_rfl)
theorem reads (os : Os) {H : Type} (enc : TypeId × Value → H) : ∃ places, DataW.whole enc Tryz.prog ((laidWorld2 os).forCall (fun _ _ => 0) ⟨#[], #[.int .i64 0, .slice none 0 0], []⟩).memory Tryz.f4.params.toList Rows.functionEachSpec.vars false (#[.int .i64 0, .slice none 0 0] : Array Value).toList 8 = some ([.lit (.int .i64 0), .nil], [], places) :=
 ⟨[], by kernel_rfl⟩
set_option maxRecDepth 100000 in
theorem lifted (os : Os) (started : os.Started) (H : Type) (enc : TypeId × Value → H) (F : Stop.Interp) :
  ReturnsInHanded {} Tryz.checked os 4 .any ((OpenSpec.ofChange Rows.functionEachSpec).preRow enc Tryz.prog Tryz.f4 Rows.functionEachRow.domain false Rows.functionEachRow.laid) (((OpenSpec.ofChange Rows.functionEachSpec).at F).post enc Tryz.prog Tryz.f4 false true false false) := by
 obtain ⟨places, hx⟩ := reads os enc
 refine returnsInHanded_of_row (C := Tryz.checked) (s := OpenSpec.ofChange Rows.functionEachSpec) own started (by kernel_rfl) Tryz.func4
  (witness_row_at (enc := enc) (C := Tryz.checked) false (laidWorld2 os) #[.int .i64 0, .slice none 0 0] rfl (by kernel_rfl) (by kernel_rfl) (by kernel_rfl)
   (OpenSpec.preRow_of_cond 8 hx (by kernel_rfl) (fun k hk => by cases hk) (by kernel_rfl) (laid_met os))) ?_
 intro W base args ds gs before hval hW _ _ _ hL hsh _
 exact contract H enc W base args ds gs before hval hW hL hsh
theorem said : Rows.FunctionEachSaid :=
 OpenClaim.holds_of_cond 4 Tryz.f4 rfl rfl rfl rfl rfl rfl rfl ⟨rfl, rfl, rfl, rfl, rfl⟩ rfl rfl rfl rfl rfl (by kernel_rfl) Tryz.func4 (by kernel_rfl)
  (of_decide_eq_true (by kernel_rfl)) (by unfold Func.isWrapper; first | (rw [if_pos (by decide +kernel)]; kernel_rfl) | (rw [if_neg (by decide +kernel)]; exact ⟨rfl, rfl⟩))
  (fun os started H enc _ F => by rw [OpenClaim.pre_eq_preRow]; exact lifted os started H enc F)
theorem plain (f : FuncId) (fn : Func) (hf : Tryz.pinned.checked.prog.funcNamed "transclude/trclaw11.FunctionEach" = some f) (hfn : Tryz.pinned.checked.prog.funcs[f]? = some fn) :
  true = Tryz.pinned.checked.prog.looks [] ∧ ∀ (j : Nat) t, fn.params[j]? = some t → Tryz.pinned.checked.prog.wantsStandIn t = false := by
 obtain rfl : f = 4 := Option.some.inj ((show Tryz.prog.funcNamed "transclude/trclaw11.FunctionEach" = some 4 by kernel_rfl).symm.trans hf) |>.symm
 obtain rfl : fn = Tryz.f4 := (Option.some.inj (Tryz.func4.symm.trans hfn)).symm
 refine ⟨by kernel_rfl, fun j t ht => ?_⟩
 rw [Tryz.params4] at ht
 have hm : t ∈ [3, 22] := by simpa using Array.mem_of_getElem? ht
 simp only [List.mem_cons, List.not_mem_nil, or_false] at hm
 rcases hm with rfl | rfl
 ·exact (show Tryz.prog.wantsStandIn 3 = false by kernel_rfl)
 ·exact (show Tryz.prog.wantsStandIn 22 = false by kernel_rfl)
theorem card : Rows.FunctionEachCardSaid :=
 Claim7.holds_tied_plain_at .later [] _ _ _ _ said (fun _ h => by cases h) (by kernel_rfl) (fun _ h => by cases h) functionEach_row_tie rfl ⟨rfl, rfl⟩ (by kernel_rfl) rfl plain (by kernel_rfl)
#print axioms card
end Go.Proofs.YtcklofamaooegaaGreatDoor.functionEach
