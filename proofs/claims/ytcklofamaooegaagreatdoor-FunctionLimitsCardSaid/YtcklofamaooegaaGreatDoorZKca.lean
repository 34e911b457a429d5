/-
  The claim's own texts, packed. Conditions: those typed in each theorem.
-/
import Derived.Test.YtcklofamaooegaaGreatDoorZKabu
import Derived.Test.YtcklofamaooegaaGreatDoorCards
import Derived.Test.YtcklofamaooegaaGreatDoorTie
import Derived.Test.YtcklofamaooegaaGreatDoorZKaaz
import Derived.ProofKit
import Derived.OpenShut
import Derived.ShutString
import Derived.ChangeOld
import Derived.Below
import Derived.Lib.SmallJoins
import Derived.Deep.DeepHandedRow
namespace Go.Proofs.YtcklofamaooegaaGreatDoor
open Go.RowKit
set_option linter.unusedVariables false
attribute [local go_sem ↓] Go.wp_at_zero Go.wp_at_succ
set_option maxRecDepth 10000 in
set_option maxHeartbeats 2000000 in
theorem call_unknown (N : ByteArray) (hN : N ∉ nms) (v : Value) (w : World) :
  Calls Tryz.prog 11 #[.string N, v] w fun E w' => E = .returned (.tuple #[.string ⟨#[]⟩, .int .i64 4]) ∧ Below w.heap.size w w' := by
 have hCt : ∀ W q, SL W q 17 nms → Calls Tryz.prog 23 #[.slice q 17 17, .string N] W fun e w' => e = .returned (.bool false) ∧ W = w' := fun W q h => by
  have h1 := contains_any N q W h
  rwa [decide_eq_false (fun h => hN (idxN_mem N nms 0 h))] at h1
 have HCT := Lib.hid hCt
 clear hCt hN
 go_enter Tryz.func11, Tryz.ntmps11
 go_wp2_with fail
 refine (names_any w).mono ?_
 rintro E w1 ⟨q, rfl, hq, hb1⟩
 have hC1 := HCT.out w1 q hq
 clear hq
 go_wp2_with fail
 refine hC1.mono ?_
 rintro E w2 ⟨rfl, rfl⟩
 go_wp2_with fail
 go_ret2
 exact ⟨rfl, hb1⟩

set_option maxRecDepth 10000 in
set_option maxHeartbeats 2000000 in
theorem call_many (N : ByteArray) (hN : N ∈ nms) (p : Option Addr) (n c : Nat) (h40 : 40 < n) (hn : n ≤ 9223372036854775807) (w : World) :
  Calls Tryz.prog 11 #[.string N, .slice p n c] w fun E w' => E = .returned (.tuple #[.string ⟨#[]⟩, .int .i64 8]) ∧ Below w.heap.size w w' := by
 have hCt : ∀ W q, SL W q 17 nms → Calls Tryz.prog 23 #[.slice q 17 17, .string N] W fun e w' => e = .returned (.bool true) ∧ W = w' := fun W q h => by
  have h1 := contains_any N q W h
  rwa [decide_eq_true (mem_idxN N nms 0 hN)] at h1
 have HCT := Lib.hid hCt
 have g40 : decide (40 < n) = true := decide_eq_true h40
 clear hCt hN
 go_enter Tryz.func11, Tryz.ntmps11
 go_wp2_with fail
 refine (names_any w).mono ?_
 rintro E w1 ⟨q, rfl, hq, hb1⟩
 have hC1 := HCT.out w1 q hq
 clear hq
 go_wp2_with fail
 refine hC1.mono ?_
 rintro E w2 ⟨rfl, rfl⟩
 go_wp2_with fail
 go_ret2
 exact ⟨rfl, hb1⟩

theorem call_made {N : ByteArray} {l : List ByteArray} {S : ByteArray} {z : Int} (h : CallP N l S z) (hl : l.length ≤ 1000) (h0 : l ≠ []) (W : World) (he : Env W) :
  Calls Tryz.prog 11 #[.string N, .slice (some ⟨W.heap.size, 0, none⟩) l.length l.length] (W.alloc (.cells (tcs l).toArray 9)) fun E w' => E = .returned (.tuple #[.string S, .int .i64 z]) ∧ Below W.heap.size W w' :=
 (h _ _ _ (SL.made W 9 l hl h0) (he.below (below_new0 _ _))).mono fun E w' ⟨a, b⟩ => ⟨a, below_then (below_new0 _ _) b⟩

set_option maxRecDepth 10000 in
set_option maxHeartbeats 4000000 in
theorem call_big (N : ByteArray) (hN : N ∈ nms) (l : List ByteArray) (hl40 : l.length ≤ 40) (hz : ∀ x ∈ l, x.size ≤ 9223372036854775807) (hbig : ∃ x ∈ l, 32768 < x.size) : CallP N l ⟨#[]⟩ 3 := by
 intro w p c hS henv
 have hcap := hS.1
 have hcap2 := hS.2.1
 have hNm := names_any w
 have hCt : ∀ W q, SL W q 17 nms → Calls Tryz.prog 23 #[.slice q 17 17, .string N] W fun e w' => e = .returned (.bool true) ∧ W = w' := fun W q h => by
  have h1 := contains_any N q W h
  rwa [decide_eq_true (mem_idxN N nms 0 hN)] at h1
 have HS := Lib.hid hS
 have HCT := Lib.hid hCt
 obtain ⟨n, hn⟩ : ∃ n, n = l.length := ⟨_, rfl⟩
 rw [← hn] at hcap hl40 ⊢
 have HN := Lib.hid hn
 have HZ := Lib.hid hz
 have HBIG := Lib.hid hbig
 clear hS henv hCt hn hz hbig hN
 go_enter Tryz.func11, Tryz.ntmps11
 go_wp2_with fail
 refine hNm.mono ?_
 rintro E w1 ⟨q, rfl, hq, hb1⟩
 have hC1 := HCT.out w1 q hq
 have HB1 := Lib.hid hb1
 clear hb1 hNm hq
 go_wp2_with fail
 refine hC1.mono ?_
 rintro E w2 ⟨rfl, rfl⟩
 have HS1 := Lib.hid (HS.out.below HB1.out)
 clear hC1 HS HCT
 have g40 : decide (40 < n) = false := decide_eq_false (by omega)
 go_wp2_with fail
 go_loopg [7, 24] (n + 1) (fun g s7 s24 wr => ∃ k : Nat, s24 = .int .i64 k ∧ k ≤ n ∧ n < k + g ∧ (∀ (j : Nat) (x : ByteArray), j < k → l[j]? = some x → x.size ≤ 32768) ∧ w1 = wr)
 case atStart => exact ⟨0, rfl, by omega, by omega, (fun j x h => by omega), rfl⟩
 case round =>
  obtain ⟨k, rfl, hk, hg, hsm, rfl⟩ := hrel
  have HSM := Lib.hid hsm
  clear hsm
  by_cases h1 : k < n
  ·have g1 : decide (k < n) = true := decide_eq_true h1
   obtain ⟨b0, o, rfl, hbl, hcc⟩ := HS1.out.all (by rw [← HN.out]; omega)
   obtain ⟨x, hx⟩ : ∃ x, l[k]? = some x := ⟨_, List.getElem?_eq_getElem (by rw [← HN.out]; exact h1)⟩
   have d0 := hcc k x hx
   have hxs := HZ.out x (List.mem_of_getElem? hx)
   have HX := Lib.hid hx
   clear hcc hx
   by_cases h2 : 32768 < x.size
   ·have g2 : decide (32768 < x.size) = true := decide_eq_true h2
    go_wp2_with fail
    go_ret2
    exact ⟨rfl, HB1.out⟩
   ·have g2 : decide (32768 < x.size) = false := decide_eq_false h2
    go_wp2_with fail
    go_roundg (n - k)
    case measure => omega
    case rel => exact ⟨k + 1, by go_num, by omega, by omega, (fun j y hj hy => by
     rcases Nat.lt_or_ge j k with h | h
     ·exact HSM.out j y h hy
     ·have : j = k := by omega
      subst this
      have := HX.out.symm.trans hy
      cases this
      omega), rfl⟩
  ·exfalso
   obtain ⟨x, hx, hxb⟩ := HBIG.out
   obtain ⟨j, hj⟩ := List.mem_iff_getElem?.1 hx
   have := (List.getElem?_eq_some_iff.1 hj).1
   have := HSM.out j x (by rw [← HN.out] at this; omega) hj
   omega

theorem make_41 (w : World) : ∃ w', (Instr.makeSlice 22 (.int .i64 41) (.int .i64 41)).run Tryz.prog w = .ok (.slice (some ⟨w.heap.size, 0, none⟩) 41 41) w' ∧ Below w.heap.size w w' := by
 obtain ⟨i, z, hi, hz, hsize, hby, hzs⟩ := tyT.inf
 have h := run_makeSlice (P := Tryz.prog) w 22 9 i _ Tryz.underlying22 hi hz .i64 .i64 41 41 (by decide) (by decide) (by rw [hsize]; decide) (by rw [hby]; decide) (by decide)
 exact ⟨_, h, below_new0 _ _⟩

theorem make_32769 (w : World) : ∃ w', (Instr.makeSlice 43 (.int .i64 32769) (.int .i64 32769)).run Tryz.prog w = .ok (.slice (some ⟨w.heap.size, 0, none⟩) 32769 32769) w' ∧ BIn w' w.heap.size (List.replicate 32769 0) ∧ Below w.heap.size w w' := by
 obtain ⟨i, hi, hz, hsize, hby⟩ := info_parts infoB
 have h := run_makeSlice (P := Tryz.prog) w 43 5 i _ Tryz.underlying43 hi hz .i64 .i64 32769 32769 (by decide) (by decide) (by rw [hsize]; decide) (by rw [hby]; decide) (by decide)
 rw [hsize] at h
 refine ⟨_, h, ⟨by rw [World.size_alloc]; omega, fun j hj => ?_⟩, below_new0 _ _⟩
 have hk := Known.made w 5 (madeCells (Value.int .u8 0).cells (Int.toNat 32769 * 1))
 rw [List.length_replicate] at hj
 refine ⟨?_, hk.free j⟩
 rw [List.getElem_replicate]
 refine (hk.cell j).trans ?_
 rw [← Array.getElem?_toList, show (Value.int .u8 0).cells = #[Value.int .u8 0] from rfl, toList_madeCells_one, List.getElem?_replicate, if_pos (by show j < 32769 * 1; omega)]
 rfl

theorem name_x {N : ByteArray} (h : N ∈ nms) : N ++ ⟨#[120]⟩ ∉ nms := fun hx => by
 have h2 := mem_idxN _ nms 0 hx
 unfold nms at h
 simp only [List.mem_cons, List.not_mem_nil, or_false] at h
 rcases h with rfl | rfl | rfl | rfl | rfl | rfl | rfl | rfl | rfl | rfl | rfl | rfl | rfl | rfl | rfl | rfl | rfl <;> exact absurd h2 (by decide +kernel)

theorem name_small {N : ByteArray} (h : N ∈ nms) : N.size ≤ 20 := by
 unfold nms at h
 simp only [List.mem_cons, List.not_mem_nil, or_false] at h
 rcases h with rfl | rfl | rfl | rfl | rfl | rfl | rfl | rfl | rfl | rfl | rfl | rfl | rfl | rfl | rfl | rfl | rfl <;> decide

set_option maxRecDepth 10000 in
set_option maxHeartbeats 4000000 in
theorem law_limits (a : Int) (w : World) (he : Env w) :
  Calls Tryz.prog 8 #[.int .i64 a] w fun e w' => e = .returned (.bool true) ∧ Below w.heap.size w w' := by
 have hK := fun W (hb : Below w.heap.size w W) => known11_any W (he.below hb)
 have HK := Lib.hid hK
 have HE := Lib.hid he
 have hB : bits BinOp.and IntKind.i64 a 65535 = a % 65536 := mask_i64 16 (by omega) a 65535 (by decide)
 obtain ⟨k, hk⟩ : ∃ k : Nat, a % 65536 = (k : Int) := ⟨(a % 65536).toNat, by omega⟩
 have hk2 : k < 65536 := by omega
 obtain ⟨N, hN, hmem⟩ : ∃ N, nms[k % 17]? = some N ∧ N ∈ nms := ⟨nms[k % 17]'(Nat.mod_lt _ (by decide)), List.getElem?_eq_getElem _, List.getElem_mem _⟩
 have HNN := Lib.hid hN
 have hmod : Int.tmod (a % 65536) 17 = ((k % 17 : Nat) : Int) := by rw [hk, Int.tmod_eq_emod_of_nonneg (by omega)]; simp
 have hmod2 : (a % 65536) % 17 = ((k % 17 : Nat) : Int) := by rw [hk]; simp
 have hr17 : k % 17 < 17 := Nat.mod_lt _ (by decide)
 obtain ⟨B, hBB⟩ : ∃ B : ByteArray, B = ⟨(List.replicate 32769 0).toArray⟩ := ⟨_, rfl⟩
 have hBs : B.size = 32769 := by rw [hBB, Lib.size_mk, List.length_replicate]
 have cM := fun q W => call_many N hmem q 41 41 (by omega) (by omega) W
 have cG := fun W (h : Env W) => call_made (call_big N hmem [⟨#[120]⟩, B] (by simp) (fun x hx => by
  simp only [List.mem_cons, List.not_mem_nil, or_false] at hx
  rcases hx with rfl | rfl
  ·decide
  ·omega) ⟨B, by simp, by omega⟩) (by simp) (by simp) W h
 have cX := fun v W => call_unknown (N ++ ⟨#[120]⟩) (name_x hmem) v W
 have cE := fun v W => call_unknown ⟨#[]⟩ (fun h => absurd (mem_idxN _ nms 0 h) (by decide +kernel)) v W
 have hNs := name_small hmem
 have HCM := Lib.hid cM
 have HCG := Lib.hid cG
 have HCX := Lib.hid cX
 have HCE := Lib.hid cE
 have HBB := Lib.hid hBB
 clear hK he hN hmem cM cG cX cE hBB
 go_enter Tryz.func8, Tryz.ntmps8
 go_wp2_with fail
 refine (rnames_any w).mono ?_
 rintro E w1 ⟨q, rfl, hq, hb1⟩
 obtain ⟨b0, o, rfl, hbl, hcc⟩ := hq.all (by decide)
 have d0 := hcc (k % 17) N HNN.out
 obtain ⟨v1, m1, hm1⟩ := make_41 w1
 have hb := below_then hb1 hm1
 clear hq hcc hb1 hm1
 go_wp2_with fail
 refine (HCM.out _ v1).mono ?_
 rintro E w2 ⟨rfl, hb2⟩
 replace hb := below_then hb hb2
 obtain ⟨v2, m2, hin, hm2⟩ := make_32769 w2
 have hcv := conv_from hin 32769 32769 (by rw [List.length_replicate])
 rw [← HBB.out] at hcv
 replace hb := below_then hb hm2
 clear hb2 hm2 hin d0 m1
 go_wp2_with fail
 refine (HCG.out v2 (HE.out.below hb)).mono ?_
 rintro E w3 ⟨rfl, hb3⟩
 replace hb := below_then hb hb3
 obtain ⟨v3, m3, hm3⟩ := make_41 w3
 replace hb := below_then hb hm3
 clear hb3 hm3 m2 hcv
 go_wp2_with fail
 refine (HCX.out _ v3).mono ?_
 rintro E w4 ⟨rfl, hb4⟩
 replace hb := below_then hb hb4
 clear hb4 m3
 go_wp2_with fail
 refine (HCE.out _ w4).mono ?_
 rintro E w5 ⟨rfl, hb5⟩
 replace hb := below_then hb hb5
 clear hb5
 go_wp2_with fail
 refine (HK.out _ hb).mono ?_
 rintro E w6 ⟨rfl, hb6⟩
 go_wp2_with fail
 go_ret
 exact ⟨rfl, below_then hb hb6⟩
end Go.Proofs.YtcklofamaooegaaGreatDoor
namespace Go.Proofs.YtcklofamaooegaaGreatDoor.functionLimits
open Go.ChangeShapes Go.WideShapes Go.ChangeAt Go.RowKit
open Go.ChangeMaps (open_string shut_string)
set_option linter.unusedVariables false
set_option maxRecDepth 100000 in
theorem contract (H : Type) (enc : TypeId × Value → H) (W : World) (base : Nat) (args : Array Value) (ds gs : List (DataW H)) (before : List MemPlace)
  (hval : ∀ (j : Nat) t v, Tryz.f8.params[j]? = some t → args[j]? = some v → Value.okWide Tryz.prog W .any base t v)
  (hW : DataW.Whole enc Tryz.prog Tryz.f8.params.toList Rows.functionLimitsSpec.vars false W args.toList ds gs before) (hL : laidMetH Tryz.prog Rows.functionLimitsRow.laid W) (hsh : W.ShapedOpen Tryz.prog) :
  Calls Tryz.prog 8 args W fun e W' => ∃ v, e = .returned v ∧ Rows.functionLimitsSpec.post enc Tryz.prog Tryz.f8 false true false false W args v W' := by
 have he : Env W := ⟨tab_of_laid2 hL, maxLen_of_shaped hsh⟩
 have hW' := hW
 obtain ⟨p, q, hA0, hV, rfl, hfz, hnd⟩ := hW
 have hA : DataW.TrodAll enc Tryz.prog W 0 (fun _ => true) true Tryz.f8.params.toList args.toList ds p := hA0
 rw [Tryz.params8] at hA hval
 obtain ⟨v0, vs0, d0, ds0, p0, q0, hargs, rfl, rfl, h0, r0⟩ := trodAll_cons hA
 obtain ⟨rfl, rfl, rfl⟩ := trodAll_nil r0
 obtain rfl : args = #[v0] := by cases args; simp_all
 obtain ⟨rfl, rfl⟩ := trodVars_none hV
 have k0 := h0
 have lt0 : ∀ x ∈ p0, x.block < W.heap.size := by obtain ⟨m, hm⟩ := k0; exact DataW.trod_lt m _ _ _ hm
 obtain ⟨a0, rfl, rfl, rfl, w0⟩ := open_int Tryz.underlying3 (hval 0 3 v0 rfl rfl) h0
 have w0 := bounds_i64 w0
 clear hA0
 refine (law_limits a0 W he).mono fun e W' ⟨he, bel⟩ => ?_
 subst he
 exact ⟨_, rfl, _, _, _, [], _, [], hW', trodAll_mk1 (shut_bool Tryz.underlying4 _), (trodAll_cons_mk (Below.trod laidOut (by kernel_rfl) (of_decide_eq_true (by kernel_rfl)) k0 bel lt0) trodAll_mk0), rfl, bel.frame _, fun h => by cases h⟩
theorem laid_met (os : Os) : laidMet Tryz.prog Rows.functionLimitsRow.laid ((laidWorld2 os).forCall (fun _ _ => 0) ⟨#[], #[.int .i64 0], []⟩).memory :=
 laidMet_of_run' 8 (by kernel_rfl) (by kernel_rfl)
theorem reads (os : Os) {H : Type} (enc : TypeId × Value → H) : ∃ places, DataW.whole enc Tryz.prog ((laidWorld2 os).forCall (fun _ _ => 0) ⟨#[], #[.int .i64 0], []⟩).memory Tryz.f8.params.toList Rows.functionLimitsSpec.vars false (#[.int .i64 0] : Array Value).toList 8 = some ([.lit (.int .i64 0)], [], places) :=
 ⟨[], by kernel_rfl⟩
set_option maxRecDepth 100000 in
theorem lifted (os : Os) (started : os.Started) (H : Type) (enc : TypeId × Value → H) (F : Stop.Interp) :
  ReturnsInHanded {} Tryz.checked os 8 .any ((OpenSpec.ofChange Rows.functionLimitsSpec).preRow enc Tryz.prog Tryz.f8 Rows.functionLimitsRow.domain false Rows.functionLimitsRow.laid) (((OpenSpec.ofChange Rows.functionLimitsSpec).at F).post enc Tryz.prog Tryz.f8 false true false false) := by
 obtain ⟨places, hx⟩ := reads os enc
 refine returnsInHanded_of_row (C := Tryz.checked) (s := OpenSpec.ofChange Rows.functionLimitsSpec) own started (by kernel_rfl) Tryz.func8
  (witness_row_at (enc := enc) (C := Tryz.checked) false (laidWorld2 os) #[.int .i64 0] rfl (by kernel_rfl) (by kernel_rfl) (by kernel_rfl)
   (OpenSpec.preRow_of_cond 8 hx (by kernel_rfl) (fun k hk => by cases hk) (by kernel_rfl) (laid_met os))) ?_
 intro W base args ds gs before hval hW _ _ _ hL hsh _
 exact contract H enc W base args ds gs before hval hW hL hsh
theorem said : Rows.FunctionLimitsSaid :=
 OpenClaim.holds_of_cond 8 Tryz.f8 rfl rfl rfl rfl rfl rfl rfl ⟨rfl, rfl, rfl, rfl, rfl⟩ rfl rfl rfl rfl rfl (by kernel_rfl) Tryz.func8 (by kernel_rfl)
  (of_decide_eq_true (by kernel_rfl)) (by unfold Func.isWrapper; first | (rw [if_pos (by decide +kernel)]; kernel_rfl) | (rw [if_neg (by decide +kernel)]; exact ⟨rfl, rfl⟩))
  (fun os started H enc _ F => by rw [OpenClaim.pre_eq_preRow]; exact lifted os started H enc F)
theorem plain (f : FuncId) (fn : Func) (hf : Tryz.pinned.checked.prog.funcNamed "transclude/trclaw11.FunctionLimits" = some f) (hfn : Tryz.pinned.checked.prog.funcs[f]? = some fn) :
  true = Tryz.pinned.checked.prog.looks [] ∧ ∀ (j : Nat) t, fn.params[j]? = some t → Tryz.pinned.checked.prog.wantsStandIn t = false := by
 obtain rfl : f = 8 := Option.some.inj ((show Tryz.prog.funcNamed "transclude/trclaw11.FunctionLimits" = some 8 by kernel_rfl).symm.trans hf) |>.symm
 obtain rfl : fn = Tryz.f8 := (Option.some.inj (Tryz.func8.symm.trans hfn)).symm
 refine ⟨by kernel_rfl, fun j t ht => ?_⟩
 rw [Tryz.params8] at ht
 have hm : t ∈ [3] := by simpa using Array.mem_of_getElem? ht
 simp only [List.mem_cons, List.not_mem_nil, or_false] at hm
 rcases hm with rfl
 ·exact (show Tryz.prog.wantsStandIn 3 = false by kernel_rfl)
theorem card : Rows.FunctionLimitsCardSaid :=
 Claim7.holds_tied_plain_at .later [] _ _ _ _ said (fun _ h => by cases h) (by kernel_rfl) (fun _ h => by cases h) functionLimits_row_tie rfl ⟨rfl, rfl⟩ (by kernel_rfl) rfl plain (by kernel_rfl)
#print axioms card
end Go.Proofs.YtcklofamaooegaaGreatDoor.functionLimits
