/-
  The claim's own texts, packed. Conditions: those typed in each theorem.
-/
import Derived.Test.YthieinfonomeeaaGreatDoorZAah
import Derived.Test.YthieinfonomeeaaGreatDoorZAac
import Derived.Test.YthieinfonomeeaaGreatDoorShelf
import Derived.LoopN
namespace Go.Proofs.YthieinfonomeeaaGreatDoor
open Go.RowKit Tit
set_option linter.unusedVariables false
attribute [local go_sem ↓] Go.wp_at_zero Go.wp_at_succ
theorem set_mid (f : UInt8 → UInt8) (l : List UInt8) (k : Nat) (hk : k < l.length) : ((l.take k).map f ++ l.drop k).set k (f l[k]) = (l.take (k + 1)).map f ++ l.drop (k + 1) := by
 have h1 : ((l.take k).map f).length = k := by simp; omega
 rw [List.set_append_right _ _ (by omega), h1, Nat.sub_self, List.drop_eq_getElem_cons hk, List.set_cons_zero, List.take_succ_eq_append_getElem hk]
 simp only [List.map_append, List.map_cons, List.map_nil, List.append_assoc, List.cons_append, List.nil_append]
theorem keep_mid (f : UInt8 → UInt8) (l : List UInt8) (k : Nat) (hk : k < l.length) (hf : f l[k] = l[k]) : (l.take k).map f ++ l.drop k = (l.take (k + 1)).map f ++ l.drop (k + 1) := by
 rw [List.drop_eq_getElem_cons hk, List.take_succ_eq_append_getElem hk]
 simp only [List.map_append, List.map_cons, List.map_nil, hf, List.append_assoc, List.cons_append, List.nil_append]
theorem lowC_up {c : UInt8} (h : 65 ≤ c.toNat ∧ c.toNat ≤ 90) : ((lowC c).toNat : Int) = (c.toNat : Int) + 32 := by
 have h1 : (65 : UInt8) ≤ c ∧ c ≤ 90 := ⟨UInt8.le_iff_toNat_le.2 h.1, UInt8.le_iff_toNat_le.2 h.2⟩
 unfold lowC
 rw [if_pos h1, UInt8.toNat_add]
 have : (32 : UInt8).toNat = 32 := rfl
 omega
theorem lowC_id {c : UInt8} (h : ¬ (65 ≤ c.toNat ∧ c.toNat ≤ 90)) : lowC c = c := by
 unfold lowC
 rw [if_neg (fun e => h ⟨(UInt8.le_iff_toNat_le (a := 65)).1 e.1, (UInt8.le_iff_toNat_le (b := 90)).1 e.2⟩)]
set_option maxRecDepth 10000 in
set_option maxHeartbeats 1000000 in
theorem fold_any (s : ByteArray) (w : World) (hs : s.size ≤ 1000000000) : Calls Tryz.prog 178 #[.string s] w fun e w' => e = .returned (.string ⟨(low s.data.toList).toArray⟩) ∧ Below w.heap.size w w' := by
 obtain ⟨cap, C, hc1, hc2, hconv, hB, hbw⟩ := conv_to w s (by unfold maxLen; omega)
 have hz : s.data.toList.length = s.size := by simp
 obtain ⟨l, hl⟩ : ∃ l, l = s.data.toList := ⟨_, rfl⟩
 rw [← hl] at hB hz ⊢
 obtain ⟨n, hn⟩ : ∃ n, n = s.size := ⟨_, rfl⟩
 rw [← hn] at hs hc1 hconv hz
 have hback := fun W h => @conv_from W w.heap.size (low l) h n cap (by unfold low; rw [List.length_map]; exact hz.symm)
 have HBK := Lib.hid hback
 have HBW := Lib.hid hbw
 have HB := Lib.hid hB
 clear hback hbw hB hl hn
 go_enter Tryz.func178, Tryz.ntmps178
 go_wp2_with fail
 go_loopg [4, 5, 10] (n + 1) (fun g s4 s5 s10 wr => ∃ k : Nat, k ≤ n ∧ n < k + g ∧ s10 = .int .i64 k ∧ BIn wr w.heap.size ((l.take k).map lowC ++ l.drop k) ∧ Below w.heap.size w wr)
 case atStart => exact ⟨0, by omega, by omega, rfl, by simpa using HB.out, HBW.out⟩
 case round =>
  obtain ⟨k, hk1, hk2, rfl, hb, hbw⟩ := hrel
  by_cases hkn : k < n
  ·have g1 : decide (k < n) = true := by simp; omega
   have hkl : k < l.length := by omega
   have hml : ((l.take k).map lowC).length = k := by simp; omega
   have hat := hb.2 k (by simp; omega)
   have he : ((l.take k).map lowC ++ l.drop k)[k]'(by simp; omega) = l[k] := by
    rw [List.getElem_append_right (by omega)]
    simp only [List.getElem_drop]
    congr 1
    omega
   rw [he] at hat
   obtain ⟨hc, hf⟩ := hat
   have hbl := hb.1
   have HSET := Lib.hid (hb.put (k := k) (by simp; omega) (lowC l[k]))
   have HSM := Lib.hid (set_mid lowC l k hkl)
   have HKM := Lib.hid (keep_mid lowC l k hkl)
   have HUP := Lib.hid (@lowC_up l[k])
   have HID := Lib.hid (@lowC_id l[k])
   have HBN := Lib.hid hb
   have HBW2 := Lib.hid hbw
   have hx8 := l[k].toNat_lt
   obtain ⟨x, hx⟩ : ∃ x, x = l[k].toNat := ⟨_, rfl⟩
   rw [← hx] at hc hx8
   have HX := Lib.hid hx
   clear hb hbw he hml hx
   by_cases h1 : 65 ≤ x
   ·have e1 : decide ((65 : Int) ≤ (x : Int)) = true := by simp; omega
    by_cases h2 : x ≤ 90
    ·have e2 : decide ((x : Int) ≤ 90) = true := by simp; omega
     go_wp2_with fail
     go_roundg (n - k)
     case measure => omega
     case rel =>
      have hh := HSET.out
      rw [HSM.out, HUP.out ⟨by rw [← HX.out]; exact h1, by rw [← HX.out]; exact h2⟩, ← HX.out] at hh
      exact ⟨k + 1, by omega, by omega, by go_num, hh, HBW2.out.setCell (Nat.le_refl _) _⟩
    ·have e2 : decide ((x : Int) ≤ 90) = false := by simp; omega
     go_wp2_with fail
     go_roundg (n - k)
     case measure => omega
     case rel => exact ⟨k + 1, by omega, by omega, by go_num, by rw [← HKM.out (HID.out (by rw [← HX.out]; omega))]; exact HBN.out, HBW2.out⟩
   ·have e1 : decide ((65 : Int) ≤ (x : Int)) = false := by simp; omega
    go_wp2_with fail
    go_roundg (n - k)
    case measure => omega
    case rel => exact ⟨k + 1, by omega, by omega, by go_num, by rw [← HKM.out (HID.out (by rw [← HX.out]; omega))]; exact HBN.out, HBW2.out⟩
  ·have g1 : decide (k < n) = false := by simp; omega
   have hkk : k = l.length := by omega
   rw [hkk, List.take_length, List.drop_length, List.append_nil] at hb
   have hcb := HBK.out wr hb
   go_wp2_with fail
   go_ret
   exact ⟨rfl, hbw⟩
end Go.Proofs.YthieinfonomeeaaGreatDoor
namespace Go.Proofs.YthieinfonomeeaaGreatDoor
open Go.RowKit Tit
set_option linter.unusedVariables false
attribute [local go_sem ↓] Go.wp_at_zero Go.wp_at_succ
def MX (w : World) : Prop := ∃ m : Int, w.cell? ⟨0, 0, none⟩ = some (.int .i64 m)
theorem MX.below {w w' : World} (h : MX w) (hb : Below w.heap.size w w') : MX w' := by
 obtain ⟨m, hm⟩ := h
 exact ⟨m, (hb.cell (p := ⟨0, 0, none⟩) (World.block_lt_of_cell? w ⟨0, 0, none⟩ hm)).trans hm⟩
theorem MX.lt {w : World} (h : MX w) : 0 < w.heap.size := by
 obtain ⟨m, hm⟩ := h
 exact World.block_lt_of_cell? w ⟨0, 0, none⟩ hm
theorem sql_yes {a : ByteArray} {l : List UInt8} (h : a.data.toList = l) : (a.toList == l) = true := by
 rw [ByteArray.toList_eq, h]; simp
theorem sql_no {a : ByteArray} {l : List UInt8} (h : a.data.toList ≠ l) : (a.toList == l) = false := by
 rw [ByteArray.toList_eq]; simpa using h
theorem cut_no (s : ByteArray) (c : UInt8) (w : World) (hs : s.size ≤ 1000000000) (hm : MX w) (h : (s.data.toList.takeWhile (· ≠ c)).length = s.data.toList.length) :
  Calls Tryz.prog 146 #[.string s, .string ⟨#[c]⟩] w fun e w' => e = .returned (.tuple #[.string s, .string ⟨#[]⟩, .bool false]) ∧ Below w.heap.size w w' := by
 obtain ⟨m, hm⟩ := hm
 refine (Tryz.strings_Cut s ⟨#[c]⟩ m w (by omega) hm).mono fun e w' h1 => ?_
 obtain ⟨h1, n, h2⟩ := h1
 have hc : Lib.cut s.data.toList [c] = (s.data.toList, [], false) := by rw [cut_byte, if_pos h]
 refine ⟨?_, by rw [h2]; exact below_drewN (Below.refl _ _) _⟩
 rw [h1]
 have e1 : (⟨#[c]⟩ : ByteArray).data.toList = [c] := rfl
 rw [e1, hc]
theorem cut_yes (s : ByteArray) (c : UInt8) (w : World) (hs : s.size ≤ 1000000000) (hm : MX w) (h : (s.data.toList.takeWhile (· ≠ c)).length ≠ s.data.toList.length) :
  Calls Tryz.prog 146 #[.string s, .string ⟨#[c]⟩] w fun e w' => e = .returned (.tuple #[.string ⟨(s.data.toList.takeWhile (· ≠ c)).toArray⟩, .string ⟨(s.data.toList.drop ((s.data.toList.takeWhile (· ≠ c)).length + 1)).toArray⟩, .bool true]) ∧ Below w.heap.size w w' := by
 obtain ⟨m, hm⟩ := hm
 refine (Tryz.strings_Cut s ⟨#[c]⟩ m w (by omega) hm).mono fun e w' h1 => ?_
 obtain ⟨h1, n, h2⟩ := h1
 have hc : Lib.cut s.data.toList [c] = (s.data.toList.takeWhile (· ≠ c), s.data.toList.drop ((s.data.toList.takeWhile (· ≠ c)).length + 1), true) := by rw [cut_byte, if_neg h]
 refine ⟨?_, by rw [h2]; exact below_drewN (Below.refl _ _) _⟩
 rw [h1]
 have e1 : (⟨#[c]⟩ : ByteArray).data.toList = [c] := rfl
 rw [e1, hc]
theorem chop_any (l : List UInt8) (w : World) (hs : l.length ≤ 1000000000) : Calls Tryz.prog 176 #[.string ⟨l.toArray⟩, .string ⟨#[32]⟩] w fun e w' => e = .returned (.string ⟨(chop l).toArray⟩) ∧ w' = w := by
 refine (Tryz.strings_TrimSuffix ⟨l.toArray⟩ ⟨#[32]⟩ w (by rw [Lib.size_mk]; omega)).mono fun e w' h => ⟨?_, h.2⟩
 rw [h.1]
 have e1 : (⟨#[32]⟩ : ByteArray).data.toList = [32] := rfl
 rw [e1, trimSuffix_chop]
theorem chop_le (l : List UInt8) : (chop l).length ≤ l.length := by unfold chop; split <;> simp
theorem low_len (l : List UInt8) : (low l).length = l.length := by unfold low; simp
def preV (o : Option (Nat × List UInt8)) : Value := match o with
 | none => .tuple #[.int .i64 0, .string ⟨#[]⟩, .bool false]
 | some (n, r) => .tuple #[.int .i64 n, .string ⟨r.toArray⟩, .bool true]
theorem spaces_any (w : World) : Calls Tryz.prog 179 #[] w fun e w' => e = .returned (.agg #[.string ⟨#[]⟩, .string ⟨(spn 1).toArray⟩, .string ⟨(spn 2).toArray⟩, .string ⟨(spn 3).toArray⟩, .string ⟨(spn 4).toArray⟩, .string ⟨(spn 5).toArray⟩]) ∧ Below w.heap.size w w' := by
 go_enter Tryz.func179, Tryz.ntmps179
 go_wp2_with fail
 exact bodyPost_ret (v := .agg #[.string ⟨#[]⟩, .string ⟨(spn 1).toArray⟩, .string ⟨(spn 2).toArray⟩, .string ⟨(spn 3).toArray⟩, .string ⟨(spn 4).toArray⟩, .string ⟨(spn 5).toArray⟩]) (by simp [results, Tryz.results179, go_sem, spn]) rfl ⟨rfl, below_new0 _ _⟩
theorem idx_0 (w : World) (a b c d e f : ByteArray) : (Instr.index 182 (.agg #[.string a, .string b, .string c, .string d, .string e, .string f]) (.int .i64 0)).run Tryz.prog w = .ok (.string a) w := by
 simp [Instr.index, asIntOf, run_underlying Tryz.underlying182, go_sem]
theorem idx_1 (w : World) (a b c d e f : ByteArray) : (Instr.index 182 (.agg #[.string a, .string b, .string c, .string d, .string e, .string f]) (.int .i64 1)).run Tryz.prog w = .ok (.string b) w := by
 simp [Instr.index, asIntOf, run_underlying Tryz.underlying182, go_sem]
theorem idx_2 (w : World) (a b c d e f : ByteArray) : (Instr.index 182 (.agg #[.string a, .string b, .string c, .string d, .string e, .string f]) (.int .i64 2)).run Tryz.prog w = .ok (.string c) w := by
 simp [Instr.index, asIntOf, run_underlying Tryz.underlying182, go_sem]
theorem idx_3 (w : World) (a b c d e f : ByteArray) : (Instr.index 182 (.agg #[.string a, .string b, .string c, .string d, .string e, .string f]) (.int .i64 3)).run Tryz.prog w = .ok (.string d) w := by
 simp [Instr.index, asIntOf, run_underlying Tryz.underlying182, go_sem]
theorem idx_4 (w : World) (a b c d e f : ByteArray) : (Instr.index 182 (.agg #[.string a, .string b, .string c, .string d, .string e, .string f]) (.int .i64 4)).run Tryz.prog w = .ok (.string e) w := by
 simp [Instr.index, asIntOf, run_underlying Tryz.underlying182, go_sem]
theorem idx_5 (w : World) (a b c d e f : ByteArray) : (Instr.index 182 (.agg #[.string a, .string b, .string c, .string d, .string e, .string f]) (.int .i64 5)).run Tryz.prog w = .ok (.string f) w := by
 simp [Instr.index, asIntOf, run_underlying Tryz.underlying182, go_sem]
attribute [local go_sem] idx_0 idx_1 idx_2 idx_3 idx_4 idx_5
set_option maxRecDepth 10000 in
set_option maxHeartbeats 2000000 in
theorem prefix_any (s : ByteArray) (w : World) (hs : s.size ≤ 1000000000) (hm : MX w) : Calls Tryz.prog 165 #[.string s] w fun e w' => e = .returned (preV (pre s.data.toList)) ∧ Below w.heap.size w w' := by
 have hz : s.data.toList.length = s.size := by simp
 by_cases hno : (s.data.toList.takeWhile (· ≠ 58)).length = s.data.toList.length
 ·have hC := cut_no s 58 w hs hm hno
  have hp : pre s.data.toList = none := by unfold pre; rw [if_pos hno]
  rw [hp]
  clear hno hp hm hz
  go_enter Tryz.func165, Tryz.ntmps165
  go_wp2_with fail
  refine hC.mono ?_
  rintro e w1 ⟨rfl, hb1⟩
  go_wp2_with fail
  exact bodyPost_ret (v := .tuple #[.int .i64 0, .string ⟨#[]⟩, .bool false]) (by simp [results, Tryz.results165, go_sem]) rfl ⟨rfl, hb1⟩
 ·have hC := cut_yes s 58 w hs hm hno
  have hp : pre s.data.toList = (spOf (chop (s.data.toList.takeWhile (· ≠ 58))) 5 1).map fun n => (n, s.data.toList.drop ((s.data.toList.takeWhile (· ≠ 58)).length + 1)) := by unfold pre; rw [if_neg hno]
  have htl := tw_le (· ≠ 58) s.data.toList
  rw [hp]
  obtain ⟨P, hP⟩ : ∃ P, P = s.data.toList.takeWhile (· ≠ 58) := ⟨_, rfl⟩
  rw [← hP] at hC htl ⊢
  obtain ⟨R, hR⟩ : ∃ R, R = s.data.toList.drop (P.length + 1) := ⟨_, rfl⟩
  rw [← hR] at hC ⊢
  have hcl := chop_le P
  have hCH := fun W => chop_any P W (by omega)
  obtain ⟨p, hpp⟩ : ∃ p, p = chop P := ⟨_, rfl⟩
  rw [← hpp] at hCH hcl ⊢
  have hF := fun W => fold_any ⟨p.toArray⟩ W (by rw [Lib.size_mk]; omega)
  have e0 : (⟨p.toArray⟩ : ByteArray).data.toList = p := rfl
  rw [e0] at hF
  obtain ⟨X, hX⟩ : ∃ X : ByteArray, X = ⟨(low p).toArray⟩ := ⟨_, rfl⟩
  rw [← hX] at hF
  have HX : Hid (X.data.toList = low p) := Lib.hid (by rw [hX])
  clear hno hp hm hz hP hR hpp e0 hX
  have HCH := Lib.hid hCH
  have HF := Lib.hid hF
  clear hCH hF
  go_enter Tryz.func165, Tryz.ntmps165
  go_wp2_with fail
  refine hC.mono ?_
  rintro e w1 ⟨rfl, hb1⟩
  clear hC
  go_wp2_with fail
  refine (HCH.out _).mono ?_
  rintro e w2 ⟨rfl, rfl⟩
  go_wp2_with fail
  refine (HF.out _).mono ?_
  rintro e w3 ⟨rfl, hb3⟩
  have hb3 := below_then hb1 hb3
  go_wp2_with fail
  refine (spaces_any _).mono ?_
  rintro e w4 ⟨rfl, hb4⟩
  have hb4 := below_then hb3 hb4
  clear hb1 hb3
  go_wp2_with fail
  refine wp_loop_rounds 7 ?_
  rw [rounds_succ]
  go_wp2_with fail
  rw [rounds_succ]
  go_wp2_with fail
  refine (fold_any _ _ (by decide)).mono ?_
  rintro e w5 ⟨rfl, h⟩
  have hb5 := below_then hb4 h
  clear h hb4
  have e0 : spOf p 5 1 = if low p = low (spn 1) then some 1 else spOf p 4 2 := rfl
  by_cases h1 : low p = low (spn 1)
  ·have hs := sql_yes (a := X) (l := low (spn 1)) (HX.out.trans h1)
   rw [if_pos h1] at e0
   have HE := Lib.hid e0
   clear h1 e0
   go_wp2_with fail
   exact bodyPost_ret (v := .tuple #[.int .i64 1, .string ⟨R.toArray⟩, .bool true]) (by simp [results, Tryz.results165, go_sem]) rfl ⟨by rw [HE.out]; rfl, hb5⟩
  have hs := sql_no (a := X) (l := low (spn 1)) (fun e => h1 (HX.out.symm.trans e))
  rw [if_neg h1] at e0
  have HS2 := Lib.hid e0
  clear h1 e0
  go_wp2_with fail
  clear hs
  rw [rounds_succ]
  go_wp2_with fail
  refine (fold_any _ _ (by decide)).mono ?_
  rintro e w6 ⟨rfl, h⟩
  have hb6 := below_then hb5 h
  clear h hb5
  have e0 : spOf p 4 2 = if low p = low (spn 2) then some 2 else spOf p 3 3 := rfl
  by_cases h2 : low p = low (spn 2)
  ·have hs := sql_yes (a := X) (l := low (spn 2)) (HX.out.trans h2)
   rw [if_pos h2] at e0
   have HE := Lib.hid (HS2.out.trans e0)
   clear h2 e0
   go_wp2_with fail
   exact bodyPost_ret (v := .tuple #[.int .i64 2, .string ⟨R.toArray⟩, .bool true]) (by simp [results, Tryz.results165, go_sem]) rfl ⟨by rw [HE.out]; rfl, hb6⟩
  have hs := sql_no (a := X) (l := low (spn 2)) (fun e => h2 (HX.out.symm.trans e))
  rw [if_neg h2] at e0
  have HS3 := Lib.hid (HS2.out.trans e0)
  clear h2 e0
  go_wp2_with fail
  clear hs
  rw [rounds_succ]
  go_wp2_with fail
  refine (fold_any _ _ (by decide)).mono ?_
  rintro e w7 ⟨rfl, h⟩
  have hb7 := below_then hb6 h
  clear h hb6
  have e0 : spOf p 3 3 = if low p = low (spn 3) then some 3 else spOf p 2 4 := rfl
  by_cases h3 : low p = low (spn 3)
  ·have hs := sql_yes (a := X) (l := low (spn 3)) (HX.out.trans h3)
   rw [if_pos h3] at e0
   have HE := Lib.hid (HS3.out.trans e0)
   clear h3 e0
   go_wp2_with fail
   exact bodyPost_ret (v := .tuple #[.int .i64 3, .string ⟨R.toArray⟩, .bool true]) (by simp [results, Tryz.results165, go_sem]) rfl ⟨by rw [HE.out]; rfl, hb7⟩
  have hs := sql_no (a := X) (l := low (spn 3)) (fun e => h3 (HX.out.symm.trans e))
  rw [if_neg h3] at e0
  have HS4 := Lib.hid (HS3.out.trans e0)
  clear h3 e0
  go_wp2_with fail
  clear hs
  rw [rounds_succ]
  go_wp2_with fail
  refine (fold_any _ _ (by decide)).mono ?_
  rintro e w8 ⟨rfl, h⟩
  have hb8 := below_then hb7 h
  clear h hb7
  have e0 : spOf p 2 4 = if low p = low (spn 4) then some 4 else spOf p 1 5 := rfl
  by_cases h4 : low p = low (spn 4)
  ·have hs := sql_yes (a := X) (l := low (spn 4)) (HX.out.trans h4)
   rw [if_pos h4] at e0
   have HE := Lib.hid (HS4.out.trans e0)
   clear h4 e0
   go_wp2_with fail
   exact bodyPost_ret (v := .tuple #[.int .i64 4, .string ⟨R.toArray⟩, .bool true]) (by simp [results, Tryz.results165, go_sem]) rfl ⟨by rw [HE.out]; rfl, hb8⟩
  have hs := sql_no (a := X) (l := low (spn 4)) (fun e => h4 (HX.out.symm.trans e))
  rw [if_neg h4] at e0
  have HS5 := Lib.hid (HS4.out.trans e0)
  clear h4 e0
  go_wp2_with fail
  clear hs
  rw [rounds_succ]
  go_wp2_with fail
  refine (fold_any _ _ (by decide)).mono ?_
  rintro e w9 ⟨rfl, h⟩
  have hb9 := below_then hb8 h
  clear h hb8
  have e0 : spOf p 1 5 = if low p = low (spn 5) then some 5 else spOf p 0 6 := rfl
  by_cases h5 : low p = low (spn 5)
  ·have hs := sql_yes (a := X) (l := low (spn 5)) (HX.out.trans h5)
   rw [if_pos h5] at e0
   have HE := Lib.hid (HS5.out.trans e0)
   clear h5 e0
   go_wp2_with fail
   exact bodyPost_ret (v := .tuple #[.int .i64 5, .string ⟨R.toArray⟩, .bool true]) (by simp [results, Tryz.results165, go_sem]) rfl ⟨by rw [HE.out]; rfl, hb9⟩
  have hs := sql_no (a := X) (l := low (spn 5)) (fun e => h5 (HX.out.symm.trans e))
  rw [if_neg h5] at e0
  have HS6 := Lib.hid (HS5.out.trans e0)
  clear h5 e0
  go_wp2_with fail
  clear hs
  have HE : Hid (spOf p 5 1 = none) := Lib.hid HS6.out
  rw [rounds_succ]
  go_wp2_with fail
  exact bodyPost_ret (v := .tuple #[.int .i64 0, .string ⟨#[]⟩, .bool false]) (by simp [results, Tryz.results165, go_sem]) rfl ⟨by rw [HE.out]; rfl, hb9⟩
end Go.Proofs.YthieinfonomeeaaGreatDoor
