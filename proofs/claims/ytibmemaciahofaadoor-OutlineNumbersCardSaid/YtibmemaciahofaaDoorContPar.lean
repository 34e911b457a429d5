/-
  Parents of entries, taken anchors: the program's and the reference's functions. Conditions: those typed in each theorem.
-/
import Derived.Test.YtibmemaciahofaaDoorContMem
namespace Go.Proofs.YtibmemaciahofaaDoor
open Go.RowKit Doc Cont
set_option linter.unusedVariables false

set_option maxRecDepth 10000 in
set_option maxHeartbeats 1000000 in
theorem parent_any (p : Option Addr) (L : List Ent) (i c : Nat) (w : World) (hL : Ents w p L) (hi : i < L.length) (hc : L.length ≤ 1000000) :
    Calls Tryd.prog 38 #[.slice p L.length c, .int .i64 i] w fun e w' => e = .returned (.int .i64 (par L (L.getD i default).lv i)) ∧ Below w.heap.size w w' := by
  obtain ⟨b, o, rfl, hb, c0, -⟩ := hL.at hi
  have hA := fun (k : Nat) (hk : k < L.length) => hL.at hk
  have HA := Lib.hid hA
  have HL := Lib.hid hL
  generalize (L.getD i default).lv = lv at *
  obtain ⟨n, hn⟩ : ∃ n, n = L.length := ⟨_, rfl⟩
  rw [← hn] at hi hc ⊢
  have HN := Lib.hid hn
  have C0 := Lib.hid c0
  clear hn hA hL c0
  obtain ⟨R, hR⟩ : ∃ R, par L lv i = R := ⟨_, rfl⟩
  rw [hR]
  go_enter Tryd.func38, Tryd.ntmps38
  go_wp2_with fail
  go_loopg [5] (i + 1) (fun g s5 wr => ∃ t : Int, -1 ≤ t ∧ t < i ∧ (t + 1).toNat < g ∧ s5 = .int .i64 t ∧ par L lv (t + 1).toNat = R ∧ Below w.heap.size w wr)
  case atStart => exact ⟨(i : Int) - 1, by omega, by omega, by omega, rfl, by rw [show ((i : Int) - 1 + 1).toNat = i by omega]; exact hR, Below.refl _ _⟩
  case round =>
    obtain ⟨t, ht1, ht2, hg, rfl, hp, hbr⟩ := hrel
    have HP := Lib.hid hp
    clear hp hR
    by_cases h0 : 0 ≤ t
    · obtain ⟨m, rfl⟩ : ∃ m : Nat, t = m := ⟨t.toNat, by omega⟩
      obtain ⟨b', o', he, hb', c1, -⟩ := HA.out m (by rw [← HN.out]; omega)
      injection he with he
      injection he with e1 e2
      subst e1 e2
      have hpar : par L lv (((m : Int) + 1).toNat) = if (L.getD m default).lv < lv then (m : Int) else par L lv m := by rw [show ((m : Int) + 1).toNat = m + 1 by omega, par]
      generalize (L.getD m default).lv = lm at *
      have HQ := Lib.hid hpar
      have hbw := hbr.size
      have d0 : wr.cell? ⟨b, o + i * 4, none⟩ = some (.int .i64 lv) := (hbr.cell (p := ⟨b, o + i * 4, none⟩) hb).trans C0.out
      have d1 : wr.cell? ⟨b, o + m * 4, none⟩ = some (.int .i64 lm) := (hbr.cell (p := ⟨b, o + m * 4, none⟩) hb).trans c1
      have hbb : b < wr.heap.size := by omega
      have i0 : (0 : Int) ≤ (i : Int) := by omega
      have i1 : (i : Int) < (n : Int) := by omega
      have m0 : (0 : Int) ≤ (m : Int) := by omega
      have m1 : (m : Int) < (n : Int) := by omega
      clear hpar c1
      by_cases hlt : lm < lv
      all_goals
        go_wp2_with fail
        refine wp_region_gr (by kernel_rfl) (by kernel_rfl) ?_
        repeat (go_big_quiet_step (fail))
        refine wpQuiet_nil ?_
        intro _ hw'; obtain ⟨w5, hw''⟩ := hw'; subst hw''
        have hb5 := hbr.trans ((gr_below wr w5).mono hbw)
        generalize gr wr w5 = V at *
        clear d0 d1
        go_wp2_with fail
      · go_ret
        have h1 := HQ.out
        rw [HP.out, if_pos hlt] at h1
        exact ⟨ret_int h1.symm, hb5⟩
      · go_roundg (((m : Int) - 1 + 1).toNat + 1)
        case measure => omega
        case rel => exact ⟨(m : Int) - 1, by omega, by omega, by omega, rfl, by have h1 := HQ.out; rw [HP.out, if_neg (by omega)] at h1; rw [show ((m : Int) - 1 + 1).toNat = m by omega]; exact h1.symm, hb5⟩
    · have ht : t = -1 := by omega
      subst ht
      go_wp2_with fail
      go_ret
      exact ⟨ret_int (by rw [← HP.out]; rfl), hbr⟩

set_option maxRecDepth 10000 in
set_option maxHeartbeats 1000000 in
theorem parentR_any (p : Option Addr) (L : List Ent) (lv : Int) (c : Nat) (w : World) (hL : Ents w p L) (hc : L.length ≤ 1000000) :
    Calls Tryd.prog 53 #[.slice p L.length c, .int .i64 lv] w fun e w' => e = .returned (.int .i64 (par L lv L.length)) ∧ w = w' := by
  have hA := fun (k : Nat) (hk : k < L.length) => hL.at hk
  have HA := Lib.hid hA
  have HL := Lib.hid hL
  obtain ⟨n, hn⟩ : ∃ n, n = L.length := ⟨_, rfl⟩
  rw [← hn] at hc ⊢
  have HN := Lib.hid hn
  clear hn hA hL
  obtain ⟨R, hR⟩ : ∃ R, par L lv n = R := ⟨_, rfl⟩
  rw [hR]
  go_enter Tryd.func53, Tryd.ntmps53
  go_wp2_with fail
  go_loopg [5] (n + 1) (fun g s5 wr => ∃ t : Int, -1 ≤ t ∧ t < n ∧ (t + 1).toNat < g ∧ s5 = .int .i64 t ∧ par L lv (t + 1).toNat = R ∧ w = wr)
  case atStart => exact ⟨(n : Int) - 1, by omega, by omega, by omega, rfl, by rw [show ((n : Int) - 1 + 1).toNat = n by omega]; exact hR, rfl⟩
  case round =>
    obtain ⟨t, ht1, ht2, hg, rfl, hp, rfl⟩ := hrel
    have HP := Lib.hid hp
    clear hp hR
    by_cases h0 : 0 ≤ t
    · obtain ⟨m, rfl⟩ : ∃ m : Nat, t = m := ⟨t.toNat, by omega⟩
      obtain ⟨b, o, rfl, hb, c1, -⟩ := HA.out m (by rw [← HN.out]; omega)
      have hpar : par L lv (((m : Int) + 1).toNat) = if (L.getD m default).lv < lv then (m : Int) else par L lv m := by rw [show ((m : Int) + 1).toNat = m + 1 by omega, par]
      generalize (L.getD m default).lv = lm at *
      have HQ := Lib.hid hpar
      have hm : m < n := by omega
      clear hpar
      by_cases hlt : lm < lv
      all_goals
        go_wp2_with fail
      · go_ret
        have h1 := HQ.out
        rw [HP.out, if_pos hlt] at h1
        exact ⟨ret_int h1.symm, rfl⟩
      · go_roundg (((m : Int) - 1 + 1).toNat + 1)
        case measure => omega
        case rel => exact ⟨(m : Int) - 1, by omega, by omega, by omega, rfl, by have h1 := HQ.out; rw [HP.out, if_neg (by omega)] at h1; rw [show ((m : Int) - 1 + 1).toNat = m by omega]; exact h1.symm, rfl⟩
    · have ht : t = -1 := by omega
      subst ht
      go_wp2_with fail
      go_ret
      exact ⟨ret_int (by rw [← HP.out]; rfl), rfl⟩

theorem s_ne {a b : ByteArray} (h : ¬ a.data.toList = b.data.toList) : (a.toList == b.toList) = false := by
  rw [ByteArray.toList_eq, ByteArray.toList_eq]
  simpa using h
theorem s_eq {a b : ByteArray} (h : a.data.toList = b.data.toList) : (a.toList == b.toList) = true := by
  rw [ByteArray.toList_eq, ByteArray.toList_eq]
  simpa using h
theorem taken_drop (L : List Ent) (x : List UInt8) {k : Nat} (hk : k < L.length) : taken (L.drop k) x = ((L.getD k default).anc.data.toList == x || taken (L.drop (k + 1)) x) := by
  rw [List.drop_eq_getElem_cons hk]
  unfold taken
  rw [List.any_cons]
  simp [List.getD, hk]
set_option maxRecDepth 10000 in
set_option maxHeartbeats 1000000 in
theorem taken_any (p : Option Addr) (L : List Ent) (s : ByteArray) (c : Nat) (w : World) (hL : Ents w p L) (hc : L.length ≤ 1000000) :
    Calls Tryd.prog 55 #[.slice p L.length c, .string s] w fun e w' => e = .returned (.bool (taken L s.data.toList)) ∧ w = w' := by
  have hA := fun (k : Nat) (hk : k < L.length) => hL.at hk
  have HA := Lib.hid hA
  have HL := Lib.hid hL
  obtain ⟨n, hn⟩ : ∃ n, n = L.length := ⟨_, rfl⟩
  rw [← hn] at hc ⊢
  have HN := Lib.hid hn
  clear hn hA hL
  obtain ⟨R, hR⟩ : ∃ R, taken L s.data.toList = R := ⟨_, rfl⟩
  rw [hR]
  go_enter Tryd.func55, Tryd.ntmps55
  go_wp2_with fail
  go_loopg [5] (n + 1) (fun g s5 wr => ∃ m : Nat, m ≤ n ∧ n - m < g ∧ s5 = .int .i64 m ∧ taken (L.drop m) s.data.toList = R ∧ w = wr)
  case atStart => exact ⟨0, Nat.zero_le _, by omega, rfl, hR, rfl⟩
  case round =>
    obtain ⟨m, hm, hg, rfl, hp, rfl⟩ := hrel
    have HP := Lib.hid hp
    clear hp hR
    by_cases hlt : m < n
    · have hmL : m < L.length := by rw [← HN.out]; omega
      obtain ⟨b, o, rfl, hb, -, -, -, c3⟩ := HA.out m hmL
      have hpar := taken_drop L s.data.toList hmL
      generalize (L.getD m default).anc = x at *
      have HQ := Lib.hid hpar
      clear hpar hmL
      by_cases hx : x.data.toList = s.data.toList
      · have hx2 := s_eq hx
        have HX : Hid (R = true) := Lib.hid (by rw [← HP.out, HQ.out, hx]; simp)
        clear hx
        go_wp2_with fail
        go_ret
        exact ⟨ret_bool HX.out.symm, rfl⟩
      · have hx2 := s_ne hx
        have HX : Hid (taken (L.drop (m + 1)) s.data.toList = R) := Lib.hid (by rw [← HP.out, HQ.out, beq_eq_false_iff_ne.2 hx, Bool.false_or])
        clear hx
        go_wp2_with fail
        go_roundg (n - (m + 1) + 1)
        case measure => omega
        case rel => exact ⟨m + 1, by omega, by omega, by go_num, HX.out, rfl⟩
    · have HX : Hid (R = false) := Lib.hid (by rw [← HP.out, List.drop_eq_nil_of_le (by rw [← HN.out]; omega)]; rfl)
      go_wp2_with fail
      go_ret
      exact ⟨ret_bool HX.out.symm, rfl⟩
end Go.Proofs.YtibmemaciahofaaDoor
