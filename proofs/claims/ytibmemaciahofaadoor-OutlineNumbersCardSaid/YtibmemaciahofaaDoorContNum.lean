/-
  Numbers of entries and free anchors: the reference's functions. Conditions: those typed in each theorem.
-/
import Derived.Test.YtibmemaciahofaaDoorContPar
namespace Go.Proofs.YtibmemaciahofaaDoor
open Go.RowKit Doc Cont
set_option linter.unusedVariables false

theorem dec_any (n : Nat) (w : World) (h : n ≤ 1000000000000000000) :
    Calls Tryd.prog 54 #[.int .i64 n] w fun e w' => e = .returned (.string ⟨(Lib.decDigits n).toArray⟩) ∧ Below w.heap.size w w' := by
  have := decimal_any n w (by omega) (by omega)
  rwa [itoa_nat] at this
theorem par_take (L : List Ent) (lv : Int) {k : Nat} (hk : k ≤ L.length) : par (L.take k) lv (L.take k).length = par L lv k := by
  have h1 : (L.take k).length = k := by simp; omega
  have := par_app (L.take k) (L.drop k) lv k (by omega)
  rw [List.take_append_drop] at this
  rw [h1, this]
theorem cnt_succ (L : List Ent) (p : Int) (k : Nat) : cnt L p (k + 1) = cnt L p k + if par L (L.getD k default).lv k = p then 1 else 0 := rfl
theorem dec_size (n : Nat) (h : n ≤ 2000000) : (⟨(Lib.decDigits n).toArray⟩ : ByteArray).size ≤ 7 := by
  have : (⟨(Lib.decDigits n).toArray⟩ : ByteArray).size = (Lib.decDigits n).length := by simp [ByteArray.size]
  rw [this]
  exact dec_len 6 n (by omega)

set_option maxRecDepth 10000 in
set_option maxHeartbeats 2000000 in
theorem number_any (p : Option Addr) (L : List Ent) (lv : Int) (c : Nat) (w : World) (hL : Ents w p L) (hnc : L.length ≤ c) (hcc : c ≤ 9223372036854775807) (hc : L.length ≤ 1000000) (hs : ∀ k, k < L.length → (L.getD k default).num.size ≤ 1000000000) :
    Calls Tryd.prog 41 #[.slice p L.length c, .int .i64 lv] w fun e w' => e = .returned (.string ⟨(numB L lv).toArray⟩) ∧ Below w.heap.size w w' := by
  have hP := fun (k : Nat) (hk : k ≤ L.length) (lv : Int) (W : World) (hW : Below w.heap.size w W) => parentR_any p (L.take k) lv c W ((hL.below hW).take k) (by simp; omega)
  have hQ : ∀ (k : Nat) (lv : Int) (W : World), k ≤ L.length → Below w.heap.size w W → Calls Tryd.prog 53 #[.slice p k c, .int .i64 lv] W fun e w' => e = .returned (.int .i64 (par L lv k)) ∧ W = w' := by
    intro k lv W hk hW
    have := hP k hk lv W hW
    rw [par_take L lv hk] at this
    rwa [show (L.take k).length = k by simp; omega] at this
  have hA := fun (k : Nat) (hk : k < L.length) => hL.at hk
  have HA := Lib.hid hA
  have HL := Lib.hid hL
  obtain ⟨R, hR⟩ : ∃ R, (⟨(numB L lv).toArray⟩ : ByteArray) = R := ⟨_, rfl⟩
  have hb0 := par_bd L lv L.length
  unfold numB at hR
  rw [show (⟨(numB L lv).toArray⟩ : ByteArray) = R from hR]
  obtain ⟨n, hn⟩ : ∃ n, n = L.length := ⟨_, rfl⟩
  rw [← hn] at hc hnc hb0 hR ⊢
  have HN := Lib.hid hn
  have HQ := Lib.hid hQ
  have HS := Lib.hid hs
  have h0 := HQ.out n lv w (by omega) (Below.refl _ _)
  generalize par L lv n = P at *
  have HR := Lib.hid hR
  clear hn hA hL hP hQ hR hs
  go_enter Tryd.func41, Tryd.ntmps41
  go_wp2_with fail
  refine h0.mono ?_
  rintro e w1 ⟨rfl, rfl⟩
  clear h0
  go_wp2_with fail
  go_loopg [6, 7] (n + 1) (fun g s6 s7 wr => ∃ k : Nat, k ≤ n ∧ n - k < g ∧ s7 = .int .i64 k ∧ s6 = .int .i64 ((cnt L P k + 1 : Nat) : Int) ∧ Below w.heap.size w wr)
  case atStart => exact ⟨0, Nat.zero_le _, by omega, rfl, rfl, Below.refl _ _⟩
  case round =>
    obtain ⟨k, hk, hg, rfl, rfl, hbr⟩ := hrel
    have hcl := cnt_le L P k
    have hbw := hbr.size
    by_cases hlt : k < n
    · obtain ⟨b, o, rfl, hb, c1, -⟩ := HA.out k (by rw [← HN.out]; omega)
      have d1 : wr.cell? ⟨b, o + k * 4, none⟩ = some (.int .i64 (L.getD k default).lv) := (hbr.cell (p := ⟨b, o + k * 4, none⟩) hb).trans c1
      have hC := fun w5 => HQ.out k (L.getD k default).lv (gr wr w5) (by rw [← HN.out]; omega) (hbr.trans ((gr_below wr w5).mono hbw))
      have hS := Lib.hid (cnt_succ L P k)
      have hbb : b < wr.heap.size := by omega
      generalize hq : par L (L.getD k default).lv k = q at *
      generalize (L.getD k default).lv = lk at *
      generalize hx : cnt L P k = x at *
      have HX := Lib.hid hx
      have i0 : (0 : Int) ≤ (k : Int) := by omega
      have i1 : (k : Int) < (n : Int) := by omega
      have i2 : (k : Int) ≤ (c : Int) := by omega
      have e1 : (((x + 1 : Nat) : Int) = (x : Int) + 1) := by omega
      rw [e1]
      clear c1 hq e1 hx
      by_cases hqp : q = P
      · have b1 : (q == P) = true := by simpa using hqp
        have HT : Hid (cnt L P (k + 1) = x + 1) := Lib.hid (by rw [hS.out, if_pos hqp])
        clear hqp hS
        go_wp2_with fail
        refine wp_region_gr (by kernel_rfl) (by kernel_rfl) ?_
        repeat (go_big_quiet_step ((go_at_call 53; with_reducible exact gr_same (hC _))))
        refine wpQuiet_nil ?_
        intro _ hw'; obtain ⟨w5, hw''⟩ := hw'; subst hw''
        have hb5 := hbr.trans ((gr_below wr w5).mono hbw)
        clear hC
        generalize gr wr w5 = V at *
        go_wp2_with fail
        go_roundg (n - (k + 1) + 1)
        case measure => omega
        case rel => exact ⟨k + 1, by omega, by omega, by go_num, by rw [HT.out]; go_num, hb5⟩
      · have b1 : (q == P) = false := by simpa using hqp
        have HT : Hid (cnt L P (k + 1) = x) := Lib.hid (by rw [hS.out, if_neg hqp]; rfl)
        clear hqp hS
        go_wp2_with fail
        refine wp_region_gr (by kernel_rfl) (by kernel_rfl) ?_
        repeat (go_big_quiet_step ((go_at_call 53; with_reducible exact gr_same (hC _))))
        refine wpQuiet_nil ?_
        intro _ hw'; obtain ⟨w5, hw''⟩ := hw'; subst hw''
        have hb5 := hbr.trans ((gr_below wr w5).mono hbw)
        clear hC
        generalize gr wr w5 = V at *
        go_wp2_with fail
        go_roundg (n - (k + 1) + 1)
        case measure => omega
        case rel => exact ⟨k + 1, by omega, by omega, by go_num, by rw [HT.out]; go_num, hb5⟩
    · obtain rfl : k = n := by omega
      have hD := fun W => dec_any (cnt L P k + 1) W (by omega)
      have hds := dec_size (cnt L P k + 1) (by omega)
      generalize hDD : (⟨(Lib.decDigits (cnt L P k + 1)).toArray⟩ : ByteArray) = DD at *
      have HD := Lib.hid hD
      have HDD := Lib.hid hDD
      clear hD hDD
      by_cases hneg : P < 0
      · go_wp2_with fail
        refine (HD.out _).mono ?_
        rintro e w2 ⟨rfl, hb2⟩
        go_wp2_with fail
        go_ret
        exact ⟨congrArg (fun x => Ending.returned (.string x)) (by rw [← HR.out, if_pos hneg, List.nil_append, HDD.out]), hbr.trans (hb2.mono hbw)⟩
      · obtain ⟨m, rfl⟩ : ∃ m : Nat, P = m := ⟨P.toNat, by omega⟩
        have hmn : m < L.length := by rw [← HN.out]; omega
        obtain ⟨b, o, rfl, hb, -, c2, -⟩ := HA.out m hmn
        have hsz := HS.out m hmn
        have d1 : wr.cell? ⟨b, o + m * 4 + 1, none⟩ = some (.string (L.getD m default).num) := (hbr.cell (p := ⟨b, o + m * 4 + 1, none⟩) hb).trans c2
        have HR2 : Hid ((L.getD m default).num.data.toList ++ [46] ++ Lib.decDigits (cnt L m k + 1) = R.data.toList) := Lib.hid (by
          have := HR.out
          rw [if_neg hneg, show ((m : Int)).toNat = m by omega] at this
          rw [← this])
        generalize (L.getD m default).num = num at *
        have hbb : b < wr.heap.size := by omega
        have i0 : (0 : Int) ≤ (m : Int) := by omega
        have i1 : (m : Int) < (k : Int) := by omega
        have i3 : decide ((m : Int) < 0) = false := by simp
        generalize cnt L m k = x at *
        have e1 : (((x + 1 : Nat) : Int) = (x : Int) + 1) := by omega
        rw [e1] at HD ⊢
        have hHD := HD.out
        clear c2 hneg e1 hmn
        go_wp2_with fail
        refine wp_region_gr (by kernel_rfl) (by kernel_rfl) ?_
        repeat (go_big_quiet_step ((go_at_call 54; with_reducible exact gr_call (hHD _))))
        refine wpQuiet_nil ?_
        intro _ hw'; obtain ⟨w5, hw''⟩ := hw'; subst hw''
        have hb5 := hbr.trans ((gr_below wr w5).mono hbw)
        clear hHD
        generalize gr wr w5 = V at *
        go_wp2_with fail
        go_ret
        exact ⟨congrArg (fun x => Ending.returned (.string x)) (ByteArray.ext (Array.toList_inj.1 (by rw [← HR2.out, ← HDD.out]; simp))), hb5⟩
end Go.Proofs.YtibmemaciahofaaDoor
