/-
  The law about lines of code. Condition: the library's MaxLen holds a number.
-/
import Derived.Test.YthieinfonomeeaaGreatDoorCab
import Derived.Test.YthieinfonomeeaaGreatDoorAbb

namespace Go.Proofs.YthieinfonomeeaaGreatDoor
open Go.RowKit Doc Tit Inl Blk
set_option linter.unusedVariables false
attribute [local go_sem ↓] Go.wp_at_zero Go.wp_at_succ

theorem index_one_no {a : UInt8} : ∀ {s : List UInt8}, Lib.index s [a] = -1 → ∀ c ∈ s, c ≠ a
  | [], _, c, hc => by cases hc
  | b :: s, h, c, hc => by
    rw [index_cons] at h
    have hp : Lib.hasPrefix (b :: s) [a] = (a == b) := by
      rw [hp_cons]
      have : Lib.hasPrefix s [] = true := by cases s <;> rfl
      rw [this, Bool.and_true]
    rw [hp] at h
    by_cases e : a = b
    · rw [if_pos (by simpa using e)] at h; omega
    · rw [if_neg (by simpa using e)] at h
      have hs : Lib.index s [a] = -1 := by
        by_cases hs : Lib.index s [a] = -1
        · exact hs
        · rw [if_neg (by simpa using hs)] at h
          have := Lib.index_ge s [a]
          omega
      rcases List.mem_cons.1 hc with rfl | hc
      · exact fun e2 => e e2.symm
      · exact index_one_no hs c hc
theorem w3_set2 : (([32, 9, 13] : List UInt8).contains ·) = w3 := by
  funext c
  rw [Bool.eq_iff_iff]
  simp only [List.contains_cons, List.contains_nil, Bool.or_false, w3, Bool.or_eq_true]
  exact ⟨fun h => h.elim (fun h => .inr h) (fun h => .inl h), fun h => h.elim (fun h => .inr h) (fun h => .inl h)⟩
theorem tot_badd : ∀ l : List Line, Blk.tot (l.map badd) = Blk.tot l + l.length
  | [] => rfl
  | a :: r => by
    rw [List.map_cons, Blk.tot, Blk.tot, tot_badd r, List.length_cons]
    show a.length + 1 + 1 + _ = _
    omega
set_option maxRecDepth 20000 in
set_option maxHeartbeats 4000000 in
theorem law_code (s : ByteArray) (w : World) (hm : MX w) : Calls Tryz.prog 10 #[.string s] w fun e w' => e = .returned (.bool true) ∧ Below w.heap.size w w' := by
  have HM := Lib.hid hm
  have hKN := fun (W : World) (hb : Below w.heap.size w W) => bknown_any W (HM.out.below hb)
  have HKN := Lib.hid hKN
  obtain ⟨m, hm0⟩ := hm
  have hC := Tryz.strings_Contains s ⟨#[38]⟩ m w
  clear hKN
  by_cases hs : s.size ≤ 300
  · have g1 : decide ((300 : Int) < (s.size : Int)) = false := decide_eq_false (by omega)
    have hC := hC (by omega) hm0
    obtain ⟨t, ht⟩ : ∃ t, Lib.contains s.data.toList (⟨#[38]⟩ : ByteArray).data.toList = t := ⟨_, rfl⟩
    rw [ht] at hC
    cases t with
    | true =>
      clear ht
      go_enter Tryz.func10, Tryz.ntmps10
      go_wp2_with fail
      refine hC.mono ?_
      rintro e w1 ⟨rfl, rfl⟩
      go_wp2_with fail
      refine (HKN.out _ (Below.refl _ _)).mono ?_
      rintro e w2 ⟨rfl, hb2⟩
      go_wp2_with fail
      go_ret
      exact ⟨rfl, hb2⟩
    | false =>
      have hno : ∀ c ∈ s.data.toList, c ≠ 38 := index_one_no (by
        have h1 := Lib.index_ge s.data.toList [38]
        have h2 : ¬ (0 ≤ Lib.index s.data.toList [38]) := of_decide_eq_false ht
        omega)
      have hLN := lines12_any s w (by omega)
      have hcode := fun h => blocks_code (s := s.data.toList) hno h
      have htot : Blk.tot (lines s.data.toList) = s.data.toList.length + 1 := spl_tot 10 _
      have e1 : s.data.toList.length = s.size := by simp
      rw [e1] at htot
      have HLN := Lib.hid hLN
      have HCODE := Lib.hid hcode
      clear ht hno hLN hcode e1
      go_enter Tryz.func10, Tryz.ntmps10
      go_wp2_with fail
      refine hC.mono ?_
      rintro e w1 ⟨rfl, rfl⟩
      clear hC
      go_wp2_with fail
      refine HLN.out.mono ?_
      rintro e w2 ⟨L, b, c, rfl, hbl, hSL, hb0, hbz, hb2⟩
      rw [← hbl] at htot
      have hlen := Blk.len_tot (bl L)
      rw [bl_length] at hlen
      have hcells : ∀ (j : Nat) (x : ByteArray), L[j]? = some x → w2.cell? ⟨b, j, none⟩ = some (.string x) := fun j x hx => by
        rcases hSL.2.2 with h | ⟨b', o', h1, h2, h3⟩
        · rw [h] at hx; simp at hx
        · injection h1 with h1
          injection h1 with h1 h1'
          subst h1 h1'
          have := h3 j x hx
          rwa [Nat.zero_add] at this
      have hcap := hSL.1
      obtain ⟨n, hn⟩ : ∃ n, n = L.length := ⟨_, rfl⟩
      rw [← hn] at hlen hcap ⊢
      have HN := Lib.hid hn
      have HCELLS := Lib.hid hcells
      have HBL := Lib.hid hbl
      have HB2 := Lib.hid hb2
      have hTR := fun (x : ByteArray) (hx : x.size ≤ 100000000) W => ptrim_set x [32, 9, 13] W hx (by decide) (by decide)
      have HTR := Lib.hid hTR
      have hmem : ∀ (j : Nat) (x : ByteArray), L[j]? = some x → x.size + 1 ≤ Blk.tot (bl L) := fun j x hx => bl_tot (Nat.le_refl _) x (List.mem_of_getElem? hx)
      have HMEM := Lib.hid hmem
      clear hn hcells hSL hbl hb2 HLN hTR hmem hm0
      go_wp2_with fail
      go_loopg [4, 5] (n + 1) (fun g s4 s5 wr => ∃ (j : Nat) (T : ByteArray), j ≤ n ∧ n < j + g ∧ s5 = .int .i64 j ∧ s4 = .string T ∧ T.data.toList = joinL ((bl (L.take j)).map badd) ∧ (∀ y ∈ bl (L.take j), y.all w3 = false) ∧ Below w2.heap.size w2 wr)
      case atStart => exact ⟨0, ⟨#[]⟩, by omega, by omega, rfl, rfl, by simp [bl, joinL], by simp [bl], Below.refl _ _⟩
      case round =>
        obtain ⟨j, T, hj, hg, rfl, rfl, hT, hall, hb⟩ := hrel
        have hTz : T.size ≤ 1000 := by
          have h1 := joinL_len ((bl (L.take j)).map badd)
          rw [← hT, tot_badd, bl_length, List.length_take] at h1
          have h2 := Blk.tot_take j (bl L)
          rw [← bl_take] at h2
          have h3 : T.data.toList.length = T.size := by simp
          omega
        have HT := Lib.hid hT
        have HALL := Lib.hid hall
        have HB := Lib.hid hb
        have hz := hb.size
        clear hT hall hb
        by_cases hjn : j < n
        · obtain ⟨x, hx⟩ : ∃ x, L[j]? = some x := ⟨_, List.getElem?_eq_getElem (by rw [← HN.out]; exact hjn)⟩
          have g2 : decide (j < n) = true := decide_eq_true hjn
          have d1 := (HB.out.cell (p := ⟨b, j, none⟩) hbz).trans (HCELLS.out j x hx)
          have hbw : b < wr.heap.size := by omega
          have hxz := HMEM.out j x hx
          have hXX : x.size ≤ 1000 := by omega
          have hTR := fun W => HTR.out x (by omega) W
          rw [trimS_eq, w3_set2] at hTR
          have hem := mk_isEmpty (trimW w3 x.data.toList)
          rw [trimW_empty] at hem
          have htk : bl (L.take (j + 1)) = bl (L.take j) ++ [x.data.toList] := by
            rw [List.take_add_one, hx, bl_app]; rfl
          obtain ⟨X, hXd⟩ : ∃ X : ByteArray, ⟨(trimW w3 x.data.toList).toArray⟩ = X := ⟨_, rfl⟩
          rw [hXd] at hTR hem
          obtain ⟨v, hv⟩ : ∃ v, x.data.toList.all w3 = v := ⟨_, rfl⟩
          rw [hv] at hem
          have HTRX := Lib.hid hTR
          have HTK := Lib.hid htk
          have HV := Lib.hid hv
          clear hTR htk hXd hxz hx hv
          cases v with
          | true =>
            go_wp2_with fail
            refine (HTRX.out _).mono ?_
            rintro e w3 ⟨rfl, hb3⟩
            have hb3' := below_then HB2.out (below_then HB.out hb3)
            go_wp2_with fail
            refine (HKN.out _ hb3').mono ?_
            rintro e w4 ⟨rfl, hb4⟩
            go_wp2_with fail
            go_ret
            exact ⟨rfl, below_then hb3' hb4⟩
          | false =>
            have hall2 : ∀ y ∈ bl (L.take (j + 1)), y.all w3 = false := fun y hy => by
              rw [HTK.out] at hy
              rcases List.mem_append.1 hy with hy | hy
              · exact HALL.out y hy
              · have : y = x.data.toList := by simpa using hy
                subst this; exact HV.out
            have hjo : joinL ((bl (L.take (j + 1))).map badd) = if (bl (L.take j)).map badd = [] then badd x.data.toList else T.data.toList ++ 10 :: badd x.data.toList := by
              rw [HTK.out, List.map_append]
              show joinL (_ ++ [badd x.data.toList]) = _
              rw [join_snoc, HT.out]
            have HALL2 := Lib.hid hall2
            have HJO := Lib.hid hjo
            clear hall2 hjo
            have hov : ¬ (9223372036854775807 < T.size + (⟨#[32]⟩ : ByteArray).size) := by show ¬ (9223372036854775807 < T.size + 1); omega
            have hov2 : ¬ (9223372036854775807 < (T ++ (⟨#[32]⟩ : ByteArray)).size + x.size) := by rw [ByteArray.size_append]; show ¬ (9223372036854775807 < T.size + 1 + x.size); omega
            have hov3 : ¬ (9223372036854775807 < T.size + (⟨#[10]⟩ : ByteArray).size) := by show ¬ (9223372036854775807 < T.size + 1); omega
            have hov4 : ¬ (9223372036854775807 < (T ++ (⟨#[10]⟩ : ByteArray)).size + (⟨#[32]⟩ : ByteArray).size) := by rw [ByteArray.size_append]; show ¬ (9223372036854775807 < T.size + 1 + 1); omega
            have hov5 : ¬ (9223372036854775807 < (T ++ (⟨#[10]⟩ : ByteArray) ++ (⟨#[32]⟩ : ByteArray)).size + x.size) := by rw [ByteArray.size_append, ByteArray.size_append]; show ¬ (9223372036854775807 < T.size + 1 + 1 + x.size); omega
            by_cases hj0 : j = 0
            · have g3 : decide (0 < j) = false := decide_eq_false (by omega)
              have hT2 : (T ++ (⟨#[32]⟩ : ByteArray) ++ x).data.toList = joinL ((bl (L.take (j + 1))).map badd) := by
                have hT0 : T.data.toList = [] := by rw [HT.out, hj0]; simp [bl, joinL]
                rw [HJO.out, if_pos (by rw [hj0]; simp [bl]), app_data, app_data, hT0]
                rfl
              have HT2 := Lib.hid hT2
              clear hT2 hj0
              go_wp2_with fail
              refine (HTRX.out _).mono ?_
              rintro e w3 ⟨rfl, hb3⟩
              have e1 := (hb3.cell (p := ⟨b, j, none⟩) hbw).trans d1
              have hbw3 : b < w3.heap.size := Nat.lt_of_lt_of_le hbw hb3.size
              have hb3' := below_then HB.out hb3
              clear hb3
              go_wp2_with fail
              go_roundg (n - j)
              case measure => omega
              case rel => exact ⟨j + 1, _, by omega, by omega, by go_num, rfl, HT2.out, HALL2.out, hb3'⟩
            · have g3 : decide (0 < j) = true := decide_eq_true (by omega)
              have hT2 : (T ++ (⟨#[10]⟩ : ByteArray) ++ (⟨#[32]⟩ : ByteArray) ++ x).data.toList = joinL ((bl (L.take (j + 1))).map badd) := by
                have hne : (bl (L.take j)).map badd ≠ [] := fun e => by
                  have h1 := congrArg List.length e
                  rw [List.length_map, bl_length, List.length_take] at h1
                  have h0 := HN.out
                  rw [List.length_nil] at h1
                  omega
                rw [HJO.out, if_neg hne, app_data, app_data, app_data]
                simp [badd]
              have HT2 := Lib.hid hT2
              clear hT2 hj0
              go_wp2_with fail
              refine (HTRX.out _).mono ?_
              rintro e w3 ⟨rfl, hb3⟩
              have e1 := (hb3.cell (p := ⟨b, j, none⟩) hbw).trans d1
              have hbw3 : b < w3.heap.size := Nat.lt_of_lt_of_le hbw hb3.size
              have hb3' := below_then HB.out hb3
              clear hb3
              go_wp2_with fail
              go_roundg (n - j)
              case measure => omega
              case rel => exact ⟨j + 1, _, by omega, by omega, by go_num, rfl, HT2.out, HALL2.out, hb3'⟩
        · have hje : j = n := by omega
          subst hje
          have g2 : decide (j < j) = false := by simp
          have htk : L.take j = L := List.take_of_length_le (by rw [← HN.out]; exact Nat.le_refl _)
          have hTf := HT.out
          have hAf := HALL.out
          rw [htk, HBL.out] at hTf hAf
          have hbk := HCODE.out hAf
          rw [← hTf] at hbk
          have hbw := below_then HB2.out HB.out
          have hmr := HM.out.below hbw
          have hP := pbparse_any T wr (by omega) hmr
          rw [hbk] at hP
          have hl1 : (blk 6 0 s.data.toList .nil .nil).len = 1 := rfl
          rw [hl1] at hP
          have HP := Lib.hid hP
          have HBW := Lib.hid hbw
          clear hP hTf hAf hbk hmr hbw hjn HT HALL HB
          go_wp2_with fail
          refine HP.out.mono ?_
          rintro e w4 ⟨p, cc, rfl, hsl, hb4⟩
          obtain ⟨bb, o, ip, ic, kp, kc, rfl, -, hnc, hcm, hbl, c0, c1, c2, c3, c4, -, -, -⟩ := bls_head hsl
          have c2' : w4.cell? ⟨bb, o + 2, none⟩ = some (.string s) := c2
          clear c2
          have hb4' := below_then HBW.out hb4
          clear hsl hb4
          go_wp2_with fail
          refine (HKN.out _ hb4').mono ?_
          rintro e w5 ⟨rfl, hb5⟩
          go_wp2_with fail
          go_ret
          exact ⟨rfl, below_then hb4' hb5⟩
  · have g1 : decide ((300 : Int) < (s.size : Int)) = true := decide_eq_true (by omega)
    clear hC
    go_enter Tryz.func10, Tryz.ntmps10
    go_wp2_with fail
    refine (HKN.out _ (Below.refl _ _)).mono ?_
    rintro e w2 ⟨rfl, hb2⟩
    go_wp2_with fail
    go_ret
    exact ⟨rfl, hb2⟩
end Go.Proofs.YthieinfonomeeaaGreatDoor
