/-
  The law InlineShape: no mark is within one of its own kind, none is empty, links have valid targets or anchors. Condition: the library's MaxLen holds a number.
  The law InlineShape: no mark is within one of its own kind, none is empty, links have valid targets or anchors. Condition: the library's MaxLen holds a number.
-/
import Derived.Test.YtegcacnmcdkfiaaGreatDoorVb
import Derived.Test.YtegcacnmcdkfiaaGreatDoorRa

namespace Go.Proofs.YtegcacnmcdkfiaaGreatDoor
open Go.RowKit Doc Tit Inl
set_option linter.unusedVariables false
attribute [local go_sem ↓] Go.wp_at_zero Go.wp_at_succ

theorem okK_form {k : Int} {t : ByteArray} {n : Nat} {b i s2 s3 s0 : Bool} (h : okK k t n b i s2 s3 s0 = true) :
    (k = 2 ∧ b = false ∧ n ≠ 0 ∧ s2 = true) ∨ (k = 3 ∧ i = false ∧ n ≠ 0 ∧ s3 = true) ∨ (k = 4 ∧ s0 = true) ∨ (k = 5 ∧ s0 = true) ∨ (k = 1 ∧ t.toList.isEmpty = false ∧ n = 0) ∨ (k = 6 ∧ t.toList.isEmpty = true ∧ n = 0) := by
  unfold okK at h
  split at h
  · rename_i hk; subst hk; simp only [Bool.and_eq_true, Bool.not_eq_true', decide_eq_true_eq] at h; exact .inl ⟨rfl, h.1.1, h.1.2, h.2⟩
  split at h
  · rename_i hk; subst hk; simp only [Bool.and_eq_true, Bool.not_eq_true', decide_eq_true_eq] at h; exact .inr (.inl ⟨rfl, h.1.1, h.1.2, h.2⟩)
  split at h
  · rename_i hk; exact .inr (.inr (.inl ⟨hk, h⟩))
  split at h
  · rename_i hk; exact .inr (.inr (.inr (.inl ⟨hk, h⟩)))
  split at h
  · rename_i hk
    simp only [Bool.and_eq_true, decide_eq_true_eq] at h
    refine .inr (.inr (.inr (.inr (.inl ⟨hk, ?_, h.2⟩))))
    rw [Lib.toList_data]
    cases hl : t.data.toList with
    | nil => exact absurd hl h.1
    | cons _ _ => rfl
  split at h
  · rename_i hk
    simp only [Bool.and_eq_true, decide_eq_true_eq] at h
    refine .inr (.inr (.inr (.inr (.inr ⟨hk, ?_, h.2⟩))))
    rw [Lib.toList_data, h.1]
    rfl
  · cases h
set_option maxRecDepth 20000 in
set_option maxHeartbeats 4000000 in
theorem shallow_any : ∀ (N : Nat) (q : Nat → Prop) (L : Ins) (b i : Bool) (p : Option Addr) (c : Nat) (w : World), L.size < N → L.size ≤ 1000000 → shal b i L = true → insS.sl q w (.slice p L.len c) L →
    Calls Tryz.prog 23 #[.slice p L.len c, .bool b, .bool i] w fun e w' => e = .returned (.bool true) ∧ Below w.heap.size w w' := by
  intro N
  induction N with
  | zero => intro q L b i p c w hN; exact absurd hN (Nat.not_lt_zero _)
  | succ N ih =>
    intro q L b i p c w hN hM hgd hv
    obtain ⟨hF, -, hnc, hc⟩ := Shp.rest_start hv
    have hlen := L.len_size
    obtain ⟨n, hn⟩ : ∃ n, n = L.len := ⟨_, rfl⟩
    rw [← hn] at hlen hnc ⊢
    have HN := Lib.hid hn
    clear hn hv
    go_enter Tryz.func23, Tryz.ntmps23
    go_wp2_with fail
    go_loopg [7, 8] (n + 1) (fun g s7 _ wr => ∃ (A R : Ins), A.app R = L ∧ A.len + R.len = n ∧ R.len < g ∧ s7 = .int .i64 A.len ∧ shal b i R = true ∧ Below w.heap.size w wr ∧ insS.rest q w p A.len R)
    case atStart => exact ⟨.nil, L, rfl, by simp [Ins.len]; exact HN.out.symm, by rw [← HN.out]; omega, rfl, hgd, Below.refl _ _, hF⟩
    case round =>
      obtain ⟨A, R, hAR, hi1, hg, rfl, hsh, hb, hR⟩ := hrel
      have HAR := Lib.hid hAR
      have hsz := Ins.size_app A R
      rw [hAR] at hsz
      generalize hi : A.len = j at *
      have HI := Lib.hid hi
      clear hAR hi hgd
      cases R with
      | nil =>
        have g1 : decide (j < n) = false := by simp [Ins.len] at hi1; simp; omega
        clear hi1 hR
        go_wp2_with fail
        go_ret
        exact ⟨rfl, hb⟩
      | cons a t s o' h k r =>
        rcases hR with hR | ⟨x, o, ys, rfl, hqb, hbl, hA, hE⟩
        · cases hR
        obtain ⟨kp, kc, c0, c1, c2, c3, c4, c5, hk, hr⟩ := hE.head hA
        simp only [Ins.size] at hsz
        rw [shal, Bool.and_eq_true] at hsh
        obtain ⟨hok, hsr⟩ := hsh
        have hks : k.size < N := by omega
        have hks2 : k.size ≤ 1000000 := by omega
        have hT : insS.rest q w (some ⟨x, o, none⟩) (j + 1) r := .inr ⟨x, o, ys, rfl, hqb, hbl, hA, hE.tail⟩
        have HT := Lib.hid hT
        have g1 : decide (j < n) = true := by simp [Ins.len] at hi1; simp; omega
        have hin : j < n := by simp [Ins.len] at hi1; omega
        have hkl := k.len_size
        have hel := fun (u v : Bool) (hs : shal u v k = true) W (hW : Below w.heap.size w W) => ih q k u v kp kc W hks hks2 hs (insS.sl_on hk (Kept.below hW))
        obtain ⟨kn, hkn⟩ : ∃ kn, kn = k.len := ⟨_, rfl⟩
        rw [← hkn] at hel hkl c5 hok
        have d0 := (hb.cell (p := ⟨x, o + j * 6, none⟩) hbl).trans c0
        have d1 := (hb.cell (p := ⟨x, o + j * 6 + 1, none⟩) hbl).trans c1
        have d2 := (hb.cell (p := ⟨x, o + j * 6 + 2, none⟩) hbl).trans c2
        have d3 := (hb.cell (p := ⟨x, o + j * 6 + 3, none⟩) hbl).trans c3
        have d4 := (hb.cell (p := ⟨x, o + j * 6 + 4, none⟩) hbl).trans c4
        have d5 := (hb.cell (p := ⟨x, o + j * 6 + 5, none⟩) hbl).trans c5
        have hz := hb.size
        have hbl2 : x < wr.heap.size := by omega
        have HBn := Lib.hid (below_then hb (below_new0 wr (.cells #[.int .i64 a, .string t, .int .i64 s, .string o', .string h, .slice kp kn kc] 42)))
        have HEL := Lib.hid hel
        have HG := Lib.hid hi1
        have HGG := Lib.hid hg
        have HSR := Lib.hid hsr
        clear hk hr hE hA ih hT hi1 hg hel hb c0 c1 c2 c3 c4 c5 hqb hkn hsr
        have hrel' : ∀ W, Below w.heap.size w W → ∃ (A' R' : Ins), A'.app R' = L ∧ A'.len + R'.len = n ∧ R'.len < r.len + 1 ∧ Value.int .i64 ((j : Int) + 1) = .int .i64 A'.len ∧ shal b i R' = true ∧ Below w.heap.size w W ∧ insS.rest q w (some ⟨x, o, none⟩) A'.len R' := fun W hW => by
          have hl : (A.app (.cons a t s o' h k .nil)).len = j + 1 := by rw [Ins.len_app, HI.out]; rfl
          have h1 := HG.out
          simp only [Ins.len] at h1
          exact ⟨A.app (.cons a t s o' h k .nil), r, by rw [Ins.app_assoc]; exact HAR.out, by rw [hl]; omega, by omega, by rw [hl]; rfl, HSR.out, hW, by rw [hl]; exact HT.out⟩
        have HREL := Lib.hid hrel'
        have hrlen : r.len + 1 < gk := by
          have h1 := HG.out
          have h2 := HGG.out
          simp only [Ins.len] at h1 h2
          omega
        clear hrel'
        rcases okK_form hok with ⟨rfl, rfl, h1, h2⟩ | ⟨rfl, rfl, h1, h2⟩ | ⟨rfl, h2⟩ | ⟨rfl, h2⟩ | ⟨rfl, h1, h2⟩ | ⟨rfl, h1, h2⟩
        · have hR := HEL.out true i h2
          have HR := Lib.hid hR
          clear hR hok
          have g3 : ((kn : Int) == 0) = false := beq_eq_false_iff_ne.2 (by omega)
          have g4 : (kn == 0) = false := beq_eq_false_iff_ne.2 h1
          go_wp2_with fail
          refine (HR.out _ HBn.out).mono ?_
          rintro e w2 ⟨rfl, hb2⟩
          have hb3 := below_then HBn.out hb2
          go_wp2_with fail
          go_roundg (r.len + 1)
          case measure => omega
          case rel => simpa using HREL.out _ hb3
        · have hR := HEL.out b true h2
          have HR := Lib.hid hR
          clear hR hok
          have g3 : ((kn : Int) == 0) = false := beq_eq_false_iff_ne.2 (by omega)
          have g4 : (kn == 0) = false := beq_eq_false_iff_ne.2 h1
          go_wp2_with fail
          refine (HR.out _ HBn.out).mono ?_
          rintro e w2 ⟨rfl, hb2⟩
          have hb3 := below_then HBn.out hb2
          go_wp2_with fail
          go_roundg (r.len + 1)
          case measure => omega
          case rel => simpa using HREL.out _ hb3
        · have hR := HEL.out false false h2
          have HR := Lib.hid hR
          clear hR hok
          go_wp2_with fail
          refine (HR.out _ HBn.out).mono ?_
          rintro e w2 ⟨rfl, hb2⟩
          have hb3 := below_then HBn.out hb2
          go_wp2_with fail
          go_roundg (r.len + 1)
          case measure => omega
          case rel => simpa using HREL.out _ hb3
        · have hR := HEL.out false false h2
          have HR := Lib.hid hR
          clear hR hok
          go_wp2_with fail
          refine (HR.out _ HBn.out).mono ?_
          rintro e w2 ⟨rfl, hb2⟩
          have hb3 := below_then HBn.out hb2
          go_wp2_with fail
          go_roundg (r.len + 1)
          case measure => omega
          case rel => simpa using HREL.out _ hb3
        · subst h2
          clear hok
          have hb3 := HBn.out
          go_wp2_with fail
          go_roundg (r.len + 1)
          case measure => omega
          case rel => simpa using HREL.out _ hb3
        · subst h2
          clear hok
          have hb3 := HBn.out
          go_wp2_with fail
          go_roundg (r.len + 1)
          case measure => omega
          case rel => simpa using HREL.out _ hb3
end Go.Proofs.YtegcacnmcdkfiaaGreatDoor

namespace Go.Proofs.YtegcacnmcdkfiaaGreatDoor
open Go.RowKit Doc Tit Inl
set_option linter.unusedVariables false
attribute [local go_sem ↓] Go.wp_at_zero Go.wp_at_succ

theorem valid_len {s : Int} {l : List UInt8} (h : valid s l = true) : l.length ≤ 100 := by
  unfold valid validN at h
  simp only [Bool.and_eq_true, decide_eq_true_eq] at h
  omega
/-- what the laws ask of a link -/
theorem tgtK_form {k s : Int} {n h : ByteArray} (hk : tgtK k s n h = true) :
    (k == 4) = false ∨ (k = 4 ∧ valid s n.data.toList = true ∧ n.size ≤ 100) ∨ (k = 4 ∧ valid s n.data.toList = false ∧ s = 0 ∧ n = ⟨#[]⟩ ∧ h.toList.isEmpty = false) := by
  unfold tgtK at hk
  cases h4 : (k == 4) with
  | false => exact .inl rfl
  | true =>
    have h4 := eq_of_beq h4
    subst h4
    cases hv : valid s n.data.toList with
    | true => exact .inr (.inl ⟨rfl, rfl, by have := valid_len hv; simpa using this⟩)
    | false =>
      rw [hv] at hk
      simp at hk
      obtain ⟨⟨h1, h2⟩, h3⟩ := hk
      refine .inr (.inr ⟨rfl, rfl, h1, ?_, ?_⟩)
      · cases n; simp_all
      · rw [Lib.toList_data]
        cases hl : h.data.toList with
        | nil => simp_all
        | cons _ _ => rfl
set_option maxRecDepth 20000 in
set_option maxHeartbeats 4000000 in
theorem targets_any : ∀ (N : Nat) (q : Nat → Prop) (L : Ins) (p : Option Addr) (c : Nat) (w : World), L.size < N → L.size ≤ 1000000 → tgt L = true → insS.sl q w (.slice p L.len c) L →
    Calls Tryz.prog 24 #[.slice p L.len c] w fun e w' => e = .returned (.bool true) ∧ Below w.heap.size w w' := by
  intro N
  induction N with
  | zero => intro q L p c w hN; exact absurd hN (Nat.not_lt_zero _)
  | succ N ih =>
    intro q L p c w hN hM hgd hv
    obtain ⟨hF, -, hnc, hc⟩ := Shp.rest_start hv
    have hlen := L.len_size
    obtain ⟨n, hn⟩ : ∃ n, n = L.len := ⟨_, rfl⟩
    rw [← hn] at hlen hnc ⊢
    have HN := Lib.hid hn
    clear hn hv
    go_enter Tryz.func24, Tryz.ntmps24
    go_wp2_with fail
    go_loopg [3] (n + 1) (fun g s3 wr => ∃ (A R : Ins), A.app R = L ∧ A.len + R.len = n ∧ R.len < g ∧ s3 = .int .i64 A.len ∧ tgt R = true ∧ Below w.heap.size w wr ∧ insS.rest q w p A.len R)
    case atStart => exact ⟨.nil, L, rfl, by simp [Ins.len]; exact HN.out.symm, by rw [← HN.out]; omega, rfl, hgd, Below.refl _ _, hF⟩
    case round =>
      obtain ⟨A, R, hAR, hi1, hg, rfl, hsh, hb, hR⟩ := hrel
      have HAR := Lib.hid hAR
      have hsz := Ins.size_app A R
      rw [hAR] at hsz
      generalize hi : A.len = j at *
      have HI := Lib.hid hi
      clear hAR hi hgd
      cases R with
      | nil =>
        have g1 : decide (j < n) = false := by simp [Ins.len] at hi1; simp; omega
        clear hi1 hR
        go_wp2_with fail
        go_ret
        exact ⟨rfl, hb⟩
      | cons a t s o' h k r =>
        rcases hR with hR | ⟨x, o, ys, rfl, hqb, hbl, hA, hE⟩
        · cases hR
        obtain ⟨kp, kc, c0, c1, c2, c3, c4, c5, hk, hr⟩ := hE.head hA
        simp only [Ins.size] at hsz
        rw [tgt, Bool.and_eq_true, Bool.and_eq_true] at hsh
        obtain ⟨⟨hok, hsk⟩, hsr⟩ := hsh
        have hks : k.size < N := by omega
        have hks2 : k.size ≤ 1000000 := by omega
        have hT : insS.rest q w (some ⟨x, o, none⟩) (j + 1) r := .inr ⟨x, o, ys, rfl, hqb, hbl, hA, hE.tail⟩
        have HT := Lib.hid hT
        have g1 : decide (j < n) = true := by simp [Ins.len] at hi1; simp; omega
        have hin : j < n := by simp [Ins.len] at hi1; omega
        have hkl := k.len_size
        have hel := fun W (hW : Below w.heap.size w W) => ih q k kp kc W hks hks2 hsk (insS.sl_on hk (Kept.below hW))
        obtain ⟨kn, hkn⟩ : ∃ kn, kn = k.len := ⟨_, rfl⟩
        rw [← hkn] at hel hkl c5
        have hcs : ∀ W, Below w.heap.size w W → W.cell? ⟨x, o + j * 6, none⟩ = some (.int .i64 a) ∧ W.cell? ⟨x, o + j * 6 + 2, none⟩ = some (.int .i64 s) ∧ W.cell? ⟨x, o + j * 6 + 3, none⟩ = some (.string o') ∧ W.cell? ⟨x, o + j * 6 + 4, none⟩ = some (.string h) ∧ W.cell? ⟨x, o + j * 6 + 5, none⟩ = some (.slice kp kn kc) :=
          fun W hW => ⟨(hW.cell (p := ⟨x, o + j * 6, none⟩) hbl).trans c0, (hW.cell (p := ⟨x, o + j * 6 + 2, none⟩) hbl).trans c2, (hW.cell (p := ⟨x, o + j * 6 + 3, none⟩) hbl).trans c3, (hW.cell (p := ⟨x, o + j * 6 + 4, none⟩) hbl).trans c4, (hW.cell (p := ⟨x, o + j * 6 + 5, none⟩) hbl).trans c5⟩
        obtain ⟨d0, d2, d3, d4, d5⟩ := hcs _ hb
        have HCS := Lib.hid hcs
        have HB := Lib.hid hb
        have HEL := Lib.hid hel
        have HG := Lib.hid hi1
        have HGG := Lib.hid hg
        have HSR := Lib.hid hsr
        clear hk hr hE hA ih hT hi1 hg hel hb c0 c1 c2 c3 c4 c5 hqb hkn hsr hcs hsk
        have hrel' : ∀ W, Below w.heap.size w W → ∃ (A' R' : Ins), A'.app R' = L ∧ A'.len + R'.len = n ∧ R'.len < r.len + 1 ∧ Value.int .i64 ((j : Int) + 1) = .int .i64 A'.len ∧ tgt R' = true ∧ Below w.heap.size w W ∧ insS.rest q w (some ⟨x, o, none⟩) A'.len R' := fun W hW => by
          have hl : (A.app (.cons a t s o' h k .nil)).len = j + 1 := by rw [Ins.len_app, HI.out]; rfl
          have h1 := HG.out
          simp only [Ins.len] at h1
          exact ⟨A.app (.cons a t s o' h k .nil), r, by rw [Ins.app_assoc]; exact HAR.out, by rw [hl]; omega, by omega, by rw [hl]; rfl, HSR.out, hW, by rw [hl]; exact HT.out⟩
        have HREL := Lib.hid hrel'
        have hrlen : r.len + 1 < gk := by
          have h1 := HG.out
          have h2 := HGG.out
          simp only [Ins.len] at h1 h2
          omega
        clear hrel'
        rcases tgtK_form hok with h4 | ⟨rfl, h1, h2⟩ | ⟨rfl, h1, rfl, rfl, h2⟩
        · have HR := Lib.hid (HEL.out _ HB.out)
          clear hok
          go_wp2_with fail
          refine HR.out.mono ?_
          rintro e w2 ⟨rfl, hb2⟩
          have hb3 := below_then HB.out hb2
          go_wp2_with fail
          go_roundg (r.len + 1)
          case measure => omega
          case rel => simpa using HREL.out _ hb3
        · have hV := rvalid_any s o' wr (by omega)
          rw [h1] at hV
          have HV := Lib.hid hV
          clear hok hV h1
          go_wp2_with fail
          refine HV.out.mono ?_
          rintro e w2 ⟨rfl, hb2⟩
          have hb3 := below_then HB.out hb2
          obtain ⟨e0, e2, e3, e4, e5⟩ := HCS.out _ hb3
          have HR := Lib.hid (HEL.out _ hb3)
          clear hb2 d0 d2 d3 d4 d5
          go_wp2_with fail
          refine HR.out.mono ?_
          rintro e w3 ⟨rfl, hb4⟩
          have hb5 := below_then hb3 hb4
          go_wp2_with fail
          go_roundg (r.len + 1)
          case measure => omega
          case rel => simpa using HREL.out _ hb5
        · have hV := rvalid_any 0 ⟨#[]⟩ wr (by decide)
          rw [h1] at hV
          have HV := Lib.hid hV
          clear hok hV h1
          go_wp2_with fail
          refine HV.out.mono ?_
          rintro e w2 ⟨rfl, hb2⟩
          have hb3 := below_then HB.out hb2
          obtain ⟨e0, e2, e3, e4, e5⟩ := HCS.out _ hb3
          have HR := Lib.hid (HEL.out _ hb3)
          clear hb2 d0 d2 d3 d4 d5
          go_wp2_with fail
          refine HR.out.mono ?_
          rintro e w3 ⟨rfl, hb4⟩
          have hb5 := below_then hb3 hb4
          go_wp2_with fail
          go_roundg (r.len + 1)
          case measure => omega
          case rel => simpa using HREL.out _ hb5
set_option maxRecDepth 10000 in
set_option maxHeartbeats 1000000 in
theorem law_shape (s : ByteArray) (w : World) (hm : MX w) : Calls Tryz.prog 6 #[.string s] w fun e w' => e = .returned (.bool true) ∧ Below w.heap.size w w' := by
  have hz : s.data.toList.length = s.size := by simp
  have HK := Lib.hid (known_then w hm)
  have HM := Lib.hid hm
  clear hm
  by_cases hs : s.size ≤ 600
  case neg =>
    have g0 : decide (600 < (s.size : Int)) = true := by simp; omega
    go_enter Tryz.func6, Tryz.ntmps6
    go_wp2_with fail
    refine (HK.out _ (Below.refl _ _)).mono ?_
    rintro e w6 ⟨rfl, hb6⟩
    go_wp2_with fail
    go_ret
    exact ⟨rfl, hb6⟩
  have g0 : decide (600 < (s.size : Int)) = false := by simp; omega
  have hP := fun W hb => parse_to s (read s.data.toList) _ (by omega) rfl rfl W (HM.out.below hb : MX W)
  have hsz : (read s.data.toList).size ≤ 1000000 := by have := read_size s.data.toList; omega
  have hG := read_good s.data.toList
  have hSH := fun p c W => shallow_any _ Any (read s.data.toList) false false p c W (Nat.lt_succ_self _) hsz hG.1
  have hTG := fun p c W => targets_any _ Any (read s.data.toList) p c W (Nat.lt_succ_self _) hsz hG.2
  obtain ⟨R, hRd⟩ : ∃ R, read s.data.toList = R := ⟨_, rfl⟩
  simp only [hRd] at hP hSH hTG
  have HP := Lib.hid hP
  have HSH := Lib.hid hSH
  have HTG := Lib.hid hTG
  clear hP hSH hTG hG hsz hRd hz
  go_enter Tryz.func6, Tryz.ntmps6
  go_wp2_with fail
  refine (HP.out _ (Below.refl _ _)).mono ?_
  rintro e w1 ⟨p1, c1, rfl, hs1, hb1⟩
  have HS1 := Lib.hid hs1
  clear hs1
  go_wp2_with fail
  refine (HSH.out p1 c1 w1 HS1.out).mono ?_
  rintro e w2 ⟨rfl, hb2⟩
  have HB2 := Lib.hid (below_then hb1 hb2)
  have HS2 := Lib.hid (sl_below HS1.out hb2)
  clear hb1 hb2
  go_wp2_with fail
  refine (HTG.out p1 c1 w2 HS2.out).mono ?_
  rintro e w3 ⟨rfl, hb3⟩
  have HB3 := Lib.hid (below_then HB2.out hb3)
  clear hb3
  go_wp2_with fail
  refine (HK.out _ HB3.out).mono ?_
  rintro e w6 ⟨rfl, hb6⟩
  go_wp2_with fail
  go_ret
  exact ⟨rfl, hb6⟩
end Go.Proofs.YtegcacnmcdkfiaaGreatDoor
