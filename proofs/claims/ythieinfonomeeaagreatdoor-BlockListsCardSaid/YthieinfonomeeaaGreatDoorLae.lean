/-
  Lists whose items hold one letter: as many items as lines. No conditions.
  How many items with content blocks have: the law's function; walked. Conditions: those typed in each theorem.
-/
import Derived.Test.YthieinfonomeeaaGreatDoorCab
import Derived.Test.YthieinfonomeeaaGreatDoorAak
import Derived.Test.YthieinfonomeeaaGreatDoorAbb

namespace Go.Proofs.YthieinfonomeeaaGreatDoor
open Go.RowKit Doc Tit Inl Blk
set_option linter.unusedVariables false

/-- items with content -/
def cntB : Bls → Nat
  | .nil => 0
  | .cons a l t i k r => (if a = 4 ∧ 0 < i.len then 1 else 0) + cntB k + cntB r
theorem cntB_app : ∀ a b : Bls, cntB (a.app b) = cntB a + cntB b
  | .nil, b => by simp [Bls.app, cntB]
  | .cons a l t i k r, b => by simp only [Bls.app, cntB, cntB_app r b]; omega
def Xs (l : List It) : Prop := ∀ y ∈ l, y.txt = [120]
theorem read_x : read [120] = txt [120] := by
  rw [read_pl (fun c hc => by
    have : c = 120 := by simpa using hc
    subst this; unfold pl; decide)]
  rfl
/-- all that is asked of lists -/
def CntR (L : Bls) (n s z : Nat) : Prop := cntB L = n ∧ L.ptxt.count 120 = n ∧ L.size ≤ s ∧ L.bulk ≤ z
theorem CntR.app {A B : Bls} {n s z m t y : Nat} (h : CntR A n s z) (k : CntR B m t y) : CntR (A.app B) (n + m) (s + t) (z + y) := by
  refine ⟨by rw [cntB_app, h.1, k.1], by rw [Bls.ptxt_app, List.count_append, h.2.1, k.2.1], ?_, ?_⟩
  · rw [Bls.size_app]; have := h.2.2.1; have := k.2.2.1; omega
  · rw [Bls.bulk_app]; have := h.2.2.2; have := k.2.2.2; omega
theorem CntR.mono {A : Bls} {n s z m t y : Nat} (h : CntR A n s z) (e : n = m) (e1 : s ≤ t) (e2 : z ≤ y) : CntR A m t y := ⟨h.1.trans e, h.2.1.trans e, Nat.le_trans h.2.2.1 e1, Nat.le_trans h.2.2.2 e2⟩
theorem CntR.nil : CntR .nil 0 0 0 := ⟨rfl, rfl, Nat.le_refl _, Nat.le_refl _⟩
theorem CntR.list {K : Bls} {n s z : Nat} {l : Int} (h : CntR K n s z) : CntR (blk 3 l [] .nil K) n (s + 1) (z + 1) := by
  refine ⟨?_, ?_, ?_, ?_⟩
  · have e : cntB (blk 3 l [] .nil K) = cntB K := by simp [blk, cntB]
    rw [e]; exact h.1
  · have e : (blk 3 l [] .nil K).ptxt = K.ptxt := by simp [blk, Bls.ptxt]
    rw [e]; exact h.2.1
  · show 0 + K.size + 0 + 1 ≤ _; have := h.2.2.1; omega
  · show 0 + 1 + 0 + K.bulk + 0 ≤ _; have := h.2.2.2; omega
theorem CntR.item {K : Bls} {n s z : Nat} (h : CntR K n s z) : CntR (blk 4 0 [] (txt [120]) K) (n + 1) (s + 2) (z + 3) := by
  refine ⟨?_, ?_, ?_, ?_⟩
  · have e : cntB (blk 4 0 [] (txt [120]) K) = 1 + cntB K := by simp [blk, cntB, txt, el, Ins.len]
    rw [e, h.1]; omega
  · have e : (blk 4 0 [] (txt [120]) K).ptxt = [120, 10] ++ K.ptxt := by simp [blk, Bls.ptxt, txt, el, Ins.plain]
    rw [e, List.count_append, h.2.1]
    show 1 + n = n + 1
    omega
  · show 0 + 0 + 1 + K.size + 0 + 1 ≤ _; have := h.2.2.1; omega
  · show 0 + 1 + (1 + 1 + 0 + 0) + K.bulk + 0 ≤ _; have := h.2.2.2; omega
theorem CntR.bare {K : Bls} {n s z : Nat} (h : CntR K n s z) : CntR (blk 4 0 [] .nil K) n (s + 1) (z + 1) := by
  refine ⟨?_, ?_, ?_, ?_⟩
  · have e : cntB (blk 4 0 [] .nil K) = cntB K := by simp [blk, cntB, Ins.len]
    rw [e]; exact h.1
  · have e : (blk 4 0 [] .nil K).ptxt = [10] ++ K.ptxt := by simp [blk, Bls.ptxt, Ins.plain]
    rw [e, List.count_append, h.2.1]
    show 0 + n = n
    omega
  · show 0 + K.size + 0 + 1 ≤ _; have := h.2.2.1; omega
  · show 0 + 1 + 0 + K.bulk + 0 ≤ _; have := h.2.2.2; omega
theorem lists_cnt : ∀ N : Nat, (∀ (d : Nat) (l : List It), 2 * sumD d l ≤ N → Deep d l → Xs l → CntR (LI d l) l.length (4 * sumD d l) (6 * sumD d l)) ∧ (∀ (d : Nat) (l : List It), 2 * sumD d l ≤ N + 1 → Deep d l → Xs l → CntR (IT d l) l.length (4 * sumD d l - 1) (6 * sumD d l - 1)) := by
  intro N
  induction N with
  | zero =>
    refine ⟨fun d l h hd hx => ?_, fun d l h hd hx => ?_⟩
    · rw [sum_pos_nil hd (by omega), LI_nil]; exact CntR.nil.mono rfl (by omega) (by omega)
    · rw [sum_pos_nil hd (by omega), IT_nil]; exact CntR.nil.mono rfl (by omega) (by omega)
  | succ N ih =>
    obtain ⟨ih1, ih2⟩ := ih
    refine ⟨fun d l h hd hX => ?_, fun d l h hd hX => ?_⟩
    · cases l with
      | nil => rw [LI_nil]; exact CntR.nil.mono rfl (by omega) (by omega)
      | cons x r =>
        rw [LI_cons hd]
        have hle := runN_le d x.pre[d]? r
        generalize hn : Blk.runN d x.pre[d]? r = n at hle
        have hs := sumD_split d (n + 1) (x :: r)
        have ht : 1 ≤ sumD d ((x :: r).take (n + 1)) := by rw [List.take_succ_cons, sumD_cons]; have := hd x List.mem_cons_self; omega
        have h1 := ih2 d ((x :: r).take (n + 1)) (by omega) (hd.take _) fun y hy => hX y (List.mem_of_mem_take hy)
        have h2 := ih1 d ((x :: r).drop (n + 1)) (by omega) (hd.drop _) fun y hy => hX y (List.mem_of_mem_drop hy)
        refine (h1.list.app h2).mono ?_ (by omega) (by omega)
        rw [List.length_take, List.length_drop, List.length_cons]; omega
    · cases l with
      | nil => rw [IT_nil]; exact CntR.nil.mono rfl (by omega) (by omega)
      | cons x r =>
        have hX1 : Xs r := fun y hy => hX y (List.mem_cons_of_mem _ hy)
        by_cases hx : x.pre.length = d + 1
        · rw [IT_head hd hx, hX x List.mem_cons_self, read_x]
          have h4 : Deep (d + 1) (r.take (deepN d r)) := deep_take r
          have hle := deepN_le d r
          generalize hn : deepN d r = n at *
          have hs := sumD_split d n r
          have hsc := sumD_cons d x r
          have h3 := sumD_succ d (r.take n) (hd.tail.take n)
          have h1 := ih1 (d + 1) (r.take n) (by omega) h4 fun y hy => hX1 y (List.mem_of_mem_take hy)
          have h2 := ih2 d (r.drop n) (by omega) (hd.tail.drop n) fun y hy => hX1 y (List.mem_of_mem_drop hy)
          refine (h1.item.app h2).mono ?_ (by omega) (by omega)
          rw [List.length_take, List.length_drop, List.length_cons]; omega
        · rw [IT_deep hd hx]
          have hx2 : d + 1 < x.pre.length := by have := hd x List.mem_cons_self; omega
          have hnp := deepN_pos (r := r) hx2
          have h4 : Deep (d + 1) ((x :: r).take (deepN d (x :: r))) := deep_take _
          have hle := deepN_le d (x :: r)
          generalize hn : deepN d (x :: r) = n at *
          have hs := sumD_split d n (x :: r)
          have h3 := sumD_succ d ((x :: r).take n) (hd.take n)
          have hl : 1 ≤ ((x :: r).take n).length := by rw [hnp]; simp
          have h1 := ih1 (d + 1) ((x :: r).take n) (by omega) h4 fun y hy => hX y (List.mem_of_mem_take hy)
          have h2 := ih2 d ((x :: r).drop n) (by omega) (hd.drop n) fun y hy => hX y (List.mem_of_mem_drop hy)
          refine (h1.bare.app h2).mono ?_ (by omega) (by omega)
          rw [List.length_take, List.length_drop]; omega
/-! ### The texts of the law -/
def sevenL : List Line := [[42], [35], [42, 42], [42, 35], [35, 35], [35, 42], [42, 42, 42]]
def lnX (p : Line) : Line := p ++ [32, 120]
def txtX : List Line → Line
  | [] => []
  | p :: r => lnX p ++ 10 :: txtX r
theorem txtX_snoc (p : Line) : ∀ L : List Line, txtX (L ++ [p]) = txtX L ++ (lnX p ++ [10])
  | [] => by simp [txtX]
  | a :: r => by rw [List.cons_append, txtX, txtX, txtX_snoc p r]; simp
theorem seven_kind : (sevenL.all fun p => kindL (lnX p) == 4) = true := by kernel_rfl
theorem seven_pre : (sevenL.all fun p => (item (lnX p)).pre == p && (item (lnX p)).txt == [120] && decide (1 ≤ p.length) && decide (p.length ≤ 3)) = true := by kernel_rfl
theorem seven_nl : (sevenL.all fun p => (lnX p).all (· != 10)) = true := by kernel_rfl
theorem lines_txtX : ∀ L : List Line, (∀ p ∈ L, p ∈ sevenL) → lines (txtX L) = L.map lnX ++ [[]]
  | [], _ => rfl
  | p :: r, h => by
    have h1 := List.all_eq_true.1 seven_nl p (h p List.mem_cons_self)
    show spl 10 (lnX p ++ 10 :: txtX r) = _
    rw [spl_app, spl_none 10 (lnX p) fun x hx => by simpa using List.all_eq_true.1 h1 x hx]
    have ih := lines_txtX r fun q hq => h q (List.mem_cons_of_mem _ hq)
    unfold lines at ih
    rw [ih]
    rfl
theorem sum_three (l : List It) (h : ∀ y ∈ l, y.pre.length ≤ 3) : sumD 0 l ≤ 3 * l.length := by
  induction l with
  | nil => exact Nat.le_refl _
  | cons x r ih =>
    have h1 := h x List.mem_cons_self
    have h2 := ih fun y hy => h y (List.mem_cons_of_mem _ hy)
    rw [sumD_cons, List.length_cons]; omega
theorem lists_text (L : List Line) (h : ∀ p ∈ L, p ∈ sevenL) : CntR (blocks (txtX L)) L.length (12 * L.length) (18 * L.length) := by
  rw [blocks_BL, lines_txtX L h]
  cases L with
  | nil =>
    have e : BL ([[]] : List Line) = .nil := by rw [BL_cons, first0 _ kind_nil]; rfl
    rw [List.map_nil, List.nil_append, e]; exact CntR.nil
  | cons p r =>
    have hk : ∀ q ∈ p :: r, kindL (lnX q) = 4 := fun q hq => by simpa using List.all_eq_true.1 seven_kind q (h q hq)
    have hi : ∀ q ∈ p :: r, (item (lnX q)).pre = q ∧ (item (lnX q)).txt = [120] ∧ 1 ≤ q.length ∧ q.length ≤ 3 := fun q hq => by
      have := List.all_eq_true.1 seven_pre q (h q hq)
      simp only [Bool.and_eq_true, beq_iff_eq, decide_eq_true_eq] at this
      exact ⟨this.1.1.1, this.1.1.2, this.1.2, this.2⟩
    rw [List.map_cons, List.cons_append, BL_cons, first4 _ (hk p List.mem_cons_self), tw_halt listL [] rfl]
    have ht : (r.map lnX).takeWhile listL = r.map lnX := tw_self fun y hy => by
      obtain ⟨q, hq, rfl⟩ := List.mem_map.1 hy
      exact kind4_list (hk q (List.mem_cons_of_mem _ hq))
    rw [ht]
    have e : (lnX p :: (r.map lnX ++ [[]])).drop ((r.map lnX).length + 1) = [[]] := by
      rw [List.drop_succ_cons, List.drop_left]
    show CntR ((lists 0 ((lnX p :: r.map lnX).map item)).app (BL ((lnX p :: (r.map lnX ++ [[]])).drop ((r.map lnX).length + 1)))) _ _ _
    rw [e]
    have e2 : BL ([[]] : List Line) = .nil := by rw [BL_cons, first0 _ kind_nil]; rfl
    rw [e2, Bls.app_nil]
    have e3 : (lnX p :: r.map lnX).map item = (p :: r).map fun q => item (lnX q) := by rw [List.map_cons, List.map_cons, List.map_map]; rfl
    rw [e3]
    have hd : Deep 0 ((p :: r).map fun q => item (lnX q)) := fun y hy => by
      obtain ⟨q, hq, rfl⟩ := List.mem_map.1 hy
      have := hi q hq
      rw [this.1]; omega
    have hX : Xs ((p :: r).map fun q => item (lnX q)) := fun y hy => by
      obtain ⟨q, hq, rfl⟩ := List.mem_map.1 hy
      exact (hi q hq).2.1
    have hsum := sum_three ((p :: r).map fun q => item (lnX q)) fun y hy => by
      obtain ⟨q, hq, rfl⟩ := List.mem_map.1 hy
      have := hi q hq
      rw [this.1]; exact this.2.2.2
    rw [List.length_map] at hsum
    rw [lists_eq hd]
    exact ((lists_cnt _).1 0 _ (Nat.le_refl _) hd hX).mono (by rw [List.length_map]) (by omega) (by omega)
end Go.Proofs.YthieinfonomeeaaGreatDoor

namespace Go.Proofs.YthieinfonomeeaaGreatDoor
open Go.RowKit Doc Tit Inl Blk
set_option linter.unusedVariables false
attribute [local go_sem ↓] Go.wp_at_zero Go.wp_at_succ

theorem cntB_le : ∀ L : Bls, cntB L ≤ L.size
  | .nil => Nat.le_refl _
  | .cons a l t i k r => by
    have h1 := cntB_le k
    have h2 := cntB_le r
    simp only [cntB, Bls.size]
    split <;> omega
set_option maxRecDepth 20000 in
set_option maxHeartbeats 2000000 in
theorem items_any : ∀ (N : Nat) (q : Nat → Prop) (L : Bls) (p : Option Addr) (c : Nat) (w : World), L.size < N → L.size ≤ 1000000 → blsS.sl q w (.slice p L.len c) L →
    Calls Tryz.prog 25 #[.slice p L.len c] w fun e w' => e = .returned (.int .i64 (cntB L)) ∧ Below w.heap.size w w' := by
  intro N
  induction N with
  | zero => intro q L p c w hN; exact absurd hN (Nat.not_lt_zero _)
  | succ N ih =>
    intro q L p c w hN hM hv
    obtain ⟨hF, -, hnc, hc⟩ := Shp.rest_start hv
    have hlen := L.len_size
    obtain ⟨n, hn⟩ : ∃ n, n = L.len := ⟨_, rfl⟩
    rw [← hn] at hlen hnc ⊢
    have HN := Lib.hid hn
    clear hn hv
    go_enter Tryz.func25, Tryz.ntmps25
    go_wp2_with fail
    go_loopg [3, 4] (n + 1) (fun g s3 s4 wr => ∃ (A R : Bls), A.app R = L ∧ A.len + R.len = n ∧ R.len < g ∧ s4 = .int .i64 A.len ∧ s3 = .int .i64 (cntB A) ∧ Below w.heap.size w wr ∧ blsS.rest q w p A.len R)
    case atStart => exact ⟨.nil, L, rfl, by simp [Bls.len]; exact HN.out.symm, by rw [← HN.out]; omega, rfl, rfl, Below.refl _ _, hF⟩
    case round =>
      obtain ⟨A, R, hAR, hi1, hg, rfl, rfl, hb, hR⟩ := hrel
      have HAR := Lib.hid hAR
      generalize hi : A.len = i at *
      generalize hm : cntB A = m at *
      have HI := Lib.hid hi
      have HMM := Lib.hid hm
      clear hAR hi hm
      cases R with
      | nil =>
        have g1 : decide (i < n) = false := by simp [Bls.len] at hi1; simp; omega
        clear hi1 hR
        go_wp2_with fail
        go_ret
        have e1 : A = L := by have := HAR.out; simpa using this
        subst e1
        exact ⟨by rw [HMM.out]; rfl, hb⟩
      | cons a l t ii k r =>
        rcases hR with hR | ⟨d, o, ys, rfl, hqb, hbl, hA, hE⟩
        · cases hR
        · obtain ⟨ip, ic, kp, kc, c0, c1, c2, c3, c4, hisl, hk, hr⟩ := (BEnc.on (Kept.below hb) hE).head (hA.of_heap (hb.block d hbl))
          have g1 : decide (i < n) = true := by simp [Bls.len] at hi1; simp; omega
          have hin : i < n := by simp [Bls.len] at hi1; omega
          have hsz : L.size = A.size + (ii.size + k.size + r.size + 1) := by rw [← HAR.out, Bls.size_app]; simp only [Bls.size]
          have hcA := cntB_le A
          have hck := cntB_le k
          rw [HMM.out] at hcA
          have hC := ih q k kp kc wr (by omega) (by omega) hk
          have hT : blsS.rest q w (some ⟨d, o, none⟩) (i + 1) r := .inr ⟨d, o, ys, rfl, hqb, hbl, hA, hE.tail⟩
          have hcn : cntB (A.app (.cons a l t ii k .nil)) = m + (if a = 4 ∧ 0 < ii.len then 1 else 0) + cntB k := by
            rw [cntB_app, HMM.out]; simp only [cntB]; omega
          have HT := Lib.hid hT
          have HC := Lib.hid hC
          have HG := Lib.hid hi1
          have HGG := Lib.hid hg
          have hz := hb.size
          have hbl2 : d < wr.heap.size := Nat.lt_of_lt_of_le hbl hz
          have hl : (A.app (.cons a l t ii k .nil)).len = i + 1 := by rw [Bls.len_app, HI.out]; rfl
          have HL := Lib.hid hl
          obtain ⟨x, hx⟩ : ∃ x, cntB k = x := ⟨_, rfl⟩
          have hx6 : x ≤ 1000000 := by omega
          have hm6 : m ≤ 1000000 := by omega
          have HX := Lib.hid hx
          obtain ⟨iln, hiln⟩ : ∃ iln, ii.len = iln := ⟨_, rfl⟩
          rw [hiln] at c3
          rw [hiln, hx] at hcn
          have HILN := Lib.hid hiln
          have HCN := Lib.hid hcn
          clear hE hA hr hi1 hT hg hl hC hisl hk hcn hiln hsz hcA hck hx
          by_cases q4 : a = 4
          · have e4 : (a == 4) = true := by simpa using q4
            by_cases q0 : 0 < iln
            · have g2 : decide (0 < iln) = true := decide_eq_true q0
              have HCN2 := Lib.hid (HCN.out.trans (by rw [if_pos ⟨q4, q0⟩]))
              clear q4 q0 HCN
              go_wp2_with fail
              refine HC.out.mono ?_
              rintro e w1 ⟨rfl, hb1⟩
              rw [HX.out]
              have hbb := below_then hb hb1
              clear hb1
              go_wp2_with fail
              have HG2 := HG.out
              have HG3 := HGG.out
              simp only [Bls.len] at HG2 HG3
              go_roundg (r.len + 1)
              case measure => omega
              case rel => exact ⟨A.app (.cons a l t ii k .nil), r, by rw [Bls.app_assoc]; exact HAR.out, by rw [HL.out]; omega, by omega, by rw [HL.out]; go_num, by rw [HCN2.out]; go_num, hbb, by rw [HL.out]; exact HT.out⟩
            · have g2 : decide (0 < iln) = false := decide_eq_false q0
              have HCN2 := Lib.hid (HCN.out.trans (by rw [if_neg (fun h => q0 h.2)]))
              clear q4 q0 HCN
              go_wp2_with fail
              refine HC.out.mono ?_
              rintro e w1 ⟨rfl, hb1⟩
              rw [HX.out]
              have hbb := below_then hb hb1
              clear hb1
              go_wp2_with fail
              have HG2 := HG.out
              have HG3 := HGG.out
              simp only [Bls.len] at HG2 HG3
              go_roundg (r.len + 1)
              case measure => omega
              case rel => exact ⟨A.app (.cons a l t ii k .nil), r, by rw [Bls.app_assoc]; exact HAR.out, by rw [HL.out]; omega, by omega, by rw [HL.out]; go_num, by rw [HCN2.out]; go_num, hbb, by rw [HL.out]; exact HT.out⟩
          · have e4 : (a == 4) = false := by simpa using q4
            have HCN2 := Lib.hid (HCN.out.trans (by rw [if_neg (fun h => q4 h.1)]))
            clear q4 HCN
            go_wp2_with fail
            refine HC.out.mono ?_
            rintro e w1 ⟨rfl, hb1⟩
            rw [HX.out]
            have hbb := below_then hb hb1
            clear hb1
            go_wp2_with fail
            have HG2 := HG.out
            have HG3 := HGG.out
            simp only [Bls.len] at HG2 HG3
            go_roundg (r.len + 1)
            case measure => omega
            case rel => exact ⟨A.app (.cons a l t ii k .nil), r, by rw [Bls.app_assoc]; exact HAR.out, by rw [HL.out]; omega, by omega, by rw [HL.out]; go_num, by rw [HCN2.out]; go_num, hbb, by rw [HL.out]; exact HT.out⟩
end Go.Proofs.YthieinfonomeeaaGreatDoor
