/-
  The reference's comparison of blocks, where both read as the same: it says yes. Conditions: those typed in each theorem.
  The law about an empty line between two texts. Condition: the library's MaxLen holds a number.
-/
import Derived.Test.YthieinfonomeeaaGreatDoorAbb
import Derived.Test.YthieinfonomeeaaGreatDoorPab

namespace Go.Proofs.YthieinfonomeeaaGreatDoor
open Go.RowKit Doc
set_option linter.unusedVariables false
attribute [local go_sem ↓] Go.wp_at_zero Go.wp_at_succ

set_option maxRecDepth 20000 in
set_option maxHeartbeats 4000000 in
theorem bsame_any : ∀ (N : Nat) (q q' : Nat → Prop) (L : Bls) (p : Option Addr) (c : Nat) (p' : Option Addr) (c' : Nat) (w : World), L.size < N → L.size ≤ 1000000 → blsS.sl q w (.slice p L.len c) L → blsS.sl q' w (.slice p' L.len c') L →
    Calls Tryz.prog 15 #[.slice p L.len c, .slice p' L.len c'] w fun e w' => e = .returned (.bool true) ∧ Below w.heap.size w w' := by
  intro N
  induction N with
  | zero => intro q q' L p c p' c' w hN; exact absurd hN (Nat.not_lt_zero _)
  | succ N ih =>
    intro q q' L p c p' c' w hN hM hv hv'
    obtain ⟨hF, -, hnc, hc⟩ := Shp.rest_start hv
    obtain ⟨hF', -, hnc', hc'⟩ := Shp.rest_start hv'
    have hlen := L.len_size
    obtain ⟨n, hn⟩ : ∃ n, n = L.len := ⟨_, rfl⟩
    rw [← hn] at hlen hnc hnc' ⊢
    have HN := Lib.hid hn
    clear hn hv hv'
    go_enter Tryz.func15, Tryz.ntmps15
    go_wp2_with fail
    go_loopg [5] (n + 1) (fun g s5 wr => ∃ (A R : Bls), A.app R = L ∧ A.len + R.len = n ∧ R.len < g ∧ s5 = .int .i64 A.len ∧ Below w.heap.size w wr ∧ blsS.rest q w p A.len R ∧ blsS.rest q' w p' A.len R)
    case atStart => exact ⟨.nil, L, rfl, by simp [Bls.len]; exact HN.out.symm, by rw [← HN.out]; omega, rfl, Below.refl _ _, hF, hF'⟩
    case round =>
      obtain ⟨A, R, hAR, hi1, hg, rfl, hb, hR, hR'⟩ := hrel
      have HAR := Lib.hid hAR
      generalize hi : A.len = i at *
      have HI := Lib.hid hi
      clear hAR hi
      cases R with
      | nil =>
        have g1 : decide (i < n) = false := by simp [Bls.len] at hi1; simp; omega
        clear hi1 hR hR'
        go_wp2_with fail
        go_ret
        exact ⟨rfl, hb⟩
      | cons a l t ii k r =>
        rcases hR with hR | ⟨b, o, ys, rfl, hqb, hbl, hA, hE⟩
        · cases hR
        rcases hR' with hR' | ⟨b', o', ys', rfl, hqb', hbl', hA', hE'⟩
        · cases hR'
        obtain ⟨ip, ic, kp, kc, c0, c1, c2, c3, c4, hii, hk, hr⟩ := hE.head hA
        obtain ⟨ip', ic', kp', kc', d0, d1, d2, d3, d4, hii', hk', hr'⟩ := hE'.head hA'
        have hsz : L.size = A.size + (ii.size + k.size + r.size + 1) := by rw [← HAR.out, Bls.size_app]; simp only [Bls.size]
        have hks : k.size < N := by omega
        have hks2 : k.size ≤ 1000000 := by omega
        have his2 : ii.size ≤ 1000000 := by omega
        have hT : blsS.rest q w (some ⟨b, o, none⟩) (i + 1) r := .inr ⟨b, o, ys, rfl, hqb, hbl, hA, hE.tail⟩
        have hT' : blsS.rest q' w (some ⟨b', o', none⟩) (i + 1) r := .inr ⟨b', o', ys', rfl, hqb', hbl', hA', hE'.tail⟩
        have HT := Lib.hid hT
        have HT' := Lib.hid hT'
        have g1 : decide (i < n) = true := by simp [Bls.len] at hi1; simp; omega
        have hin : i < n := by simp [Bls.len] at hi1; omega
        have HG := Lib.hid hi1
        have HGG := Lib.hid hg
        have hsame := fun W (hW : Below w.heap.size w W) => ih q q' k kp kc kp' kc' W hks hks2 (blsS.sl_on hk (Kept.below hW)) (blsS.sl_on hk' (Kept.below hW))
        have hsameI := fun W (hW : Below w.heap.size w W) => same_any (ii.size + 1) q q' ii ip ic ip' ic' W (Nat.lt_succ_self _) his2 (insS.sl_on hii (Kept.below hW)) (insS.sl_on hii' (Kept.below hW))
        have cc := fun j u (hc : w.cell? ⟨b, o + i * 5 + j, none⟩ = some u) => (hb.cell (p := ⟨b, o + i * 5 + j, none⟩) hbl).trans hc
        have dd := fun j u (hc : w.cell? ⟨b', o' + i * 5 + j, none⟩ = some u) => (hb.cell (p := ⟨b', o' + i * 5 + j, none⟩) hbl').trans hc
        replace c0 := (hb.cell (p := ⟨b, o + i * 5, none⟩) hbl).trans c0
        replace c1 := cc 1 _ c1
        replace c2 := cc 2 _ c2
        replace c3 := cc 3 _ c3
        replace c4 := cc 4 _ c4
        replace d0 := (hb.cell (p := ⟨b', o' + i * 5, none⟩) hbl').trans d0
        replace d1 := dd 1 _ d1
        replace d2 := dd 2 _ d2
        replace d3 := dd 3 _ d3
        replace d4 := dd 4 _ d4
        have hz := hb.size
        have hbl2 : b < wr.heap.size := by omega
        have hbl3 : b' < wr.heap.size := by omega
        have hC := fun x => hsame (gr wr x) (below_then hb (gr_below wr x))
        have hCI := fun x => hsameI (gr wr x) (below_then hb (gr_below wr x))
        have HB := Lib.hid hb
        clear cc dd hsame hsameI hT hT' hii hii' hk hk' hr hr' hE hE' hA hA' hsz ih hg hi1 hb hqb hqb'
        go_upto_region 6 with fail
        go_cut [81] from 11 to 81 (fun s81 wc => s81 = .bool false ∧ Below wr.heap.size wr wc)
        case first =>
          clear HT HT' HG HGG HB HAR HI HN
          refine wp_region_gr (by kernel_rfl) (by kernel_rfl) ?_
          simp only [List.append_eq, List.cons_append, List.nil_append]
          repeat (go_big_quiet_step (first | (go_at_call 32; exact gr_call (hCI _)) | (go_at_call 15; exact gr_call (hC _))))
          with_reducible refine wpQuiet_nil ?_
          intro _ hw'; obtain ⟨w6, hw''⟩ := hw'; subst hw''
          have B6 := gr_below wr w6
          go_wp2_with fail
          go_meet
          case rel => exact ⟨rfl, B6⟩
        case rest =>
          obtain ⟨rfl, hbc⟩ := hcut
          have hb2 := below_then HB.out hbc
          have HG2 := HG.out
          have HG3 := HGG.out
          simp only [Bls.len] at HG2 HG3
          go_wp2_with fail
          go_roundg (r.len + 1)
          case measure => omega
          case rel =>
            have hl : (A.app (.cons a l t ii k .nil)).len = i + 1 := by rw [Bls.len_app, HI.out]; rfl
            exact ⟨A.app (.cons a l t ii k .nil), r, by rw [Bls.app_assoc]; exact HAR.out, by rw [hl]; omega, by omega, by rw [hl]; go_num, hb2, by rw [hl]; exact HT.out, by rw [hl]; exact HT'.out⟩
end Go.Proofs.YthieinfonomeeaaGreatDoor

namespace Go.Proofs.YthieinfonomeeaaGreatDoor
open Go.RowKit Doc Tit Inl Blk
set_option linter.unusedVariables false
attribute [local go_sem ↓] Go.wp_at_zero Go.wp_at_succ

/-- an append at an operation with a guard that is met -/
theorem append_shp_want {P : Program} {α : Type} (S : Shp α) {t e bytes : Nat} (T : Typ P t e S.sz bytes) (w : World) {ops : Array Oper} {rest : List Oper} {o : Oper} {a : Act} {Q : Exit → Act → World → Prop} (hgd : Region.wanted o (yielded ops a.tmps) = true) (s x : Operand)
    (ho : o.op = .call { callee := .builtin .append, args := #[s, x], argTypes := #[t, t] })
    {q : Nat → Prop} {B : Nat} {v : Value} {L : α} (hown : S.own e q B w v L) (hs : a.eval s = v) {sv : Value} {M : α} (hsrc : S.src (Shp.kind q B v) w sv M) (hx : a.eval x = sv)
    (hlen : (S.len L + S.len M) * (bytes + 1) ≤ 140737488355328) (hbase : B ≤ w.heap.size)
    (h : ∀ v' w', S.own e q B w' v' (S.app L M) → w.grownBy w' v.ownBlock → (∀ A, Below B A w → Below B A w') → Kept (Shp.kind q B v) (Shp.kind q B v') w w' → wpList P ops Q rest (a.put o.dst v') w') :
    wpList P ops Q (o :: rest) a w :=
  Go.BigFrame.wpList_want hgd fun _ hK => wp_append_shp S T w s x ho hown hs hsrc hx hlen hbase fun v' w' h2 h3 h4 h5 => hK _ _ (h v' w' h2 h3 h4 h5)
theorem not_contained {a sub : List UInt8} (h : Lib.contains a sub = false) : Lib.index a sub = -1 := by
  have h1 := Lib.index_ge a sub
  have h2 : ¬ (0 ≤ Lib.index a sub) := of_decide_eq_false h
  omega
set_option maxRecDepth 20000 in
set_option maxHeartbeats 4000000 in
theorem law_paragraphs (a b : ByteArray) (w : World) (hm : MX w) : Calls Tryz.prog 6 #[.string a, .string b] w fun e w' => e = .returned (.bool true) ∧ Below w.heap.size w w' := by
  have HM := Lib.hid hm
  have hKN := fun (W : World) (hb : Below w.heap.size w W) => bknown_any W (HM.out.below hb)
  have HKN := Lib.hid hKN
  obtain ⟨m, hm0⟩ := hm
  have hC := Tryz.strings_Contains a ⟨#[123, 124]⟩ m w
  clear hKN
  by_cases ha : a.size ≤ 300
  · have g1 : decide ((300 : Int) < (a.size : Int)) = false := decide_eq_false (by omega)
    by_cases hb : b.size ≤ 300
    · have g2 : decide ((300 : Int) < (b.size : Int)) = false := decide_eq_false (by omega)
      have hC := hC (by omega) hm0
      obtain ⟨t, ht⟩ : ∃ t, Lib.contains a.data.toList (⟨#[123, 124]⟩ : ByteArray).data.toList = t := ⟨_, rfl⟩
      rw [ht] at hC
      cases t with
      | true =>
        clear ht
        go_enter Tryz.func6, Tryz.ntmps6
        go_wp2_with fail
        refine hC.mono ?_
        rintro e w1 ⟨rfl, rfl⟩
        go_wp2_with fail
        refine (HKN.out _ (Below.refl _ _)).mono ?_
        rintro e w2 ⟨rfl, hb2⟩
        go_wp2_with fail
        go_ret
        exact ⟨rfl, hb2⟩
      | false =>
        have hix : Lib.index a.data.toList [123, 124] = -1 := not_contained ht
        have hsep := blocks_sep a.data.toList b.data.toList hix
        have ezz : (a ++ (⟨#[10, 10]⟩ : ByteArray) ++ b).data.toList = a.data.toList ++ 10 :: 10 :: b.data.toList := by simp
        have hov1 : ¬ (9223372036854775807 < a.size + (⟨#[10, 10]⟩ : ByteArray).size) := by show ¬ (9223372036854775807 < a.size + 2); omega
        have hov2 : ¬ (9223372036854775807 < (a ++ (⟨#[10, 10]⟩ : ByteArray)).size + b.size) := by rw [ByteArray.size_append]; show ¬ (9223372036854775807 < a.size + 2 + b.size); omega
        have hzs : (a ++ (⟨#[10, 10]⟩ : ByteArray) ++ b).size ≤ 32768 := by rw [ByteArray.size_append, ByteArray.size_append]; show a.size + 2 + b.size ≤ _; omega
        obtain ⟨Z, hZ⟩ : ∃ Z, a ++ (⟨#[10, 10]⟩ : ByteArray) ++ b = Z := ⟨_, rfl⟩
        rw [hZ] at ezz hzs
        rw [← ezz] at hsep
        have hPA := fun W (hm : MX W) => pbparse_any a W (by omega) hm
        have hPB := fun W (hm : MX W) => pbparse_any b W (by omega) hm
        have hPZ := fun W (hm : MX W) => pbparse_any Z W hzs hm
        have hzA := blocks_size a.data.toList
        have hzB := blocks_size b.data.toList
        have e1 : a.data.toList.length = a.size := by simp
        have e2 : b.data.toList.length = b.size := by simp
        rw [hsep] at hPZ
        obtain ⟨A, hA⟩ : ∃ A, blocks a.data.toList = A := ⟨_, rfl⟩
        obtain ⟨B, hB⟩ : ∃ B, blocks b.data.toList = B := ⟨_, rfl⟩
        rw [hA] at hPA hPZ hzA
        rw [hB] at hPB hPZ hzB
        have hAs : A.size ≤ 10000 := by omega
        have hBs : B.size ≤ 10000 := by omega
        have hAl := A.len_size
        have hBl := B.len_size
        have HZ := Lib.hid hZ
        have HPA := Lib.hid hPA
        have HPB := Lib.hid hPB
        have HPZ := Lib.hid hPZ
        clear ht hix hsep ezz hzs hPA hPB hPZ hA hB e1 e2 hzA hzB hZ hm0
        go_enter Tryz.func6, Tryz.ntmps6
        go_wp2_with fail
        refine hC.mono ?_
        rintro e w1 ⟨rfl, rfl⟩
        clear hC
        go_wp2_with fail
        refine (HPA.out _ HM.out).mono ?_
        rintro e w2 ⟨p, c, rfl, hsA, hb2⟩
        have hm2 := HM.out.below hb2
        have HM2 := Lib.hid hm2
        clear hm2
        go_wp2_with fail
        refine (HPB.out _ HM2.out).mono ?_
        rintro e w3 ⟨p', c', rfl, hsB, hb3⟩
        have hb3' := below_then hb2 hb3
        have hm3 := HM.out.below hb3'
        have HM3 := Lib.hid hm3
        have hsA := blsS.sl_on hsA (Kept.below hb3)
        clear hm3
        go_wp2_with fail
        rw [HZ.out]
        refine (HPZ.out _ HM3.out).mono ?_
        rintro e w4 ⟨pz, cz, rfl, hsZ, hb4⟩
        have hb4' := below_then hb3' hb4
        have hsA := blsS.sl_on hsA (Kept.below hb4)
        have hsB := blsS.sl_on hsB (Kept.below hb4)
        have o0 : blsS.own 44 (fun k => k < w4.heap.size) w4.heap.size w4 (.slice none 0 0) Bls.nil := Shp.own.nil
        have sA : blsS.src (Shp.kind (fun k => k < w4.heap.size) w4.heap.size (.slice none 0 0)) w4 (.slice p A.len c) A := Shp.src_of (blsS.sl_on hsA (Kept.mono fun k _ hk => ⟨.inl hk, by intro e; cases e⟩))
        have sB : blsS.sl (Shp.kind (fun k => k < w4.heap.size) w4.heap.size (.slice none 0 0)) w4 (.slice p' B.len c') B := blsS.sl_on hsB (Kept.mono fun k _ hk => ⟨.inl hk, by intro e; cases e⟩)
        have O0 := Lib.hid o0
        have SA := Lib.hid sA
        have SB := Lib.hid sB
        have HSZ := Lib.hid hsZ
        have HB4 := Lib.hid hb4'
        clear o0 sA sB hsA hsB hsZ hb2 hb3 hb3' hb4 hb4'
        go_upto_region 6 with fail
        go_wp2_with (at_builtin; first
          | (refine append_shp_want blsS tyB _ (by rfl) _ _ rfl own5 rfl (Shp.src_of (blsS.sl_on SB.out kd5)) rfl (by show (A.len + B.len) * 81 ≤ _; omega) gr5.size ?_; intro v2 w6 own7 gr6 bel6 kd6)
          | (refine append_shp_want blsS tyB _ (by rfl) _ _ rfl O0.out rfl SA.out rfl (by show (0 + A.len) * 81 ≤ _; omega) (Nat.le_refl _) ?_; intro v1 w5 own5 gr5 bel5 kd5; have own6 := own5))
        have hB46 : Below w4.heap.size w4 w6 := bel6 _ (bel5 _ (Below.refl _ _))
        obtain ⟨vp, vc, hv⟩ := own7.form
        have hv2 : v2 = .slice vp (A.app B).len vc := hv
        clear hv
        subst hv2
        have hC6 : blsS.sl (fun _ => True) w6 (.slice vp (A.app B).len vc) (A.app B) := blsS.sl_on own7.sl (Kept.mono fun _ _ _ => trivial)
        have hS6 := blsS.sl_on HSZ.out (Kept.below hB46)
        have hb6 := below_then HB4.out hB46
        have hcs := bsame_any ((A.app B).size + 1) _ _ (A.app B) pz cz vp vc w6 (Nat.lt_succ_self _) (by rw [Bls.size_app]; omega) hS6 hC6
        have HC := Lib.hid hcs
        have HB6 := Lib.hid hb6
        clear hcs hC6 hS6 O0 SA SB HSZ HB4 own5 own6 own7 gr5 gr6 bel5 bel6 kd5 kd6 hB46 hb6
        refine HC.out.mono ?_
        rintro e w7 ⟨rfl, hb7⟩
        have hb7' := below_then HB6.out hb7
        clear hb7
        go_wp2_with fail
        refine (HKN.out _ hb7').mono ?_
        rintro e w8 ⟨rfl, hb8⟩
        have hb8' := below_then hb7' hb8
        go_wp2_with fail
        go_ret
        exact ⟨rfl, hb8'⟩
    · have g2 : decide ((300 : Int) < (b.size : Int)) = true := decide_eq_true (by omega)
      clear hC
      go_enter Tryz.func6, Tryz.ntmps6
      go_wp2_with fail
      refine (HKN.out _ (Below.refl _ _)).mono ?_
      rintro e w2 ⟨rfl, hb2⟩
      go_wp2_with fail
      go_ret
      exact ⟨rfl, hb2⟩
  · have g1 : decide ((300 : Int) < (a.size : Int)) = true := decide_eq_true (by omega)
    clear hC
    go_enter Tryz.func6, Tryz.ntmps6
    go_wp2_with fail
    refine (HKN.out _ (Below.refl _ _)).mono ?_
    rintro e w2 ⟨rfl, hb2⟩
    go_wp2_with fail
    go_ret
    exact ⟨rfl, hb2⟩
end Go.Proofs.YthieinfonomeeaaGreatDoor
