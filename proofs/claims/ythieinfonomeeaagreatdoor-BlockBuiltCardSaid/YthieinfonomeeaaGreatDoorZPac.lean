/-
  The claim's own texts, packed. Conditions: those typed in each theorem.
-/
import Derived.Test.YthieinfonomeeaaGreatDoorZAbb
import Derived.Test.YthieinfonomeeaaGreatDoorZPab
namespace Go.Proofs.YthieinfonomeeaaGreatDoor
open Go.RowKit Doc
set_option linter.unusedVariables false
attribute [local go_sem ↓] Go.wp_at_zero Go.wp_at_succ
set_option maxRecDepth 20000 in
set_option maxHeartbeats 4000000 in
theorem bsame_any : ∀ (N : Nat) (q q' : Nat → Prop) (L : Bls) (p : Option Addr) (c : Nat) (p' : Option Addr) (c' : Nat) (w : World), L.size < N → L.size ≤ 1000000 → blsS.sl q w (.slice p L.len c) L → blsS.sl q' w (.slice p' L.len c') L →
  Calls Tryz.prog 15 #[.slice p L.len c, .slice p' L.len c'] w fun e w' => e = .returned (.bool true) ∧ Below w.heap.size w w' := by
 intro N
 induction N with
 | zero => intro q q' L p c p' c' w hN; exact absurd hN (Nat.not_lt_zero _)
 | succ N ih =>
   intro q q' L p c p' c' w hN hM hv hv'
   obtain ⟨hF, -, hnc, hc⟩ := Shp.rest_start hv
   obtain ⟨hF', -, hnc', hc'⟩ := Shp.rest_start hv'
   have hlen := L.len_size
   obtain ⟨n, hn⟩ : ∃ n, n = L.len := ⟨_, rfl⟩
   rw [← hn] at hlen hnc hnc' ⊢
   have HN := Lib.hid hn
   clear hn hv hv'
   go_enter Tryz.func15, Tryz.ntmps15
   go_wp2_with fail
   go_loopg [5] (n + 1) (fun g s5 wr => ∃ (A R : Bls), A.app R = L ∧ A.len + R.len = n ∧ R.len < g ∧ s5 = .int .i64 A.len ∧ Below w.heap.size w wr ∧ blsS.rest q w p A.len R ∧ blsS.rest q' w p' A.len R)
   case atStart => exact ⟨.nil, L, rfl, by simp [Bls.len]; exact HN.out.symm, by rw [← HN.out]; omega, rfl, Below.refl _ _, hF, hF'⟩
   case round =>
    obtain ⟨A, R, hAR, hi1, hg, rfl, hb, hR, hR'⟩ := hrel
    have HAR := Lib.hid hAR
    generalize hi : A.len = i at *
    have HI := Lib.hid hi
    clear hAR hi
    cases R with
    | nil =>
      have g1 : decide (i < n) = false := by simp [Bls.len] at hi1; simp; omega
      clear hi1 hR hR'
      go_wp2_with fail
      go_ret
      exact ⟨rfl, hb⟩
    | cons a l t ii k r =>
      rcases hR with hR | ⟨b, o, ys, rfl, hqb, hbl, hA, hE⟩
      ·cases hR
      rcases hR' with hR' | ⟨b', o', ys', rfl, hqb', hbl', hA', hE'⟩
      ·cases hR'
      obtain ⟨ip, ic, kp, kc, c0, c1, c2, c3, c4, hii, hk, hr⟩ := hE.head hA
      obtain ⟨ip', ic', kp', kc', d0, d1, d2, d3, d4, hii', hk', hr'⟩ := hE'.head hA'
      have hsz : L.size = A.size + (ii.size + k.size + r.size + 1) := by rw [← HAR.out, Bls.size_app]; simp only [Bls.size]
      have hks : k.size < N := by omega
      have hks2 : k.size ≤ 1000000 := by omega
      have his2 : ii.size ≤ 1000000 := by omega
      have hT : blsS.rest q w (some ⟨b, o, none⟩) (i + 1) r := .inr ⟨b, o, ys, rfl, hqb, hbl, hA, hE.tail⟩
      have hT' : blsS.rest q' w (some ⟨b', o', none⟩) (i + 1) r := .inr ⟨b', o', ys', rfl, hqb', hbl', hA', hE'.tail⟩
      have HT := Lib.hid hT
      have HT' := Lib.hid hT'
      have g1 : decide (i < n) = true := by simp [Bls.len] at hi1; simp; omega
      have hin : i < n := by simp [Bls.len] at hi1; omega
      have HG := Lib.hid hi1
      have HGG := Lib.hid hg
      have hsame := fun W (hW : Below w.heap.size w W) => ih q q' k kp kc kp' kc' W hks hks2 (blsS.sl_on hk (Kept.below hW)) (blsS.sl_on hk' (Kept.below hW))
      have hsameI := fun W (hW : Below w.heap.size w W) => same_any (ii.size + 1) q q' ii ip ic ip' ic' W (Nat.lt_succ_self _) his2 (insS.sl_on hii (Kept.below hW)) (insS.sl_on hii' (Kept.below hW))
      have cc := fun j u (hc : w.cell? ⟨b, o + i * 5 + j, none⟩ = some u) => (hb.cell (p := ⟨b, o + i * 5 + j, none⟩) hbl).trans hc
      have dd := fun j u (hc : w.cell? ⟨b', o' + i * 5 + j, none⟩ = some u) => (hb.cell (p := ⟨b', o' + i * 5 + j, none⟩) hbl').trans hc
      replace c0 := (hb.cell (p := ⟨b, o + i * 5, none⟩) hbl).trans c0
      replace c1 := cc 1 _ c1
      replace c2 := cc 2 _ c2
      replace c3 := cc 3 _ c3
      replace c4 := cc 4 _ c4
      replace d0 := (hb.cell (p := ⟨b', o' + i * 5, none⟩) hbl').trans d0
      replace d1 := dd 1 _ d1
      replace d2 := dd 2 _ d2
      replace d3 := dd 3 _ d3
      replace d4 := dd 4 _ d4
      have hz := hb.size
      have hbl2 : b < wr.heap.size := by omega
      have hbl3 : b' < wr.heap.size := by omega
      have hC := fun x => hsame (gr wr x) (below_then hb (gr_below wr x))
      have hCI := fun x => hsameI (gr wr x) (below_then hb (gr_below wr x))
      have HB := Lib.hid hb
      clear cc dd hsame hsameI hT hT' hii hii' hk hk' hr hr' hE hE' hA hA' hsz ih hg hi1 hb hqb hqb'
      go_upto_region 6 with fail
      go_cut [81] from 11 to 81 (fun s81 wc => s81 = .bool false ∧ Below wr.heap.size wr wc)
      case first =>
       clear HT HT' HG HGG HB HAR HI HN
       refine wp_region_gr (by kernel_rfl) (by kernel_rfl) ?_
       simp only [List.append_eq, List.cons_append, List.nil_append]
       repeat (go_big_quiet_step (first | (go_at_call 32; exact gr_call (hCI _)) | (go_at_call 15; exact gr_call (hC _))))
       with_reducible refine wpQuiet_nil ?_
       intro _ hw'; obtain ⟨w6, hw''⟩ := hw'; subst hw''
       have B6 := gr_below wr w6
       go_wp2_with fail
       go_meet
       case rel => exact ⟨rfl, B6⟩
      case rest =>
       obtain ⟨rfl, hbc⟩ := hcut
       have hb2 := below_then HB.out hbc
       have HG2 := HG.out
       have HG3 := HGG.out
       simp only [Bls.len] at HG2 HG3
       go_wp2_with fail
       go_roundg (r.len + 1)
       case measure => omega
       case rel =>
        have hl : (A.app (.cons a l t ii k .nil)).len = i + 1 := by rw [Bls.len_app, HI.out]; rfl
        exact ⟨A.app (.cons a l t ii k .nil), r, by rw [Bls.app_assoc]; exact HAR.out, by rw [hl]; omega, by omega, by rw [hl]; go_num, hb2, by rw [hl]; exact HT.out, by rw [hl]; exact HT'.out⟩
end Go.Proofs.YthieinfonomeeaaGreatDoor
namespace Go.Proofs.YthieinfonomeeaaGreatDoor
open Go.RowKit Doc Tit Inl Blk
set_option linter.unusedVariables false
attribute [local go_sem ↓] Go.wp_at_zero Go.wp_at_succ
end Go.Proofs.YthieinfonomeeaaGreatDoor
