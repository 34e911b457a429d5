/-
  The law InlineLinks: the Target, the Anchor and the Kids of a link. Condition: the library's MaxLen holds a number.
-/
import Derived.Test.YtegcacnmcdkfiaaGreatDoorXb
import Derived.Test.YtegcacnmcdkfiaaGreatDoorZc
import Derived.Test.YtegcacnmcdkfiaaGreatDoorZd
import Derived.Deep.RegionHeld3

namespace Go.Proofs.YtegcacnmcdkfiaaGreatDoor
open Go.RowKit Doc Tit Inl
set_option linter.unusedVariables false
attribute [local go_sem ↓] Go.wp_at_zero Go.wp_at_succ

def prefB : List ByteArray := [⟨#[]⟩, ⟨#[84, 97, 108, 107, 58]⟩, ⟨#[85, 115, 101, 114, 58]⟩, ⟨#[84, 101, 109, 112, 108, 97, 116, 101, 58]⟩, ⟨#[67, 97, 116, 101, 103, 111, 114, 121, 58]⟩, ⟨#[80, 114, 111, 106, 101, 99, 116, 58]⟩]
def ancB : List ByteArray := [⟨#[]⟩, ⟨#[35, 120]⟩, ⟨#[35, 32, 97, 32, 98, 32]⟩]
theorem prefB_at {s : Nat} (hs : s < 6) : ∃ t, prefB[s]? = some t ∧ prefL[s]? = some t.data.toList := by
  have : s = 0 ∨ s = 1 ∨ s = 2 ∨ s = 3 ∨ s = 4 ∨ s = 5 := by omega
  rcases this with rfl | rfl | rfl | rfl | rfl | rfl <;> exact ⟨_, rfl, rfl⟩
theorem titlesB_in {n : ByteArray} (h : n ∈ titlesB) : n.data.toList ∈ nameL := by
  simp only [titlesB, List.mem_cons, List.not_mem_nil, or_false] at h
  rcases h with rfl | rfl | rfl | rfl | rfl | rfl | rfl | rfl | rfl | rfl <;> decide
theorem ancB_in {a : ByteArray} (h : a ∈ ancB) : ∃ x, (a.data.toList, x) ∈ ancL ∧ Lib.trimS a.data.toList [35, 32] = x ∧ x.length ≤ 9 := by
  simp only [ancB, List.mem_cons, List.not_mem_nil, or_false] at h
  rcases h with rfl | rfl | rfl
  · exact ⟨[], by decide, by decide, by decide⟩
  · exact ⟨[120], by decide, by decide, by decide⟩
  · exact ⟨[97, 32, 98], by decide, by decide, by decide⟩
theorem hi_label : ∀ (j : Nat) b, (⟨#[91, 93, 124, 60, 38, 39, 10]⟩ : ByteArray).data.toList[j]? = some b → b.toNat < 128 := by
  intro j b h
  have : b ∈ ([91, 93, 124, 60, 38, 39, 10] : List UInt8) := List.mem_of_getElem? h
  simp only [List.mem_cons, List.not_mem_nil, or_false] at this
  rcases this with rfl | rfl | rfl | rfl | rfl | rfl | rfl <;> decide
theorem name_w {F : World → Prop} {w : World} (h : ∀ W, W = w → F W) : F w := h w rfl
def lkB (r : Nat) (nm an : ByteArray) (L : Ins) : Ins := .cons 4 ⟨#[]⟩ (r : Int) nm an L .nil
theorem lkB_size (r : Nat) (nm an : ByteArray) (L : Ins) : (lkB r nm an L).size = L.size + 1 := by simp [lkB, Ins.size]
theorem lkB_lk (r : Nat) (nm : ByteArray) (x : List UInt8) (L : Ins) : lk r nm.data.toList x L = lkB r nm ⟨x.toArray⟩ L := by rw [lk, bytes_mk]; rfl
/-- the cells of a link alone -/
theorem link_cells {w : World} {p : Option Addr} {c : Nat} {r : Nat} {nm an : ByteArray} {L : Ins} (h : insS.sl Any w (.slice p 1 c) (lkB r nm an L)) :
    ∃ b o kp kc, p = some ⟨b, o, none⟩ ∧ b < w.heap.size ∧ w.cell? ⟨b, o, none⟩ = some (.int .i64 4) ∧ w.cell? ⟨b, o + 2, none⟩ = some (.int .i64 r) ∧ w.cell? ⟨b, o + 3, none⟩ = some (.string nm) ∧ w.cell? ⟨b, o + 4, none⟩ = some (.string an) ∧
      w.cell? ⟨b, o + 5, none⟩ = some (.slice kp L.len kc) ∧ insS.sl Any w (.slice kp L.len kc) L := by
  obtain ⟨hF, -, -, -⟩ := Shp.rest_start h
  rcases hF with hF | ⟨b, o, ys, rfl, hqb, hbl, hA, hE⟩
  · cases hF
  · obtain ⟨kp, kc, c0, c1, c2, c3, c4, c5, hk, -⟩ := IEnc.head hA hE
    exact ⟨b, o, kp, kc, rfl, hbl, by simpa using c0, by simpa using c2, by simpa using c3, by simpa using c4, by simpa using c5, hk⟩
set_option maxRecDepth 10000 in
set_option maxHeartbeats 2000000 in
theorem law_links (a : Option Addr) (len cap : Nat) (zs : List Int) (s : ByteArray) (w : World) (hz : IsInts w a len cap zs) (hm : MX w) : Calls Tryz.prog 9 #[.slice a len cap, .string s] w fun e w' => e = .returned (.bool true) ∧ Below w.heap.size w w' := by
  have HK := Lib.hid (known_then w hm)
  have HM := Lib.hid hm
  clear hm
  by_cases hs : s.size ≤ 200
  case neg =>
    have g0 : decide (200 < (s.size : Int)) = true := by simp; omega
    clear hz
    go_enter Tryz.func9, Tryz.ntmps9
    go_wp2_with fail
    refine (HK.out _ (Below.refl _ _)).mono ?_
    rintro e w6 ⟨rfl, hb6⟩
    go_wp2_with fail
    go_ret
    exact ⟨rfl, hb6⟩
  have g0 : decide (200 < (s.size : Int)) = false := by simp; omega
  have hC := containsAny_any s ⟨#[91, 93, 124, 60, 38, 39, 10]⟩ w (by omega) (by decide) (by decide) hi_label
  have e0 : (⟨#[91, 93, 124, 60, 38, 39, 10]⟩ : ByteArray).data.toList = [91, 93, 124, 60, 38, 39, 10] := rfl
  rw [e0] at hC
  cases hca : Lib.containsAny s.data.toList [91, 93, 124, 60, 38, 39, 10] with
  | true =>
    rw [hca] at hC
    have HC := Lib.hid hC
    clear hC hca e0 hz
    go_enter Tryz.func9, Tryz.ntmps9
    go_wp2_with fail
    refine HC.out.mono ?_
    rintro e w1 ⟨rfl, hb1⟩
    go_wp2_with fail
    refine (HK.out _ hb1).mono ?_
    rintro e w6 ⟨rfl, hb6⟩
    go_wp2_with fail
    go_ret
    exact ⟨rfl, hb6⟩
  | false =>
  rw [hca] at hC
  have hlab : ∀ c ∈ s.data.toList, c ≠ 93 ∧ c ≠ 91 ∧ c ≠ 10 := fun c hc => by
    have := cany_none hca c hc
    simp only [List.contains_cons, List.contains_nil, Bool.or_false, Bool.or_eq_false_iff, beq_eq_false_iff_ne] at this
    exact ⟨this.2.1, this.1, this.2.2.2.2.2.2⟩
  have HC := Lib.hid hC
  have HLB := Lib.hid hlab
  have HZ := Lib.hid hz
  clear hC hca e0 hz hlab
  go_enter Tryz.func9, Tryz.ntmps9
  go_wp2_with fail
  refine HC.out.mono ?_
  rintro e w0 ⟨rfl, hb0⟩
  go_wp2_with fail
  refine (newT a len cap zs w0 (HZ.out.below hb0)).mono ?_
  rintro e w1 ⟨g, rfl, hg, hb1, tp⟩
  have hB := tTitleIn g w1 (TS.refl tp)
  go_wp2_with fail
  refine hB.mono ?_
  rintro e w2 ⟨r, nm, rfl, hr6, hnm, ts⟩
  obtain ⟨pf, hp1, hp2⟩ := prefB_at hr6
  have HB1 := Lib.hid (below_then hb0 hb1)
  have hg0 := Nat.le_trans hb0.size hg
  have K2 := Known.made w2 40 #[.int .i64 r, .string nm]
  have c0 := K2.cell 0
  have c1 := K2.cell 1
  have hrb : (r : Int) < 6 := by omega
  have hrb0 : (0 : Int) ≤ (r : Int) := by omega
  have hl := K2.lt
  have hnm2 : nm.size ≤ 99 := by
    have h1 : (titlesB.all fun t => decide (t.size ≤ 99)) = true := by decide
    simpa using List.all_eq_true.1 h1 nm hnm
  have hpe : ∀ h, ([.string ⟨#[]⟩, .string ⟨#[84, 97, 108, 107, 58]⟩, .string ⟨#[85, 115, 101, 114, 58]⟩, .string ⟨#[84, 101, 109, 112, 108, 97, 116, 101, 58]⟩, .string ⟨#[67, 97, 116, 101, 103, 111, 114, 121, 58]⟩, .string ⟨#[80, 114, 111, 106, 101, 99, 116, 58]⟩] : List Value)[r]'h = .string pf := fun h => by
    have h6 : r = 0 ∨ r = 1 ∨ r = 2 ∨ r = 3 ∨ r = 4 ∨ r = 5 := by omega
    rcases h6 with rfl | rfl | rfl | rfl | rfl | rfl <;> (injection hp1 with hp1; rw [← hp1]; rfl)
  have hpf : pf.size ≤ 9 := by
    have h6 : r = 0 ∨ r = 1 ∨ r = 2 ∨ r = 3 ∨ r = 4 ∨ r = 5 := by omega
    rcases h6 with rfl | rfl | rfl | rfl | rfl | rfl <;> (injection hp1 with hp1; rw [← hp1]; decide)
  clear hB hb1 hb0 tp
  go_wp2_with fail
  go_region
  have KT := Lib.hid ((K2.on (below_new0 _ (.cells #[.string ⟨#[]⟩, .string ⟨#[84, 97, 108, 107, 58]⟩, .string ⟨#[85, 115, 101, 114, 58]⟩, .string ⟨#[84, 101, 109, 112, 108, 97, 116, 101, 58]⟩, .string ⟨#[67, 97, 116, 101, 103, 111, 114, 121, 58]⟩, .string ⟨#[80, 114, 111, 106, 101, 99, 116, 58]⟩] 9))).on (Below.refl _ _).drew)
  have TSV := Lib.hid ((ts.new (.cells #[.int .i64 r, .string nm] 40)).new (.cells #[.string ⟨#[]⟩, .string ⟨#[84, 97, 108, 107, 58]⟩, .string ⟨#[85, 115, 101, 114, 58]⟩, .string ⟨#[84, 101, 109, 112, 108, 97, 116, 101, 58]⟩, .string ⟨#[67, 97, 116, 101, 103, 111, 114, 121, 58]⟩, .string ⟨#[80, 114, 111, 106, 101, 99, 116, 58]⟩] 9)).drew
  have hgw2 : g < w2.heap.size := ts.tp.lt
  clear K2 c0 c1 ts hl hpe
  refine name_w ?_
  intro V4 hV4
  rw [← hV4] at KT TSV
  have hO := tOfMem g ancB w1 V4 9 _ rfl (by decide) (by decide) TSV.out
  clear hV4
  go_wp2_with fail
  refine hO.mono ?_
  rintro e w5 ⟨an, rfl, han, ts5, st5⟩
  obtain ⟨x, hx1, hx2, hx3⟩ := ancB_in han
  have hLT := linkT_of hr6 hp2 (titlesB_in hnm) hx1
  have hxl := hLT.len
  have hKT := Lib.hid (KT.out.tstep st5 (by omega))
  have HB5 := Lib.hid (HB1.out.trans (ts5.st.below.mono hg0))
  obtain ⟨NM, hNM⟩ : ∃ NM, pf ++ nm = NM := ⟨_, rfl⟩
  obtain ⟨AN, hAN⟩ : ∃ AN : ByteArray, ⟨x.toArray⟩ = AN := ⟨_, rfl⟩
  have hNMl : NM.data.toList = pf.data.toList ++ nm.data.toList := by rw [← hNM, app_data]
  rw [← hNMl] at hLT hxl
  have hsz : NM.size + an.size ≤ 100 := by
    rw [List.length_append] at hxl
    simpa using hxl
  have hP1 := fun W hb => parse_to (⟨#[91, 91, 58]⟩ ++ NM ++ an ++ ⟨#[124]⟩ ++ s ++ ⟨#[93, 93]⟩) (lkB r nm AN (read s.data.toList)) 1 (by simp [ByteArray.size_append]; show 3 + NM.size + an.size + 1 + s.size + 2 ≤ _; omega)
    (by
      have h1 := read_labelled hLT HLB.out
      rw [lkB_lk, hAN] at h1
      rw [← h1]
      congr 1
      simp) rfl W (HM.out.below hb : MX W)
  have hP2 := fun W hb => parse_to (⟨#[91, 91, 58]⟩ ++ NM ++ an ++ ⟨#[93, 93]⟩) (lkB r nm AN (tx (NM ++ an))) 1 (by simp [ByteArray.size_append]; show 3 + NM.size + an.size + 2 ≤ _; omega)
    (by
      have h1 := read_bare hLT
      rw [lkB_lk, hAN, ← app_data, tx_txt] at h1
      rw [← h1]
      congr 1) rfl W (HM.out.below hb : MX W)
  have hTR := fun W => ptrim_set an [35, 32] W (by omega) (by decide) (by decide)
  rw [hx2, hAN] at hTR
  have hP3 := fun W hb => parse_to s (read s.data.toList) (read s.data.toList).len (by omega) rfl rfl W (HM.out.below hb : MX W)
  have hS1 := same_of (read s.data.toList) (by have := read_size s.data.toList; have hz : s.data.toList.length = s.size := by simp
                                               omega)
  have hS2 := same_of (tx (NM ++ an)) (by rw [tx_size]; decide)
  simp only [tx_len] at hS2
  obtain ⟨R, hRd⟩ : ∃ R, read s.data.toList = R := ⟨_, rfl⟩
  rw [hRd] at hP1 hP3 hS1
  have HP1 := Lib.hid hP1
  have HP2 := Lib.hid hP2
  have HP3 := Lib.hid hP3
  have HTR := Lib.hid hTR
  have HS1 := Lib.hid hS1
  have HS2 := Lib.hid hS2
  clear hP1 hP2 hP3 hTR hS1 hS2 hRd hLT hxl hx1 hx2 hx3 hNMl hAN hO ts5 st5 han KT TSV hnm hp1 hp2
  go_wp2_with fail
  refine (HP1.out _ HB5.out).mono ?_
  rintro e w6 ⟨p6, c6, rfl, hs6, hb6⟩
  have HB6 := Lib.hid (below_then HB5.out hb6)
  have KT6 := Lib.hid (hKT.out.on hb6)
  have HS6 := Lib.hid hs6
  clear hs6 hb6 HB5 hKT
  go_wp2_with fail
  refine (HP2.out _ HB6.out).mono ?_
  rintro e w7 ⟨p7, c7, rfl, hs7, hb7⟩
  have HB7 := Lib.hid (below_then HB6.out hb7)
  have KT7 := Lib.hid (KT6.out.on hb7)
  have HS67 := Lib.hid (sl_below HS6.out hb7)
  have HS7 := Lib.hid hs7
  clear hs7 hb7 HB6 KT6 HS6
  go_wp2_with fail
  refine (HTR.out _).mono ?_
  rintro e w8 ⟨rfl, hb8⟩
  have HB8 := Lib.hid (below_then HB7.out hb8)
  have KT8 := Lib.hid (KT7.out.on hb8)
  have HS68 := Lib.hid (sl_below HS67.out hb8)
  have HS78 := Lib.hid (sl_below HS7.out hb8)
  clear hb8 HB7 KT7 HS67 HS7
  obtain ⟨b, o, kp, kc, rfl, hbl, c0, c2, c3, c4, c5, hk⟩ := link_cells HS68.out
  obtain ⟨b', o', kp', kc', rfl, hbl', d0, d2, d3, d4, d5, hk'⟩ := link_cells HS78.out
  have t0 := KT8.out.cell 0
  have t1 := KT8.out.cell 1
  have tl := KT8.out.lt
  have hkr : ∀ W, Below w8.heap.size w8 W → insS.sl Any W (.slice kp R.len kc) R := fun W hb => sl_below hk hb
  have hkt : ∀ W, Below w8.heap.size w8 W → insS.sl Any W (.slice kp' 1 kc') (tx (NM ++ an)) := fun W hb => sl_below hk' hb
  have hf : ∀ W, Below w8.heap.size w8 W → W.cell? ⟨b, o, none⟩ = some (.int .i64 4) ∧ W.cell? ⟨b, o + 2, none⟩ = some (.int .i64 r) ∧ W.cell? ⟨b, o + 3, none⟩ = some (.string nm) ∧ W.cell? ⟨b, o + 4, none⟩ = some (.string AN) ∧ W.cell? ⟨b, o + 5, none⟩ = some (.slice kp R.len kc) ∧ W.cell? ⟨w2.heap.size, 0, none⟩ = some (.int .i64 r) ∧ W.cell? ⟨w2.heap.size, 1, none⟩ = some (.string nm) :=
    fun W hb => ⟨(hb.cell (p := ⟨b, o, none⟩) hbl).trans c0, (hb.cell (p := ⟨b, o + 2, none⟩) hbl).trans c2, (hb.cell (p := ⟨b, o + 3, none⟩) hbl).trans c3, (hb.cell (p := ⟨b, o + 4, none⟩) hbl).trans c4, (hb.cell (p := ⟨b, o + 5, none⟩) hbl).trans c5, (hb.cell (p := ⟨w2.heap.size, 0, none⟩) tl).trans t0, (hb.cell (p := ⟨w2.heap.size, 1, none⟩) tl).trans t1⟩
  have hg : ∀ W, Below w8.heap.size w8 W → W.cell? ⟨b', o' + 2, none⟩ = some (.int .i64 r) ∧ W.cell? ⟨b', o' + 3, none⟩ = some (.string nm) ∧ W.cell? ⟨b', o' + 4, none⟩ = some (.string AN) ∧ W.cell? ⟨b', o' + 5, none⟩ = some (.slice kp' 1 kc') ∧ W.cell? ⟨w2.heap.size, 0, none⟩ = some (.int .i64 r) ∧ W.cell? ⟨w2.heap.size, 1, none⟩ = some (.string nm) :=
    fun W hb => ⟨(hb.cell (p := ⟨b', o' + 2, none⟩) hbl').trans d2, (hb.cell (p := ⟨b', o' + 3, none⟩) hbl').trans d3, (hb.cell (p := ⟨b', o' + 4, none⟩) hbl').trans d4, (hb.cell (p := ⟨b', o' + 5, none⟩) hbl').trans d5, (hb.cell (p := ⟨w2.heap.size, 0, none⟩) tl).trans t0, (hb.cell (p := ⟨w2.heap.size, 1, none⟩) tl).trans t1⟩
  have HKR := Lib.hid hkr
  have HKT := Lib.hid hkt
  have HF := Lib.hid hf
  have HG := Lib.hid hg
  have hcal : ∀ W, Below w8.heap.size w8 W → Calls Tryz.prog 14 #[.string s] W fun e w' => ∃ p c, e = .returned (.slice p R.len c) ∧ insS.sl Any w' (.slice p R.len c) R ∧ Below W.heap.size W w' := fun W hb => HP3.out W (below_then HB8.out hb)
  have HCL := Lib.hid hcal
  clear hk hk' hcal hnm2 hkr hkt hf hg c0 c2 c3 c4 c5 d0 d2 d3 d4 d5 t0 t1 HS68 HS78 KT8
  go_upto_region 10 with fail
  go_cut [87] from 52 to 87 (fun s87 wc => s87 = .bool false ∧ Below w8.heap.size w8 wc)
  case first =>
    have hb := (Below.refl w8.heap.size w8).drew
    obtain ⟨c0, c2, c3, c4, c5, t0, t1⟩ := HF.out _ hb
    go_region_held3 (fun W => W.cell? ⟨b, o, none⟩ = some (.int .i64 4) ∧ W.cell? ⟨b, o + 2, none⟩ = some (.int .i64 r) ∧ W.cell? ⟨b, o + 3, none⟩ = some (.string nm) ∧ W.cell? ⟨b, o + 4, none⟩ = some (.string AN) ∧ W.cell? ⟨b, o + 5, none⟩ = some (.slice kp R.len kc) ∧ W.cell? ⟨w2.heap.size, 0, none⟩ = some (.int .i64 r) ∧ W.cell? ⟨w2.heap.size, 1, none⟩ = some (.string nm))
      (exact HF.out _ hb)
      (first
        | (go_at_call 14; (with_reducible refine (HCL.out _ hb).mono ?_); rintro e w9 ⟨p9, c9, rfl, S1, hb9⟩; have hb := below_then hb hb9)
        | (go_at_call 13; (with_reducible refine (HS1.out kp kc p9 c9 _ (HKR.out _ hb) S1).mono ?_); rintro e w10 ⟨rfl, hb10⟩; have hb := below_then hb hb10)
        | fail)
    go_wp2_with fail
    go_meet
    case rel => exact ⟨rfl, hb⟩
  case rest =>
    obtain ⟨rfl, hbc⟩ := hcut
    have hss : ¬ (9223372036854775807 < NM.size + an.size) := by omega
    go_upto_region 12 with fail
    have hb := hbc.drew
    obtain ⟨d2, d3, d4, d5, t0, t1⟩ := HG.out _ hb
    go_region_held3 (fun W => W.cell? ⟨b', o' + 2, none⟩ = some (.int .i64 r) ∧ W.cell? ⟨b', o' + 3, none⟩ = some (.string nm) ∧ W.cell? ⟨b', o' + 4, none⟩ = some (.string AN) ∧ W.cell? ⟨b', o' + 5, none⟩ = some (.slice kp' 1 kc') ∧ W.cell? ⟨w2.heap.size, 0, none⟩ = some (.int .i64 r) ∧ W.cell? ⟨w2.heap.size, 1, none⟩ = some (.string nm))
      (first | exact HG.out _ hb | exact HG.out _ (below_then hb (below_new0 _ _)))
      (first
        | (go_at_call 26; (with_reducible refine (text_any _ _).mono ?_); rintro e w9 ⟨rfl, hb9⟩; have hb := below_then hb hb9; have HT := Lib.hid (tx_sl w9 (NM ++ an)))
        | (go_at_call 13; (with_reducible refine (HS2.out kp' kc' _ 1 _ (HKT.out _ (below_then hb (below_new0 _ _))) HT.out).mono ?_); rintro e w10 ⟨rfl, hb10⟩; have hb := below_then (below_then hb (below_new0 _ _)) hb10)
        | (go_at_call 12; (with_reducible refine (known_any _ (HM.out.below (below_then HB8.out hb))).mono ?_); rintro e w11 ⟨rfl, hb11⟩; have hb := below_then hb hb11)
        | fail)
    go_wp2_with fail
    go_ret
    exact ⟨rfl, below_then HB8.out hb⟩
end Go.Proofs.YtegcacnmcdkfiaaGreatDoor
