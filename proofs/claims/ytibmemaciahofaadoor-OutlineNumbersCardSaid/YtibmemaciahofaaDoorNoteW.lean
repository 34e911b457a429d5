/-
  The program's list of footnotes. Conditions: those typed in each theorem.
-/
import Derived.Test.YtibmemaciahofaaDoorNoteMem
import Derived.Test.YtibmemaciahofaaDoorContMem
import Derived.Test.YtibmemaciahofaaDoorContPar
import Derived.Test.YtibmemaciahofaaDoorOutMarks2
namespace Go.Proofs.YtibmemaciahofaaDoor
open Go.RowKit Doc Note Go.Maps Go.WideMaps
set_option linter.unusedVariables false

/-- where the notes lie: a map of the call's own -/
def PlcM (w : World) (b n : Nat) (f : List UInt8 → Option Nat) : Prop := ∃ D : DataW Unit, w.ownsMap Tryd.prog 9 (plainElem Tryd.prog 3) b n D ∧ ∀ s : List UInt8, s ≠ [] → Maps.has D (.string s) = (f s).isSome ∧ D.atKey (.string s) (.lit (.int .i64 0)) = .lit (.int .i64 ((f s).getD 0 : Nat))
theorem PlcM.made (w : World) : PlcM (w.alloc (.map #[] 0)) w.heap.size 0 (fun _ => none) := ⟨.map [], World.ownsMap_made _ _ _ _, fun s _ => ⟨rfl, rfl⟩⟩
theorem PlcM.lt {w : World} {b n : Nat} {f : List UInt8 → Option Nat} (h : PlcM w b n f) : b < w.heap.size := by obtain ⟨D, h, -⟩ := h; exact h.lt
theorem PlcM.grown {w w' : World} {b n : Nat} {f : List UInt8 → Option Nat} {row : Option Nat} (h : PlcM w b n f) (hg : w.grownBy w' row) (hr : some b ≠ row) : PlcM w' b n f := by
  obtain ⟨D, h1, h2⟩ := h; exact ⟨D, h1.kept hg hr, h2⟩
theorem PlcM.below {w w' : World} {b n : Nat} {f : List UInt8 → Option Nat} (h : PlcM w b n f) (hb : Below w.heap.size w w') : PlcM w' b n f := h.grown (grown_below hb) (by simp)
theorem PlcM.put {w : World} {b n : Nat} {f : List UInt8 → Option Nat} (h : PlcM w b n f) {a : Addr} (ha : b ≠ a.block) (u : Value) : PlcM (w.setCell a u) b n f := by
  obtain ⟨D, h1, h2⟩ := h; exact ⟨D, h1.setCell ha u, h2⟩
theorem plcM_look (w : World) {ops : Array Oper} {rest : List Oper} {o : Oper} {a : Act} {Q : Exit → Act → World → Prop} (hg : o.guard = none) (m x : Operand) (hop : o.op = Op.lookup 85 m x true)
    {b n : Nat} {f : List UInt8 → Option Nat} (h : PlcM w b n f) (s : ByteArray) (hs : s.size ≤ 9223372036854775807) (hm : a.eval m = .map (some b)) (hx : a.eval x = .string s)
    (hK : ∀ (c : Int) (k : Bool), (s.data.toList ≠ [] → k = (f s.data.toList).isSome ∧ c = ((f s.data.toList).getD 0 : Nat)) → wpList Tryd.prog ops Q rest (a.put o.dst (.tuple #[.int .i64 c, .bool k])) w) : wpList Tryd.prog ops Q (o :: rest) a w := by
  obtain ⟨D, h1, h2⟩ := h
  refine wpList_lookup_own_ok_int w hg m x 85 hop 9 3 .i64 keyS Tryd.underlying85 Tryd.underlying3 (zeroI w) b n D hm h1 (.string s) _ hx (keyOf_string_mk Tryd.underlying9 hs) fun c hc _ => ?_
  refine hK c _ fun hne => ?_
  obtain ⟨h3, h4⟩ := h2 _ hne
  refine ⟨h3, ?_⟩
  rw [h4] at hc
  injection hc with hc
  injection hc with _ hc
  exact hc.symm
theorem plcM_set (w : World) {ops : Array Oper} {rest : List Oper} {o : Oper} {a : Act} {Q : Exit → Act → World → Prop} (hg : o.guard = none) (m x v : Operand) (hop : o.op = Op.mapUpdate 85 m x v)
    {b n : Nat} {f : List UInt8 → Option Nat} (h : PlcM w b n f) (hn : n < maxLen) (s : ByteArray) (hs : s.size ≤ 9223372036854775807) (c : Nat) (hc : c ≤ 9223372036854775807) (hm : a.eval m = .map (some b)) (hx : a.eval x = .string s) (hv : a.eval v = .int .i64 c)
    (hK : ∀ w', PlcM w' b (n + 1) (fun t => if t = s.data.toList then some c else f t) → w.grownBy w' (some b) → wpList Tryd.prog ops Q rest (a.put o.dst undef) w') : wpList Tryd.prog ops Q (o :: rest) a w := by
  obtain ⟨D, h1, h2⟩ := h
  refine wpList_mapUpdate_own w hg m x v 85 hop 9 3 keyS Tryd.underlying85 _ b n D hm h1 hn (.string s) (.int .i64 c) _ hx hv (keyOf_string_mk Tryd.underlying9 hs) _ [] (plainElem_int Tryd.underlying3 (WalkArith.wf_i64 (by omega))) fun w' h3 h4 => ?_
  refine hK w' ⟨_, h3, fun t ht => ?_⟩ h4
  by_cases e : t = s.data.toList
  · subst e
    have hkl : WideAt.IsKeyLit (.string s.data.toList) := by first | exact trivial | exact rfl | simp [WideAt.IsKeyLit]
    rw [atKey_put_same h1.isMap hkl, has_put_same h1.isMap hkl]
    simp
  · have hne : (Lit.string t) ≠ .string s.data.toList := fun e' => e (by injection e')
    rw [atKey_put_other hne, has_put_other hne]
    simp only [if_neg e]
    exact h2 t ht
theorem kn_grown {w w' : World} {g : Nat} {t : TypeId} {cs : Array Value} {row : Option Nat} (h : Known w g t cs) (hg : w.grownBy w' row) (hne : row ≠ some g) : Known w' g t cs := (hg.block g h.lt (Ne.symm hne)).trans h
theorem plcM_hit (w : World) {ops : Array Oper} {rest : List Oper} {o : Oper} {a : Act} {Q : Exit → Act → World → Prop} (hg : o.guard = none) (m x : Operand) (hop : o.op = Op.lookup 85 m x true)
    {b n : Nat} {f : List UInt8 → Option Nat} (h : PlcM w b n f) (s : ByteArray) (hs : s.size ≤ 9223372036854775807) {r : Option Nat} (hne : s.data.toList ≠ []) (hr : f s.data.toList = r) (hm : a.eval m = .map (some b)) (hx : a.eval x = .string s)
    (hK : wpList Tryd.prog ops Q rest (a.put o.dst (.tuple #[.int .i64 ((r.getD 0 : Nat) : Int), .bool r.isSome])) w) : wpList Tryd.prog ops Q (o :: rest) a w :=
  plcM_look w hg m x hop h s hs hm hx fun c k hck => by
    obtain ⟨rfl, rfl⟩ := hck hne
    rw [hr]; exact hK
theorem PlcM.mono {w : World} {b n n' : Nat} {f : List UInt8 → Option Nat} (h : PlcM w b n f) (hn : n ≤ n') : PlcM w b n' f := by
  obtain ⟨D, h1, h2⟩ := h; exact ⟨D, h1.mono hn, h2⟩
theorem grown_trans {w a c : World} {row : Option Nat} (h : w.grownBy a row) (k : a.grownBy c row) : w.grownBy c row :=
  ⟨k.os.trans h.os, k.tape.trans h.tape, k.output.trans h.output, Nat.le_trans h.size k.size, fun j hj hn => (k.block j (Nat.lt_of_lt_of_le hj h.size) hn).trans (h.block j hj hn)⟩
theorem grown_far {w a c : World} {b : Nat} {row : Option Nat} (h : w.grownBy a (some b)) (k : a.grownBy c row) (hr : ∀ g, row = some g → w.heap.size ≤ g ∨ g = b) : w.grownBy c (some b) :=
  ⟨k.os.trans h.os, k.tape.trans h.tape, k.output.trans h.output, Nat.le_trans h.size k.size, fun j hj hn => (k.block j (Nat.lt_of_lt_of_le hj h.size) (fun e => by
    rcases hr j e.symm with h2 | h2
    · omega
    · exact hn (by rw [h2]))).trans (h.block j hj hn)⟩
theorem grown_of_below {w a : World} {b : Nat} (h : Below w.heap.size w a) : w.grownBy a (some b) := ⟨h.os, h.tape, h.output, h.size, fun j hj _ => h.block j hj⟩
theorem grown_put_far {w a : World} {b : Nat} (h : w.grownBy a (some b)) {p : Addr} (hp : w.heap.size ≤ p.block) (u : Value) : w.grownBy (a.setCell p u) (some b) :=
  ⟨h.os, h.tape, h.output, by rw [World.size_setCell]; exact h.size, fun j hj hn => (Below.heap_setCell _ _ _ _ (by omega)).trans (h.block j hj hn)⟩
theorem below_of_grown {w a c : World} {b : Nat} (h : Below w.heap.size w a) (k : a.grownBy c (some b)) (hb : w.heap.size ≤ b) : Below w.heap.size w c := h.grown k h.size (fun j hj => by injection hj with hj; omega)
theorem plc_snoc (L : List Nt) (t : ByteArray) (x : List UInt8) : plc (L ++ [(⟨t, .nil, []⟩ : Nt)]) x (L ++ [(⟨t, .nil, []⟩ : Nt)]).length = if x = t.data.toList then some L.length else plc L x L.length := by
  have hl : (L ++ [(⟨t, .nil, []⟩ : Nt)]).length = L.length + 1 := by simp
  have hg : (L ++ [(⟨t, .nil, []⟩ : Nt)]).getD L.length default = ⟨t, .nil, []⟩ := by simp [List.getD]
  rw [hl, plc, hg, plc_congr (L ++ [(⟨t, .nil, []⟩ : Nt)]) L x L.length fun j hj => by simp [List.getD, List.getElem?_append_left hj]]
  by_cases e : x = t.data.toList
  · rw [if_pos e, if_pos e.symm]
  · rw [if_neg e, if_neg (fun h => e h.symm)]
theorem upd_keep {L : List Nt} {m i : Nat} {k : Ins} (h : (L.getD m default).ins.len ≠ 0) : L.set m ⟨(L.getD m default).name, (L.getD m default).ins, (L.getD m default).uses ++ [i]⟩ = L.set m (upd (L.getD m default) i k) := by
  unfold upd; rw [if_neg h]
theorem upd_new {L : List Nt} {m i : Nat} {k : Ins} (hm : m < L.length) (h : (L.getD m default).ins.len = 0) :
    (L.set m ⟨(L.getD m default).name, (L.getD m default).ins, (L.getD m default).uses ++ [i]⟩).set m ⟨((L.set m ⟨(L.getD m default).name, (L.getD m default).ins, (L.getD m default).uses ++ [i]⟩).getD m default).name, k, ((L.set m ⟨(L.getD m default).name, (L.getD m default).ins, (L.getD m default).uses ++ [i]⟩).getD m default).uses⟩ = L.set m (upd (L.getD m default) i k) := by
  rw [getD_set _ _ _ _ hm, if_pos rfl, List.set_set]
  unfold upd; rw [if_pos h]
theorem plc_upd (L : List Nt) (m i : Nat) (k : Ins) (hm : m < L.length) : (fun s => plc (L.set m (upd (L.getD m default) i k)) s (L.set m (upd (L.getD m default) i k)).length) = fun s => plc L s L.length := funext fun s => by
  rw [List.length_set]
  refine plc_congr _ _ s _ fun j hj => ?_
  rw [getD_set _ _ _ _ hm]
  split
  · rename_i e; rw [e]; rfl
  · rfl
theorem known_type {w : World} {g : Nat} {t t' : TypeId} {cs cs' : Array Value} (h : Known w g t cs) (h' : w.heap[g]? = some (.cells cs' t' (0, 0))) : t = t' := by
  have := h.symm.trans h'
  injection this with this
  injection this
theorem own_type {w : World} {B e size n : Nat} {v : Value} {xs : List Value} {g : Nat} (h : w.ownsRow B e size v n xs) (hg : v.ownBlock = some g) : ∃ cs, w.heap[g]? = some (.cells cs e (0, 0)) := by
  rcases h.2 with ⟨rfl, _⟩ | ⟨g', cap, cur, rfl, _, h1, _⟩
  · cases hg
  · injection hg with hg
    have : g' = g := hg
    subst this
    exact ⟨cur, h1⟩
theorem kept_mid {w1 V W : World} {b0 : Nat} (h1 : w1.grownBy V (some b0)) (h2 : w1.grownBy W (some b0)) : Kept (fun b => b0 < b ∧ b < w1.heap.size) (fun b => b0 < b ∧ b < w1.heap.size) V W := fun b hb _ =>
  ⟨hb, (h2.block b hb.2 (fun e => by injection e with e; omega)).trans (h1.block b hb.2 (fun e => by injection e with e; omega)).symm⟩
theorem NRow.insAt {q : Nat → Prop} {B r c nl : Nat} {w : World} {L : List Nt} {I U : Nat → Value} {m : Nat} {x : Nt} (h : NRow q B w (.slice (some ⟨r, 0, none⟩) nl c) (L.set m x) I U) (hnl : nl = L.length) (hm : m < L.length) {y : Value} {k : Ins} (hy : insS.sl q w y k) :
    NRow q B (w.setCell ⟨r, m * 3 + 1, none⟩ y) (.slice (some ⟨r, 0, none⟩) nl c) ((L.set m x).set m ⟨((L.set m x).getD m default).name, k, ((L.set m x).getD m default).uses⟩) (fun j => if j = m then y else I j) U := by
  have h2 : nl = (L.set m x).length := by rw [List.length_set]; exact hnl
  subst h2
  exact NRow.putIns h (by rw [List.length_set]; exact hm) hy
theorem total_snoc (L : List Nt) (t : ByteArray) : total (L ++ [(⟨t, .nil, []⟩ : Nt)]) = total L := by simp [total]
theorem nstep_some {L : List Nt} {i m : Nat} {t : ByteArray} {k : Ins} (h : plcT L t.data.toList = some m) : nstep L i t k = L.set m (upd (L.getD m default) (i + 1) k) := by
  unfold nstep; rw [h]
theorem nstep_none {L : List Nt} {i : Nat} {t : ByteArray} {k : Ins} (h : plcT L t.data.toList = none) : nstep L i t k = (L ++ [(⟨t, .nil, []⟩ : Nt)]).set L.length (upd ((L ++ [(⟨t, .nil, []⟩ : Nt)]).getD L.length default) (i + 1) k) := by
  unfold nstep; rw [h]
  have : (L ++ [(⟨t, .nil, []⟩ : Nt)]).getD L.length default = ⟨t, .nil, []⟩ := by simp [List.getD]
  rw [this, show L.length = L.length + 0 by rfl, List.set_append_right _ _ (by omega)]
  simp [upd, Ins.len]
theorem size_nil {s : ByteArray} (h : s.data.toList = []) : s.toList.isEmpty = true := by rw [ByteArray.toList_eq, h]; rfl
theorem size_ne {s : ByteArray} (h : s.data.toList ≠ []) : s.toList.isEmpty = false := by
  rw [ByteArray.toList_eq]
  cases hl : s.data.toList with
  | nil => exact absurd hl h
  | cons _ _ => rfl

set_option maxRecDepth 20000 in
set_option maxHeartbeats 4000000 in
theorem notes_any (q : Nat → Prop) (L : Bls) (p : Option Addr) (c : Nat) (w : World) (hM : L.size ≤ 900000) (hv : blsS.sl q w (.slice p L.len c) L) (hfit : L.fit) :
    Calls Tryd.prog 22 #[.slice p L.len c] w fun e w' => ∃ v I U B, e = .returned v ∧ Below w.heap.size w w' ∧ NRow (fun b => w.heap.size < b ∧ b < B) B w' v (notes L.marks) I U := by
  have hMk := marksB_any _ q L p c _ (Nat.lt_succ_self _) (by omega) (blsS.sl_on hv (Kept.alloc (.map #[] 0)))
  have hml := L.marks.len_size
  have hms := L.marks_size
  have hfm := Bls.fit_marks L hfit
  obtain ⟨ML, hML⟩ : ∃ ML, ML = L.marks := ⟨_, rfl⟩
  rw [← hML] at hMk hml hms hfm ⊢
  have HMk := Lib.hid hMk
  have hmm := @run_makeMap Tryd.prog
  clear hML hMk hv hfit
  go_enter Tryd.func22, Tryd.ntmps22
  go_wp2_with fail
  refine HMk.out.mono ?_
  rintro e w1 ⟨mp, mc, rfl, hb1, hm⟩
  have hb1z := hb1.size
  rw [World.size_alloc] at hb1z hm
  obtain ⟨hF, -, hnc, hc2⟩ := Shp.rest_start hm
  have hbw : Below w.heap.size w w1 := (below_new0 w _).trans (hb1.mono (by simp))
  have hp1 := (PlcM.made w).below hb1
  obtain ⟨n, hn⟩ : ∃ n, n = ML.len := ⟨_, rfl⟩
  rw [← hn] at hml hnc ⊢
  have HN := Lib.hid hn
  have HP1 := Lib.hid hp1
  have HBW := Lib.hid hbw
  clear hn hm hp1 hbw hmm
  go_wp2_with fail
  go_loopg [3, 5, 6, 7, 8, 9, 14] (n + 1) (fun g s3 s5 s6 s7 s8 s9 s14 wr => ∃ (A R : Ins) (I U : Nat → Value), A.app R = ML ∧ A.len + R.len = n ∧ R.len < g ∧ s14 = .int .i64 A.len ∧ NRow (fun b => w.heap.size < b ∧ b < w1.heap.size) w1.heap.size wr s3 (notesF [] 0 A) I U
    ∧ PlcM wr w.heap.size A.len (fun s => plc (notesF [] 0 A) s (notesF [] 0 A).length) ∧ w1.grownBy wr (some w.heap.size) ∧ insS.rest (fun k => w.heap.size + 1 ≤ k) w1 mp A.len R)
  case atStart => exact ⟨.nil, ML, fun _ => undef, fun _ => undef, rfl, by simp [Ins.len]; exact HN.out.symm, by rw [← HN.out]; omega, rfl, NRow.nil _ _ (fun b h => h.2) _ _ _, HP1.out, World.grownBy.refl _ _, hF⟩
  case round =>
    obtain ⟨A, R, I, U, hAR, hi1, hg, rfl, hrow, hplc, hb, hR⟩ := hrel
    have HAR := Lib.hid hAR
    have HFM := Lib.hid hfm
    generalize hi : A.len = i at *
    have HI := Lib.hid hi
    have hcl : (notesF [] 0 A).length ≤ i := by have := notesF_len A [] 0; rw [hi] at this; simpa using this
    clear hAR hi hfm
    cases R with
    | nil =>
      have g1 : decide (i < n) = false := by simp [Ins.len] at hi1; simp; omega
      have HO := Lib.hid hrow
      clear hi1 hR hrow hplc
      go_wp2_with fail
      go_ret
      have e1 : A = ML := by have := HAR.out; simpa using this
      subst e1
      exact ⟨_, I, U, w1.heap.size, rfl, below_of_grown HBW.out hb (Nat.le_refl _), HO.out⟩
    | cons a t s n' h k r =>
      rcases hR with hR | ⟨b, o, ys, rfl, hqb, hbl, hA, hE⟩
      · cases hR
      · have hkp : Kept (fun k => w.heap.size + 1 ≤ k) (fun k => w.heap.size < k ∧ k < w1.heap.size) w1 wr := fun k hk hl => ⟨⟨by omega, hl⟩, hb.block k hl (fun e => by injection e with e; omega)⟩
        obtain ⟨kp, kc, c0, c1, c2, c3, c4, c5, hkd, hr⟩ := (IEnc.on hkp hE).head (hA.of_heap (hb.block b hbl (fun e => by injection e with e; omega)))
        have g1 : decide (i < n) = true := by simp [Ins.len] at hi1; simp; omega
        have hin : i < n := by simp [Ins.len] at hi1; omega
        have htf : t.size ≤ 9223372036854775807 := by
          have := HFM.out
          rw [← HAR.out, Ins.fit_app] at this
          exact this.2.1
        have hT : insS.rest (fun k => w.heap.size + 1 ≤ k) w1 (some ⟨b, o, none⟩) (i + 1) r := .inr ⟨b, o, ys, rfl, hqb, hbl, hA, hE.tail⟩
        have HT := Lib.hid hT
        have HG := Lib.hid hi1
        have HGG := Lib.hid hg
        have hsb := hb.size
        have hl : (A.app (.cons a t s n' h k .nil)).len = i + 1 := by rw [Ins.len_app, HI.out]; rfl
        have HL := Lib.hid hl
        have HM : Hid (notesF [] 0 (A.app (.cons a t s n' h k .nil)) = nstep (notesF [] 0 A) i t k) := Lib.hid (by rw [notesF_app]; simp only [notesF, HI.out, Nat.zero_add])
        have hnew := below_new0 wr (.cells #[.int .i64 a, .string t, .int .i64 s, .string n', .string h, .slice kp k.len kc] 46)
        obtain ⟨CA, hCA⟩ : ∃ CA, CA = notesF [] 0 A := ⟨_, rfl⟩
        rw [← hCA] at hrow hplc hcl HM
        have KB := Known.made wr 46 #[.int .i64 a, .string t, .int .i64 s, .string n', .string h, .slice kp k.len kc]
        obtain ⟨V, hV⟩ : ∃ V, V = wr.alloc (.cells #[.int .i64 a, .string t, .int .i64 s, .string n', .string h, .slice kp k.len kc] 46) := ⟨_, rfl⟩
        have hVs : V.heap.size = wr.heap.size + 1 := by rw [hV]; simp
        rw [← hV] at hnew KB
        have hrow2 := hrow.below hnew
        have hplc2 := hplc.below hnew
        have hbV := grown_far hb (grown_below hnew) (fun g hg => by cases hg)
        have hkd2 := insS.sl_on hkd (Kept.below hnew)
        have HROW := Lib.hid hrow2
        have HPLC := Lib.hid hplc2
        have HBV := Lib.hid hbV
        have HKD := Lib.hid hkd2
        have HCA := Lib.hid hCA
        have HKB := Lib.hid KB
        have HV := Lib.hid hV
        have hpl := hplc.lt
        have HRL := Lib.hid hrow.row.lt
        clear hT hl hi1 hg hA hE hr hkp hkd hrow hplc hnew hrow2 hplc2 hbV hkd2 hCA hV KB
        obtain ⟨up, uc, rfl⟩ := HROW.out.len
        obtain ⟨nc, hnc2⟩ : ∃ nc, nc = CA.length := ⟨_, rfl⟩
        rw [← hnc2] at HROW HRL hcl ⊢
        have HNC := Lib.hid hnc2
        obtain ⟨y0, y1, y2, y3, y4, y5⟩ := HKB.out.six
        clear hnc2
        have hml2 : n ≤ 900000 := by omega
        have HTO : Hid (total CA ≤ i) := Lib.hid (by rw [HCA.out, notesF_total, HI.out]; simp [total])
        have hcase : (∃ m, t.data.toList ≠ [] ∧ plc CA t.data.toList nc = some m) ∨ (t.data.toList ≠ [] ∧ plc CA t.data.toList nc = none) ∨ t.data.toList = [] := by
          by_cases h0 : t.data.toList = []
          · exact .inr (.inr h0)
          · cases hq : plc CA t.data.toList nc with
            | none => exact .inr (.inl ⟨h0, rfl⟩)
            | some m => exact .inl ⟨m, h0, rfl⟩
        go_upto_region 6 with fail
        rw [← HV.out]
        rcases hcase with ⟨m, hne, hpm⟩ | ⟨hne, hpm⟩ | hem
        · have he := size_ne hne
          have hpt : plcT CA t.data.toList = some m := by unfold plcT; rw [if_neg hne, ← HNC.out]; exact hpm
          have hml3 := plc_lt _ _ _ _ hpm
          have HNE := Lib.hid hne
          have HPM := Lib.hid hpm
          have HPT := Lib.hid hpt
          clear hne hpm hpt
          go_upto_if 32 with (first
            | (at_lookup; go_must (refine plcM_hit V rfl _ _ rfl HPLC.out t (by omega) (r := some m) HNE.out (by rw [← HNC.out]; exact HPM.out) rfl rfl ?_)))
          go_cut [3, 7] from 15 to 70 (fun s3 s7 wc => ∃ (L2 : List Nt) (I2 U2 : Nat → Value) (m2 : Nat), NRow (fun b => w.heap.size < b ∧ b < w1.heap.size) w1.heap.size wc s3 L2 I2 U2 ∧ s7 = .int .i64 m2 ∧ m2 < L2.length ∧ L2.length ≤ i + 1 ∧ PlcM wc w.heap.size (i + 1) (fun s => plc L2 s L2.length) ∧ Known wc wr.heap.size 46 #[.int .i64 a, .string t, .int .i64 s, .string n', .string h, .slice kp k.len kc] ∧ w1.grownBy wc (some w.heap.size) ∧ nstep CA i t k = L2.set m2 (upd (L2.getD m2 default) (i + 1) k) ∧ total L2 ≤ i)
          case first =>
            go_wp2_with fail
            go_meet
            case rel => exact ⟨CA, I, U, m, HROW.out, rfl, by rw [← HNC.out]; exact hml3, by rw [← HNC.out]; omega, HPLC.out.mono (by omega), HKB.out, HBV.out, nstep_some HPT.out, HTO.out⟩
          case rest =>
            obtain ⟨L2, I2, U2, m2, hrow4, rfl, hm2, hl2, hp4, hkb4, hw4, hst, htot⟩ := hcut
            obtain ⟨r4, c4', rfl⟩ := hrow4.form (by omega)
            obtain ⟨q0, q1, q2, q3, q4, q5⟩ := hkb4.six
            obtain ⟨v0, v1, v2, vlt, vB, vf⟩ := hrow4.cells hm2
            obtain ⟨ip, ic, hI⟩ := (hrow4.ins m2 hm2).form
            have huse := hrow4.use m2 hm2
            have hux : ∀ g, (U2 m2).ownBlock = some g → g ≠ wr.heap.size ∧ w1.heap.size ≤ g := fun g hg => by
              obtain ⟨cs, h1⟩ := own_type huse hg
              refine ⟨fun e => ?_, (huse.lt g hg).1⟩
              rw [e] at h1
              have := known_type hkb4 h1
              exact absurd this (by decide)
            have hrx : r4 ≠ wr.heap.size := fun e => by
              obtain ⟨cs, h1⟩ := own_type hrow4.row (g := r4) rfl
              rw [e] at h1
              exact absurd (known_type hkb4 h1) (by decide)
            have hul := uses_le L2 m2 hm2
            have hnt : total L2 ≤ 2000000 := by omega
            have HROW4 := Lib.hid (hrow4.below (below_new0 wc (.cells #[.int .i64 ((i : Int) + 1)] 3)))
            have HUSE := Lib.hid (own_on huse (w' := wc.alloc (.cells #[.int .i64 ((i : Int) + 1)] 3)) (fun g hg => (below_new0 wc _).block g (huse.lt g hg).2))
            have HSU : Hid (Src (wc.alloc (.cells #[.int .i64 ((i : Int) + 1)] 3)) (.slice (some ⟨wc.heap.size, 0, none⟩) 1 1) [i + 1].length (ints [i + 1])) := Lib.hid (Src.new wc 3 #[.int .i64 ((i : Int) + 1)] 1 1)
            have HP4 := Lib.hid (hp4.below (below_new0 wc (.cells #[.int .i64 ((i : Int) + 1)] 3)))
            have HKB4 := Lib.hid (hkb4.alloc (.cells #[.int .i64 ((i : Int) + 1)] 3))
            have HW4 := Lib.hid (grown_far hw4 (grown_below (below_new0 wc (.cells #[.int .i64 ((i : Int) + 1)] 3))) (fun g hg => by cases hg))
            have HST := Lib.hid hst
            have HM2 := Lib.hid hm2
            have HUX := Lib.hid hux
            have hw4z := hw4.size
            have hbz : w1.heap.size ≤ (wc.alloc (.cells #[.int .i64 ((i : Int) + 1)] 3)).heap.size := by simp; omega
            obtain ⟨nl, hnl⟩ : ∃ nl, nl = L2.length := ⟨_, rfl⟩
            rw [← hnl] at hm2 hl2 HROW4 ⊢
            have HNL := Lib.hid hnl
            have HI2 := Lib.hid hI
            obtain ⟨nu, hnu⟩ : ∃ nu, nu = (L2.getD m2 default).uses.length + 1 := ⟨_, rfl⟩
            have hnu2 : nu ≤ 3000000 := by omega
            have HNU := Lib.hid hnu
            clear hnu
            clear hrow4 hp4 hkb4 hw4 hst hnl v0 v1 vf huse hux hI
            obtain ⟨il, hil⟩ : ∃ il, (L2.getD m2 default).ins.len = il := ⟨_, rfl⟩
            have hI3 : insS.len (L2.getD m2 default).ins = il := hil
            have HIL := Lib.hid hI3
            by_cases hz : il = 0
            · have ez : ((il : Int) == 0) = true := by simp; omega
              have HZ : Hid ((L2.getD m2 default).ins.len = 0) := Lib.hid (hil.trans hz)
              clear hz hil hI3
              go_wp2_with (at_builtin; go_must (refine append_use _ rfl _ _ rfl HUSE.out rfl HSU.out rfl nu HNU.out.symm (by omega) hbz ?_); go_must (intro p5 c5 w5 hown5 hg5 hat5; obtain ⟨⟨e1, e2, e3⟩, hn6⟩ := NRow.putUse (by rw [HNL.out] at HROW4; exact HROW4.out) HM2.out (x := .slice p5 nu c5) (us := (L2.getD m2 default).uses ++ [i + 1]) (fun k hk hne => hg5.block k hk (fun e => hne e.symm)) hown5 (fun g hg => by rcases hat5 with h5 | h5; exact .inl (h5 ▸ hg); rw [h5] at hg; injection hg with hg; exact .inr (Nat.le_of_eq hg)); have hf2 := e3 (m2 * 3 + 2); have hf3 := e3 (m2 * 3 + 1); rw [HI2.out, HIL.out] at e1; have hk5 := kn_grown HKB4.out hg5 (fun e => (HUX.out _ e).1 rfl); obtain ⟨t0, t1, t2, t3, t4, t5⟩ := hk5.six; have tl := hk5.lt; have HK5 := Lib.hid hk5; have hz5 := hg5.size; have HN6 := Lib.hid hn6; have HG5 := Lib.hid hg5; have hr5 : r4 < w5.heap.size := Nat.lt_of_lt_of_le (by simp; omega) hg5.size; clear hown5 hat5 e3 hn6 hg5 hk5 t0 t1 t2 t3 t4 q0 q1 q2 q3 q4 q5 v2))
              have HG2 := HG.out
              have HG3 := HGG.out
              simp only [Ins.len] at HG2 HG3
              go_roundg (r.len + 1)
              case measure => omega
              case rel =>
                have hlast : notesF [] 0 (A.app (.cons a t s n' h k .nil)) = L2.set m2 (upd (L2.getD m2 default) (i + 1) k) := by rw [HM.out, HST.out]
                have hw6 : w1.grownBy (w5.setCell ⟨r4, m2 * 3 + 2, none⟩ (.slice p5 nu c5)) (some w.heap.size) := grown_put_far (grown_far HW4.out HG5.out (fun g hg => .inl (HUX.out g hg).2)) vB _
                have hp6 := (HP4.out.grown HG5.out (fun e => by have := (HUX.out _ e.symm).2; omega)).put (a := ⟨r4, m2 * 3 + 2, none⟩) (show w.heap.size ≠ r4 by omega) (.slice p5 nu c5)
                have hkd6 := insS.sl_on HKD.out (kept_mid HBV.out hw6)
                have hn7 := NRow.insAt (nl := nl) (by rw [HNL.out]; exact HN6.out) HNL.out HM2.out hkd6
                rw [upd_new HM2.out HZ.out] at hn7
                refine ⟨A.app (.cons a t s n' h k .nil), r, _, _, by rw [Ins.app_assoc]; exact HAR.out, by rw [HL.out]; omega, by omega, by rw [HL.out]; go_num, by rw [hlast]; exact hn7, ?_, grown_put_far hw6 vB _, by rw [HL.out]; exact HT.out⟩
                rw [hlast, HL.out, plc_upd L2 m2 (i + 1) k HM2.out]
                exact hp6.put (a := ⟨r4, m2 * 3 + 1, none⟩) (show w.heap.size ≠ r4 by omega) _
            · have ez : ((il : Int) == 0) = false := by simp; omega
              have HZ : Hid ((L2.getD m2 default).ins.len ≠ 0) := Lib.hid (fun e => hz (hil.symm.trans e))
              clear hz hil hI3
              go_wp2_with (at_builtin; go_must (refine append_use _ rfl _ _ rfl HUSE.out rfl HSU.out rfl nu HNU.out.symm (by omega) hbz ?_); go_must (intro p5 c5 w5 hown5 hg5 hat5; obtain ⟨⟨e1, e2, e3⟩, hn6⟩ := NRow.putUse (by rw [HNL.out] at HROW4; exact HROW4.out) HM2.out (x := .slice p5 nu c5) (us := (L2.getD m2 default).uses ++ [i + 1]) (fun k hk hne => hg5.block k hk (fun e => hne e.symm)) hown5 (fun g hg => by rcases hat5 with h5 | h5; exact .inl (h5 ▸ hg); rw [h5] at hg; injection hg with hg; exact .inr (Nat.le_of_eq hg)); have hf2 := e3 (m2 * 3 + 2); have hf3 := e3 (m2 * 3 + 1); rw [HI2.out, HIL.out] at e1; have hk5 := kn_grown HKB4.out hg5 (fun e => (HUX.out _ e).1 rfl); obtain ⟨t0, t1, t2, t3, t4, t5⟩ := hk5.six; have tl := hk5.lt; have HK5 := Lib.hid hk5; have hz5 := hg5.size; have HN6 := Lib.hid hn6; have HG5 := Lib.hid hg5; have hr5 : r4 < w5.heap.size := Nat.lt_of_lt_of_le (by simp; omega) hg5.size; clear hown5 hat5 e3 hn6 hg5 hk5 t0 t1 t2 t3 t4 q0 q1 q2 q3 q4 q5 v2))
              have HG2 := HG.out
              have HG3 := HGG.out
              simp only [Ins.len] at HG2 HG3
              go_roundg (r.len + 1)
              case measure => omega
              case rel =>
                have hlast : notesF [] 0 (A.app (.cons a t s n' h k .nil)) = L2.set m2 (upd (L2.getD m2 default) (i + 1) k) := by rw [HM.out, HST.out]
                have hw6 : w1.grownBy (w5.setCell ⟨r4, m2 * 3 + 2, none⟩ (.slice p5 nu c5)) (some w.heap.size) := grown_put_far (grown_far HW4.out HG5.out (fun g hg => .inl (HUX.out g hg).2)) vB _
                have hp6 := (HP4.out.grown HG5.out (fun e => by have := (HUX.out _ e.symm).2; omega)).put (a := ⟨r4, m2 * 3 + 2, none⟩) (show w.heap.size ≠ r4 by omega) (.slice p5 nu c5)
                have hn7 := HN6.out
                rw [upd_keep HZ.out] at hn7
                refine ⟨A.app (.cons a t s n' h k .nil), r, _, _, by rw [Ins.app_assoc]; exact HAR.out, by rw [HL.out]; omega, by omega, by rw [HL.out]; go_num, by rw [hlast, HNL.out]; exact hn7, ?_, hw6, by rw [HL.out]; exact HT.out⟩
                rw [hlast, HL.out, plc_upd L2 m2 (i + 1) k HM2.out]
                exact hp6
        · have he := size_ne hne
          have hpt : plcT CA t.data.toList = none := by unfold plcT; rw [if_neg hne, ← HNC.out]; exact hpm
          have HNE := Lib.hid hne
          have HPM := Lib.hid hpm
          have HPT := Lib.hid hpt
          clear hne hpm hpt
          go_upto_if 32 with (first
            | (at_lookup; go_must (refine plcM_hit V rfl _ _ rfl HPLC.out t (by omega) (r := none) HNE.out (by rw [← HNC.out]; exact HPM.out) rfl rfl ?_)))
          go_cut [3, 7] from 15 to 70 (fun s3 s7 wc => ∃ (L2 : List Nt) (I2 U2 : Nat → Value) (m2 : Nat), NRow (fun b => w.heap.size < b ∧ b < w1.heap.size) w1.heap.size wc s3 L2 I2 U2 ∧ s7 = .int .i64 m2 ∧ m2 < L2.length ∧ L2.length ≤ i + 1 ∧ PlcM wc w.heap.size (i + 1) (fun s => plc L2 s L2.length) ∧ Known wc wr.heap.size 46 #[.int .i64 a, .string t, .int .i64 s, .string n', .string h, .slice kp k.len kc] ∧ w1.grownBy wc (some w.heap.size) ∧ nstep CA i t k = L2.set m2 (upd (L2.getD m2 default) (i + 1) k) ∧ total L2 ≤ i)
          case first =>
            go_wp2_with (first
              | (at_mapUpdate; go_must (refine plcM_set V rfl _ _ _ rfl HPLC.out (by unfold maxLen; omega) t (by omega) nc (by omega) rfl rfl rfl ?_); go_must (intro w2 hp2 hg2; have hz2 := hg2.size; have hkb2 := kn_grown HKB.out hg2 (fun e => by injection e with e; omega); obtain ⟨z0, z1, z2, z3, z4, z5⟩ := hkb2.six; have HKB2 := Lib.hid hkb2; have HP2 := Lib.hid hp2; have HG2x := Lib.hid hg2; have HR2 := Lib.hid ((HROW.out.grown hg2 (by omega) (fun hq => by omega)).below (below_new0 w2 (.cells #[.string t, .slice none 0 0, .slice none 0 0] 42))); have HSR := Lib.hid (Src.new w2 42 #[.string t, .slice none 0 0, .slice none 0 0] 1 1); clear hkb2 hp2 hg2))
              | (at_builtin; go_must (refine append_note _ rfl _ _ rfl HR2.out rfl HSR.out rfl (by rw [← HNC.out]; omega) (by simp; omega) ?_); intro v' w3 hrow3 hgr hbase))
            go_meet
            case rel =>
              have hgr2 := hgr.size
              have hw1 : w1.grownBy w3 (some w.heap.size) := grown_far (grown_far (grown_far HBV.out HG2x.out (fun g hg => .inr (by injection hg with hg; exact hg.symm))) (grown_below (below_new0 _ _)) (fun g hg => by cases hg)) hgr (fun g hg => .inl (hbase g hg))
              have hkb3 := kn_grown (HKB2.out.alloc _) hgr (fun e => by
                have h1 := HRL.out wr.heap.size e
                omega)
              have hlen : (CA ++ [(⟨t, .nil, []⟩ : Nt)]).length = CA.length + 1 := by simp
              refine ⟨_, _, _, nc, hrow3, rfl, by rw [hlen, ← HNC.out]; omega, by rw [hlen, ← HNC.out]; omega, ?_, hkb3, hw1, by rw [HNC.out]; exact nstep_none HPT.out, by rw [total_snoc]; exact HTO.out⟩
              have hp3 := ((HP2.out.below (below_new0 _ _)).grown hgr (fun e => by have := hbase _ e.symm; omega)).mono (show i + 1 ≤ i + 1 from Nat.le_refl _)
              have hf : (fun s => plc (CA ++ [(⟨t, .nil, []⟩ : Nt)]) s (CA ++ [(⟨t, .nil, []⟩ : Nt)]).length) = fun x => if x = t.data.toList then some nc else plc CA x CA.length := funext fun x => by rw [HNC.out]; exact plc_snoc CA t x
              rw [hf]
              exact hp3
          case rest =>
            obtain ⟨L2, I2, U2, m2, hrow4, rfl, hm2, hl2, hp4, hkb4, hw4, hst, htot⟩ := hcut
            obtain ⟨r4, c4', rfl⟩ := hrow4.form (by omega)
            obtain ⟨q0, q1, q2, q3, q4, q5⟩ := hkb4.six
            obtain ⟨v0, v1, v2, vlt, vB, vf⟩ := hrow4.cells hm2
            obtain ⟨ip, ic, hI⟩ := (hrow4.ins m2 hm2).form
            have huse := hrow4.use m2 hm2
            have hux : ∀ g, (U2 m2).ownBlock = some g → g ≠ wr.heap.size ∧ w1.heap.size ≤ g := fun g hg => by
              obtain ⟨cs, h1⟩ := own_type huse hg
              refine ⟨fun e => ?_, (huse.lt g hg).1⟩
              rw [e] at h1
              have := known_type hkb4 h1
              exact absurd this (by decide)
            have hrx : r4 ≠ wr.heap.size := fun e => by
              obtain ⟨cs, h1⟩ := own_type hrow4.row (g := r4) rfl
              rw [e] at h1
              exact absurd (known_type hkb4 h1) (by decide)
            have hul := uses_le L2 m2 hm2
            have hnt : total L2 ≤ 2000000 := by omega
            have HROW4 := Lib.hid (hrow4.below (below_new0 wc (.cells #[.int .i64 ((i : Int) + 1)] 3)))
            have HUSE := Lib.hid (own_on huse (w' := wc.alloc (.cells #[.int .i64 ((i : Int) + 1)] 3)) (fun g hg => (below_new0 wc _).block g (huse.lt g hg).2))
            have HSU : Hid (Src (wc.alloc (.cells #[.int .i64 ((i : Int) + 1)] 3)) (.slice (some ⟨wc.heap.size, 0, none⟩) 1 1) [i + 1].length (ints [i + 1])) := Lib.hid (Src.new wc 3 #[.int .i64 ((i : Int) + 1)] 1 1)
            have HP4 := Lib.hid (hp4.below (below_new0 wc (.cells #[.int .i64 ((i : Int) + 1)] 3)))
            have HKB4 := Lib.hid (hkb4.alloc (.cells #[.int .i64 ((i : Int) + 1)] 3))
            have HW4 := Lib.hid (grown_far hw4 (grown_below (below_new0 wc (.cells #[.int .i64 ((i : Int) + 1)] 3))) (fun g hg => by cases hg))
            have HST := Lib.hid hst
            have HM2 := Lib.hid hm2
            have HUX := Lib.hid hux
            have hw4z := hw4.size
            have hbz : w1.heap.size ≤ (wc.alloc (.cells #[.int .i64 ((i : Int) + 1)] 3)).heap.size := by simp; omega
            obtain ⟨nl, hnl⟩ : ∃ nl, nl = L2.length := ⟨_, rfl⟩
            rw [← hnl] at hm2 hl2 HROW4 ⊢
            have HNL := Lib.hid hnl
            have HI2 := Lib.hid hI
            obtain ⟨nu, hnu⟩ : ∃ nu, nu = (L2.getD m2 default).uses.length + 1 := ⟨_, rfl⟩
            have hnu2 : nu ≤ 3000000 := by omega
            have HNU := Lib.hid hnu
            clear hnu
            clear hrow4 hp4 hkb4 hw4 hst hnl v0 v1 vf huse hux hI
            obtain ⟨il, hil⟩ : ∃ il, (L2.getD m2 default).ins.len = il := ⟨_, rfl⟩
            have hI3 : insS.len (L2.getD m2 default).ins = il := hil
            have HIL := Lib.hid hI3
            by_cases hz : il = 0
            · have ez : ((il : Int) == 0) = true := by simp; omega
              have HZ : Hid ((L2.getD m2 default).ins.len = 0) := Lib.hid (hil.trans hz)
              clear hz hil hI3
              go_wp2_with (at_builtin; go_must (refine append_use _ rfl _ _ rfl HUSE.out rfl HSU.out rfl nu HNU.out.symm (by omega) hbz ?_); go_must (intro p5 c5 w5 hown5 hg5 hat5; obtain ⟨⟨e1, e2, e3⟩, hn6⟩ := NRow.putUse (by rw [HNL.out] at HROW4; exact HROW4.out) HM2.out (x := .slice p5 nu c5) (us := (L2.getD m2 default).uses ++ [i + 1]) (fun k hk hne => hg5.block k hk (fun e => hne e.symm)) hown5 (fun g hg => by rcases hat5 with h5 | h5; exact .inl (h5 ▸ hg); rw [h5] at hg; injection hg with hg; exact .inr (Nat.le_of_eq hg)); have hf2 := e3 (m2 * 3 + 2); have hf3 := e3 (m2 * 3 + 1); rw [HI2.out, HIL.out] at e1; have hk5 := kn_grown HKB4.out hg5 (fun e => (HUX.out _ e).1 rfl); obtain ⟨t0, t1, t2, t3, t4, t5⟩ := hk5.six; have tl := hk5.lt; have HK5 := Lib.hid hk5; have hz5 := hg5.size; have HN6 := Lib.hid hn6; have HG5 := Lib.hid hg5; have hr5 : r4 < w5.heap.size := Nat.lt_of_lt_of_le (by simp; omega) hg5.size; clear hown5 hat5 e3 hn6 hg5 hk5 t0 t1 t2 t3 t4 q0 q1 q2 q3 q4 q5 v2))
              have HG2 := HG.out
              have HG3 := HGG.out
              simp only [Ins.len] at HG2 HG3
              go_roundg (r.len + 1)
              case measure => omega
              case rel =>
                have hlast : notesF [] 0 (A.app (.cons a t s n' h k .nil)) = L2.set m2 (upd (L2.getD m2 default) (i + 1) k) := by rw [HM.out, HST.out]
                have hw6 : w1.grownBy (w5.setCell ⟨r4, m2 * 3 + 2, none⟩ (.slice p5 nu c5)) (some w.heap.size) := grown_put_far (grown_far HW4.out HG5.out (fun g hg => .inl (HUX.out g hg).2)) vB _
                have hp6 := (HP4.out.grown HG5.out (fun e => by have := (HUX.out _ e.symm).2; omega)).put (a := ⟨r4, m2 * 3 + 2, none⟩) (show w.heap.size ≠ r4 by omega) (.slice p5 nu c5)
                have hkd6 := insS.sl_on HKD.out (kept_mid HBV.out hw6)
                have hn7 := NRow.insAt (nl := nl) (by rw [HNL.out]; exact HN6.out) HNL.out HM2.out hkd6
                rw [upd_new HM2.out HZ.out] at hn7
                refine ⟨A.app (.cons a t s n' h k .nil), r, _, _, by rw [Ins.app_assoc]; exact HAR.out, by rw [HL.out]; omega, by omega, by rw [HL.out]; go_num, by rw [hlast]; exact hn7, ?_, grown_put_far hw6 vB _, by rw [HL.out]; exact HT.out⟩
                rw [hlast, HL.out, plc_upd L2 m2 (i + 1) k HM2.out]
                exact hp6.put (a := ⟨r4, m2 * 3 + 1, none⟩) (show w.heap.size ≠ r4 by omega) _
            · have ez : ((il : Int) == 0) = false := by simp; omega
              have HZ : Hid ((L2.getD m2 default).ins.len ≠ 0) := Lib.hid (fun e => hz (hil.symm.trans e))
              clear hz hil hI3
              go_wp2_with (at_builtin; go_must (refine append_use _ rfl _ _ rfl HUSE.out rfl HSU.out rfl nu HNU.out.symm (by omega) hbz ?_); go_must (intro p5 c5 w5 hown5 hg5 hat5; obtain ⟨⟨e1, e2, e3⟩, hn6⟩ := NRow.putUse (by rw [HNL.out] at HROW4; exact HROW4.out) HM2.out (x := .slice p5 nu c5) (us := (L2.getD m2 default).uses ++ [i + 1]) (fun k hk hne => hg5.block k hk (fun e => hne e.symm)) hown5 (fun g hg => by rcases hat5 with h5 | h5; exact .inl (h5 ▸ hg); rw [h5] at hg; injection hg with hg; exact .inr (Nat.le_of_eq hg)); have hf2 := e3 (m2 * 3 + 2); have hf3 := e3 (m2 * 3 + 1); rw [HI2.out, HIL.out] at e1; have hk5 := kn_grown HKB4.out hg5 (fun e => (HUX.out _ e).1 rfl); obtain ⟨t0, t1, t2, t3, t4, t5⟩ := hk5.six; have tl := hk5.lt; have HK5 := Lib.hid hk5; have hz5 := hg5.size; have HN6 := Lib.hid hn6; have HG5 := Lib.hid hg5; have hr5 : r4 < w5.heap.size := Nat.lt_of_lt_of_le (by simp; omega) hg5.size; clear hown5 hat5 e3 hn6 hg5 hk5 t0 t1 t2 t3 t4 q0 q1 q2 q3 q4 q5 v2))
              have HG2 := HG.out
              have HG3 := HGG.out
              simp only [Ins.len] at HG2 HG3
              go_roundg (r.len + 1)
              case measure => omega
              case rel =>
                have hlast : notesF [] 0 (A.app (.cons a t s n' h k .nil)) = L2.set m2 (upd (L2.getD m2 default) (i + 1) k) := by rw [HM.out, HST.out]
                have hw6 : w1.grownBy (w5.setCell ⟨r4, m2 * 3 + 2, none⟩ (.slice p5 nu c5)) (some w.heap.size) := grown_put_far (grown_far HW4.out HG5.out (fun g hg => .inl (HUX.out g hg).2)) vB _
                have hp6 := (HP4.out.grown HG5.out (fun e => by have := (HUX.out _ e.symm).2; omega)).put (a := ⟨r4, m2 * 3 + 2, none⟩) (show w.heap.size ≠ r4 by omega) (.slice p5 nu c5)
                have hn7 := HN6.out
                rw [upd_keep HZ.out] at hn7
                refine ⟨A.app (.cons a t s n' h k .nil), r, _, _, by rw [Ins.app_assoc]; exact HAR.out, by rw [HL.out]; omega, by omega, by rw [HL.out]; go_num, by rw [hlast, HNL.out]; exact hn7, ?_, hw6, by rw [HL.out]; exact HT.out⟩
                rw [hlast, HL.out, plc_upd L2 m2 (i + 1) k HM2.out]
                exact hp6
        · have he := size_nil hem
          have hpt : plcT CA t.data.toList = none := by unfold plcT; rw [if_pos hem]
          have HPT := Lib.hid hpt
          have HEM := Lib.hid hem
          clear hem hpt
          go_upto_if 32 with (first
            | (at_lookup; go_must (refine plcM_look V rfl _ _ rfl HPLC.out t (by omega) rfl rfl ?_); intro c9 k9 hck; clear hck))
          go_cut [3, 7] from 15 to 70 (fun s3 s7 wc => ∃ (L2 : List Nt) (I2 U2 : Nat → Value) (m2 : Nat), NRow (fun b => w.heap.size < b ∧ b < w1.heap.size) w1.heap.size wc s3 L2 I2 U2 ∧ s7 = .int .i64 m2 ∧ m2 < L2.length ∧ L2.length ≤ i + 1 ∧ PlcM wc w.heap.size (i + 1) (fun s => plc L2 s L2.length) ∧ Known wc wr.heap.size 46 #[.int .i64 a, .string t, .int .i64 s, .string n', .string h, .slice kp k.len kc] ∧ w1.grownBy wc (some w.heap.size) ∧ nstep CA i t k = L2.set m2 (upd (L2.getD m2 default) (i + 1) k) ∧ total L2 ≤ i)
          case first =>
            go_wp2_with (first
              | (at_mapUpdate; go_must (refine plcM_set V rfl _ _ _ rfl HPLC.out (by unfold maxLen; omega) t (by omega) nc (by omega) rfl rfl rfl ?_); go_must (intro w2 hp2 hg2; have hz2 := hg2.size; have hkb2 := kn_grown HKB.out hg2 (fun e => by injection e with e; omega); obtain ⟨z0, z1, z2, z3, z4, z5⟩ := hkb2.six; have HKB2 := Lib.hid hkb2; have HP2 := Lib.hid hp2; have HG2x := Lib.hid hg2; have HR2 := Lib.hid ((HROW.out.grown hg2 (by omega) (fun hq => by omega)).below (below_new0 w2 (.cells #[.string t, .slice none 0 0, .slice none 0 0] 42))); have HSR := Lib.hid (Src.new w2 42 #[.string t, .slice none 0 0, .slice none 0 0] 1 1); clear hkb2 hp2 hg2))
              | (at_builtin; go_must (refine append_note _ rfl _ _ rfl HR2.out rfl HSR.out rfl (by rw [← HNC.out]; omega) (by simp; omega) ?_); intro v' w3 hrow3 hgr hbase))
            go_meet
            case rel =>
              have hgr2 := hgr.size
              have hw1 : w1.grownBy w3 (some w.heap.size) := grown_far (grown_far (grown_far HBV.out HG2x.out (fun g hg => .inr (by injection hg with hg; exact hg.symm))) (grown_below (below_new0 _ _)) (fun g hg => by cases hg)) hgr (fun g hg => .inl (hbase g hg))
              have hkb3 := kn_grown (HKB2.out.alloc _) hgr (fun e => by
                have h1 := HRL.out wr.heap.size e
                omega)
              have hlen : (CA ++ [(⟨t, .nil, []⟩ : Nt)]).length = CA.length + 1 := by simp
              refine ⟨_, _, _, nc, hrow3, rfl, by rw [hlen, ← HNC.out]; omega, by rw [hlen, ← HNC.out]; omega, ?_, hkb3, hw1, by rw [HNC.out]; exact nstep_none HPT.out, by rw [total_snoc]; exact HTO.out⟩
              have hp3 := ((HP2.out.below (below_new0 _ _)).grown hgr (fun e => by have := hbase _ e.symm; omega)).mono (show i + 1 ≤ i + 1 from Nat.le_refl _)
              have hf : (fun s => plc (CA ++ [(⟨t, .nil, []⟩ : Nt)]) s (CA ++ [(⟨t, .nil, []⟩ : Nt)]).length) = fun x => if x = t.data.toList then some nc else plc CA x CA.length := funext fun x => by rw [HNC.out]; exact plc_snoc CA t x
              rw [hf]
              exact hp3
          case rest =>
            obtain ⟨L2, I2, U2, m2, hrow4, rfl, hm2, hl2, hp4, hkb4, hw4, hst, htot⟩ := hcut
            obtain ⟨r4, c4', rfl⟩ := hrow4.form (by omega)
            obtain ⟨q0, q1, q2, q3, q4, q5⟩ := hkb4.six
            obtain ⟨v0, v1, v2, vlt, vB, vf⟩ := hrow4.cells hm2
            obtain ⟨ip, ic, hI⟩ := (hrow4.ins m2 hm2).form
            have huse := hrow4.use m2 hm2
            have hux : ∀ g, (U2 m2).ownBlock = some g → g ≠ wr.heap.size ∧ w1.heap.size ≤ g := fun g hg => by
              obtain ⟨cs, h1⟩ := own_type huse hg
              refine ⟨fun e => ?_, (huse.lt g hg).1⟩
              rw [e] at h1
              have := known_type hkb4 h1
              exact absurd this (by decide)
            have hrx : r4 ≠ wr.heap.size := fun e => by
              obtain ⟨cs, h1⟩ := own_type hrow4.row (g := r4) rfl
              rw [e] at h1
              exact absurd (known_type hkb4 h1) (by decide)
            have hul := uses_le L2 m2 hm2
            have hnt : total L2 ≤ 2000000 := by omega
            have HROW4 := Lib.hid (hrow4.below (below_new0 wc (.cells #[.int .i64 ((i : Int) + 1)] 3)))
            have HUSE := Lib.hid (own_on huse (w' := wc.alloc (.cells #[.int .i64 ((i : Int) + 1)] 3)) (fun g hg => (below_new0 wc _).block g (huse.lt g hg).2))
            have HSU : Hid (Src (wc.alloc (.cells #[.int .i64 ((i : Int) + 1)] 3)) (.slice (some ⟨wc.heap.size, 0, none⟩) 1 1) [i + 1].length (ints [i + 1])) := Lib.hid (Src.new wc 3 #[.int .i64 ((i : Int) + 1)] 1 1)
            have HP4 := Lib.hid (hp4.below (below_new0 wc (.cells #[.int .i64 ((i : Int) + 1)] 3)))
            have HKB4 := Lib.hid (hkb4.alloc (.cells #[.int .i64 ((i : Int) + 1)] 3))
            have HW4 := Lib.hid (grown_far hw4 (grown_below (below_new0 wc (.cells #[.int .i64 ((i : Int) + 1)] 3))) (fun g hg => by cases hg))
            have HST := Lib.hid hst
            have HM2 := Lib.hid hm2
            have HUX := Lib.hid hux
            have hw4z := hw4.size
            have hbz : w1.heap.size ≤ (wc.alloc (.cells #[.int .i64 ((i : Int) + 1)] 3)).heap.size := by simp; omega
            obtain ⟨nl, hnl⟩ : ∃ nl, nl = L2.length := ⟨_, rfl⟩
            rw [← hnl] at hm2 hl2 HROW4 ⊢
            have HNL := Lib.hid hnl
            have HI2 := Lib.hid hI
            obtain ⟨nu, hnu⟩ : ∃ nu, nu = (L2.getD m2 default).uses.length + 1 := ⟨_, rfl⟩
            have hnu2 : nu ≤ 3000000 := by omega
            have HNU := Lib.hid hnu
            clear hnu
            clear hrow4 hp4 hkb4 hw4 hst hnl v0 v1 vf huse hux hI
            obtain ⟨il, hil⟩ : ∃ il, (L2.getD m2 default).ins.len = il := ⟨_, rfl⟩
            have hI3 : insS.len (L2.getD m2 default).ins = il := hil
            have HIL := Lib.hid hI3
            by_cases hz : il = 0
            · have ez : ((il : Int) == 0) = true := by simp; omega
              have HZ : Hid ((L2.getD m2 default).ins.len = 0) := Lib.hid (hil.trans hz)
              clear hz hil hI3
              go_wp2_with (at_builtin; go_must (refine append_use _ rfl _ _ rfl HUSE.out rfl HSU.out rfl nu HNU.out.symm (by omega) hbz ?_); go_must (intro p5 c5 w5 hown5 hg5 hat5; obtain ⟨⟨e1, e2, e3⟩, hn6⟩ := NRow.putUse (by rw [HNL.out] at HROW4; exact HROW4.out) HM2.out (x := .slice p5 nu c5) (us := (L2.getD m2 default).uses ++ [i + 1]) (fun k hk hne => hg5.block k hk (fun e => hne e.symm)) hown5 (fun g hg => by rcases hat5 with h5 | h5; exact .inl (h5 ▸ hg); rw [h5] at hg; injection hg with hg; exact .inr (Nat.le_of_eq hg)); have hf2 := e3 (m2 * 3 + 2); have hf3 := e3 (m2 * 3 + 1); rw [HI2.out, HIL.out] at e1; have hk5 := kn_grown HKB4.out hg5 (fun e => (HUX.out _ e).1 rfl); obtain ⟨t0, t1, t2, t3, t4, t5⟩ := hk5.six; have tl := hk5.lt; have HK5 := Lib.hid hk5; have hz5 := hg5.size; have HN6 := Lib.hid hn6; have HG5 := Lib.hid hg5; have hr5 : r4 < w5.heap.size := Nat.lt_of_lt_of_le (by simp; omega) hg5.size; clear hown5 hat5 e3 hn6 hg5 hk5 t0 t1 t2 t3 t4 q0 q1 q2 q3 q4 q5 v2))
              have HG2 := HG.out
              have HG3 := HGG.out
              simp only [Ins.len] at HG2 HG3
              go_roundg (r.len + 1)
              case measure => omega
              case rel =>
                have hlast : notesF [] 0 (A.app (.cons a t s n' h k .nil)) = L2.set m2 (upd (L2.getD m2 default) (i + 1) k) := by rw [HM.out, HST.out]
                have hw6 : w1.grownBy (w5.setCell ⟨r4, m2 * 3 + 2, none⟩ (.slice p5 nu c5)) (some w.heap.size) := grown_put_far (grown_far HW4.out HG5.out (fun g hg => .inl (HUX.out g hg).2)) vB _
                have hp6 := (HP4.out.grown HG5.out (fun e => by have := (HUX.out _ e.symm).2; omega)).put (a := ⟨r4, m2 * 3 + 2, none⟩) (show w.heap.size ≠ r4 by omega) (.slice p5 nu c5)
                have hkd6 := insS.sl_on HKD.out (kept_mid HBV.out hw6)
                have hn7 := NRow.insAt (nl := nl) (by rw [HNL.out]; exact HN6.out) HNL.out HM2.out hkd6
                rw [upd_new HM2.out HZ.out] at hn7
                refine ⟨A.app (.cons a t s n' h k .nil), r, _, _, by rw [Ins.app_assoc]; exact HAR.out, by rw [HL.out]; omega, by omega, by rw [HL.out]; go_num, by rw [hlast]; exact hn7, ?_, grown_put_far hw6 vB _, by rw [HL.out]; exact HT.out⟩
                rw [hlast, HL.out, plc_upd L2 m2 (i + 1) k HM2.out]
                exact hp6.put (a := ⟨r4, m2 * 3 + 1, none⟩) (show w.heap.size ≠ r4 by omega) _
            · have ez : ((il : Int) == 0) = false := by simp; omega
              have HZ : Hid ((L2.getD m2 default).ins.len ≠ 0) := Lib.hid (fun e => hz (hil.symm.trans e))
              clear hz hil hI3
              go_wp2_with (at_builtin; go_must (refine append_use _ rfl _ _ rfl HUSE.out rfl HSU.out rfl nu HNU.out.symm (by omega) hbz ?_); go_must (intro p5 c5 w5 hown5 hg5 hat5; obtain ⟨⟨e1, e2, e3⟩, hn6⟩ := NRow.putUse (by rw [HNL.out] at HROW4; exact HROW4.out) HM2.out (x := .slice p5 nu c5) (us := (L2.getD m2 default).uses ++ [i + 1]) (fun k hk hne => hg5.block k hk (fun e => hne e.symm)) hown5 (fun g hg => by rcases hat5 with h5 | h5; exact .inl (h5 ▸ hg); rw [h5] at hg; injection hg with hg; exact .inr (Nat.le_of_eq hg)); have hf2 := e3 (m2 * 3 + 2); have hf3 := e3 (m2 * 3 + 1); rw [HI2.out, HIL.out] at e1; have hk5 := kn_grown HKB4.out hg5 (fun e => (HUX.out _ e).1 rfl); obtain ⟨t0, t1, t2, t3, t4, t5⟩ := hk5.six; have tl := hk5.lt; have HK5 := Lib.hid hk5; have hz5 := hg5.size; have HN6 := Lib.hid hn6; have HG5 := Lib.hid hg5; have hr5 : r4 < w5.heap.size := Nat.lt_of_lt_of_le (by simp; omega) hg5.size; clear hown5 hat5 e3 hn6 hg5 hk5 t0 t1 t2 t3 t4 q0 q1 q2 q3 q4 q5 v2))
              have HG2 := HG.out
              have HG3 := HGG.out
              simp only [Ins.len] at HG2 HG3
              go_roundg (r.len + 1)
              case measure => omega
              case rel =>
                have hlast : notesF [] 0 (A.app (.cons a t s n' h k .nil)) = L2.set m2 (upd (L2.getD m2 default) (i + 1) k) := by rw [HM.out, HST.out]
                have hw6 : w1.grownBy (w5.setCell ⟨r4, m2 * 3 + 2, none⟩ (.slice p5 nu c5)) (some w.heap.size) := grown_put_far (grown_far HW4.out HG5.out (fun g hg => .inl (HUX.out g hg).2)) vB _
                have hp6 := (HP4.out.grown HG5.out (fun e => by have := (HUX.out _ e.symm).2; omega)).put (a := ⟨r4, m2 * 3 + 2, none⟩) (show w.heap.size ≠ r4 by omega) (.slice p5 nu c5)
                have hn7 := HN6.out
                rw [upd_keep HZ.out] at hn7
                refine ⟨A.app (.cons a t s n' h k .nil), r, _, _, by rw [Ins.app_assoc]; exact HAR.out, by rw [HL.out]; omega, by omega, by rw [HL.out]; go_num, by rw [hlast, HNL.out]; exact hn7, ?_, hw6, by rw [HL.out]; exact HT.out⟩
                rw [hlast, HL.out, plc_upd L2 m2 (i + 1) k HM2.out]
                exact hp6
end Go.Proofs.YtibmemaciahofaaDoor
