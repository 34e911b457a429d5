/-
  What the entries of a table of contents say: their numbers and anchors differ, a number stands behind its parent's. No conditions but those typed.
-/
import Derived.Test.YtibmemaciahofaaDoorCont
namespace Go.Proofs.YtibmemaciahofaaDoor.Cont
open Doc

theorem dec_nodot (n : Nat) : (46 : UInt8) ∉ Lib.decDigits n := by
  induction n using Nat.strongRecOn with
  | _ n ih =>
    rw [decDigits_step]
    have hb : ∀ d, d < 10 → (46 : UInt8) ≠ UInt8.ofNat (48 + d) := fun d hd e => by
      have := congrArg UInt8.toNat e
      rw [UInt8.toNat_ofNat'] at this
      have h46 : (46 : UInt8).toNat = 46 := rfl
      omega
    split
    · rename_i h
      simp only [List.mem_cons, List.not_mem_nil, or_false]
      exact hb n h
    · rename_i h
      rw [List.mem_append]
      rintro (h1 | h1)
      · exact ih (n / 10) (by omega) h1
      · simp only [List.mem_cons, List.not_mem_nil, or_false] at h1
        exact hb (n % 10) (by omega) h1
/-- the last dot parts a text -/
theorem dot_split {X X' D D' : List UInt8} (h : (46 : UInt8) ∉ D) (h' : (46 : UInt8) ∉ D') (e : X ++ [46] ++ D = X' ++ [46] ++ D') : X = X' ∧ D = D' := by
  have key : ∀ (X D : List UInt8), (46 : UInt8) ∉ D → ((X ++ [46] ++ D).reverse.takeWhile (· != 46)) = D.reverse := by
    intro X D hD
    rw [List.reverse_append, List.reverse_append, List.reverse_cons, List.reverse_nil, List.nil_append]
    rw [List.takeWhile_append_of_pos (fun x hx => by simp only [bne_iff_ne, ne_eq]; intro e; subst e; exact hD (List.mem_reverse.1 hx))]
    simp
  have h1 := key X D h
  rw [e, key X' D' h'] at h1
  have h2 : D = D' := (List.reverse_inj.1 h1).symm
  subst h2
  exact ⟨List.append_cancel_right (List.append_cancel_right e), rfl⟩
/-- the parent of entry i -/
def up (L : List Ent) (i : Nat) : Int := par L (L.getD i default).lv i
/-- the text of number i -/
def nm (L : List Ent) (i : Nat) : List UInt8 := (L.getD i default).num.data.toList
/-- what entry i says -/
structure Told (L : List Ent) (i : Nat) : Prop where
  num : nm L i = (if up L i < 0 then [] else nm L (up L i).toNat ++ [46]) ++ Lib.decDigits (cnt L (up L i) i + 1)
  anc : ∀ k, k < i → (L.getD k default).anc.data.toList ≠ (L.getD i default).anc.data.toList
theorem getD_old (L : List Ent) (x : Ent) {i : Nat} (h : i < L.length) : (L ++ [x]).getD i default = L.getD i default := by simp [List.getD, List.getElem?_append_left h]
theorem up_old (L : List Ent) (x : Ent) {i : Nat} (h : i < L.length) : up (L ++ [x]) i = up L i := by
  unfold up
  rw [getD_old L x h, par_app L [x] _ i (by omega)]
theorem nm_old (L : List Ent) (x : Ent) {i : Nat} (h : i < L.length) : nm (L ++ [x]) i = nm L i := by unfold nm; rw [getD_old L x h]
theorem Told.more {L : List Ent} {i : Nat} (h : Told L i) (x : Ent) (hi : i < L.length) : Told (L ++ [x]) i := by
  have hb := par_bd L (L.getD i default).lv i
  have hu : up L i = par L (L.getD i default).lv i := rfl
  refine ⟨?_, fun k hk => ?_⟩
  · rw [nm_old L x hi, up_old L x hi, cnt_app L [x] _ i (by omega), h.num]
    split
    · rfl
    · rw [nm_old L x (by omega)]
  · rw [getD_old L x hi, getD_old L x (by omega)]
    exact h.anc k hk
theorem Told.last (L : List Ent) (lv : Int) (t : List UInt8) : Told (L ++ [ent L lv t]) L.length := by
  have hb := par_bd L lv L.length
  have hu : up (L ++ [ent L lv t]) L.length = par L lv L.length := by
    unfold up
    rw [getD_snoc, par_app L [_] _ _ (Nat.le_refl _)]
    rfl
  refine ⟨?_, fun k hk => ?_⟩
  · rw [hu, cnt_app L [_] _ _ (Nat.le_refl _)]
    have h1 : nm (L ++ [ent L lv t]) L.length = numB L lv := by unfold nm; rw [getD_snoc]; simp [ent]
    rw [h1]
    unfold numB
    split
    · rfl
    · rw [nm_old L _ (by omega)]; rfl
  · rw [getD_old L _ hk, getD_snoc]
    obtain ⟨m, _, _, h3, h4⟩ := anc_some L (Anc.anchor t)
    have h5 : (ent L lv t).anc.data.toList = cand (Anc.anchor t) m := by simp [ent, h3]
    rw [h5]
    intro e
    have : taken L (cand (Anc.anchor t) m) = true := by
      unfold taken
      refine List.any_eq_true.2 ⟨L.getD k default, ?_, by simpa using e⟩
      simp only [List.getD, List.getElem?_eq_getElem hk, Option.getD_some]
      exact List.getElem_mem hk
    rw [h4] at this
    cases this
theorem told_contF (b : Bls) : ∀ L, (∀ i, i < L.length → Told L i) → ∀ i, i < (contF L b).length → Told (contF L b) i := by
  induction b with
  | nil => intro L h; exact h
  | cons a l t m k r _ ihr =>
    intro L h
    simp only [contF]
    refine ihr _ ?_
    split
    · intro i hi
      rw [List.length_append, List.length_singleton] at hi
      by_cases e : i < L.length
      · exact (h i e).more _ e
      · rw [show i = L.length by omega]; exact Told.last L l m.plain
    · exact h
theorem told_cont (b : Bls) : ∀ i, i < (cont b).length → Told (cont b) i := told_contF b [] (fun i h => by simp at h)
theorem cnt_mono (L : List Ent) (p : Int) : ∀ {i k : Nat}, i ≤ k → cnt L p i ≤ cnt L p k := by
  intro i k h
  induction k with
  | zero => rw [show i = 0 by omega]; exact Nat.le_refl _
  | succ k ih =>
    by_cases e : i = k + 1
    · rw [e]; exact Nat.le_refl _
    · refine Nat.le_trans (ih (by omega)) ?_
      rw [cnt]; omega
theorem cnt_lt (L : List Ent) {i k : Nat} (h : k < i) : cnt L (up L k) k < cnt L (up L k) i := by
  refine Nat.lt_of_lt_of_le ?_ (cnt_mono L _ (show k + 1 ≤ i from h))
  have e : par L (L.getD k default).lv k = up L k := rfl
  rw [cnt, e, if_pos rfl]
  omega
/-- numbers differ -/
theorem num_ne (L : List Ent) (h : ∀ i, i < L.length → Told L i) : ∀ i k, k < i → i < L.length → nm L k ≠ nm L i := by
  intro i
  induction i using Nat.strongRecOn with
  | _ i ih =>
    intro k hk hi e
    have h1 := (h i hi).num
    have h2 := (h k (by omega)).num
    have b1 : up L i < i ∧ -1 ≤ up L i := ⟨(par_bd L _ i).2, (par_bd L _ i).1⟩
    have b2 : up L k < k ∧ -1 ≤ up L k := ⟨(par_bd L _ k).2, (par_bd L _ k).1⟩
    rw [h1, h2] at e
    have hlt := cnt_lt L hk
    have same : up L k = up L i → cnt L (up L k) k + 1 = cnt L (up L i) i + 1 → False := fun ep ec => by
      rw [← ep] at ec
      omega
    by_cases p1 : up L i < 0
    · by_cases p2 : up L k < 0
      · rw [if_pos p1, if_pos p2] at e
        exact same (by omega) (dec_inj (by simpa using e))
      · rw [if_pos p1, if_neg p2] at e
        have : (46 : UInt8) ∈ ([] : List UInt8) ++ Lib.decDigits (cnt L (up L i) i + 1) := by rw [← e]; simp
        exact dec_nodot _ (by simpa using this)
    · by_cases p2 : up L k < 0
      · rw [if_neg p1, if_pos p2] at e
        have : (46 : UInt8) ∈ ([] : List UInt8) ++ Lib.decDigits (cnt L (up L k) k + 1) := by rw [e]; simp
        exact dec_nodot _ (by simpa using this)
      · rw [if_neg p1, if_neg p2] at e
        obtain ⟨e1, e2⟩ := dot_split (dec_nodot _) (dec_nodot _) e
        by_cases ep : up L k = up L i
        · exact same ep (dec_inj e2)
        · by_cases hl : up L k < up L i
          · exact ih (up L i).toNat (by omega) (up L k).toNat (by omega) (by omega) e1
          · exact ih (up L k).toNat (by omega) (up L i).toNat (by omega) (by omega) e1.symm
/-- how many dots a number has -/
def dots (L : List Ent) (i : Nat) : Nat := (nm L i).count 46
theorem dots_zero {L : List Ent} {i : Nat} (h : Told L i) (hu : up L i < 0) : dots L i = 0 := by
  unfold dots
  rw [h.num, if_pos hu]
  exact List.count_eq_zero_of_not_mem (by simpa using dec_nodot _)
theorem dots_up {L : List Ent} {i : Nat} (h : Told L i) (hu : ¬ up L i < 0) : dots L i = 1 + dots L (up L i).toNat := by
  unfold dots
  rw [h.num, if_neg hu, List.count_append, List.count_append, List.count_eq_zero_of_not_mem (dec_nodot _)]
  simp
  omega
theorem dots_le (L : List Ent) (h : ∀ i, i < L.length → Told L i) : ∀ i, i < L.length → dots L i ≤ i := by
  intro i
  induction i using Nat.strongRecOn with
  | _ i ih =>
    intro hi
    by_cases hu : up L i < 0
    · rw [dots_zero (h i hi) hu]; exact Nat.zero_le _
    · have b1 : up L i < i := (par_bd L _ i).2
      have := ih (up L i).toNat (by omega) (by omega)
      rw [dots_up (h i hi) hu]
      omega
/-- a number begins with its parent's -/
theorem pre_up {L : List Ent} {i : Nat} (h : Told L i) (hu : ¬ up L i < 0) : (nm L (up L i).toNat ++ [46]).isPrefixOf (nm L i) = true := by
  rw [h.num, if_neg hu, List.isPrefixOf_iff_prefix]
  exact List.prefix_append _ _
/-- headings alone -/
def heads : Bls → Prop
  | .nil => True
  | .cons a _ _ _ _ r => a = 1 ∧ heads r
theorem heads_app : ∀ {a b : Bls}, heads (a.app b) ↔ heads a ∧ heads b
  | .nil, b => by simp [heads, Bls.app]
  | .cons a l t i k r, b => by
    have := heads_app (a := r) (b := b)
    simp only [Bls.app, heads, this, and_assoc]
theorem contF_heads (b : Bls) : ∀ L, heads b → (contF L b).length = L.length + b.len := by
  induction b with
  | nil => intro L _; rfl
  | cons a l t i k r _ ihr =>
    intro L h
    simp only [contF, Bls.len]
    rw [ihr _ h.2, if_pos h.1]
    simp
    omega
theorem nm_len (L : List Ent) (h : ∀ i, i < L.length → Told L i) (hL : L.length ≤ 90) : ∀ i, i < L.length → (nm L i).length ≤ 3 * (i + 1) := by
  intro i
  induction i using Nat.strongRecOn with
  | _ i ih =>
    intro hi
    have h1 := (h i hi).num
    have hc := cnt_le L (up L i) i
    have hd := dec_len 1 (cnt L (up L i) i + 1) (by omega)
    rw [h1]
    by_cases hu : up L i < 0
    · rw [if_pos hu]
      simp only [List.nil_append]
      omega
    · have b1 : up L i < i := (par_bd L _ i).2
      have := ih (up L i).toNat (by omega) (by omega)
      rw [if_neg hu]
      simp only [List.length_append, List.length_cons, List.length_nil]
      omega
end Go.Proofs.YtibmemaciahofaaDoor.Cont
