/-
  The claim's own texts, packed. Conditions: those typed in each theorem.
-/
import Derived.Test.YthieinfonomeeaaGreatDoorZAal
import Derived.Test.YthieinfonomeeaaGreatDoorZAas
import Derived.BigQuiet
import Derived.Test.YthieinfonomeeaaGreatDoorZAai
namespace Go.Proofs.YthieinfonomeeaaGreatDoor
open Go.RowKit Doc Tit Inl
set_option linter.unusedVariables false
attribute [local go_sem ↓] Go.wp_at_zero Go.wp_at_succ
theorem list_set_right' {α : Type} (A B : List α) (j : Nat) (u : α) : (A ++ B).set (A.length + j) u = A ++ B.set j u := by
 rw [List.set_append_right _ _ (by omega), show A.length + j - A.length = j by omega]
def PRD (B g : Nat) (w : World) (L : Ops) (p : List UInt8) (D : Nat → Prop) : Prop := ∃ T ov tv, PRT B g w T ov tv p D ∧ ops T = L
theorem PRD.below {B g : Nat} {w W : World} {L : Ops} {p : List UInt8} {D : Nat → Prop} (h : PRD B g w L p D) (hb : Below w.heap.size w W) : PRD B g W L p (fun k => D k ∧ k < w.heap.size) := by
 obtain ⟨T, ov, tv, h1, h2⟩ := h
 exact ⟨T, ov, tv, h1.below hb, h2⟩
theorem PRD.lt {B g : Nat} {w : World} {L : Ops} {p : List UInt8} {D : Nat → Prop} (h : PRD B g w L p D) : g < w.heap.size := by
 obtain ⟨T, ov, tv, h1, h2⟩ := h
 exact h1.lt
theorem PRD.le {B g : Nat} {w : World} {L : Ops} {p : List UInt8} {D : Nat → Prop} (h : PRD B g w L p D) : B ≤ g := by
 obtain ⟨T, ov, tv, h1, h2⟩ := h
 exact h1.le
theorem ops_split : ∀ {T : Rows} {L : Ops} {k : Int} {l : Ins}, ops T = L ++ [(k, l)] → ∃ A kv, T = A ++ [(k, l, kv)] ∧ ops A = L := by
 intro T L k l h
 have hne : T ≠ [] := fun e => by rw [e] at h; simp [ops] at h
 have e1 := List.dropLast_concat_getLast hne
 obtain ⟨x, hx⟩ : ∃ x, x = T.getLast hne := ⟨_, rfl⟩
 rw [← hx] at e1
 obtain ⟨k', l', kv⟩ := x
 rw [← e1] at h ⊢
 rw [ops_app] at h
 obtain ⟨h1, h2⟩ := List.append_inj' h rfl
 simp only [ops, List.map_cons, List.map_nil, List.cons.injEq, Prod.mk.injEq, and_true] at h2
 obtain ⟨rfl, rfl⟩ := h2
 exact ⟨_, kv, rfl, h1⟩
theorem own_form {w : World} {B e size n : Nat} {v : Value} {xs : List Value} (h : w.ownsRow B e size v n xs) : ∃ q c, v = .slice q n c := by
 rcases h.2 with ⟨rfl, h0⟩ | ⟨g, cap, cur, rfl, _⟩
 ·exact ⟨none, 0, by rw [h0]⟩
 ·exact ⟨_, cap, rfl⟩
theorem own_six {w : World} {B e n r c : Nat} {xs ys : List Value} {a0 a1 a2 a3 a4 a5 : Value} (h : w.ownsRow B e 6 (.slice (some ⟨r, 0, none⟩) (n + 1) c) (n + 1) (xs ++ ys)) (hx : xs.length = n * 6) (hy : ys.length = 6) :
  ((((((w.setCell ⟨r, n * 6, none⟩ a0).setCell ⟨r, n * 6 + 1, none⟩ a1).setCell ⟨r, n * 6 + 2, none⟩ a2).setCell ⟨r, n * 6 + 3, none⟩ a3).setCell ⟨r, n * 6 + 4, none⟩ a4).setCell ⟨r, n * 6 + 5, none⟩ a5).ownsRow B e 6 (.slice (some ⟨r, 0, none⟩) (n + 1) c) (n + 1) (xs ++ [a0, a1, a2, a3, a4, a5]) := by
 have s1 := ((((((h.stored (n * 6) a0).1.stored (n * 6 + 1) a1).1.stored (n * 6 + 2) a2).1.stored (n * 6 + 3) a3).1.stored (n * 6 + 4) a4).1.stored (n * 6 + 5) a5).1
 have e : ((((((xs ++ ys).set (n * 6) a0).set (n * 6 + 1) a1).set (n * 6 + 2) a2).set (n * 6 + 3) a3).set (n * 6 + 4) a4).set (n * 6 + 5) a5 = xs ++ [a0, a1, a2, a3, a4, a5] := by
  match ys, hy with
  | [y0, y1, y2, y3, y4, y5], _ =>
    rw [← hx, show xs.length = xs.length + 0 by rfl]
    simp only [list_set_right', Nat.add_assoc, Nat.zero_add]
    rfl
 rw [e] at s1
 exact s1
theorem infoI : (Tryz.prog.info? 56).map (fun i => (i.zero, i.size, i.bytes)) = some (some (.agg #[.int .i64 0, .string ByteArray.empty, .int .i64 0, .string ByteArray.empty, .string ByteArray.empty, .slice none 0 0]), 6, 88) := by kernel_rfl
theorem step_append_ins (w : World) {ops : Array Oper} {o : Oper} {a : Act} {K : Act → World → Prop} {Q : Exit → Act → World → Prop} {E : Prop} (hgd : o.guard = none) (s x : Operand)
  (ho : o.op = .call { callee := .builtin .append, args := #[s, x], argTypes := #[42, 42] })
  {B n : Nat} {v : Value} {xs news : List Value} (hown : w.ownsRow B 56 6 v n xs) (hs : a.eval s = v) {sv : Value} (hsrc : Src w sv 1 news) (hx : a.eval x = sv) (hnl : news.length = 6) (h1 : ∀ u ∈ news, u.oneCell' = true)
  (hl : n ≤ 1000000000) (hB : B ≤ w.heap.size)
  (h : ∀ v' w', w'.ownsRow B 56 6 v' (n + 1) (xs ++ news) → w.grownBy w' v.ownBlock → (v'.ownBlock = v.ownBlock ∨ v'.ownBlock = some w.heap.size) → K (a.put o.dst v') w') :
  if Region.wanted o (yielded ops a.tmps) = true then Oper.wp Tryz.prog o a w K Q else E := by
 obtain ⟨i, hi, hz, hsize, hby⟩ := info_parts infoI
 have hw : Region.wanted o (yielded ops a.tmps) = true := by simp [Region.wanted, hgd]
 rw [if_pos hw]
 obtain ⟨v', w', hr, h2, h3, h4⟩ := run_append_src (P := Tryz.prog) w 42 o.type B 56 i _ 6 88 Tryz.underlying42 hi hz hsize hby rfl (by decide) v n xs hown sv 1 news hsrc (by rw [hnl]) h1 (by unfold maxLen; omega) (by omega) hB
 unfold Oper.wp execOp
 simp only [ho, resolve, invoke, builtin, Sem.run_bind, Sem.run_pure, Result.andThen_ok, List.map_toArray, List.map_cons, List.map_nil, hs, hx, hr]
 exact h v' w' h2 h3 h4
set_option maxRecDepth 10000 in
theorem pflush_nil (B g : Nat) (w : World) (L : Ops) (D : Nat → Prop) (h : PRD B g w L [] D) : Calls Tryz.prog 100 #[.pointer (some ⟨g, 0, none⟩)] w fun e w' => e = .returned (.tuple #[]) ∧ w = w' := by
 obtain ⟨T, ov, tv, h1, h2⟩ := h
 obtain ⟨q, c, rfl⟩ := h1.txt.form
 obtain ⟨d0, d1⟩ := h1.kn.two
 have hgl := h1.lt
 clear h1 h2
 go_enter Tryz.func100, Tryz.ntmps100
 go_wp2_with fail
 go_end0
 exact ⟨rfl, rfl⟩
theorem tcells_at (A : Rows) (k : Int) (l : Ins) (kv : Value) : (tcells (A ++ [(k, l, kv)]))[A.length * 2 + 1]? = some kv := by
 rw [tcells_app, List.getElem?_append_right (by rw [tcells_len]; omega), tcells_len, show A.length * 2 + 1 - A.length * 2 = 1 by omega]
 rfl
theorem tcells_set (A : Rows) (k : Int) (l l' : Ins) (kv kv' : Value) : (tcells (A ++ [(k, l, kv)])).set (A.length * 2 + 1) kv' = tcells (A ++ [(k, l', kv')]) := by
 rw [tcells_app, tcells_app, List.set_append_right _ _ (by rw [tcells_len]; omega), tcells_len, show A.length * 2 + 1 - A.length * 2 = 1 by omega]
 rfl
def zero6 : Array Value := #[.int .i64 0, .string ⟨#[]⟩, .int .i64 0, .string ⟨#[]⟩, .string ⟨#[]⟩, .slice none 0 0]
theorem kid_grown {B n r kc : Nat} {W w4 : World} {kq : Option Addr} {v4 : Value} {xs : List Value} {ty : TypeId} (hown : w4.ownsRow B 56 6 v4 (n + 1) (xs ++ zero6.toList)) (hxl : xs.length = n * 6)
  (hgr : (W.alloc (.cells zero6 ty)).drew.grownBy w4 (Value.slice kq n kc).ownBlock) (hat : v4.ownBlock = (Value.slice kq n kc).ownBlock ∨ v4.ownBlock = some (W.alloc (.cells zero6 ty)).drew.heap.size)
  (hkl : ∀ j, (Value.slice kq n kc).ownBlock = some j → B ≤ j ∧ j < W.heap.size) (hkd : (Value.slice kq n kc).ownBlock ≠ some r) (hr : r < W.heap.size) (hB : B ≤ W.heap.size) :
  ∃ kr kcap, v4 = .slice (some ⟨kr, 0, none⟩) (n + 1) kcap ∧ kr < w4.heap.size ∧ r ≠ kr ∧ ((Value.slice kq n kc).ownBlock = some kr ∨ kr = W.heap.size + 1)
   ∧ (w4.cell? ⟨kr, n * 6, none⟩ = some (Value.int .i64 0) ∧ w4.cell? ⟨kr, n * 6 + 1, none⟩ = some (Value.string ⟨#[]⟩) ∧ w4.cell? ⟨kr, n * 6 + 2, none⟩ = some (Value.int .i64 0) ∧ w4.cell? ⟨kr, n * 6 + 3, none⟩ = some (Value.string ⟨#[]⟩) ∧ w4.cell? ⟨kr, n * 6 + 4, none⟩ = some (Value.string ⟨#[]⟩) ∧ w4.cell? ⟨kr, n * 6 + 5, none⟩ = some (Value.slice none 0 0))
   ∧ (∀ j, w4.frozen? ⟨kr, j, none⟩ = false) ∧ (∀ j, j < W.heap.size → (Value.slice kq n kc).ownBlock ≠ some j → w4.heap[j]? = W.heap[j]?) ∧ Below B W w4 ∧ r < w4.heap.size := by
 have hsz : (W.alloc (.cells zero6 ty)).drew.heap.size = W.heap.size + 1 := by rw [World.size_drew, World.size_alloc]
 have hs4 := hgr.size
 rw [hsz] at hs4
 obtain ⟨kr, kcap, rfl, hob4, hBr4, hkrl, hcells4, hfr4⟩ := own_block hown (by omega)
 have hat5 : (Value.slice kq n kc).ownBlock = some kr ∨ kr = W.heap.size + 1 := by
  rcases hat with e | e
  ·exact .inl (by rw [← e]; rfl)
  ·right
   have e : kr = _ := Option.some.inj e
   rw [e, hsz]
 have hlen : (xs ++ zero6.toList).length = n * 6 + 6 := by rw [List.length_append, hxl]; rfl
 have hc : ∀ j u, j < 6 → zero6.toList[j]? = some u → w4.cell? ⟨kr, n * 6 + j, none⟩ = some u := fun j u hj hu => hcells4 _ _ (by rw [List.getElem?_append_right (by omega), hxl, show n * 6 + j - n * 6 = j by omega]; exact hu)
 have hblk : ∀ j, j < W.heap.size → (Value.slice kq n kc).ownBlock ≠ some j → w4.heap[j]? = W.heap[j]? := fun j hj hne => (hgr.block j (by rw [hsz]; omega) (fun e => hne e.symm)).trans (Below.heap_alloc W _ j hj)
 refine ⟨kr, kcap, rfl, hkrl, fun e => ?_, hat5, ⟨hc 0 _ (by decide) rfl, hc 1 _ (by decide) rfl, hc 2 _ (by decide) rfl, hc 3 _ (by decide) rfl, hc 4 _ (by decide) rfl, hc 5 _ (by decide) rfl⟩, hfr4, hblk, ?_, by omega⟩
 ·rcases hat5 with e2 | e2
  ·exact hkd (by rw [e2, e])
  ·omega
 ·exact (((Below.refl B W).alloc hB _).drew).grown hgr (by rw [hsz]; omega) (fun j hj => (hkl j hj).1)
theorem six_far (w : World) (kr n : Nat) (a0 a1 a2 a3 a4 a5 : Value) (j : Nat) (hj : j ≠ kr) : ((((((w.setCell ⟨kr, n * 6, none⟩ a0).setCell ⟨kr, n * 6 + 1, none⟩ a1).setCell ⟨kr, n * 6 + 2, none⟩ a2).setCell ⟨kr, n * 6 + 3, none⟩ a3).setCell ⟨kr, n * 6 + 4, none⟩ a4).setCell ⟨kr, n * 6 + 5, none⟩ a5).heap[j]? = w.heap[j]? :=
 (Below.heap_setCell _ _ _ _ (show j ≠ kr from hj)).trans ((Below.heap_setCell _ _ _ _ (show j ≠ kr from hj)).trans ((Below.heap_setCell _ _ _ _ (show j ≠ kr from hj)).trans ((Below.heap_setCell _ _ _ _ (show j ≠ kr from hj)).trans ((Below.heap_setCell _ _ _ _ (show j ≠ kr from hj)).trans (Below.heap_setCell _ _ _ _ (show j ≠ kr from hj))))))
theorem six_below {B : Nat} {w0 : World} (w : World) (kr n : Nat) (a0 a1 a2 a3 a4 a5 : Value) (h : Below B w0 w) (hk : B ≤ kr) : Below B w0 ((((((w.setCell ⟨kr, n * 6, none⟩ a0).setCell ⟨kr, n * 6 + 1, none⟩ a1).setCell ⟨kr, n * 6 + 2, none⟩ a2).setCell ⟨kr, n * 6 + 3, none⟩ a3).setCell ⟨kr, n * 6 + 4, none⟩ a4).setCell ⟨kr, n * 6 + 5, none⟩ a5) :=
 (((((h.setCell (p := ⟨kr, n * 6, none⟩) hk a0).setCell (p := ⟨kr, n * 6 + 1, none⟩) hk a1).setCell (p := ⟨kr, n * 6 + 2, none⟩) hk a2).setCell (p := ⟨kr, n * 6 + 3, none⟩) hk a3).setCell (p := ⟨kr, n * 6 + 4, none⟩) hk a4).setCell (p := ⟨kr, n * 6 + 5, none⟩) hk a5
def Turned (B g : Nat) (w w' : World) (L : Ops) (p : List UInt8) (D : Nat → Prop) : Prop := ∃ D', Kept D D' w w' ∧ PRD B g w' L p D' ∧ Below B w w'
theorem PRT.more {B g : Nat} {w : World} {T : Rows} {ov tv : Value} {p : List UInt8} {D E : Nat → Prop} (h : PRT B g w T ov tv p D) (hEB : ∀ k, E k → B ≤ k) (hE : ∀ k, E k → k ≠ g ∧ ov.ownBlock ≠ some k ∧ tv.ownBlock ≠ some k ∧ ∀ t ∈ T, t.2.2.ownBlock ≠ some k) : PRT B g w T ov tv p (fun k => D k ∨ E k) :=
 {h with
  kids := fun t ht => by
   obtain ⟨xs, h1, h2⟩ := h.kids t ht
   exact ⟨xs, h1, IEnc.on (Kept.mono fun k hk _ => .inl hk) h2⟩
  dead := fun k hk => by
   rcases hk with hk | hk
   ·exact h.dead k hk
   ·exact hE k hk
  db := fun k hk => hk.elim (h.db k) (hEB k) }
theorem PRT.fresh {B g : Nat} {w W : World} {T : Rows} {ov tv : Value} {p : List UInt8} {D : Nat → Prop} (h : PRT B g w T ov tv p D) (hb : Below w.heap.size w W) : PRT B g W T ov tv p (fun k => D k ∧ k < w.heap.size ∨ w.heap.size ≤ k) :=
 (h.below hb).more (fun k hk => by have := h.lt; have := h.le; have hk : _ ≤ k := hk; omega) fun k hk => ⟨fun e => by have := h.lt; omega, fun e => by have := (h.rows.lt k e).2; omega, fun e => by have := (World.ownsRow.lt h.txt k e).2; omega, fun t ht e => by have := (h.klt ht e).2; omega⟩
theorem PRD.fresh {B g : Nat} {w W : World} {L : Ops} {p : List UInt8} {D : Nat → Prop} (h : PRD B g w L p D) (hb : Below w.heap.size w W) : PRD B g W L p (fun k => D k ∧ k < w.heap.size ∨ w.heap.size ≤ k) := by
 obtain ⟨T, ov, tv, h1, h2⟩ := h
 exact ⟨T, ov, tv, h1.fresh hb, h2⟩
theorem Turned.refl {B g : Nat} {w : World} {L : Ops} {p : List UInt8} {D : Nat → Prop} (h : PRD B g w L p D) : Turned B g w w L p D := ⟨D, fun k hk _ => ⟨hk, rfl⟩, h, Below.refl _ _⟩
theorem Turned.after {B g : Nat} {w w1 w2 : World} {L : Ops} {p : List UInt8} {D D1 : Nat → Prop} (hk : Kept D D1 w w1) (hb : Below B w w1) (h : Turned B g w1 w2 L p D1) : Turned B g w w2 L p D := by
 obtain ⟨D', h1, h2, h3⟩ := h
 exact ⟨D', hk.trans h1, h2, hb.trans h3⟩
theorem add_done {B g r n m oc kcap kr : Nat} {W w4 wf : World} {A : Rows} {k : Int} {l : Ins} {kv tv : Value} {D : Nat → Prop} {xs zs : List Value} {a : Int} {tx : ByteArray} {sp : Int} {nm an : ByteArray} {kp : Option Addr} {kn kc : Nat} {kids : Ins} {L : Ops}
  (hT : PRT B g W (A ++ [(k, l, kv)]) (.slice (some ⟨r, 0, none⟩) (m + 1) oc) tv [] D) (hm : m = A.length) (hA : ops A = L) (hn : n = l.len)
  (hK : insS.sl D W (.slice kp kn kc) kids) (hxe : IEnc D W l xs) (hz : zs.length = 6)
  (hown : w4.ownsRow B 56 6 (.slice (some ⟨kr, 0, none⟩) (n + 1) kcap) (n + 1) (xs ++ zs)) (hrk : r ≠ kr) (hat : kv.ownBlock = some kr ∨ kr = W.heap.size + 1)
  (hblk : ∀ j, j < W.heap.size → kv.ownBlock ≠ some j → w4.heap[j]? = W.heap[j]?) (hb4 : Below B W w4)
  (hwf : ∃ a0 a1 a2 a3 a4 a5, a0 = Value.int .i64 a ∧ a1 = Value.string tx ∧ a2 = Value.int .i64 sp ∧ a3 = Value.string nm ∧ a4 = Value.string an ∧ a5 = Value.slice kp kn kc ∧
   (wf = ((((((w4.setCell ⟨kr, n * 6, none⟩ a0).setCell ⟨kr, n * 6 + 1, none⟩ a1).setCell ⟨kr, n * 6 + 2, none⟩ a2).setCell ⟨kr, n * 6 + 3, none⟩ a3).setCell ⟨kr, n * 6 + 4, none⟩ a4).setCell ⟨kr, n * 6 + 5, none⟩ a5).setCell ⟨r, m * 2 + 1, none⟩ (.slice (some ⟨kr, 0, none⟩) (n + 1) kcap) ∨ wf = (((((((w4.setCell ⟨r, m * 2 + 1, none⟩ (.slice (some ⟨kr, 0, none⟩) (n + 1) kcap)).setCell ⟨kr, n * 6, none⟩ a0).setCell ⟨kr, n * 6 + 1, none⟩ a1).setCell ⟨kr, n * 6 + 2, none⟩ a2).setCell ⟨kr, n * 6 + 3, none⟩ a3).setCell ⟨kr, n * 6 + 4, none⟩ a4).setCell ⟨kr, n * 6 + 5, none⟩ a5))) :
  Turned B g W wf (L ++ [(k, l.app (.cons a tx sp nm an kids .nil))]) [] D := by
 obtain ⟨a0, a1, a2, a3, a4, a5, e0, e1, e2, e3, e4, e5, hwf⟩ := hwf
 have hxl := hxe.length
 rw [← hn] at hxl
 have hmem : (k, l, kv) ∈ A ++ [(k, l, kv)] := by simp
 have hor : (Value.slice (some ⟨r, 0, none⟩) (m + 1) oc).ownBlock = some r := rfl
 have hrl := (hT.rows.lt r hor)
 have hkr := hT.ok r hor _ hmem
 have hkl : ∀ j, kv.ownBlock = some j → B ≤ j ∧ j < W.heap.size := fun j hj => hT.klt hmem hj
 have hBk : B ≤ kr := by
  rcases hat with h | h
  ·exact (hkl kr h).1
  ·omega
 have hr4 : w4.ownsRow B 125 2 (.slice (some ⟨r, 0, none⟩) (m + 1) oc) (A ++ [(k, l, kv)]).length (tcells (A ++ [(k, l, kv)])) := own_on hT.rows fun j hj => by
  have hj : r = j := Option.some.inj hj
  subst hj
  exact hblk r hrl.2 hkr
 have hlen : (A ++ [(k, l, kv)]).length = m + 1 := by simp [hm]
 have hlen2 : ∀ u : Int × Ins × Value, (A ++ [u]).length = m + 1 := fun u => by simp [hm]
 rw [hlen] at hr4
 have hset := fun (V : World) (hV : V.ownsRow B 125 2 (.slice (some ⟨r, 0, none⟩) (m + 1) oc) (m + 1) (tcells (A ++ [(k, l, kv)]))) => own_set hV rfl (m * 2 + 1) (.slice (some ⟨kr, 0, none⟩) (n + 1) kcap) (by omega)
 rw [hm, tcells_set A k l (l.app (.cons a tx sp nm an kids .nil)), ← hm] at hset
 have hkeep : (∀ j, j < W.heap.size → (Value.slice (some ⟨r, 0, none⟩) (m + 1) oc).ownBlock ≠ some j → kv.ownBlock ≠ some j → wf.heap[j]? = W.heap[j]?) := by
  intro j hj h1 h2
  have hjr : j ≠ r := fun e => h1 (by rw [e]; rfl)
  have hjk : j ≠ kr := fun e => by
   rcases hat with h | h
   ·exact h2 (by rw [e]; exact h)
   ·omega
  rcases hwf with rfl | rfl
  ·exact (Below.heap_setCell _ _ _ _ (show j ≠ r from hjr)).trans ((six_far _ _ _ _ _ _ _ _ _ j hjk).trans (hblk j hj h2))
  ·exact (six_far _ _ _ _ _ _ _ _ _ j hjk).trans ((Below.heap_setCell _ _ _ _ (show j ≠ r from hjr)).trans (hblk j hj h2))
 have hrows : wf.ownsRow B 125 2 (.slice (some ⟨r, 0, none⟩) (m + 1) oc) (m + 1) (tcells (A ++ [(k, l.app (.cons a tx sp nm an kids .nil), .slice (some ⟨kr, 0, none⟩) (n + 1) kcap)])) := by
  rcases hwf with rfl | rfl
  ·exact hset _ (own_on hr4 fun j hj => by
    have hj : r = j := Option.some.inj hj
    subst hj
    exact six_far _ _ _ _ _ _ _ _ _ r hrk)
  ·exact own_on (hset _ hr4) fun j hj => by
    have hj : r = j := Option.some.inj hj
    subst hj
    exact six_far _ _ _ _ _ _ _ _ _ r hrk
 have hkid : wf.ownsRow B 56 6 (.slice (some ⟨kr, 0, none⟩) (n + 1) kcap) (n + 1) (xs ++ [a0, a1, a2, a3, a4, a5]) := by
  rcases hwf with rfl | rfl
  ·exact own_on (own_six hown hxl hz) fun j hj => by
    have hj : kr = j := Option.some.inj hj
    subst hj
    exact Below.heap_setCell _ _ _ _ (show kr ≠ r from fun e => hrk e.symm)
  ·exact own_six (own_on hown fun j hj => by
    have hj : kr = j := Option.some.inj hj
    subst hj
    exact Below.heap_setCell _ _ _ _ (show kr ≠ r from fun e => hrk e.symm)) hxl hz
 have hq : Kept D (fun j => (D j ∨ False) ∧ j < W.heap.size) W wf := fun j hj hl =>
  ⟨⟨.inl hj, hl⟩, hkeep j hl (hT.dead j hj).2.1 ((hT.dead j hj).2.2.2 _ hmem)⟩
 have hl1 : (l.app (.cons a tx sp nm an kids .nil)).len = n + 1 := by rw [Ins.len_app, hn]; rfl
 have hP := PRT.last (E := fun _ => False) (kv' := .slice (some ⟨kr, 0, none⟩) (n + 1) kcap) hT hkeep (by rw [hlen2]; exact hrows) (fun j h => h.elim) (fun j h => h.elim) (by rw [hl1]; exact hkid)
  (IEnc.app (A := l) (B := .cons a tx sp nm an kids .nil) (xs := xs) (ys := [a0, a1, a2, a3, a4, a5]) (IEnc.on hq hxe) ⟨.slice kp kn kc, [], by rw [e0, e1, e2, e3, e4, e5], insS.sl_on hK hq, rfl⟩)
  (fun j hj => by
   have hj : kr = j := Option.some.inj hj
   rw [← hj]
   rcases hat with h | h
   ·exact .inl h
   ·exact .inr (by omega))
 refine ⟨_, hq, ⟨_, _, _, hP, by rw [ops_app, hA]; rfl⟩, ?_⟩
 rcases hwf with rfl | rfl
 ·exact (six_below _ _ _ _ _ _ _ _ _ hb4 hBk).setCell (p := ⟨r, m * 2 + 1, none⟩) hrl.1 _
 ·exact six_below _ _ _ _ _ _ _ _ _ (hb4.setCell (p := ⟨r, m * 2 + 1, none⟩) hrl.1 _) hBk
set_option maxRecDepth 10000 in
set_option maxHeartbeats 8000000 in
theorem padd_core (B g : Nat) (w : World) (L : Ops) (k : Int) (l0 l : Ins) (p : List UInt8) (D : Nat → Prop) (a : Int) (tx : ByteArray) (sp : Int) (nm an : ByteArray) (kp : Option Addr) (kn kc : Nat) (kids : Ins)
  (h : PRD B g w (L ++ [(k, l0)]) p D) (hK : insS.sl D w (.slice kp kn kc) kids) (hL : L.length ≤ 1000) (hl : l.len ≤ 1000000000)
  (hF : ∀ W D1, PRD B g W (L ++ [(k, l0)]) p D1 → Calls Tryz.prog 100 #[.pointer (some ⟨g, 0, none⟩)] W fun e w' => e = .returned (.tuple #[]) ∧ Turned B g W w' (L ++ [(k, l)]) [] D1) :
  Calls Tryz.prog 127 #[.pointer (some ⟨g, 0, none⟩), .agg #[.int .i64 a, .string tx, .int .i64 sp, .string nm, .string an, .slice kp kn kc]] w fun e w' =>
   e = .returned (.tuple #[]) ∧ Turned B g w w' (L ++ [(k, l.app (.cons a tx sp nm an kids .nil))]) [] D := by
 have hgl := h.lt
 have hBg := h.le
 have hb1 := below_new0 w (.cells #[.int .i64 a, .string tx, .int .i64 sp, .string nm, .string an, .slice kp kn kc] 56)
 have hX := Known.made w 56 #[.int .i64 a, .string tx, .int .i64 sp, .string nm, .string an, .slice kp kn kc]
 have h1 := h.fresh hb1
 have hF1 := hF _ _ h1
 have hk1 : Kept D (fun k => D k ∧ k < w.heap.size ∨ w.heap.size ≤ k) w (w.alloc (.cells #[.int .i64 a, .string tx, .int .i64 sp, .string nm, .string an, .slice kp kn kc] 56)) := fun j hj hl => ⟨.inl ⟨hj, hl⟩, hb1.block j hl⟩
 have HF := Lib.hid hF1
 have HX := Lib.hid hX
 have HK := Lib.hid hK
 have HK1 := Lib.hid hk1
 have HB1 := Lib.hid hb1
 clear h h1 hF hF1 hX hK hk1 hb1
 go_enter Tryz.func127, Tryz.ntmps127
 go_wp2_with fail
 refine HF.out.mono ?_
 rintro e w1 ⟨rfl, D1, hkp, hP, hbw⟩
 obtain ⟨T, ov, tv, hT, hTL⟩ := hP
 obtain ⟨A, kv, rfl, hA⟩ := ops_split hTL
 have hAl : A.length = L.length := by rw [← hA, ops_len]
 obtain ⟨r, oc, rfl, hor, hBr, hrl, hcells, hfr⟩ := own_block hT.rows (by simp)
 have hn1 : (A ++ [(k, l, kv)]).length = A.length + 1 := by simp
 rw [hn1] at hT
 have hx1 := (hkp w.heap.size (.inr (Nat.le_refl _)) (by rw [World.size_alloc]; omega))
 have hX1 : Known w1 w.heap.size 56 #[.int .i64 a, .string tx, .int .i64 sp, .string nm, .string an, .slice kp kn kc] := hx1.2.trans HX.out
 have hK1 := insS.sl_on (insS.sl_on HK.out HK1.out) hkp
 obtain ⟨d0, d1⟩ := hT.kn.two
 obtain ⟨m, hm⟩ : ∃ m, m = A.length := ⟨_, rfl⟩
 rw [← hm] at hT d0 hAl
 have c1 := hcells (A.length * 2 + 1) _ (tcells_at A k l kv)
 rw [← hm] at c1
 have hml : m ≤ 1000 := by omega
 have hgl1 := hT.lt
 have HT := Lib.hid hT
 have HX1 := Lib.hid hX1
 have HKA := Lib.hid (HK1.out.trans hkp)
 have HBA := Lib.hid ((HB1.out.mono (by omega)).trans hbw)
 have HK2 := Lib.hid hK1
 have HM := Lib.hid hm
 have HA := Lib.hid hA
 clear hT hX1 hK1 hm hA hTL hcells hAl hn1 hkp hx1 hbw HF HX HK HK1 HB1
 have hi0 : (0 : Int) ≤ (m : Int) := by omega
 have hi1 : (m : Int) < (m : Int) + 1 := by omega
 have hwr : IntKind.i64.wrap (m : Int) = (m : Int) := IntWalk.i64_in _ (by omega)
 go_wp2_with fail
 go_quiet (fail)
 have hbq := below_drewN (Below.refl w1.heap.size w1) nq
 have hT2 := HT.out.below hbq
 have hX2 := HX1.out.on hbq
 have hK2 := insS.sl_on HK2.out (Kept.belowLt hbq)
 have c2 := (hbq.cell (p := ⟨r, m * 2 + 1, none⟩) hrl).trans c1
 have f2 := (hbq.frozen (p := ⟨r, m * 2 + 1, none⟩) hrl).trans (hfr (m * 2 + 1))
 have hk2 : Kept D1 (fun k => D1 k ∧ k < w1.heap.size) w1 (w1.drewN nq) := Kept.belowLt hbq
 generalize w1.drewN nq = W at hT2 hX2 hK2 c2 f2 hbq hk2 ⊢
 obtain ⟨D2, hD2⟩ : ∃ D2 : Nat → Prop, D2 = fun k => D1 k ∧ k < w1.heap.size := ⟨_, rfl⟩
 rw [← hD2] at hT2 hK2 hk2
 obtain ⟨xs, hxs, hxe⟩ := hT2.kids (k, l, kv) (by simp)
 have hxs : W.ownsRow B 56 6 kv l.len xs := hxs
 have hxe : IEnc D2 W l xs := hxe
 have hxl := hxe.length
 obtain ⟨n, hn⟩ : ∃ n, n = l.len := ⟨_, rfl⟩
 rw [← hn] at hxs hxl hl
 obtain ⟨kq, kc2, rfl⟩ := own_form hxs
 have hkd := hT2.ok r hor (k, l, .slice kq n kc2) (by simp)
 have hkd : (Value.slice kq n kc2).ownBlock ≠ some r := hkd
 have hkl := hxs.lt
 have hrW : r < W.heap.size := (hT2.rows.lt r hor).2
 obtain ⟨x0, x1, x2, x3, x4, x5⟩ := hX2.six
 have xl := hX2.lt
 have hBW : B ≤ W.heap.size := by have := hT2.lt; omega
 have hxlW : w.heap.size < W.heap.size := xl
 have hi2 : (0 : Int) ≤ (n : Int) := by omega
 have hi3 : (n : Int) < (n : Int) + 1 := by omega
 have HT2 := Lib.hid hT2
 have HK3 := Lib.hid hK2
 have HXS := Lib.hid hxs
 have HXE := Lib.hid hxe
 have HN := Lib.hid hn
 have HXL := Lib.hid hxl
 have HKB := Lib.hid (HKA.out.trans hk2)
 have HBB := Lib.hid (HBA.out.trans (hbq.mono (by have := HT.out.lt; omega)))
 have HKD := Lib.hid hkd
 have HX2 := Lib.hid hX2
 have HKL := Lib.hid hkl
 clear hT2 hK2 hxs hxe hn hxl hkd hX2 hbq hkl hwr hk2 hD2 HKA HBA HT HK2 HX1
 go_wp2_with fail
 go_region_law (first
  | (refine step_append_ins _ (by rfl) _ _ (by rfl) (own_on HXS.out fun j hj => (below_new0 W _).block j (HKL.out j hj).2) (by rfl) (Src.new _ _ _ 1 1) (by rfl) (by rfl) (by simp [Value.oneCell']) hl (by simp; omega) ?_; intro v4 w4 hown4 hgr4 hat4
     obtain ⟨kr, kcap, rfl, hkrl, hrk, hat5, ⟨z0, z1, z2, z3, z4, z5⟩, hfr4, hblk, hb4, hr4⟩ := kid_grown hown4 HXL.out hgr4 hat4 HKL.out HKD.out hrW hBW
     have zf0 := hfr4 (n * 6)
     have zf1 := hfr4 (n * 6 + 1)
     have zf2 := hfr4 (n * 6 + 2)
     have zf3 := hfr4 (n * 6 + 3)
     have zf4 := hfr4 (n * 6 + 4)
     have zf5 := hfr4 (n * 6 + 5)
     have c4 := (World.cell?_of_block (a := ⟨r, m * 2 + 1, none⟩) (hblk r hrW HKD.out)).trans c2
     have f4 := (World.frozen?_of_block (a := ⟨r, m * 2 + 1, none⟩) (hblk r hrW HKD.out)).trans f2
     have HBLK := Lib.hid hblk
     have HAT := Lib.hid hat5
     have HOWN4 := Lib.hid hown4
     have HB4 := Lib.hid hb4
     clear hblk hat5 hown4 hb4 hat4 hgr4 hfr4))
 all_goals
  go_end0
  refine ⟨rfl, ?_⟩
  refine Turned.after HKB.out HBB.out (add_done HT2.out HM.out HA.out HN.out HK3.out HXE.out rfl HOWN4.out hrk HAT.out HBLK.out HB4.out ⟨_, _, _, _, _, _, rfl, rfl, rfl, rfl, rfl, rfl, ?_⟩)
  first
   | (left; with_reducible rfl)
   | (right; with_reducible rfl)
theorem pflush_same (B g : Nat) (w : World) (L : Ops) (D : Nat → Prop) (h : PRD B g w L [] D) : Calls Tryz.prog 100 #[.pointer (some ⟨g, 0, none⟩)] w fun e w' => e = .returned (.tuple #[]) ∧ Turned B g w w' L [] D :=
 (pflush_nil B g w L D h).mono fun e w' ⟨h1, h2⟩ => ⟨h1, h2 ▸ Turned.refl h⟩
theorem padd_none (B g : Nat) (w : World) (L : Ops) (k : Int) (l : Ins) (D : Nat → Prop) (a : Int) (tx : ByteArray) (sp : Int) (nm an : ByteArray) (kp : Option Addr) (kn kc : Nat) (kids : Ins)
  (h : PRD B g w (L ++ [(k, l)]) [] D) (hK : insS.sl D w (.slice kp kn kc) kids) (hL : L.length ≤ 1000) (hl : l.len ≤ 1000000000) :
  Calls Tryz.prog 127 #[.pointer (some ⟨g, 0, none⟩), .agg #[.int .i64 a, .string tx, .int .i64 sp, .string nm, .string an, .slice kp kn kc]] w fun e w' =>
   e = .returned (.tuple #[]) ∧ Turned B g w w' (L ++ [(k, l.app (.cons a tx sp nm an kids .nil))]) [] D :=
 padd_core B g w L k l l [] D a tx sp nm an kp kn kc kids h hK hL hl fun W D1 hW => pflush_same B g W _ D1 hW
end Go.Proofs.YthieinfonomeeaaGreatDoor
namespace Go.Proofs.YthieinfonomeeaaGreatDoor
open Go.RowKit Doc Tit Inl
set_option linter.unusedVariables false
attribute [local go_sem ↓] Go.wp_at_zero Go.wp_at_succ
set_option maxRecDepth 10000 in
set_option maxHeartbeats 2000000 in
theorem pflush_text (B g : Nat) (w : World) (L : Ops) (k : Int) (l : Ins) (p : List UInt8) (D : Nat → Prop) (h : PRD B g w (L ++ [(k, l)]) p D) (hp : p ≠ []) (hL : L.length ≤ 1000) (hl : l.len ≤ 1000000000) :
  Calls Tryz.prog 100 #[.pointer (some ⟨g, 0, none⟩)] w fun e w' => e = .returned (.tuple #[]) ∧ Turned B g w w' (L ++ [(k, l.app (txt p))]) [] D := by
 obtain ⟨T, ov, tv, hT, hTL⟩ := h
 have hBg := hT.le
 have hgl := hT.lt
 obtain ⟨d0, d1⟩ := hT.kn.two
 have f1 := hT.kn.free 1
 have htx := hT.txt.text
 have hkn := hT.kn.put 1 (.slice none 0 0)
 have hkeep : ∀ j, j < w.heap.size → j ≠ g → tv.ownBlock ≠ some j → (w.setCell ⟨g, 1, none⟩ (.slice none 0 0)).heap[j]? = w.heap[j]? := fun j _ hj _ => Below.heap_setCell _ _ _ _ (show j ≠ g from hj)
 have hT2 := hT.text (tv' := .slice none 0 0) (p' := []) (by rw [World.size_setCell]; exact Nat.le_refl _) hkeep hkn (BOwn.nil _ _) (fun j e => by cases e)
 have hk2 : Kept D (fun k => D k ∧ k < w.heap.size) w (w.setCell ⟨g, 1, none⟩ (.slice none 0 0)) := fun j hj hl => ⟨⟨hj, hl⟩, hkeep j hl (hT.dead j hj).1 (hT.dead j hj).2.2.1⟩
 have hb2 : Below B w (w.setCell ⟨g, 1, none⟩ (.slice none 0 0)) := (Below.refl B w).setCell (p := ⟨g, 1, none⟩) hBg _
 have hC := padd_none B g _ L k l _ 1 ⟨p.toArray⟩ 0 ⟨#[]⟩ ⟨#[]⟩ none 0 0 .nil ⟨T, ov, _, hT2, hTL⟩ ins_none hL hl
 obtain ⟨q, c, rfl⟩ := hT.txt.form
 have hpl : 0 < p.length := List.length_pos_iff.2 hp
 have g1 : decide (0 < p.length) = true := decide_eq_true hpl
 have HC := Lib.hid hC
 have HK := Lib.hid hk2
 have HB := Lib.hid hb2
 clear hT hTL hkn hkeep hT2 hk2 hb2 hC hp
 go_enter Tryz.func100, Tryz.ntmps100
 go_wp2_with fail
 refine HC.out.mono ?_
 rintro e w1 ⟨rfl, hR⟩
 have HR := Lib.hid hR
 clear hR
 go_wp2_with fail
 go_end0
 exact ⟨rfl, Turned.after HK.out HB.out HR.out⟩
def fl (l : Ins) (p : List UInt8) : Ins := if p = [] then l else l.app (txt p)
theorem fl_len (l : Ins) (p : List UInt8) : (fl l p).len ≤ l.len + p.length := by
 unfold fl
 split
 ·omega
 ·rename_i h
  have := List.length_pos_iff.2 h
  rw [Ins.len_app]
  show l.len + 1 ≤ _
  omega
theorem pflush_any (B g : Nat) (w : World) (L : Ops) (k : Int) (l : Ins) (p : List UInt8) (D : Nat → Prop) (h : PRD B g w (L ++ [(k, l)]) p D) (hL : L.length ≤ 1000) (hl : l.len ≤ 1000000000) :
  Calls Tryz.prog 100 #[.pointer (some ⟨g, 0, none⟩)] w fun e w' => e = .returned (.tuple #[]) ∧ Turned B g w w' (L ++ [(k, fl l p)]) [] D := by
 unfold fl
 by_cases hp : p = []
 ·rw [if_pos hp]
  subst hp
  exact pflush_same B g w _ D h
 ·rw [if_neg hp]
  exact pflush_text B g w L k l p D h hp hL hl
theorem padd_any (B g : Nat) (w : World) (L : Ops) (k : Int) (l : Ins) (p : List UInt8) (D : Nat → Prop) (a : Int) (tx : ByteArray) (sp : Int) (nm an : ByteArray) (kp : Option Addr) (kn kc : Nat) (kids : Ins)
  (h : PRD B g w (L ++ [(k, l)]) p D) (hK : insS.sl D w (.slice kp kn kc) kids) (hL : L.length ≤ 1000) (hl : l.len + p.length ≤ 1000000000) :
  Calls Tryz.prog 127 #[.pointer (some ⟨g, 0, none⟩), .agg #[.int .i64 a, .string tx, .int .i64 sp, .string nm, .string an, .slice kp kn kc]] w fun e w' =>
   e = .returned (.tuple #[]) ∧ Turned B g w w' (L ++ [(k, (fl l p).app (.cons a tx sp nm an kids .nil))]) [] D :=
 padd_core B g w L k l (fl l p) p D a tx sp nm an kp kn kc kids h hK hL (Nat.le_trans (fl_len l p) hl) fun W D1 hW => pflush_any B g W L k l p D1 hW hL (by omega)
theorem tcells_kind (A : Rows) (k : Int) (l : Ins) (kv : Value) : (tcells (A ++ [(k, l, kv)]))[A.length * 2]? = some (.int .i64 k) := by
 rw [tcells_app, List.getElem?_append_right (by rw [tcells_len]; omega), tcells_len, Nat.sub_self]
 rfl
set_option maxRecDepth 10000 in
set_option maxHeartbeats 4000000 in
theorem pend_any (B g : Nat) (w : World) (L : Ops) (k : Int) (l0 l : Ins) (p : List UInt8) (D : Nat → Prop) (h : PRD B g w (L ++ [(k, l0)]) p D) (hl0 : fl l0 p = l) (hL : L.length ≤ 1000) (hl : l0.len + p.length ≤ 1000000000)
  (hne : l.len ≠ 0 → ∃ L' k' l', L = L' ++ [(k', l')] ∧ l'.len ≤ 1000000000) :
  Calls Tryz.prog 99 #[.pointer (some ⟨g, 0, none⟩)] w fun e w' => e = .returned (.tuple #[]) ∧
   (l.len = 0 → Turned B g w w' L [] D) ∧ (∀ L' k' l', l.len ≠ 0 → L = L' ++ [(k', l')] → Turned B g w w' (L' ++ [(k', l'.app (el k [] l))]) [] D) := by
 have hF := pflush_any B g w L k l0 p D h hL (by omega)
 rw [hl0] at hF
 have HF := Lib.hid hF
 have HNE := Lib.hid hne
 have hgl := h.lt
 clear hF hne h hl0
 go_enter Tryz.func99, Tryz.ntmps99
 go_wp2_with fail
 refine HF.out.mono ?_
 rintro e w1 ⟨rfl, D1, hkp, hP, hbw⟩
 obtain ⟨T, ov, tv, hT, hTL⟩ := hP
 obtain ⟨A, kv, rfl, hA⟩ := ops_split hTL
 have hAl : A.length = L.length := by rw [← hA, ops_len]
 obtain ⟨r, oc, rfl, hor, hBr, hrl, hcells, hfr⟩ := own_block hT.rows (by simp)
 have hn1 : (A ++ [(k, l, kv)]).length = A.length + 1 := by simp
 rw [hn1] at hT
 obtain ⟨xs, hxs0, hxe⟩ := hT.kids (k, l, kv) (by simp)
 have hxs : w1.ownsRow B 56 6 kv l.len xs := hxs0
 obtain ⟨kq, kc2, rfl⟩ := own_form hxs
 obtain ⟨d0, d1⟩ := hT.kn.two
 have df0 := hT.kn.free 0
 obtain ⟨m, hm⟩ : ∃ m, m = A.length := ⟨_, rfl⟩
 have c0 := hcells (A.length * 2) _ (tcells_kind A k l _)
 have c1 := hcells (A.length * 2 + 1) _ (tcells_at A k l _)
 have hroc : m + 1 ≤ oc := by
  rcases hT.rows.2 with ⟨h1, _⟩ | ⟨g', cap, cur, h1, _, _, h2, _⟩
  ·cases h1
  ·injection h1 with _ _ h3
   rw [hn1] at h2
   omega
 rw [← hm] at hT d0 hAl c0 c1
 have hgl1 := hT.lt
 have hBg := hT.le
 have HT := Lib.hid hT
 have HKP := Lib.hid hkp
 have HBW := Lib.hid hbw
 have HM := Lib.hid hm
 have HA := Lib.hid hA
 have hml : m ≤ 1000 := by omega
 clear hT hm hA hTL hcells hAl hn1 hkp hbw HF hxs hxe hxs0 xs
 have hi0 : (0 : Int) ≤ (m : Int) := by omega
 have hi1 : (m : Int) < (m : Int) + 1 := by omega
 have hi2 : m ≤ oc := by omega
 have hi3 : (m : Int) ≤ (oc : Int) := by omega
 have hwr : IntKind.i64.wrap (m : Int) = (m : Int) := IntWalk.i64_in _ (by omega)
 go_wp2_with fail
 go_region
 have hbq : Below w1.heap.size w1 (w1.alloc (.cells #[.int .i64 k, .slice kq l.len kc2] 125)).drew := (below_new0 _ _).drew
 have hX : Known (w1.alloc (.cells #[.int .i64 k, .slice kq l.len kc2] 125)).drew w1.heap.size 125 #[.int .i64 k, .slice kq l.len kc2] := Known.made w1 _ _
 generalize (w1.alloc (.cells #[.int .i64 k, .slice kq l.len kc2] 125)).drew = W at hbq hX ⊢
 have hT2 := HT.out.below hbq
 have hk2 : Kept D1 (fun k => D1 k ∧ k < w1.heap.size) w1 W := Kept.belowLt hbq
 obtain ⟨D2, hD2⟩ : ∃ D2 : Nat → Prop, D2 = fun k => D1 k ∧ k < w1.heap.size := ⟨_, rfl⟩
 rw [← hD2] at hT2 hk2
 obtain ⟨d0, d1⟩ := hT2.kn.two
 have df0 := hT2.kn.free 0
 obtain ⟨x0, x1⟩ := hX.two
 have xl := hX.lt
 have hglW := hT2.lt
 have HKB := Lib.hid (HKP.out.trans hk2)
 have HBB := Lib.hid (HBW.out.trans (hbq.mono (by omega)))
 have HT2 := Lib.hid hT2
 have HX2 := Lib.hid hX
 have hgx : g ≠ w1.heap.size := by omega
 clear hbq hX hT2 hk2 hD2 HKP HBW HT c0 c1
 go_wp2_with fail
 go_region
 have hX3 : Known (W.setCell ⟨g, 0, none⟩ (.slice (some ⟨r, 0, none⟩) m oc)).drew w1.heap.size 125 #[.int .i64 k, .slice kq l.len kc2] := HX2.out.far (p := ⟨g, 0, none⟩) (fun e => hgx e.symm) _
 have hkeep : ∀ j, j < W.heap.size → j ≠ g → (W.setCell ⟨g, 0, none⟩ (.slice (some ⟨r, 0, none⟩) m oc)).drew.heap[j]? = W.heap[j]? := fun j _ hj => Below.heap_setCell _ _ _ _ (show j ≠ g from hj)
 have hkn : Known (W.setCell ⟨g, 0, none⟩ (.slice (some ⟨r, 0, none⟩) m oc)).drew g 123 #[.slice (some ⟨r, 0, none⟩) m oc, tv] := HT2.out.kn.put 0 _
 have hrow : (W.setCell ⟨g, 0, none⟩ (.slice (some ⟨r, 0, none⟩) m oc)).drew.ownsRow B 125 2 (.slice (some ⟨r, 0, none⟩) m oc) A.length (tcells A) := by
  have h1 := HT2.out.rows
  rw [tcells_app, show (A ++ [(k, l, Value.slice kq l.len kc2)]).length = m + 1 by simp [HM.out]] at h1
  have h2 := own_less h1 (by rw [tcells_len, HM.out]) (by omega)
  rw [← HM.out]
  refine own_on h2 fun j hj => ?_
  have hj : r = j := Option.some.inj hj
  subst hj
  exact hkeep r (HT2.out.rows.lt r rfl).2 (fun e => HT2.out.og (by rw [← e]; rfl))
 have hbel : Below B W (W.setCell ⟨g, 0, none⟩ (.slice (some ⟨r, 0, none⟩) m oc)).drew := ((Below.refl B W).setCell (p := ⟨g, 0, none⟩) hBg _).drew
 generalize (W.setCell ⟨g, 0, none⟩ (.slice (some ⟨r, 0, none⟩) m oc)).drew = W2 at hX3 hkeep hkn hrow hbel ⊢
 obtain ⟨hT3, hsl⟩ := HT2.out.pop hkeep hkn hrow rfl
 have hk3 : Kept D2 (fun j => (D2 j ∨ (Value.slice kq l.len kc2).ownBlock = some j) ∧ j < W.heap.size) W W2 := fun j hj hl => ⟨⟨.inl hj, hl⟩, hkeep j hl (HT2.out.dead j hj).1⟩
 obtain ⟨D3, hD3⟩ : ∃ D3 : Nat → Prop, D3 = fun j => (D2 j ∨ (Value.slice kq l.len kc2).ownBlock = some j) ∧ j < W.heap.size := ⟨_, rfl⟩
 rw [← hD3] at hT3 hsl hk3
 have hP3 : PRD B g W2 L [] D3 := ⟨A, _, _, hT3, HA.out⟩
 obtain ⟨x0, x1⟩ := hX3.two
 have xl := hX3.lt
 have HP3 := Lib.hid hP3
 have HSL := Lib.hid hsl
 have HKC := Lib.hid (HKB.out.trans hk3)
 have HBC := Lib.hid (HBB.out.trans hbel)
 clear hX3 hkeep hkn hrow hbel hT3 hsl hk3 hD3 hP3 HKB HBB HT2 HX2 d0 d1 df0
 rcases Nat.eq_zero_or_pos l.len with h0 | h0
 ·have g1 : decide (0 < l.len) = false := by simp; omega
  have H0 := Lib.hid h0
  clear h0
  go_wp2_with fail
  go_end0
  exact ⟨rfl, fun _ => ⟨D3, HKC.out, HP3.out, HBC.out⟩, fun _ _ _ h => absurd H0.out h⟩
 ·have g1 : decide (0 < l.len) = true := by simp; omega
  obtain ⟨L', k', l', rfl, hl'⟩ := HNE.out (by omega)
  have hC := padd_none B g W2 L' k' l' D3 k ⟨#[]⟩ 0 ⟨#[]⟩ ⟨#[]⟩ kq l.len kc2 l HP3.out HSL.out (by rw [List.length_append] at hL; omega) hl'
  have HC := Lib.hid hC
  have H0 := Lib.hid h0
  clear hC h0
  go_wp2_with fail
  refine HC.out.mono ?_
  rintro e w5 ⟨rfl, hR5⟩
  have HR5 := Lib.hid hR5
  clear hR5
  go_wp2_with fail
  go_end0
  refine ⟨rfl, fun h => absurd h (by have := H0.out; omega), fun L2 k2 l2 _ h => ?_⟩
  obtain ⟨e1, e2⟩ := List.append_inj' h rfl
  injection e2 with e2
  injection e2 with e2 e3
  subst e1 e2 e3
  exact Turned.after HKC.out HBC.out HR5.out
end Go.Proofs.YthieinfonomeeaaGreatDoor
namespace Go.Proofs.YthieinfonomeeaaGreatDoor
open Go.RowKit Doc Tit Inl
set_option linter.unusedVariables false
attribute [local go_sem ↓] Go.wp_at_zero Go.wp_at_succ
set_option maxRecDepth 10000 in
theorem pmark_any (bx : Nat) (k k' : Int) (v : Value) (w : World) (hc : w.cell? ⟨bx, 0, none⟩ = some (.int .i64 k)) (hl : bx < w.heap.size) (hv : v.oneCell' = true) :
  Calls Tryz.prog 172 #[.agg #[.int .i64 k', v], .pointer (some ⟨bx, 0, none⟩)] w fun e w' => e = .returned (.bool (k' == k)) ∧ Below w.heap.size w w' := by
 have hb := below_new0 w (.cells #[.int .i64 k', v] 125)
 have hX := Known.made w 125 #[.int .i64 k', v]
 obtain ⟨x0, x1⟩ := hX.two
 have hne : bx ≠ w.heap.size := by omega
 go_enter Tryz.func172, Tryz.ntmps172
 go_wp2_with fail
 go_ret
 exact ⟨rfl, hb⟩
theorem enters_mark : ∀ args w, (callFunc 172 args).run Tryz.prog w = .ok (.enter 172 args) w := enters_of Tryz.func172 (by kernel_rfl) rfl
theorem tcells_idx {T : Rows} {i : Nat} (h : i < T.length) : (tcells T)[i * 2]? = some (.int .i64 T[i].1) ∧ (tcells T)[i * 2 + 1]? = some T[i].2.2 := by
 have e : T = T.take i ++ T[i] :: T.drop (i + 1) := by rw [← List.drop_eq_getElem_cons h, List.take_append_drop]
 have hl : (tcells (T.take i)).length = i * 2 := by rw [tcells_len, List.length_take_of_le (by omega)]
 have e2 : tcells T = tcells (T.take i) ++ (.int .i64 T[i].1 :: T[i].2.2 :: tcells (T.drop (i + 1))) := by
  conv => lhs; rw [e]
  rw [tcells_app]; rfl
 rw [e2]
 constructor
 ·rw [List.getElem?_append_right (by omega), hl, Nat.sub_self]; rfl
 ·rw [List.getElem?_append_right (by omega), hl, show i * 2 + 1 - i * 2 = 1 by omega]; rfl
def Found (T : Rows) (k a : Int) : Prop := (a = -1 ∧ ∀ j (h : j < T.length), T[j].1 ≠ k) ∨ ∃ i : Nat, a = i ∧ ∃ h : i < T.length, T[i].1 = k
set_option maxRecDepth 10000 in
set_option maxHeartbeats 2000000 in
theorem pfind_any (bx r c : Nat) (k : Int) (T : Rows) (w : World) (hx : Known w bx 3 #[.int .i64 k]) (hr : r < w.heap.size) (hcells : ∀ j u, (tcells T)[j]? = some u → w.cell? ⟨r, j, none⟩ = some u) (hone : ∀ t ∈ T, t.2.2.oneCell' = true) (hT : T.length ≤ 1000) :
  Calls Tryz.prog 171 #[.slice (some ⟨r, 0, none⟩) T.length c, .func (.func 172) #[] #[.pointer (some ⟨bx, 0, none⟩)]] w fun e w' => (∃ a, e = .returned (.int .i64 a) ∧ Found T k a) ∧ Below w.heap.size w w' := by
 obtain ⟨n, hn⟩ : ∃ n, n = T.length := ⟨_, rfl⟩
 rw [← hn] at hT ⊢
 have hcell : ∀ i (h : i < T.length), w.cell? ⟨r, i * 2, none⟩ = some (.int .i64 T[i].1) ∧ w.cell? ⟨r, i * 2 + 1, none⟩ = some T[i].2.2 := fun i h => ⟨hcells _ _ (tcells_idx h).1, hcells _ _ (tcells_idx h).2⟩
 have HX := Lib.hid hx
 have HC := Lib.hid hcell
 have HN := Lib.hid hn
 have HO := Lib.hid hone
 have he := enters_mark
 clear hx hcells hcell hn hone
 go_enter Tryz.func171, Tryz.ntmps171
 go_wp2_with fail
 go_loopg [5, 8] (n + 1) (fun gg s5 s8 wr => ∃ i : Nat, s8 = .int .i64 i ∧ i ≤ n ∧ n < i + gg ∧ (∀ j (h : j < T.length), j < i → T[j].1 ≠ k) ∧ Below w.heap.size w wr)
 case atStart => exact ⟨0, rfl, by omega, by omega, fun j h h2 => by omega, Below.refl _ _⟩
 case round =>
  obtain ⟨i, rfl, hi, hg, hno, hb⟩ := hrel
  have HNO := Lib.hid hno
  have HB := Lib.hid hb
  have hbz := hb.size
  clear hno
  by_cases hin : i < n
  ·have g1 : decide (i < n) = true := decide_eq_true hin
   have g1' : decide ((i : Int) < (n : Int)) = true := decide_eq_true (by omega)
   have hiT : i < T.length := by rw [← HN.out]; exact hin
   obtain ⟨c0, c1⟩ := HC.out i hiT
   have c0 := (hb.cell (p := ⟨r, i * 2, none⟩) hr).trans c0
   have c1 := (hb.cell (p := ⟨r, i * 2 + 1, none⟩) hr).trans c1
   have h1 := HO.out T[i] (List.getElem_mem hiT)
   obtain ⟨ki, hki⟩ : ∃ ki, ki = T[i].1 := ⟨_, rfl⟩
   obtain ⟨v, hv⟩ : ∃ v, v = T[i].2.2 := ⟨_, rfl⟩
   rw [← hki] at c0
   rw [← hv] at c1 h1
   have hx := HX.out.on hb
   have hC := pmark_any bx k ki v wr (hx.cell 0) hx.lt h1
   have HCC := Lib.hid hC
   have HKI := Lib.hid hki
   have hi0 : (0 : Int) ≤ (i : Int) := by omega
   have hi2 : (i : Int) < (n : Int) := by omega
   clear hki hv hC hx h1 hb
   go_wp2_with fail
   refine HCC.out.mono ?_
   rintro e w2 ⟨rfl, hb2⟩
   have HB2 := Lib.hid (below_then HB.out hb2)
   clear hb2
   by_cases hkk : ki = k
   ·have g2 : (ki == k) = true := by simpa using hkk
    have HKK := Lib.hid hkk
    clear hkk
    go_wp2_with fail
    go_ret
    exact ⟨⟨_, rfl, .inr ⟨i, rfl, hiT, by rw [← HKI.out]; exact HKK.out⟩⟩, HB2.out⟩
   ·have g2 : (ki == k) = false := by simpa using hkk
    have HKK := Lib.hid hkk
    clear hkk
    go_wp2_with fail
    go_roundg (n - i)
    case measure => omega
    case rel => exact ⟨i + 1, by go_num, by omega, by omega, fun j h h2 => by
     by_cases e : j = i
     ·subst e; rw [← HKI.out]; exact HKK.out
     ·exact HNO.out j h (by omega), HB2.out⟩
  ·have g1 : decide (i < n) = false := decide_eq_false hin
   have g1' : decide ((i : Int) < (n : Int)) = false := decide_eq_false (by omega)
   go_wp2_with fail
   go_ret
   exact ⟨⟨_, rfl, .inl ⟨rfl, fun j h => HNO.out j h (by rw [← HN.out] at h; omega)⟩⟩, HB.out⟩
end Go.Proofs.YthieinfonomeeaaGreatDoor
namespace Go.Proofs.YthieinfonomeeaaGreatDoor
open Go.RowKit Doc Tit Inl
set_option linter.unusedVariables false
attribute [local go_sem ↓] Go.wp_at_zero Go.wp_at_succ
theorem infoE : (Tryz.prog.info? 125).map (fun i => (i.zero, i.size, i.bytes)) = some (some (.agg #[.int .i64 0, .slice none 0 0]), 2, 32) := by kernel_rfl
theorem run_append_el {P : Nat} (w : World) (ty : TypeId) {B n : Nat} {v : Value} {xs news : List Value} (hown : w.ownsRow B 125 2 v n xs) {sv : Value} (hsrc : Src w sv 1 news) (hnl : news.length = 2) (h1 : ∀ u ∈ news, u.oneCell' = true)
  (hl : n ≤ 1000000000) (hB : B ≤ w.heap.size) :
  ∃ v' w', (Builtin.append_ #[121, 121] ty #[v, sv]).run Tryz.prog w = .ok v' w' ∧ w'.ownsRow B 125 2 v' (n + 1) (xs ++ news) ∧ w.grownBy w' v.ownBlock ∧ (v'.ownBlock = v.ownBlock ∨ v'.ownBlock = some w.heap.size) := by
 obtain ⟨i, hi, hz, hsize, hby⟩ := info_parts infoE
 exact run_append_src (P := Tryz.prog) w 121 ty B 125 i _ 2 32 Tryz.underlying121 hi hz hsize hby rfl (by decide) v n xs hown sv 1 news hsrc (by rw [hnl]) h1 (by unfold maxLen; omega) (by omega) hB
theorem step_append_el (w : World) {ops : Array Oper} {o : Oper} {a : Act} {K : Act → World → Prop} {Q : Exit → Act → World → Prop} {E : Prop} (hgd : o.guard = none) (s x : Operand)
  (ho : o.op = .call { callee := .builtin .append, args := #[s, x], argTypes := #[121, 121] })
  {B n : Nat} {v : Value} {xs news : List Value} (hown : w.ownsRow B 125 2 v n xs) (hs : a.eval s = v) {sv : Value} (hsrc : Src w sv 1 news) (hx : a.eval x = sv) (hnl : news.length = 2) (h1 : ∀ u ∈ news, u.oneCell' = true)
  (hl : n ≤ 1000000000) (hB : B ≤ w.heap.size)
  (h : ∀ v' w', w'.ownsRow B 125 2 v' (n + 1) (xs ++ news) → w.grownBy w' v.ownBlock → (v'.ownBlock = v.ownBlock ∨ v'.ownBlock = some w.heap.size) → K (a.put o.dst v') w') :
  if Region.wanted o (yielded ops a.tmps) = true then Oper.wp Tryz.prog o a w K Q else E := by
 have hw : Region.wanted o (yielded ops a.tmps) = true := by simp [Region.wanted, hgd]
 rw [if_pos hw]
 obtain ⟨v', w', hr, h2, h3, h4⟩ := run_append_el (P := 0) w o.type hown hsrc hnl h1 hl hB
 unfold Oper.wp execOp
 simp only [ho, resolve, invoke, builtin, Sem.run_bind, Sem.run_pure, Result.andThen_ok, List.map_toArray, List.map_cons, List.map_nil, hs, hx, hr]
 exact h v' w' h2 h3 h4
theorem append_el (w : World) {ops : Array Oper} {rest : List Oper} {o : Oper} {a : Act} {Q : Exit → Act → World → Prop} (hgd : o.guard = none) (s x : Operand)
  (ho : o.op = .call { callee := .builtin .append, args := #[s, x], argTypes := #[121, 121] })
  {B n : Nat} {v : Value} {xs news : List Value} (hown : w.ownsRow B 125 2 v n xs) (hs : a.eval s = v) {sv : Value} (hsrc : Src w sv 1 news) (hx : a.eval x = sv) (hnl : news.length = 2) (h1 : ∀ u ∈ news, u.oneCell' = true)
  (hl : n ≤ 1000000000) (hB : B ≤ w.heap.size)
  (h : ∀ v' w', w'.ownsRow B 125 2 v' (n + 1) (xs ++ news) → w.grownBy w' v.ownBlock → (v'.ownBlock = v.ownBlock ∨ v'.ownBlock = some w.heap.size) → wpList Tryz.prog ops Q rest (a.put o.dst v') w') :
  wpList Tryz.prog ops Q (o :: rest) a w := by
 refine wpList_plain hgd fun K hK => ?_
 obtain ⟨v', w', hr, h2, h3, h4⟩ := run_append_el (P := 0) w o.type hown hsrc hnl h1 hl hB
 unfold Oper.wp execOp
 simp only [ho, resolve, invoke, builtin, Sem.run_bind, Sem.run_pure, Result.andThen_ok, List.map_toArray, List.map_cons, List.map_nil, hs, hx, hr]
 exact hK _ _ (h v' w' h2 h3 h4)
theorem push_grown {B g n : Nat} {W V w4 : World} {T : Rows} {ov tv v4 : Value} {D : Nat → Prop} {k : Int} {L : Ops} (hT : PRT B g W T ov tv [] D) (hL : ops T = L) (hn : n = T.length) (hVz : W.heap.size ≤ V.heap.size) (hV : ∀ j, j < W.heap.size → V.heap[j]? = W.heap[j]?) (hVB : Below B W V)
  (hown : w4.ownsRow B 125 2 v4 (n + 1) (tcells T ++ [.int .i64 k, .slice none 0 0])) (hgr : V.grownBy w4 ov.ownBlock) (hat : v4.ownBlock = ov.ownBlock ∨ v4.ownBlock = some V.heap.size) :
  ∃ r c, v4 = .slice (some ⟨r, 0, none⟩) (n + 1) c ∧ Known w4 g 123 #[ov, tv] ∧ g < w4.heap.size ∧ Turned B g W (w4.setCell ⟨g, 0, none⟩ (.slice (some ⟨r, 0, none⟩) (n + 1) c)) (L ++ [(k, .nil)]) [] D := by
 obtain ⟨r, c, rfl, hor, hBr, hrl, _, _⟩ := own_block hown (by omega)
 have hgl := hT.lt
 have hblk : ∀ j, j < W.heap.size → ov.ownBlock ≠ some j → w4.heap[j]? = W.heap[j]? := fun j hj hne => (hgr.block j (by omega) (fun e => hne e.symm)).trans (hV j hj)
 have hk4 : Known w4 g 123 #[ov, tv] := (hblk g hgl hT.og).trans hT.kn
 have hrg : r ≠ g := fun e => by
  rcases hat with h | h
  ·exact hT.og (by rw [← h, ← e]; rfl)
  ·have h : r = _ := Option.some.inj h
   omega
 refine ⟨r, c, rfl, hk4, hk4.lt, ?_⟩
 have hkeep : ∀ j, j < W.heap.size → j ≠ g → ov.ownBlock ≠ some j → (w4.setCell ⟨g, 0, none⟩ (.slice (some ⟨r, 0, none⟩) (n + 1) c)).heap[j]? = W.heap[j]? := fun j hj h1 h2 => (Below.heap_setCell _ _ _ _ (show j ≠ g from h1)).trans (hblk j hj h2)
 have hP := hT.push (W := w4.setCell ⟨g, 0, none⟩ (.slice (some ⟨r, 0, none⟩) (n + 1) c)) (ov' := .slice (some ⟨r, 0, none⟩) (n + 1) c) (k := k) hkeep (hk4.put 0 _)
  (by
   rw [tcells_app, List.length_append, ← hn]
   exact own_on hown fun j hj => by
    have hj : r = j := Option.some.inj hj
    subst hj
    exact Below.heap_setCell _ _ _ _ (show r ≠ g from hrg))
  (fun j hj => by
   have hj : r = j := Option.some.inj hj
   subst hj
   refine ⟨hrg, ?_⟩
   rcases hat with h | h
   ·exact .inl (by rw [← h]; rfl)
   ·have h : r = _ := Option.some.inj h
    exact .inr (by omega))
 refine ⟨_, fun j hj hl => ⟨⟨hj, hl⟩, hkeep j hl (hT.dead j hj).1 (hT.dead j hj).2.1⟩, ⟨_, _, _, hP, by rw [ops_app, hL]; rfl⟩, ?_⟩
 have h1 : Below B W w4 := hVB.grown hgr (by have := hT.le; omega) fun j hj => (hT.rows.lt j hj).1
 exact h1.setCell (p := ⟨g, 0, none⟩) hT.le _
structure PP (B g : Nat) (w : World) (s : S) (D : Nat → Prop) : Prop where
 rd : PRD B g w s.stk.reverse s.pend D
 ok : Ok s.stk
 m : s.m ≤ 1000000000
def PTurn (B g : Nat) (w w' : World) (s : S) (D : Nat → Prop) : Prop := ∃ D', Kept D D' w w' ∧ PP B g w' s D' ∧ Below B w w'
theorem PTurn.after {B g : Nat} {w w1 w2 : World} {s : S} {D D1 : Nat → Prop} (hk : Kept D D1 w w1) (hb : Below B w w1) (h : PTurn B g w1 w2 s D1) : PTurn B g w w2 s D := by
 obtain ⟨D', h1, h2, h3⟩ := h
 exact ⟨D', hk.trans h1, h2, hb.trans h3⟩
theorem PP.lt {B g : Nat} {w : World} {s : S} {D : Nat → Prop} (h : PP B g w s D) : g < w.heap.size := h.rd.lt
theorem PP.le {B g : Nat} {w : World} {s : S} {D : Nat → Prop} (h : PP B g w s D) : B ≤ g := h.rd.le
theorem PP.fresh {B g : Nat} {w W : World} {s : S} {D : Nat → Prop} (h : PP B g w s D) (hb : Below w.heap.size w W) : PP B g W s (fun k => D k ∧ k < w.heap.size ∨ w.heap.size ≤ k) := ⟨h.rd.fresh hb, h.ok, h.m⟩
theorem flush_fl {k : Int} {l : Ins} {r : Stk} (p : List UInt8) : flush ((k, l) :: r) p = (k, fl l p) :: r := by
 unfold flush fl
 split <;> rfl
theorem pflush_p (B g : Nat) (w : World) (st : Stk) (p : List UInt8) (D : Nat → Prop) (h : PRD B g w st.reverse p D) (hok : Ok st) (hm : tot st + p.length ≤ 1000000000) :
  Calls Tryz.prog 100 #[.pointer (some ⟨g, 0, none⟩)] w fun e w' => e = .returned (.tuple #[]) ∧ Turned B g w w' (flush st p).reverse [] D := by
 obtain ⟨k, l, r, rfl, hr⟩ := ok_cons hok
 rw [flush_fl]
 rw [List.reverse_cons] at h ⊢
 exact pflush_any B g w r.reverse k l p D h (by simp; omega) (by simp only [tot] at hm; omega)
theorem padd_p (B g : Nat) (w : World) (s : S) (D : Nat → Prop) (a : Int) (tx : ByteArray) (sp : Int) (nm an : ByteArray) (kp : Option Addr) (kn kc : Nat) (kids : Ins) (h : PP B g w s D) (hK : insS.sl D w (.slice kp kn kc) kids) (hm : s.m + 1 ≤ 1000000000) :
  Calls Tryz.prog 127 #[.pointer (some ⟨g, 0, none⟩), .agg #[.int .i64 a, .string tx, .int .i64 sp, .string nm, .string an, .slice kp kn kc]] w fun e w' => e = .returned (.tuple #[]) ∧ PTurn B g w w' (s.add (.cons a tx sp nm an kids .nil)) D := by
 obtain ⟨st, p⟩ := s
 obtain ⟨hrd, hok, hmm⟩ := h
 have hf := tot_flush st p
 have ht := tot_addTop (.cons a tx sp nm an kids .nil) (flush st p)
 have hm2 : (S.add ⟨st, p⟩ (.cons a tx sp nm an kids .nil)).m ≤ 1000000000 := by
  simp only [S.add, S.m, List.length_nil, Ins.len] at hm ht ⊢; omega
 have hok2 : Ok (addTop (.cons a tx sp nm an kids .nil) (flush st p)) := (hok.flush p).addTop _
 obtain ⟨k, l, r, rfl, hr⟩ := ok_cons hok
 have hrd : PRD B g w (r.reverse ++ [(k, l)]) p D := by simpa using hrd
 refine (padd_any B g w r.reverse k l p D a tx sp nm an kp kn kc kids hrd hK (by simp; omega) (by simp only [S.m, tot] at hmm; omega)).mono ?_
 rintro e w' ⟨rfl, D', h1, h2, h3⟩
 refine ⟨rfl, D', h1, ⟨?_, hok2, hm2⟩, h3⟩
 show PRD B g w' (addTop (.cons a tx sp nm an kids .nil) (flush ((k, l) :: r) p)).reverse [] D'
 rw [flush_fl, addTop, List.reverse_cons]
 exact h2
theorem pend_p (B g : Nat) (w : World) (st : Stk) (p : List UInt8) (D : Nat → Prop) (h : PRD B g w st.reverse p D) (h2 : 2 ≤ st.length) (hn : st.length ≤ 1000) (hm : tot st + p.length ≤ 1000000000) :
  Calls Tryz.prog 99 #[.pointer (some ⟨g, 0, none⟩)] w fun e w' => e = .returned (.tuple #[]) ∧ Turned B g w w' (endT (flush st p)).reverse [] D := by
 match st, h2 with
 | (k, l0) :: (k', l') :: r, _ =>
   simp only [List.length_cons] at hn
   simp only [tot] at hm
   have hrd : PRD B g w ((r.reverse ++ [(k', l')]) ++ [(k, l0)]) p D := by simpa using h
   refine (pend_any B g w (r.reverse ++ [(k', l')]) k l0 (fl l0 p) p D hrd rfl (by simp; omega) (by omega) (fun _ => ⟨_, _, _, rfl, by omega⟩)).mono ?_
   rintro e w' ⟨rfl, h3, h4⟩
   refine ⟨rfl, ?_⟩
   rw [flush_fl]
   by_cases h0 : (fl l0 p).len = 0
   ·have := h3 h0
    rw [endT, if_pos h0]
    simpa using this
   ·have := h4 _ k' l' h0 rfl
    rw [endT, if_neg h0, addTop]
    simpa using this
end Go.Proofs.YthieinfonomeeaaGreatDoor
namespace Go.Proofs.YthieinfonomeeaaGreatDoor
open Go.RowKit Doc Tit Inl
set_option linter.unusedVariables false
attribute [local go_sem ↓] Go.wp_at_zero Go.wp_at_succ
theorem ok_kinds {st : Stk} (h : Ok st) : ∀ i j (hi : i < st.reverse.length) (hj : j < st.reverse.length), i < j → st.reverse[i].1 ≠ st.reverse[j].1 := by
 rcases h with ⟨l, rfl⟩ | ⟨k, a, l, hk, rfl⟩ | ⟨k, k', a, b, l, hk, rfl⟩
 ·intro i j hi hj hij
  simp at hi hj
  omega
 ·intro i j hi hj hij
  simp at hi hj
  have h1 : i = 0 := by omega
  have h2 : j = 1 := by omega
  subst h1 h2
  show (0 : Int) ≠ k
  omega
 ·intro i j hi hj hij
  simp at hi hj
  have h1 : (i = 0 ∧ j = 1) ∨ (i = 0 ∧ j = 2) ∨ (i = 1 ∧ j = 2) := by omega
  rcases h1 with ⟨rfl, rfl⟩ | ⟨rfl, rfl⟩ | ⟨rfl, rfl⟩
  ·show (0 : Int) ≠ k'
   omega
  ·show (0 : Int) ≠ k
   omega
  ·show k' ≠ k
   omega
theorem ops_get {T : Rows} {L : Ops} (h : ops T = L) : T.length = L.length ∧ ∀ i (h1 : i < T.length) (h2 : i < L.length), T[i].1 = L[i].1 := by
 subst h
 exact ⟨(ops_len T).symm, fun i h1 h2 => by simp [ops]⟩
set_option maxRecDepth 20000 in
set_option maxHeartbeats 8000000 in
theorem pchange_any (B g : Nat) (w : World) (st : Stk) (p : List UInt8) (D : Nat → Prop) (k : Int) (h : PRD B g w st.reverse p D) (hok : Ok st) (hk : k = 2 ∨ k = 3) (hm : tot st + p.length ≤ 1000000000) :
  Calls Tryz.prog 154 #[.pointer (some ⟨g, 0, none⟩), .int .i64 k] w fun e w' => e = .returned (.tuple #[]) ∧ Turned B g w w' (toggle k (flush st p)).reverse [] D := by
 have hgl := h.lt
 have hBg := h.le
 have hb1 := below_new0 w (.cells #[.int .i64 k] 3)
 have hX := Known.made w 3 #[.int .i64 k]
 have h1 := h.fresh hb1
 have hk1 : Kept D (fun k => D k ∧ k < w.heap.size ∨ w.heap.size ≤ k) w (w.alloc (.cells #[.int .i64 k] 3)) := fun j hj hl => ⟨.inl ⟨hj, hl⟩, hb1.block j hl⟩
 have hF := pflush_p B g _ st p _ h1 hok hm
 have hok2 : Ok (flush st p) := hok.flush p
 have htf : tot (flush st p) ≤ 1000000000 := Nat.le_trans (tot_flush st p) hm
 obtain ⟨fs, hfs⟩ : ∃ fs, fs = flush st p := ⟨_, rfl⟩
 rw [← hfs] at hF hok2 htf ⊢
 have hlen := ok_len hok2
 have h0 := ok_zero hok2 (k0 := k) (by omega)
 have hkd := ok_kinds hok2
 obtain ⟨L, hL⟩ : ∃ L, L = fs.reverse := ⟨_, rfl⟩
 have hfL : fs = L.reverse := by rw [hL, List.reverse_reverse]
 have hLl : L.length = fs.length := by rw [hL, List.length_reverse]
 rw [← hL] at hF h0
 have hkd : ∀ i j (hi : i < L.length) (hj : j < L.length), i < j → L[i].1 ≠ L[j].1 := by subst hL; exact hkd
 rw [hfL] at htf ⊢
 rw [← hLl] at hlen
 have HF := Lib.hid hF
 have HX := Lib.hid hX
 have HK1 := Lib.hid hk1
 have HB1 := Lib.hid hb1
 have H0 := Lib.hid h0
 have HKD := Lib.hid hkd
 have HTF := Lib.hid htf
 clear h h1 hb1 hX hk1 hF hok hok2 hfs hm h0 hkd hL hfL hLl htf
 go_enter Tryz.func154, Tryz.ntmps154
 go_wp2_with fail
 refine HF.out.mono ?_
 rintro e w2 ⟨rfl, D2, hkp, hP, hbw⟩
 obtain ⟨T, ov, tv, hT, hTL⟩ := hP
 obtain ⟨hTl, hTk⟩ := ops_get hTL
 have hx1 := (hkp w.heap.size (.inr (Nat.le_refl _)) (by rw [World.size_alloc]; omega))
 have hX2 : Known w2 w.heap.size 3 #[.int .i64 k] := hx1.2.trans HX.out
 obtain ⟨r, oc, rfl, hor, hBr, hrl, hcells, hfr⟩ := own_block hT.rows (by omega)
 have hroc : T.length ≤ oc := by
  rcases hT.rows.2 with ⟨h1, _⟩ | ⟨g', cap, cur, h1, _, _, h2, _⟩
  ·cases h1
  ·injection h1 with _ _ h3
   omega
 have hone : ∀ t ∈ T, t.2.2.oneCell' = true := fun t ht => by
  obtain ⟨ys, h1, _⟩ := hT.kids t ht
  obtain ⟨q, c, e⟩ := own_form h1
  rw [e]; rfl
 have hfind := pfind_any w.heap.size r oc k T w2 hX2 hrl hcells hone (by omega)
 have hgl2 := hT.lt
 obtain ⟨n, hn⟩ : ∃ n, n = T.length := ⟨_, rfl⟩
 obtain ⟨d0, d1⟩ := hT.kn.two
 rw [← hn] at hTl hroc hfind d0 hT
 have hn3 : 1 ≤ n ∧ n ≤ 3 := by omega
 have hci : ∀ i (h : i < T.length), w2.cell? ⟨r, i * 2, none⟩ = some (.int .i64 T[i].1) ∧ ∃ (q : Option Addr) (nn cc : Nat), w2.cell? ⟨r, i * 2 + 1, none⟩ = some (.slice q nn cc) := fun i h => by
  obtain ⟨ys, h1, _⟩ := hT.kids T[i] (List.getElem_mem h)
  obtain ⟨q, cc, e⟩ := own_form h1
  exact ⟨hcells _ _ (tcells_idx h).1, q, _, cc, by rw [hcells _ _ (tcells_idx h).2, e]⟩
 have HT := Lib.hid hT
 have HTL := Lib.hid hTL
 have HTLL := Lib.hid hTl
 have HTK := Lib.hid hTk
 have HX2 := Lib.hid hX2
 have HCI := Lib.hid hci
 have HN := Lib.hid hn
 have HFI := Lib.hid hfind
 have HKA := Lib.hid (HK1.out.trans hkp)
 have HBA := Lib.hid ((HB1.out.mono (by omega)).trans hbw)
 clear hT hTL hTl hTk hX2 hci hn hfind hkp hbw hx1 hcells hone HF HX HK1 HB1
 go_wp2_with fail
 refine HFI.out.mono ?_
 rintro e w3 ⟨⟨a, rfl, hfd⟩, hb3⟩
 have hT3 := HT.out.below hb3
 have hX3 := HX2.out.on hb3
 have hk3 : Kept D2 (fun k => D2 k ∧ k < w2.heap.size) w2 w3 := Kept.belowLt hb3
 have HKB := Lib.hid (HKA.out.trans hk3)
 have HBB := Lib.hid (HBA.out.trans (hb3.mono (by omega)))
 have hz3 := hb3.size
 have hrl3 : r < w3.heap.size := by omega
 have hgl3 := hT3.lt
 obtain ⟨e0, e1⟩ := hT3.kn.two
 have ef0 := hT3.kn.free 0
 have x0 := hX3.cell 0
 have x0 : w3.cell? ⟨w.heap.size, 0, none⟩ = some (.int .i64 k) := x0
 have xl := hX3.lt
 have HCI3 : Hid (∀ i (h : i < T.length), w3.cell? ⟨r, i * 2, none⟩ = some (.int .i64 T[i].1) ∧ ∃ (q : Option Addr) (nn cc : Nat), w3.cell? ⟨r, i * 2 + 1, none⟩ = some (.slice q nn cc)) := Lib.hid fun i h => by
  obtain ⟨h1, q, nn, cc, h2⟩ := HCI.out i h
  exact ⟨(hb3.cell (p := ⟨r, i * 2, none⟩) hrl).trans h1, q, nn, cc, (hb3.cell (p := ⟨r, i * 2 + 1, none⟩) hrl).trans h2⟩
 have HT3 := Lib.hid hT3
 have HX3 := Lib.hid hX3
 clear hT3 hX3 hk3 hb3 HT HX2 HCI HFI HKA HBA d0 d1
 rcases hfd with ⟨rfl, hno⟩ | ⟨i, rfl, hiT, hik⟩
 ·have htg : (toggle k L.reverse).reverse = L ++ [(k, .nil)] := by
   rw [toggle_none]
   ·simp
   ·intro x hx
    obtain ⟨j, hj, rfl⟩ := List.getElem_of_mem hx
    have hjT : j < T.length := by rw [← HN.out, HTLL.out]; exact hj
    rw [← HTK.out j hjT hj]
    exact hno j hjT
  have HTG := Lib.hid htg
  have hBW : B ≤ w3.heap.size := by omega
  clear htg hno
  go_wp2_with fail
  go_region_law (first
   | (refine step_append_el _ (by rfl) _ _ (by rfl) (own_on HT3.out.rows fun j hj => (below_new0 w3 _).block j (HT3.out.rows.lt j hj).2) (by rfl) (Src.new _ _ _ 1 1) (by rfl) (by rfl) (by simp [Value.oneCell']) (by rw [← HN.out]; omega) (by simp; omega) ?_; intro v4 w4 hown4 hgr4 hat4
      obtain ⟨r4, c4, rfl, hkn4, hgl4, htu⟩ := push_grown (k := k) (V := (w3.alloc (.cells #[.int .i64 k, .slice none 0 0] 125)).drew) HT3.out HTL.out rfl (by simp) (fun j hj => Below.heap_alloc w3 _ j hj) (((Below.refl B w3).alloc hBW _).drew) hown4 hgr4 hat4
      obtain ⟨e0, e1⟩ := hkn4.two
      have ef0 := hkn4.free 0
      have HTU := Lib.hid htu
      clear hkn4 htu hown4 hgr4 hat4))
  all_goals
   go_wp2_with fail
   refine bodyPost_ret (results_none rfl _ _ _) rfl ?_
   refine ⟨rfl, ?_⟩
   rw [HTG.out]
   exact Turned.after HKB.out HBB.out HTU.out
 ·have hin : i < n := by rw [HN.out]; exact hiT
  have hiL : i < L.length := by rw [← HTLL.out]; exact hin
  have hi0 : 0 < i := by
   rcases Nat.eq_zero_or_pos i with e | e
   ·subst e
    exact absurd ((HTK.out 0 hiT hiL).symm.trans hik) (H0.out (by omega))
   ·exact e
  obtain ⟨C, hC⟩ : ∃ C, C = L.drop (i + 1) := ⟨_, rfl⟩
  obtain ⟨cN, hcN⟩ : ∃ cN, cN = C.length := ⟨_, rfl⟩
  have hlC : i + 1 + cN = n := by rw [hcN, hC, List.length_drop, HTLL.out]; omega
  have hCm : ∀ m (h : m < C.length), ∃ (h2 : i + 1 + m < T.length), C[m].1 = T[i + 1 + m].1 := fun m h => by
   have h3 : i + 1 + m < n := by omega
   have h4 : i + 1 + m < L.length := by rw [← HTLL.out]; exact h3
   have h5 : i + 1 + m < T.length := by rw [← HN.out]; exact h3
   refine ⟨h5, ?_⟩
   rw [HTK.out _ h5 h4]
   subst hC
   rw [List.getElem_drop]
  have hnoC : ∀ x ∈ C, x.1 ≠ k := by
   intro x hx e
   obtain ⟨j, hj, rfl⟩ := List.getElem_of_mem hx
   obtain ⟨h2, e2⟩ := hCm j hj
   have h4 : i + 1 + j < L.length := by rw [← HTLL.out, HN.out]; exact h2
   refine HKD.out i (i + 1 + j) hiL h4 (by omega) ?_
   rw [← HTK.out i hiT hiL, ← HTK.out _ h2 h4, hik, ← e2, e]
  have htg := toggle_at (A := L.take i) (l := L[i].2) hnoC
  have hLe : L.take i ++ (k, L[i].2) :: C = L := by
   rw [hC]
   conv => rhs; rw [ops_at hiL]
   rw [← hik, HTK.out i hiT hiL]
  rw [hLe, ← hcN] at htg
  have hrl2 : L.reverse.length = n := by rw [List.length_reverse, ← HTLL.out]
  have hel := fun j (h : j < n) => endN_length j L.reverse (by rw [hrl2]; exact h)
  rw [hrl2] at hel
  have htot := fun j => Nat.le_trans (tot_endN j L.reverse) HTF.out
  have HTOT := Lib.hid htot
  have HEL := Lib.hid hel
  have HTG := Lib.hid htg
  have HCM := Lib.hid hCm
  have HCN := Lib.hid hcN
  have HLC := Lib.hid hlC
  have g0 : decide ((i : Int) < 0) = false := decide_eq_false (by omega)
  have j1 : (0 : Int) ≤ (i : Int) + 1 := by omega
  have j2 : (i : Int) + 1 ≤ (n : Int) := by omega
  have j3 : i + 1 ≤ n := by omega
  have j4 : n ≤ oc := hroc
  have j5 : n - (i + 1) = cN := by omega
  clear hC hcN hCm hnoC htg hLe hrl2 hel htot H0 HKD hlC hik
  go_upto_region 6 with fail
  go_cut [37, 38, 39] from 31 to 39 (fun s37 s38 s39 wc => ∃ AO CC : Nat, s37 = .slice (some ⟨r, AO, none⟩) cN CC ∧ s38 = .int .i64 cN ∧ s39 = .int .i64 0 ∧ (0 < cN → AO = (i + 1) * 2) ∧ w3 = wc)
  case first =>
   by_cases hoc : oc = i + 1
   ·have ho := eq_true hoc
    have HO := Lib.hid hoc
    clear hoc
    go_wp2_with fail
    go_meet
    case rel => exact ⟨_, _, rfl, rfl, rfl, fun h => by have := HO.out; omega, rfl⟩
   ·have ho := eq_false hoc
    clear hoc
    go_wp2_with fail
    go_meet
    case rel => exact ⟨_, _, rfl, rfl, rfl, fun _ => rfl, rfl⟩
  case rest =>
   obtain ⟨AO, CC, rfl, rfl, rfl, hAO, rfl⟩ := hcut
   have HAO := Lib.hid hAO
   clear hAO j1 j2 j3 j4 j5 g0 e0 e1 ef0 x0 xl
   go_wp2_with fail
   go_loopg [5, 7, 39] (cN + 1) (fun gg s5 s7 s39 wr => ∃ m : Nat, m ≤ cN ∧ cN < m + gg ∧ s39 = .int .i64 (m : Int) ∧ NOwn w3.heap.size wr s5 ((C.take m).map (·.1)) ∧ Below w3.heap.size w3 wr)
   case atStart => exact ⟨0, by omega, by omega, rfl, NOwn.nil _ _, Below.refl _ _⟩
   case round =>
    obtain ⟨m, hm, hgm, rfl, hown, hbw⟩ := hrel
    have hbz := hbw.size
    by_cases hmc : m < cN
    ·have hmC : m < C.length := by rw [← HCN.out]; exact hmc
     obtain ⟨h2, hce⟩ := HCM.out m hmC
     obtain ⟨c0, vq, vn, vc, c1⟩ := HCI3.out _ h2
     rw [← hce] at c0
     have ci := (hbw.cell (p := ⟨r, (i + 1 + m) * 2, none⟩) hrl3).trans c0
     have ci1 := (hbw.cell (p := ⟨r, (i + 1 + m) * 2 + 1, none⟩) hrl3).trans c1
     rw [show (i + 1 + m) * 2 = AO + m * 2 by rw [HAO.out (by omega)]; omega] at ci ci1
     obtain ⟨x, hx⟩ : ∃ x, x = C[m].1 := ⟨_, rfl⟩
     rw [← hx] at ci
     have htk : (C.take m).map (·.1) ++ [x] = (C.take (m + 1)).map (·.1) := by
      rw [List.take_add_one, List.getElem?_eq_getElem hmC, hx, List.map_append]; rfl
     have hlen : ((C.take m).map (·.1)).length ≤ 1000 := by
      have := HLC.out
      rw [List.length_map, List.length_take]; omega
     have HTK1 := Lib.hid htk
     have HLEN := Lib.hid hlen
     have hbn := below_then (below_new0 wr (.cells #[.int .i64 x, .slice vq vn vc] 125)) (below_new0 _ (.cells #[.int .i64 x] 3))
     have HOA := Lib.hid (hown.below hbn)
     have hsb := src_num (wr.alloc (.cells #[.int .i64 x, .slice vq vn vc] 125)) 3 x
     rw [World.size_alloc] at hsb
     have HSB := Lib.hid hsb
     clear hsb
     have HBW := Lib.hid (below_then hbw hbn)
     have g1 : decide ((m : Int) < (cN : Int)) = true := decide_eq_true (by omega)
     have g1' : decide (m < cN) = true := decide_eq_true hmc
     have q0 : (0 : Int) ≤ (m : Int) := by omega
     have q2 : (m : Int) < (cN : Int) := by omega
     have hrlr : r < wr.heap.size := by omega
     have hm3 : m ≤ 1000 := by have := HLC.out; omega
     clear hown hbw h2 hce hx htk hlen hmC hbn c0 c1
     go_wp2_with (at_builtin; go_must (refine append_nums _ rfl _ _ rfl HOA.out rfl HSB.out rfl (by have := HLEN.out; show ((C.take m).map (·.1)).length + 1 ≤ 4000000000; omega) (by simp; omega) ?_); intro v' w5 hown3 hgr hat)
     have HOW3 := Lib.hid hown3
     have HB3 := Lib.hid (below_nums HBW.out HOA.out hgr (by simp; omega))
     clear hown3 hgr hat
     go_wp2_with fail
     go_roundg (cN - m)
     case measure => omega
     case rel =>
      have := HLC.out
      exact ⟨m + 1, by omega, by omega, by go_num, by rw [← HTK1.out]; exact HOW3.out, HB3.out⟩
    ·have hmm : m = cN := by omega
     subst hmm
     have g1 : decide ((m : Int) < (m : Int)) = false := by simp
     have g1' : decide (m < m) = false := by simp
     obtain ⟨cs, hcs⟩ : ∃ cs, cs = C.map (·.1) := ⟨_, rfl⟩
     have hown : NOwn w3.heap.size wr u5 cs := by
      rw [hcs]
      rw [HCN.out, List.take_length] at hown
      exact hown
     have hcl : cs.length = m := by rw [hcs, List.length_map, HCN.out]
     have htg := HTG.out
     rw [← hcs] at htg
     have HTG2 := Lib.hid htg
     have HCL := Lib.hid hcl
     obtain ⟨D3, hD3⟩ : ∃ D3 : Nat → Prop, D3 = fun k => D2 k ∧ k < w2.heap.size := ⟨_, rfl⟩
     have hP3 : PRD B g w3 L [] D3 := by rw [hD3]; exact ⟨T, _, _, HT3.out, HTL.out⟩
     have hk3 : Kept D D3 w w3 := by rw [hD3]; exact HKB.out
     obtain ⟨D4, hD4⟩ : ∃ D4 : Nat → Prop, D4 = fun k => D3 k ∧ k < w3.heap.size ∨ w3.heap.size ≤ k := ⟨_, rfl⟩
     have hP4 : PRD B g wr L [] D4 := by rw [hD4]; exact hP3.fresh hbw
     have hk4 : Kept D3 D4 w3 wr := fun j hj hl => ⟨by rw [hD4]; exact .inl ⟨hj, hl⟩, hbw.block j hl⟩
     have hD4n : ∀ j, w3.heap.size ≤ j → D4 j := fun j hj => by rw [hD4]; exact .inr hj
     have hT0 : Turned B g wr wr (endN 0 L.reverse).reverse [] D4 := by
      rw [endN, List.reverse_reverse]
      exact Turned.refl hP4
     have hNO : ∀ W, (∃ D5, Kept D4 D5 wr W) → NOwn w3.heap.size W u5 cs := fun W ⟨D5, h⟩ => own_on hown fun j hj => by
      have hl := World.ownsRow.lt hown j hj
      exact (h j (hD4n j hl.1) hl.2).2
     have HKD := Lib.hid (hk3.trans hk4)
     have HBD := Lib.hid (HBB.out.trans (hbw.mono (by omega)))
     have HT0 := Lib.hid hT0
     have HNO := Lib.hid hNO
     obtain ⟨T4, ov4, tv4, hT4, _⟩ := hP4
     obtain ⟨d0, d1⟩ := hT4.kn.two
     have hdl := hT4.lt
     have hW4 : ∃ W4, W4 = wr := ⟨_, rfl⟩
     obtain ⟨W4, hW4⟩ := hW4
     rw [← hW4] at HKD HBD HT0 HNO
     have hb4z : B ≤ W4.heap.size := by rw [hW4]; omega
     clear hcs HCN HCM HTG htg hcl hown hbw hD3 hP3 hk3 hD4 hk4 hD4n hT0 hNO hT4 HT3 HX3 HKB HBB HCI3 HTL HTK d1
     go_wp2_with fail
     go_loopg [] (m + 2) (fun gg wr => ∃ j, j ≤ m + 1 ∧ m + 1 < j + gg ∧ Turned B g W4 wr (endN j L.reverse).reverse [] D4)
     case atStart => exact ⟨0, by omega, by omega, by rw [← hW4]; exact HT0.out⟩
     case round =>
      obtain ⟨j, hj, hjg, D5, hk5, hP5, hb5⟩ := hrel
      have hlC := HLC.out
      have hel := HEL.out j (by omega)
      have hto := HTOT.out j
      have hpl := fun h2 => pend_p B g wr (endN j L.reverse) [] D5 hP5 h2 (by rw [hel]; omega) (by simpa using hto)
      rw [hel] at hpl
      have e5 : flush (endN j L.reverse) [] = endN j L.reverse := flush_nil _
      rw [e5, ← endN_snoc] at hpl
      obtain ⟨T5, ov5, tv5, hT5, hTL5⟩ := hP5
      have hT5l : T5.length = n - j := by rw [(ops_get hTL5).1, List.length_reverse, hel]
      obtain ⟨q5, c5, rfl⟩ := own_form hT5.rows
      rw [hT5l] at hT5
      obtain ⟨d0, d1⟩ := hT5.kn.two
      have hdl := hT5.lt
      obtain ⟨x, hx⟩ : ∃ x, x = n - j := ⟨_, rfl⟩
      rw [← hx] at d0 hpl
      have HK5 := Lib.hid hk5
      have HB5 := Lib.hid hb5
      by_cases hjm : j ≤ m
      ·have g2 : decide (i < x) = true := decide_eq_true (by omega)
       have g2' : decide ((i : Int) < (x : Int)) = true := decide_eq_true (by omega)
       have HC := Lib.hid (hpl (by omega))
       clear hpl hx hk5 hb5 hT5 hTL5 hT5l hel hto e5 hlC
       go_wp2_with fail
       refine HC.out.mono ?_
       rintro e w6 ⟨rfl, hR6⟩
       have HR6 := Lib.hid (Turned.after HK5.out HB5.out hR6)
       clear hR6
       go_wp2_with fail
       go_roundg (m + 1 - j)
       case measure => omega
       case rel => exact ⟨j + 1, by omega, by omega, HR6.out⟩
      ·have hjj : j = m + 1 := by omega
       subst hjj
       have g2 : decide (i < x) = false := decide_eq_false (by omega)
       have g2' : decide ((i : Int) < (x : Int)) = false := decide_eq_false (by omega)
       obtain ⟨E, hE⟩ : ∃ E, E = (endN (m + 1) L.reverse).reverse := ⟨_, rfl⟩
       have htg := HTG2.out
       rw [← hE] at htg
       have hEl : E.length ≤ 1000 := by rw [hE, List.length_reverse, hel]; omega
       have htu : Turned B g W4 wr (E ++ (cs.take 0).map (fun k => (k, Ins.nil))) [] D4 := by
        rw [List.take_zero, List.map_nil, List.append_nil, hE]
        exact ⟨D5, hk5, ⟨T5, _, _, hT5, hTL5⟩, hb5⟩
       have HTG3 := Lib.hid htg
       have HTU := Lib.hid htu
       have HEL2 := Lib.hid hEl
       have HM3 : Hid (m ≤ 1000) := Lib.hid (by omega)
       clear hpl hx hk5 hb5 hT5 hTL5 hT5l hel hto e5 hlC hE htg htu hEl HTG2 HTOT HEL
       obtain ⟨p6, c6, hu6⟩ := (HNO.out W4 ⟨D4, fun j hj _ => ⟨hj, rfl⟩⟩).form
       rw [HCL.out] at hu6
       subst hu6
       go_wp2_with fail
       clear d0 d1 hdl
       go_loopg [9, 60] (m + 1) (fun gg s9 s60 wr => ∃ q : Nat, q ≤ m ∧ m < q + gg ∧ s60 = .int .i64 (q : Int) ∧ Turned B g W4 wr (E ++ (cs.take q).map (fun k => (k, Ins.nil))) [] D4)
       case atStart => exact ⟨0, by omega, by omega, rfl, HTU.out⟩
       case round =>
        obtain ⟨q, hq, hqg, rfl, D6, hk6, ⟨T6, ov6, tv6, hT6, hTL6⟩, hb6⟩ := hrel
        by_cases hqm : q < m
        ·have g3 : decide (q < m) = true := decide_eq_true hqm
         have g3' : decide ((q : Int) < (m : Int)) = true := decide_eq_true (by omega)
         have hqc : q < cs.length := by rw [HCL.out]; exact hqm
         have hown := HNO.out wr ⟨D6, hk6⟩
         obtain ⟨g6, cap6, h6, hob6, hB6, hl6, hc6, _⟩ := hown.block (by omega)
         injection h6 with h6 h6b h6c
         subst h6
         clear h6b h6c
         have x6 := hc6 q hqc
         obtain ⟨x, hx⟩ : ∃ x, x = cs[q] := ⟨_, rfl⟩
         rw [← hx] at x6
         obtain ⟨M, hM⟩ : ∃ M, M = E ++ (cs.take q).map (fun k => (k, Ins.nil)) := ⟨_, rfl⟩
         have hM2 : M ++ [(x, Ins.nil)] = E ++ (cs.take (q + 1)).map (fun k => (k, Ins.nil)) := by
          rw [List.take_add_one, List.getElem?_eq_getElem hqc, hx, List.map_append, ← List.append_assoc, ← hM]; rfl
         have hMl : M.length ≤ 2000 := by
          have := HEL2.out
          have := HM3.out
          rw [hM, List.length_append, List.length_map, List.length_take]; omega
         rw [← hM] at hTL6
         have hT6l : T6.length ≤ 2000 := by rw [(ops_get hTL6).1]; exact hMl
         obtain ⟨q6, cc6, rfl⟩ := own_form hT6.rows
         obtain ⟨d0, d1⟩ := hT6.kn.two
         have df0 := hT6.kn.free 0
         have hdl := hT6.lt
         have hBr6 : B ≤ wr.heap.size := by omega
         have hqb : q ≤ 1000 := by have := HM3.out; omega
         obtain ⟨N6, hN6⟩ : ∃ N6, N6 = T6.length := ⟨_, rfl⟩
         rw [← hN6] at d0 hT6 hT6l
         have hrows6 := hT6.rows
         rw [← hN6] at hrows6
         have HT6 := Lib.hid hT6
         have HR6 := Lib.hid hrows6
         have HTL6 := Lib.hid hTL6
         have HN6 := Lib.hid hN6
         have HM2 := Lib.hid hM2
         have HK6 := Lib.hid hk6
         have HB6 := Lib.hid hb6
         have q0 : (0 : Int) ≤ (q : Int) := by omega
         have q2 : (q : Int) < (m : Int) := by omega
         clear hT6 hrows6 hTL6 hN6 hM2 hM hx hk6 hb6 hown hc6 hob6
         go_wp2_with (
          at_builtin
          go_must (refine append_el _ rfl _ _ rfl (own_on HR6.out fun j hj => (below_new0 wr _).block j (HR6.out.lt j hj).2) rfl (Src.new _ _ _ 1 1) rfl rfl (by simp [Value.oneCell']) (by omega) (by simp; omega) ?_)
          intro v4 w4 hown4 hgr4 hat4
          obtain ⟨r4, c4, rfl, hkn4, hgl4, htu⟩ := push_grown (k := x) (V := wr.alloc (.cells #[.int .i64 x, .slice none 0 0] 125)) HT6.out HTL6.out HN6.out (by simp) (fun j hj => Below.heap_alloc wr _ j hj) ((Below.refl B wr).alloc hBr6 _) hown4 hgr4 hat4
          obtain ⟨d0, d1⟩ := hkn4.two
          have df0 := hkn4.free 0
          have HTU9 := Lib.hid (Turned.after HK6.out HB6.out htu)
          clear hkn4 htu hown4 hgr4 hat4)
         go_roundg (m - q)
         case measure => omega
         case rel => exact ⟨q + 1, by omega, by omega, by go_num, by rw [← HM2.out]; exact HTU9.out⟩
        ·have hqq : q = m := by omega
         subst hqq
         have g3 : decide (q < q) = false := by simp
         have g3' : decide ((q : Int) < (q : Int)) = false := by simp
         have hfin : E ++ (cs.take q).map (fun k => (k, Ins.nil)) = (toggle k L.reverse).reverse := by
          rw [HTG3.out, ← HCL.out, List.take_length]
         rw [hfin] at hTL6
         have htu : Turned B g W4 wr (toggle k L.reverse).reverse [] D4 := ⟨D6, hk6, ⟨T6, _, _, hT6, hTL6⟩, hb6⟩
         have HTU9 := Lib.hid htu
         clear hfin hTL6 htu hT6 hk6 hb6
         go_wp2_with fail
         go_end0
         exact ⟨rfl, Turned.after HKD.out HBD.out HTU9.out⟩
end Go.Proofs.YthieinfonomeeaaGreatDoor
namespace Go.Proofs.YthieinfonomeeaaGreatDoor
open Go.RowKit Doc Tit Inl
set_option linter.unusedVariables false
attribute [local go_sem ↓] Go.wp_at_zero Go.wp_at_succ
set_option maxRecDepth 10000 in
set_option maxHeartbeats 1000000 in
theorem prun_any (F : Nat) (pr : UInt8 → Bool) (s : ByteArray) (w : World) (hF : ∀ args w, (callFunc F args).run Tryz.prog w = .ok (.enter F args) w)
  (hp : ∀ (c : UInt8) (W : World), Calls Tryz.prog F #[.int .u8 (c.toNat : Int)] W fun e w' => e = .returned (.bool (pr c)) ∧ W = w') (hs : s.size ≤ 100000000) :
  Calls Tryz.prog 149 #[.string s, .func (.func F) #[] #[]] w fun e w' => e = .returned (.int .i64 ((s.data.toList.takeWhile pr).length : Nat)) ∧ w = w' := by
 have hz : s.data.toList.length = s.size := by simp
 have hba := byte_at s
 have htp := tw_prefix (p := pr) s.data.toList
 have hts := tw_stop (p := pr) s.data.toList
 have htl := tw_le pr s.data.toList
 obtain ⟨q, hq⟩ : ∃ q, q = (s.data.toList.takeWhile pr).length := ⟨_, rfl⟩
 simp only [← hq] at htp hts htl ⊢
 rw [hz] at htl
 have h1 : ∀ n (h : n < s.size), n < q → pr s[n] = true := fun n h hn => by
  obtain ⟨h2, h3⟩ := htp n hn
  obtain ⟨h4, h5⟩ := hba n h
  rw [h5]; exact h3
 have h2 : ∀ h : q < s.size, pr s[q] = false := fun h => by
  obtain ⟨h4, h5⟩ := hba q h
  rw [h5]; exact hts (by rw [hz]; exact h)
 have H1 := Lib.hid h1
 have H2 := Lib.hid h2
 have HP := Lib.hid hp
 clear hz hba htp hts hq h1 h2 hp
 go_enter Tryz.func149, Tryz.ntmps149
 go_wp2_with fail
 go_loopg [5] (q + 1) (fun gg s5 wr => ∃ n : Nat, s5 = .int .i64 n ∧ n ≤ q ∧ q < n + gg ∧ w = wr)
 case atStart => exact ⟨0, rfl, by omega, by omega, rfl⟩
 case round =>
  obtain ⟨n, rfl, hn, hg, rfl⟩ := hrel
  by_cases hlt : n < q
  ·have hin : n < s.size := by omega
   have g1 : decide (n < s.size) = true := decide_eq_true hin
   have hC := HP.out s[n]
   rw [H1.out n hin hlt] at hC
   have HC := Lib.hid hC
   clear hC
   go_wp2_with fail
   refine (HC.out _).mono ?_
   rintro e w1 ⟨rfl, rfl⟩
   go_wp2_with fail
   go_roundg (q - n)
   case measure => omega
   case rel => exact ⟨n + 1, by go_num, by omega, by omega, rfl⟩
  ·have hnq : n = q := by omega
   subst hnq
   by_cases hin : n < s.size
   ·have g1 : decide (n < s.size) = true := decide_eq_true hin
    have hC := HP.out s[n]
    rw [H2.out hin] at hC
    have HC := Lib.hid hC
    clear hC
    go_wp2_with fail
    refine (HC.out _).mono ?_
    rintro e w1 ⟨rfl, rfl⟩
    go_wp2_with fail
    go_ret
    exact ⟨rfl, rfl⟩
   ·have g1 : decide (n < s.size) = false := decide_eq_false hin
    go_wp2_with fail
    go_ret
    exact ⟨rfl, rfl⟩
theorem pquote_any (c : UInt8) (w : World) : Calls Tryz.prog 153 #[.int .u8 (c.toNat : Int)] w fun e w' => e = .returned (.bool (decide (c = 39))) ∧ w = w' := by
 have h : ((c.toNat : Int) == 39) = decide (c = 39) := by
  have h1 : c = 39 ↔ c.toNat = 39 := u8_eq (by decide)
  rw [Bool.eq_iff_iff]
  simp only [beq_iff_eq, decide_eq_true_eq, h1]
  omega
 have H := Lib.hid h
 clear h
 go_enter Tryz.func153, Tryz.ntmps153
 go_wp2_with fail
 go_ret
 exact ⟨by rw [← H.out]; rfl, rfl⟩
theorem enters_quote : ∀ args w, (callFunc 153 args).run Tryz.prog w = .ok (.enter 153 args) w := enters_of Tryz.func153 (by kernel_rfl) rfl
theorem pdigit_any (c : UInt8) (w : World) : Calls Tryz.prog 151 #[.int .u8 (c.toNat : Int)] w fun e w' => e = .returned (.bool (dg c)) ∧ w = w' := by
 rw [dg_eq]
 generalize c.toNat = x
 go_enter Tryz.func151, Tryz.ntmps151
 by_cases h : 48 ≤ x
 ·have g1 : decide ((48 : Int) ≤ (x : Int)) = true := decide_eq_true (by omega)
  have h2 : decide ((x : Int) ≤ 57) = (decide (48 ≤ x) && decide (x ≤ 57)) := by rw [Bool.eq_iff_iff]; simp [h]; omega
  have H2 := Lib.hid h2
  clear h h2
  go_wp2_with fail
  go_ret
  exact ⟨by rw [← H2.out]; rfl, rfl⟩
 ·have g1 : decide ((48 : Int) ≤ (x : Int)) = false := decide_eq_false (by omega)
  have h2 : false = (decide (48 ≤ x) && decide (x ≤ 57)) := by simp [h]
  have H2 := Lib.hid h2
  clear h h2
  go_wp2_with fail
  go_ret
  exact ⟨by rw [← H2.out]; rfl, rfl⟩
theorem enters_digit : ∀ args w, (callFunc 151 args).run Tryz.prog w = .ok (.enter 151 args) w := enters_of Tryz.func151 (by kernel_rfl) rfl
theorem pchange_p (B g : Nat) (w : World) (s : S) (D : Nat → Prop) (k : Int) (h : PP B g w s D) (hk : k = 2 ∨ k = 3) :
  Calls Tryz.prog 154 #[.pointer (some ⟨g, 0, none⟩), .int .i64 k] w fun e w' => e = .returned (.tuple #[]) ∧ PTurn B g w w' (s.toggle k) D := by
 obtain ⟨st, p⟩ := s
 obtain ⟨hrd, hok, hmm⟩ := h
 have hok2 : Ok (toggle k (flush st p)) := (hok.flush p).toggle hk
 refine (pchange_any B g w st p D k hrd hok hk (by simpa [S.m] using hmm)).mono ?_
 rintro e w' ⟨rfl, D', h1, h2, h3⟩
 exact ⟨rfl, D', h1, ⟨h2, hok2, Nat.le_trans (m_toggle _ _) hmm⟩, h3⟩
end Go.Proofs.YthieinfonomeeaaGreatDoor
