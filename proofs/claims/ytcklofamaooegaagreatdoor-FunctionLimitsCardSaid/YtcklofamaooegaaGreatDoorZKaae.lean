/-
  The claim's own texts, packed. Conditions: those typed in each theorem.
-/
import Derived.Test.YtcklofamaooegaaGreatDoorProg
import Derived.WalkKit
import Derived.WalkSpells
import Derived.WalkSmall
import Derived.Deep.QuietTactic
import Derived.BigQuiet
import Derived.Lib.Hide
import Derived.Test.YtcklofamaooegaaGreatDoorZKaaa
set_option maxHeartbeats 4000000
set_option maxRecDepth 10000
set_option linter.unusedVariables false
namespace Go.Proofs.YtcklofamaooegaaGreatDoor
open Go.RowKit
theorem ret_int {k : IntKind} {a b : Int} (h : a = b) : Ending.returned (.int k a) = .returned (.int k b) := by rw [h]
theorem ret_bool {a b : Bool} (h : a = b) : Ending.returned (.bool a) = .returned (.bool b) := by rw [h]
theorem ret_int2 {k l : IntKind} {a b c d : Int} (h : a = b) (h' : c = d) : Ending.returned (.tuple #[.int k a, .int l c]) = .returned (.tuple #[.int k b, .int l d]) := by rw [h, h']
theorem quiet_id {P : Program} {f : FuncId} {args : Array Value} {w : World} {n : Nat} {v : Value}
  (h : Calls P f args (w.drewN n) fun e w' => e = .returned v ∧ w.drewN n = w') : Calls P f args (w.drewN n) fun e w'' => e = .returned v ∧ ∃ m, w'' = w.drewN m :=
 h.mono fun _ _ ⟨he, hm⟩ => ⟨he, n, hm.symm⟩
theorem _root_.Go.RowKit.Below.then_ {w w1 w2 : Go.World} (h : Go.RowKit.Below w.heap.size w w1) (k : Go.RowKit.Below w1.heap.size w1 w2) : Go.RowKit.Below w.heap.size w w2 := h.trans (k.mono h.size)
theorem below_new (w : World) (o : Obj) (n : Nat) : Below w.heap.size w ((w.alloc o).drewN n) := below_drewN ((Below.refl _ _).alloc (Nat.le_refl _) _) _
theorem below_new0 (w : World) (o : Obj) : Below w.heap.size w (w.alloc o) := (Below.refl _ _).alloc (Nat.le_refl _) _
noncomputable def gr (w0 w1 : World) : World := @ite World (Below w0.heap.size w0 w1) (Classical.propDecidable _) w1 w0
theorem gr_of {w0 w1 : World} (h : Below w0.heap.size w0 w1) : gr w0 w1 = w1 := by unfold gr; rw [if_pos h]
theorem gr_below (w0 w1 : World) : Below w0.heap.size w0 (gr w0 w1) := by
 by_cases h : Below w0.heap.size w0 w1
 ·rw [gr_of h]; exact h
 ·unfold gr; rw [if_neg h]; exact Below.refl _ _
@[go_sem] theorem gr_cell (w0 w1 : World) (a : Addr) (h : a.block < w0.heap.size) : (gr w0 w1).cell? a = w0.cell? a := (gr_below w0 w1).cell h
@[go_sem] theorem gr_frozen (w0 w1 : World) (a : Addr) (h : a.block < w0.heap.size) : (gr w0 w1).frozen? a = w0.frozen? a := (gr_below w0 w1).frozen h
theorem gr_more {w0 w1 w2 : World} (h : Below (gr w0 w1).heap.size (gr w0 w1) w2) : ∃ w3, w2 = gr w0 w3 :=
 ⟨w2, (gr_of ((gr_below w0 w1).trans (h.mono (gr_below w0 w1).size))).symm⟩
theorem gr_call {P : Program} {f : FuncId} {args : Array Value} {w0 w1 : World} {v : Value}
  (h : Calls P f args (gr w0 w1) fun e w' => e = .returned v ∧ Below (gr w0 w1).heap.size (gr w0 w1) w') : Calls P f args (gr w0 w1) fun e w'' => e = .returned v ∧ ∃ w2, w'' = gr w0 w2 :=
 h.mono fun _ _ ⟨he, hm⟩ => ⟨he, gr_more hm⟩
theorem gr_same {P : Program} {f : FuncId} {args : Array Value} {w0 w1 : World} {v : Value}
  (h : Calls P f args (gr w0 w1) fun e w' => e = .returned v ∧ gr w0 w1 = w') : Calls P f args (gr w0 w1) fun e w'' => e = .returned v ∧ ∃ w2, w'' = gr w0 w2 :=
 h.mono fun _ _ ⟨he, hm⟩ => ⟨he, w1, hm.symm⟩
theorem wp_region_gr {P : Program} {id : Nat} {Q : Exit → Act → World → Prop} {a : Act} {w : World} {l : List Oper} (hm : P.follows .mixedOrders = true) (hB : Region.lexB .any l.toArray = true)
  (h : wpQuiet P l.toArray (fun w' => ∃ w1, w' = gr w w1) (fun a' => ∀ w', (∃ w1, w' = gr w w1) → Q .normal a' w') l a) : (Code.region id l.toArray true).wp P Q a w :=
 wp_region_quiet (C := fun w' => ∃ w1, w' = gr w w1) hm hB ⟨w.drew, (gr_of (Below.refl _ _).drew).symm⟩ (by simpa using h)
def Known (w : World) (g : Nat) (t : TypeId) (cs : Array Value) : Prop := w.heap[g]? = some (.cells cs t (0, 0))
section
variable {w w' : World} {g : Nat} {t : TypeId} {cs : Array Value}
theorem Known.lt (h : Known w g t cs) : g < w.heap.size := lt_of_block h
theorem Known.cell (h : Known w g t cs) (i : Nat) : w.cell? ⟨g, i, none⟩ = cs[i]? := by
 unfold Known at h
 simp [World.cell?, h]
theorem Known.free (h : Known w g t cs) (i : Nat) : w.frozen? ⟨g, i, none⟩ = false := by
 unfold Known at h
 simp [World.frozen?, h]
theorem Known.made (w : World) (t : TypeId) (cs : Array Value) : Known (w.alloc (.cells cs t)) w.heap.size t cs := by
 show (w.heap.push _)[w.heap.size]? = _
 simp
theorem Known.alloc (h : Known w g t cs) (o : Obj) : Known (w.alloc o) g t cs := (Below.heap_alloc w o g h.lt).trans h
theorem Known.below {B : Nat} (h : Known w g t cs) (hb : Below B w w') (hg : g < B) : Known w' g t cs := (hb.block g hg).trans h
theorem Known.on (h : Known w g t cs) (hb : Below w.heap.size w w') : Known w' g t cs := h.below hb h.lt
theorem Known.put (h : Known w g t cs) (i : Nat) (u : Value) : Known (w.setCell ⟨g, i, none⟩ u) g t (cs.setIfInBounds i u) := by
 unfold Known at h ⊢
 simp [World.setCell, Array.getElem?_modify, h]
theorem Known.three {a b c : Value} (h : Known w g t #[a, b, c]) : w.cell? ⟨g, 0, none⟩ = some a ∧ w.cell? ⟨g, 1, none⟩ = some b ∧ w.cell? ⟨g, 2, none⟩ = some c :=
 ⟨h.cell 0, h.cell 1, h.cell 2⟩
theorem Known.two {a b : Value} (h : Known w g t #[a, b]) : w.cell? ⟨g, 0, none⟩ = some a ∧ w.cell? ⟨g, 1, none⟩ = some b :=
 ⟨h.cell 0, h.cell 1⟩
theorem Known.one {a : Value} (h : Known w g t #[a]) : w.cell? ⟨g, 0, none⟩ = some a := h.cell 0
theorem Known.far (h : Known w g t cs) {p : Addr} (hp : g ≠ p.block) (u : Value) : Known (w.setCell p u) g t cs := (Below.heap_setCell w p u g hp).trans h
end
end Go.Proofs.YtcklofamaooegaaGreatDoor
namespace Go.Proofs.YtcklofamaooegaaGreatDoor
namespace Num
def gc (n d : Int) : Int := (Int.gcd n d : Int)
def sN (n d : Int) : Int := if d < 0 then -n else n
def sD (d : Int) : Int := if d < 0 then -d else d
def rN (n d : Int) : Int := sN n d / gc n d
def rD (n d : Int) : Int := sD d / gc n d
def rB (n d : Int) : Bool := decide (-1000000000 ≤ rN n d ∧ rN n d ≤ 1000000000 ∧ rD n d ≤ 1000000000)
def redN (n d : Int) : Int := if rB n d = true then rN n d else 0
def redD (n d : Int) : Int := if rB n d = true then rD n d else 0
def redE (n d : Int) : Int := if rB n d = true then 0 else 15
def val (n d : Int) : Bool := decide (-1000000000 ≤ n ∧ n ≤ 1000000000 ∧ 1 ≤ d ∧ d ≤ 1000000000 ∧ Int.gcd n d = 1)
theorem val_iff {n d : Int} : val n d = true ↔ (-1000000000 ≤ n ∧ n ≤ 1000000000 ∧ 1 ≤ d ∧ d ≤ 1000000000 ∧ Int.gcd n d = 1) := by simp [val]
theorem gcd_mod {x y : Int} (hx : 0 ≤ x) (hy : 0 ≤ y) : Int.gcd (x % y) y = Int.gcd x y := by
 obtain ⟨m, rfl⟩ := Int.eq_ofNat_of_zero_le hx
 obtain ⟨n, rfl⟩ := Int.eq_ofNat_of_zero_le hy
 rw [← Int.natCast_emod, Int.gcd_natCast_natCast, Int.gcd_natCast_natCast, ← Nat.gcd_rec, Nat.gcd_comm]
theorem gc_pos (n : Int) {d : Int} (hd : d ≠ 0) : 1 ≤ gc n d := by
 have := Int.gcd_pos_of_ne_zero_right n hd
 unfold gc; omega
theorem gc_amount (n d : Int) : gc (max n (-n)) d = gc n d := by
 unfold gc
 rcases Int.le_total 0 n with h | h
 ·rw [Int.max_eq_left (by omega)]
 ·rw [Int.max_eq_right (by omega), Int.neg_gcd]
theorem gc_neg (n d : Int) : gc (-n) (-d) = gc n d := by unfold gc; rw [Int.gcd_neg, Int.neg_gcd]
theorem gc_dvd_n (n d : Int) : gc n d ∣ n := Int.gcd_dvd_left n d
theorem gc_dvd_d (n d : Int) : gc n d ∣ d := Int.gcd_dvd_right n d
theorem gc_dvd_s (n d e : Int) : gc n d ∣ sN n e := by unfold sN; split; exact (Int.dvd_neg).2 (gc_dvd_n n d); exact gc_dvd_n n d
theorem gc_dvd_sd (n d : Int) : gc n d ∣ sD d := by unfold sD; split; exact (Int.dvd_neg).2 (gc_dvd_d n d); exact gc_dvd_d n d
theorem sD_pos {d : Int} (hd : d ≠ 0) : 1 ≤ sD d := by unfold sD; split <;> omega
theorem rN_tdiv (n d : Int) : (sN n d).tdiv (gc n d) = rN n d := Int.tdiv_eq_ediv_of_dvd (gc_dvd_s n d d)
theorem rN_mul (n d : Int) : gc n d * rN n d = sN n d := Int.mul_ediv_cancel' (gc_dvd_s n d d)
theorem rD_mul (n d : Int) : gc n d * rD n d = sD d := Int.mul_ediv_cancel' (gc_dvd_sd n d)
theorem rD_pos (n : Int) {d : Int} (hd : d ≠ 0) : 1 ≤ rD n d := by
 have h1 := gc_pos n hd
 have h2 := sD_pos hd
 have h3 := rD_mul n d
 by_cases h : rD n d ≤ 0
 ·have : gc n d * rD n d ≤ 0 := Int.mul_nonpos_of_nonneg_of_nonpos (by omega) h
  omega
 ·omega
theorem rD_le (n : Int) {d : Int} (hd : d ≠ 0) : rD n d ≤ sD d := by
 have h1 := gc_pos n hd
 have h2 := sD_pos hd
 exact Int.ediv_le_self _ (by omega)
theorem rN_abs (n : Int) {d : Int} (hd : d ≠ 0) : max (rN n d) (-rN n d) ≤ max n (-n) := by
 have h1 := gc_pos n hd
 have h3 := rN_mul n d
 have h4 : max (sN n d) (-sN n d) = max n (-n) := by unfold sN; split <;> omega
 rw [← h4]
 generalize rN n d = q at *
 generalize gc n d = g at *
 generalize sN n d = s at *
 subst h3
 rcases Int.le_total 0 q with h | h
 ·have : q ≤ g * q := by
   have := Int.mul_le_mul_of_nonneg_right (show 1 ≤ g by omega) h
   omega
  omega
 ·have : g * q ≤ q := by
   have := Int.mul_le_mul_of_nonpos_right (show 1 ≤ g by omega) h
   omega
  omega
theorem gcd_red (n : Int) {d : Int} (hd : d ≠ 0) : Int.gcd (rN n d) (rD n d) = 1 := by
 have h1 := gc_pos n hd
 have h : Int.gcd (sN n d) (sD d) = Int.gcd n d := by
  unfold sN sD; split
  ·rw [Int.gcd_neg, Int.neg_gcd]
  ·rfl
 unfold rN rD gc
 rw [← h]
 refine Int.gcd_ediv_gcd_ediv_gcd ?_
 rw [h]; unfold gc at h1; omega
theorem red_val {n d : Int} (hd : d ≠ 0) (h : rB n d = true) : val (rN n d) (rD n d) = true := by
 simp only [rB, decide_eq_true_eq] at h
 exact val_iff.2 ⟨h.1, h.2.1, rD_pos n hd, h.2.2, gcd_red n hd⟩
end Num
namespace Num
theorem sN_sD {n d : Int} (_hd : d ≠ 0) : sN n d * d = n * sD d := by
 unfold sN sD; split
 ·rw [Int.neg_mul, Int.mul_neg]
 ·rfl
theorem r_cross (n : Int) {d : Int} (hd : d ≠ 0) : rN n d * d = n * rD n d := by
 have h1 := rN_mul n d
 have h2 := rD_mul n d
 have h3 := gc_pos n hd
 have h4 := sN_sD (n := n) hd
 refine Int.eq_of_mul_eq_mul_left (show gc n d ≠ 0 by omega) ?_
 rw [← Int.mul_assoc, h1, h4, ← h2, Int.mul_left_comm]
theorem dvd_co {k m n : Int} (g : Int.gcd k m = 1) (h : k ∣ m * n) : k ∣ n := by
 have h1 := Int.natAbs_dvd_natAbs.2 h
 rw [Int.natAbs_mul] at h1
 exact Int.natAbs_dvd_natAbs.1 (Nat.Coprime.dvd_of_dvd_mul_left (show Nat.Coprime k.natAbs m.natAbs from g) h1)
theorem uniq {p q r s : Int} (hq : 1 ≤ q) (hs : 1 ≤ s) (g1 : Int.gcd p q = 1) (g2 : Int.gcd r s = 1) (h : p * s = r * q) : p = r ∧ q = s := by
 have d1 : q ∣ s := by
  have : q ∣ p * s := ⟨r, by rw [h, Int.mul_comm]⟩
  exact dvd_co (by rw [Int.gcd_comm]; exact g1) this
 have d2 : s ∣ q := by
  have : s ∣ r * q := ⟨p, by rw [← h, Int.mul_comm]⟩
  exact dvd_co (by rw [Int.gcd_comm]; exact g2) this
 have e : q = s := by
  have := Int.le_of_dvd (by omega) d1
  have := Int.le_of_dvd (by omega) d2
  omega
 subst e
 exact ⟨Int.eq_of_mul_eq_mul_right (by omega) h, rfl⟩
def red (n d : Int) : Int × Int × Int := (redN n d, redD n d, redE n d)
theorem r_val {a b : Int} (v : val a b = true) : rN a b = a ∧ rD a b = b := by
 obtain ⟨k1, k2, k3, k4, k5⟩ := val_iff.1 v
 have hb : b ≠ 0 := by omega
 refine uniq (rD_pos a hb) k3 (gcd_red a hb) k5 (r_cross a hb)
theorem red_val_self {a b : Int} (v : val a b = true) : red a b = (a, b, 0) := by
 obtain ⟨k1, k2, k3, k4, k5⟩ := val_iff.1 v
 obtain ⟨h1, h2⟩ := r_val v
 have h3 : rB a b = true := by unfold rB; rw [h1, h2]; simp; omega
 simp only [red, redN, redD, redE, h1, h2, h3, if_true]
theorem red_ok {n d : Int} (hd : d ≠ 0) (h : redE n d = 0) : val (redN n d) (redD n d) = true ∧ redN n d * d = n * redD n d := by
 cases hr : rB n d
 ·rw [redE, hr] at h; simp at h
 ·simp only [redN, redD, hr, if_true]
  exact ⟨red_val hd hr, r_cross n hd⟩
end Num
end Go.Proofs.YtcklofamaooegaaGreatDoor
namespace Go.Proofs.YtcklofamaooegaaGreatDoor
open Go.RowKit
theorem length_any (y m : Int) (w : World) (hy : 0 ≤ y) (hy2 : y ≤ 3000) :
  Calls Tryz.prog 125 #[.int .i64 y, .int .i64 m] w fun e w' => e = .returned (.int .i64 (Cal.dim y m)) ∧ w = w' := by
 go_enter Tryz.func125, Tryz.ntmps125
 go_wp2
 all_goals
  go_ret
  refine ⟨ret_int ?_, rfl⟩
  simp_all [Cal.dim]
theorem before_any (y : Int) (w : World) (hy : 2000 ≤ y) (hy2 : y ≤ 3000) :
  Calls Tryz.prog 126 #[.int .i64 y] w fun e w' => e = .returned (.int .i64 (Cal.dby y)) ∧ w = w' := by
 go_enter Tryz.func126, Tryz.ntmps126
 go_wp2
 go_ret
 exact ⟨rfl, rfl⟩
def instB (n : Int) : Bool := decide (0 ≤ n ∧ n ≤ 52595999)
theorem instB_iff {n : Int} : instB n = true ↔ 0 ≤ n ∧ n ≤ 52595999 := by simp [instB]
theorem instant_any (n : Int) (w : World) :
  Calls Tryz.prog 68 #[.int .i64 n] w fun e w' => e = .returned (.bool (instB n)) ∧ w = w' := by
 go_enter Tryz.func68, Tryz.ntmps68
 go_wp2
 all_goals go_ret
 all_goals exact ⟨ret_bool (by rw [Bool.eq_iff_iff]; simp [instB]; omega), rfl⟩
theorem weekday_yes (n : Int) (w : World) (h : instB n = true) :
  Calls Tryz.prog 129 #[.int .i64 n] w fun e w' => e = .returned (.tuple #[.int .i64 ((n / 1440 + 5) % 7 + 1), .int .i64 0]) ∧ w = w' := by
 obtain ⟨h1, h2⟩ := instB_iff.1 h
 go_enter Tryz.func129, Tryz.ntmps129
 go_wp2_with (go_at_call 68; refine (instant_any _ _).mono ?_; rintro e w' ⟨rfl, rfl⟩)
 go_ret2
 exact ⟨rfl, rfl⟩
theorem minute_no (y m d c : Int) (w : World) (hv : Cal.vd y m d c = false) :
  Calls Tryz.prog 67 #[.agg #[.int .i64 y, .int .i64 m, .int .i64 d], .int .i64 c] w fun e w' => e = .returned (.tuple #[.int .i64 0, .int .i64 2]) ∧ Below w.heap.size w w' := by
 by_cases c0 : y < 2000
 ·have e0 : decide (y < 2000) = true := by simpa using c0
  go_enter Tryz.func67, Tryz.ntmps67
  go_wp2
  go_quiet ((go_at_call 125; exact quiet_id (length_any _ _ _ (by omega) (by omega))))
  go_wp2
  go_ret2
  exact ⟨rfl, below_new _ _ _⟩
 have e0 : decide (y < 2000) = false := by simpa using c0
 by_cases c1 : 2100 ≤ y
 ·have e1 : decide (2100 ≤ y) = true := by simpa using c1
  go_enter Tryz.func67, Tryz.ntmps67
  go_wp2
  go_quiet ((go_at_call 125; exact quiet_id (length_any _ _ _ (by omega) (by omega))))
  go_wp2
  go_ret2
  exact ⟨rfl, below_new _ _ _⟩
 have e1 : decide (2100 ≤ y) = false := by simpa using c1
 by_cases c2 : m < 1
 ·have e2 : decide (m < 1) = true := by simpa using c2
  go_enter Tryz.func67, Tryz.ntmps67
  go_wp2
  go_quiet ((go_at_call 125; exact quiet_id (length_any _ _ _ (by omega) (by omega))))
  go_wp2
  go_ret2
  exact ⟨rfl, below_new _ _ _⟩
 have e2 : decide (m < 1) = false := by simpa using c2
 by_cases c3 : 12 < m
 ·have e3 : decide (12 < m) = true := by simpa using c3
  go_enter Tryz.func67, Tryz.ntmps67
  go_wp2
  go_quiet ((go_at_call 125; exact quiet_id (length_any _ _ _ (by omega) (by omega))))
  go_wp2
  go_ret2
  exact ⟨rfl, below_new _ _ _⟩
 have e3 : decide (12 < m) = false := by simpa using c3
 by_cases c4 : d < 1
 ·have e4 : decide (d < 1) = true := by simpa using c4
  go_enter Tryz.func67, Tryz.ntmps67
  go_wp2
  go_quiet ((go_at_call 125; exact quiet_id (length_any _ _ _ (by omega) (by omega))))
  go_wp2
  go_ret2
  exact ⟨rfl, below_new _ _ _⟩
 have e4 : decide (d < 1) = false := by simpa using c4
 by_cases c5 : Cal.dim y m < d
 ·have e5 : decide (Cal.dim y m < d) = true := by simpa using c5
  go_enter Tryz.func67, Tryz.ntmps67
  go_wp2
  go_quiet ((go_at_call 125; exact quiet_id (length_any _ _ _ (by omega) (by omega))))
  go_wp2
  go_ret2
  exact ⟨rfl, below_new _ _ _⟩
 have e5 : decide (Cal.dim y m < d) = false := by simpa using c5
 by_cases c6 : c < 0
 ·have e6 : decide (c < 0) = true := by simpa using c6
  go_enter Tryz.func67, Tryz.ntmps67
  go_wp2
  go_quiet ((go_at_call 125; exact quiet_id (length_any _ _ _ (by omega) (by omega))))
  go_wp2
  go_ret2
  exact ⟨rfl, below_new _ _ _⟩
 have e6 : decide (c < 0) = false := by simpa using c6
 by_cases c7 : 1440 ≤ c
 ·have e7 : decide (1440 ≤ c) = true := by simpa using c7
  go_enter Tryz.func67, Tryz.ntmps67
  go_wp2
  go_quiet ((go_at_call 125; exact quiet_id (length_any _ _ _ (by omega) (by omega))))
  go_wp2
  go_ret2
  exact ⟨rfl, below_new _ _ _⟩
 have e7 : decide (1440 ≤ c) = false := by simpa using c7
 exfalso
 have := (Cal.vd_iff (y := y) (m := m) (d := d) (c := c)).2 (by omega)
 simp [hv] at this
theorem minute_yes (y m d c : Int) (w : World) (hv : Cal.vd y m d c = true) :
  Calls Tryz.prog 67 #[.agg #[.int .i64 y, .int .i64 m, .int .i64 d], .int .i64 c] w fun e w' => e = .returned (.tuple #[.int .i64 ((Cal.dby y + Cal.cum y m + d - 1) * 1440 + c), .int .i64 0]) ∧ Below w.heap.size w w' := by
 obtain ⟨h1, h2, h3, h4, h5, h6, h7, h8⟩ := Cal.vd_iff.1 hv
 clear hv
 have d0 : decide (y < 2000) = false := by simp; omega
 have d1 : decide (2100 ≤ y) = false := by simp; omega
 have d2 : decide (m < 1) = false := by simp; omega
 have d3 : decide (12 < m) = false := by simp; omega
 have d4 : decide (d < 1) = false := by simp; omega
 have d5 : decide (Cal.dim y m < d) = false := by simp; omega
 have d6 : decide (c < 0) = false := by simp; omega
 have d7 : decide (1440 ≤ c) = false := by simp; omega
 have hd := Cal.dim_bd y m
 have hb := Cal.dby_bd y h1 (by omega)
 go_enter Tryz.func67, Tryz.ntmps67
 go_wp2
 go_quiet ((go_at_call 125; exact quiet_id (length_any _ _ _ (by omega) (by omega))))
 clear d0 d1 d2 d3 d4 d5 d6 d7
 go_wp2_with fail
 refine (before_any _ _ (by omega) (by omega)).mono ?_
 rintro e w' ⟨rfl, rfl⟩
 go_wp2
 go_loop [6, 7] (fun n i => ∃ k : Int, 1 ≤ k ∧ k ≤ m ∧ i = .int .i64 k ∧ n = .int .i64 (Cal.dby y + Cal.cum y k)) (fun _ i => (12 - intOf i).toNat)
 case atStart => exact ⟨1, by omega, h3, rfl, by rw [Cal.cum_one, Int.add_zero]⟩
 case round =>
  obtain ⟨k, hk1, hk2, rfl, rfl⟩ := hrel
  have hc := Cal.cum_bd y k hk1 (by omega)
  have hk := Cal.dim_bd y k
  by_cases hlt : k < m
  ·have hs := Lib.hid (Cal.cum_succ y k hk1 (by omega))
   go_wp2_with (go_at_call 125; refine (length_any _ _ _ (by omega) (by omega)).mono ?_; rintro e w' ⟨rfl, rfl⟩)
   go_round
   case rel => exact ⟨k + 1, by omega, by omega, by go_num, by rw [hs.out]; go_num⟩
   case measure => simp [intOf]; omega
  ·obtain rfl : k = m := by omega
   go_wp2
   go_ret2
   exact ⟨ret_int2 (by omega) rfl, below_new _ _ _⟩
end Go.Proofs.YtcklofamaooegaaGreatDoor
namespace Go.Proofs.YtcklofamaooegaaGreatDoor
theorem mask_i64 (k : Nat) (hk : k ≤ 62) (n : Int) (m : Int) (hm : m = 2 ^ k - 1) : bits BinOp.and IntKind.i64 n m = n % 2 ^ k := by
 subst hm
 have hp : (2 : Nat) ^ k ≤ 2 ^ 62 := Nat.pow_le_pow_right (by decide) hk
 have h1 : 1 ≤ (2 : Nat) ^ k := Nat.one_le_two_pow
 have e : ((2 : Int) ^ k) = ((2 ^ k : Nat) : Int) := by simp
 have hb : IntKind.i64.bits = 64 := rfl
 have e64 : (2 : Int) ^ 64 = 18446744073709551616 := by decide
 have e62 : (2 : Nat) ^ 62 = 4611686018427387904 := by decide
 have a1 : (BitVec.ofInt 64 n).toNat = (n % 18446744073709551616).toNat := by rw [BitVec.toNat_ofInt]; rfl
 have a2 : (BitVec.ofInt 64 ((2 : Int) ^ k - 1)).toNat = 2 ^ k - 1 := by
  rw [BitVec.toNat_ofInt]
  rw [e]
  show ((((2 ^ k : Nat) : Int) - 1) % ((18446744073709551616 : Nat) : Int)).toNat = _
  generalize (2 : Nat) ^ k = p at *
  omega
 have key : (BitVec.ofInt 64 n).toNat &&& (BitVec.ofInt 64 ((2 : Int) ^ k - 1)).toNat = (n % 18446744073709551616).toNat % 2 ^ k := by rw [a1, a2, Nat.and_two_pow_sub_one_eq_mod]
 show IntKind.i64.wrap (((BitVec.ofInt 64 n &&& BitVec.ofInt 64 ((2 : Int) ^ k - 1)).toNat : Nat) : Int) = _
 rw [BitVec.toNat_and, key, e]
 have hdvd : (2 ^ k : Nat) ∣ 18446744073709551616 := ⟨2 ^ (64 - k), by rw [← Nat.pow_add, show k + (64 - k) = 64 by omega]⟩
 obtain ⟨q, hq⟩ := hdvd
 have hmod : ((n % 18446744073709551616).toNat % 2 ^ k : Nat) = (n % ((2 ^ k : Nat) : Int)).toNat := by
  apply Int.ofNat_inj.1
  rw [Int.natCast_emod, Int.toNat_of_nonneg (Int.emod_nonneg _ (by decide)), Int.toNat_of_nonneg (Int.emod_nonneg _ (by omega))]
  exact Int.emod_emod_of_dvd n ⟨(q : Int), by rw [← Int.natCast_mul, ← hq]; rfl⟩
 rw [hmod, Int.toNat_of_nonneg (Int.emod_nonneg _ (by omega))]
 apply IntWalk.i64_in
 have := Int.emod_nonneg n (show ((2 ^ k : Nat) : Int) ≠ 0 by omega)
 have := Int.emod_lt_of_pos n (show (0 : Int) < ((2 ^ k : Nat) : Int) by omega)
 omega
end Go.Proofs.YtcklofamaooegaaGreatDoor
