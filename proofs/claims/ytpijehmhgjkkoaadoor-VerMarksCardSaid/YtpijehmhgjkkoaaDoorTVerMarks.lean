/- The plain laws for the statement VerMarks: what the functions tell, as functions of lists of bytes, and the statement of them. Plain theorems. -/
import Derived.Test.YtpijehmhgjkkoaaDoorAVerMarks3
import Derived.Lib.Bytealg
import Derived.Test.YtpijehmhgjkkoaaDoorVVerMarksWords
import Derived.Test.YtpijehmhgjkkoaaDoorVVerMarksLast
import Derived.Lib.Strings
import Derived.Lib.IndexAny
import Derived.Lib.SlTrimSet
namespace Go.Proofs.YtpijehmhgjkkoaaDoorW.VC
set_option linter.unusedVariables false
/-- A comparison that tells -1, 0 or 1, turned round the contrary, and is in one row. -/
structure Cmp {α : Type} (c : α → α → Int) : Prop where
  rng : ∀ a b, c a b = -1 ∨ c a b = 0 ∨ c a b = 1
  anti : ∀ a b, c b a = - c a b
  trans : ∀ a b d, c a b ≤ 0 → c b d ≤ 0 → c a d ≤ 0
theorem Cmp.self {α : Type} {c : α → α → Int} (h : Cmp c) (a : α) : c a a = 0 := by have := h.anti a a; omega
theorem Cmp.cong {α : Type} {c : α → α → Int} (h : Cmp c) {a b : α} (e : c a b = 0) (d : α) : c a d = c b d := by
  have e' : c b a = 0 := by rw [h.anti]; omega
  have h1 := h.trans a b d; have h2 := h.trans b a d
  have h3 := h.trans d b a; have h4 := h.trans d a b
  have r1 := h.rng a d; have r2 := h.rng b d
  have a1 := h.anti a d; have a2 := h.anti b d
  omega
theorem Cmp.comap {α β : Type} {c : α → α → Int} (h : Cmp c) (f : β → α) : Cmp (fun a b => c (f a) (f b)) :=
  ⟨fun _ _ => h.rng _ _, fun _ _ => h.anti _ _, fun _ _ _ => h.trans _ _ _⟩
def sgn (a b : Int) : Int := if a < b then -1 else if b < a then 1 else 0
theorem sgn_cmp : Cmp sgn := by
  refine ⟨fun a b => ?_, fun a b => ?_, fun a b d => ?_⟩ <;> unfold sgn <;> (repeat' split) <;> omega
theorem sgn_zero {a b : Int} : sgn a b = 0 ↔ a = b := by unfold sgn; (repeat' split) <;> omega
def orr (x y : Int) : Int := if x = 0 then y else x
theorem orr_zero {x y : Int} : orr x y = 0 ↔ x = 0 ∧ y = 0 := by unfold orr; split <;> omega
theorem Cmp.lex {α : Type} {c d : α → α → Int} (h : Cmp c) (k : Cmp d) : Cmp (fun a b => orr (c a b) (d a b)) := by
  refine ⟨fun a b => ?_, fun a b => ?_, fun a b e => ?_⟩
  · have := h.rng a b; have := k.rng a b; unfold orr; split <;> omega
  · have h1 := h.anti a b; have h2 := k.anti a b; unfold orr; (repeat' split) <;> omega
  · have h1 := h.trans a b e; have h2 := k.trans a b e
    have r1 := h.rng a b; have r2 := h.rng b e; have r3 := h.rng a e
    have c1 : c a b = 0 → c a e = c b e := fun z => h.cong z e
    have c2 : c b e = 0 → c a b = c a e := fun z => by
      have z' : c e b = 0 := by rw [h.anti]; omega
      have := h.cong z' a; have := h.anti a b; have := h.anti a e
      have := h.anti e a; have := h.anti b a; omega
    have c3 : c a e = 0 → c b e = - c a b := fun z => by have := h.cong z b; have := h.anti e b; have := h.anti b e; omega
    intro p q
    unfold orr at p q ⊢
    (repeat' split at p) <;> (repeat' split at q) <;> (repeat' split) <;> omega
variable {α : Type}
def pad (c : α → α → Int) (z : α) : List α → List α → Int
  | [], [] => 0
  | [], b :: m => orr (c z b) (pad c z [] m)
  | a :: l, [] => orr (c a z) (pad c z l [])
  | a :: l, b :: m => orr (c a b) (pad c z l m)
def padN (c : α → α → Int) (z : α) : Nat → List α → List α → Int
  | 0, _, _ => 0
  | n + 1, l, m => orr (c (l.headD z) (m.headD z)) (padN c z n l.tail m.tail)
theorem padN_nil {c : α → α → Int} (h : Cmp c) (z : α) : ∀ n, padN c z n [] [] = 0
  | 0 => rfl
  | n + 1 => by
    show orr (c z z) (padN c z n [] []) = 0
    rw [padN_nil h z n, orr_zero]
    exact ⟨h.self z, rfl⟩
theorem pad_N {c : α → α → Int} (h : Cmp c) (z : α) : ∀ n (l m : List α), l.length ≤ n → m.length ≤ n → pad c z l m = padN c z n l m
  | 0, [], [], _, _ => by simp [pad, padN]
  | n + 1, [], [], _, _ => by rw [padN_nil h]; simp [pad]
  | n + 1, [], b :: m, h1, h2 => by
    have := pad_N h z n [] m (by simp) (by simp at h2; omega)
    simp [pad, padN, this]
  | n + 1, a :: l, [], h1, h2 => by
    have := pad_N h z n l [] (by simp at h1; omega) (by simp)
    simp [pad, padN, this]
  | n + 1, a :: l, b :: m, h1, h2 => by
    have := pad_N h z n l m (by simp at h1; omega) (by simp at h2; omega)
    simp [pad, padN, this]
theorem padN_cmp {c : α → α → Int} (h : Cmp c) (z : α) : ∀ n, Cmp (padN c z n)
  | 0 => ⟨fun _ _ => .inr (.inl rfl), fun _ _ => rfl, fun _ _ _ _ _ => Int.le_refl 0⟩
  | n + 1 => Cmp.lex (h.comap (fun l : List α => l.headD z)) ((padN_cmp h z n).comap List.tail)
theorem pad_cmp {c : α → α → Int} (h : Cmp c) (z : α) : Cmp (pad c z) := by
  refine ⟨fun a b => ?_, fun a b => ?_, fun a b d => ?_⟩
  · rw [pad_N h z (max a.length b.length) a b (by omega) (by omega)]
    exact (padN_cmp h z _).rng _ _
  · rw [pad_N h z (max a.length b.length) a b (by omega) (by omega), pad_N h z (max a.length b.length) b a (by omega) (by omega)]
    exact (padN_cmp h z _).anti _ _
  · rw [pad_N h z (max a.length (max b.length d.length)) a b (by omega) (by omega), pad_N h z (max a.length (max b.length d.length)) b d (by omega) (by omega), pad_N h z (max a.length (max b.length d.length)) a d (by omega) (by omega)]
    exact (padN_cmp h z _).trans _ _ _

theorem pad_zero {c : α → α → Int} (h : Cmp c) (z : α) (l : List α) : pad c z l l = 0 := (pad_cmp h z).self l
theorem u8_cmp : Cmp (fun a b : UInt8 => sgn (a.toNat : Int) (b.toNat : Int)) := sgn_cmp.comap _
/-- The order of two texts, as a filled order: the end stands below each byte. -/
def val (c : UInt8) : Int := (c.toNat : Int)
def lexB (l m : List UInt8) : Int := pad sgn (-1) (l.map val) (m.map val)
theorem lexB_cmp : Cmp lexB := (pad_cmp sgn_cmp (-1)).comap (fun l : List UInt8 => l.map val)
theorem compare_lexB : ∀ l m : List UInt8, Lib.compareBytes l m = lexB l m
  | [], [] => by simp [Lib.compareBytes, lexB, pad]
  | [], b :: m => by
    have : sgn (-1) (val b) = -1 := by unfold sgn val; split <;> omega
    simp [Lib.compareBytes, lexB, pad, orr, this]
  | a :: l, [] => by
    have : sgn (val a) (-1) = 1 := by unfold sgn val; (repeat' split) <;> omega
    simp [Lib.compareBytes, lexB, pad, orr, this]
  | a :: l, b :: m => by
    have ih := compare_lexB l m
    have e : lexB (a :: l) (b :: m) = orr (sgn (val a) (val b)) (lexB l m) := by simp [lexB, pad]
    rw [e, ← ih]
    simp only [Lib.compareBytes]
    unfold orr sgn val
    have e1 : a < b ↔ (a.toNat : Int) < b.toNat := by rw [UInt8.lt_iff_toNat_lt]; omega
    have e2 : b < a ↔ (b.toNat : Int) < a.toNat := by rw [UInt8.lt_iff_toNat_lt]; omega
    by_cases h1 : a < b
    · simp [h1, e1.mp h1]
    · by_cases h2 : b < a
      · have h3 := e2.mp h2; have h4 : ¬ (a.toNat : Int) < b.toNat := by omega
        simp [h1, h2, h3, h4]
      · have h3 : ¬ (a.toNat : Int) < b.toNat := fun h => h1 (e1.mpr h); have h4 : ¬ (b.toNat : Int) < a.toNat := fun h => h2 (e2.mpr h)
        simp [h1, h2, h3, h4]
end Go.Proofs.YtpijehmhgjkkoaaDoorW.VC
namespace Go.Proofs.YtpijehmhgjkkoaaDoorW.PB
open Go.RowKit Go.Proofs.YtpijehmhgjkkoaaDoorW.PrintWords
/-- A text out of its bytes. -/
def B (l : List UInt8) : ByteArray := ⟨l.toArray⟩
theorem ex_B (s : ByteArray) : ∃ l, s = B l := ⟨s.data.toList, by unfold B; simp⟩
theorem B_data (l : List UInt8) : (B l).data.toList = l := rfl
theorem B_toList (l : List UInt8) : (B l).toList = l := by rw [Lib.toList_data]; rfl
theorem B_size (l : List UInt8) : (B l).size = l.length := by simp [B, ByteArray.size]
theorem B_inj {l m : List UInt8} : B l = B m ↔ l = m := ⟨fun h => by have := congrArg (fun s : ByteArray => s.data.toList) h; simpa [B] using this, fun h => by rw [h]⟩
theorem B_append (l m : List UInt8) : B l ++ B m = B (l ++ m) := by
  have h : (B l ++ B m).data = (B (l ++ m)).data := by simp [B, ByteArray.data_append]
  cases h1 : (B l ++ B m); cases h2 : B (l ++ m); rw [h1, h2] at h; simp_all
theorem B_extract (l : List UInt8) (a b : Nat) : (B l).extract a b = B ((l.take b).drop a) := by
  have h : ((B l).extract a b).data = (B ((l.take b).drop a)).data := by
    rw [ByteArray.data_extract]
    apply Array.ext'
    simp [B]
    rw [List.drop_take]
  cases h1 : (B l).extract a b; cases h2 : B ((l.take b).drop a); rw [h1, h2] at h; simp_all
theorem B_bt (l : List UInt8) (i : Nat) (h : i < l.length) : bt (B l) (i : Int) = (l[i].toNat : Int) := by
  have h' : (i : Int).toNat < (B l).size := by rw [B_size]; simpa using h
  rw [← bt_at (B l) (i : Int) h']
  simp [B]
  rfl
theorem B_nil : (⟨#[]⟩ : ByteArray) = B [] := rfl
theorem wrap_id {x : Int} (h0 : -9223372036854775808 ≤ x) (h1 : x ≤ 9223372036854775807) : wrap64 x = x := by unfold wrap64; omega
theorem Ev.if_pos {α : Type} {p : Prop} [Decidable p] {g f : Nat → Option α} {r : α} (hp : p) (h : Ev g r) : Ev (fun k => if p then g k else f k) r := by
  obtain ⟨K, h⟩ := h
  exact ⟨K, fun k hk => (_root_.if_pos hp).trans (h k hk)⟩
theorem Ev.if_neg {α : Type} {p : Prop} [Decidable p] {g f : Nat → Option α} {r : α} (hp : ¬ p) (h : Ev f r) : Ev (fun k => if p then g k else f k) r := by
  obtain ⟨K, h⟩ := h
  exact ⟨K, fun k hk => (_root_.if_neg hp).trans (h k hk)⟩
theorem Ev.some_bind {α β : Type} {a : α} {f : Nat → α → Option β} {r : β} (h : Ev (fun k => f k a) r) : Ev (fun k => (some a).bind (f k)) r := h
theorem Ev.val_bind {α β : Type} {g : Option α} {a : α} {f : Nat → α → Option β} {r : β} (h : g = some a) (k : Ev (fun n => f n a) r) : Ev (fun n => g.bind (f n)) r := by subst h; exact k
theorem B_bt_mid (p : List UInt8) (c : UInt8) (r : List UInt8) : bt (B (p ++ c :: r)) (p.length : Int) = (c.toNat : Int) := by
  rw [B_bt _ _ (by simp)]; simp
theorem B_bt_0 (c : UInt8) (r : List UInt8) : bt (B (c :: r)) 0 = (c.toNat : Int) := by
  have := B_bt_mid [] c r; simpa using this
theorem B_cut_left (p r : List UInt8) : (B (p ++ r)).extract 0 (p.length : Int).toNat = B p := by
  rw [B_extract]; simp
theorem B_cut_right (p r : List UInt8) : (B (p ++ r)).extract (p.length : Int).toNat (B (p ++ r)).size = B r := by
  rw [B_extract, B_size, List.take_length]; simp
end Go.Proofs.YtpijehmhgjkkoaaDoorW.PB
namespace Go.Proofs.YtpijehmhgjkkoaaDoor.Q
open Go.RowKit Go.Proofs.YtpijehmhgjkkoaaDoorW.PrintWords Go.Proofs.YtpijehmhgjkkoaaDoorW.PrintLast Go.Proofs.YtpijehmhgjkkoaaDoorW.PB Go.Proofs.YtpijehmhgjkkoaaDoorW.VC
def dg (c : UInt8) : Bool := decide (48 ≤ c.toNat ∧ c.toNat ≤ 57)
def lt_ (c : UInt8) : Bool := decide (97 ≤ c.toNat ∧ c.toNat ≤ 122 ∨ 65 ≤ c.toNat ∧ c.toNat ≤ 90)
theorem digit_f (c : UInt8) : ver_digit.f (c.toNat : Int) = some (dg c) := by
  unfold ver_digit.f dg
  split
  · congr 1; rw [decide_eq_decide]; omega
  · congr 1; symm; rw [decide_eq_false_iff_not]; omega
theorem letter_f (c : UInt8) : ver_letter.f (c.toNat : Int) = some (lt_ c) := by
  unfold ver_letter.f lt_
  (repeat' split) <;> congr 1
  · symm; rw [decide_eq_true_iff]; omega
  · rw [decide_eq_decide]; omega
  · symm; rw [decide_eq_false_iff_not]; omega
  · rw [decide_eq_decide]; omega
  · symm; rw [decide_eq_false_iff_not]; omega
/-- The run of one kind ahead, and what is behind it. -/
def tk (d : Bool) (l : List UInt8) : List UInt8 := l.takeWhile (fun c => dg c == d)
def dk (d : Bool) (l : List UInt8) : List UInt8 := l.dropWhile (fun c => dg c == d)
theorem tk_dk (d : Bool) (l : List UInt8) : tk d l ++ dk d l = l := List.takeWhile_append_dropWhile
theorem dk_le (d : Bool) (l : List UInt8) : (dk d l).length ≤ l.length := by
  have := congrArg List.length (tk_dk d l); rw [List.length_append] at this; omega
theorem tk_le (d : Bool) (l : List UInt8) : (tk d l).length ≤ l.length := by
  have := congrArg List.length (tk_dk d l); rw [List.length_append] at this; omega
theorem take_l0 (d : Bool) : ∀ (r p : List UInt8), (p ++ r).length ≤ 1000000 →
    Ev (fun k => ver_take.l0 k (B (p ++ r)) d (p.length : Int)) (B (p ++ tk d r), B (dk d r)) := by
  intro r
  induction r with
  | nil =>
    intro p hp
    refine Ev.step (fun k => by rw [ver_take.l0]) ?_
    refine Ev.if_neg (by rw [B_size]; simp) ?_
    refine Ev.if_pos (by omega) ?_
    refine Ev.if_pos (by rw [B_size]; simp) ?_
    rw [B_cut_left, B_cut_right]
    simp only [tk, dk, List.takeWhile_nil, List.dropWhile_nil, List.append_nil]
    exact Ev.now _
  | cons c r ih =>
    intro p hp
    refine Ev.step (fun k => by rw [ver_take.l0]) ?_
    refine Ev.if_pos (by rw [B_size]; simp; omega) ?_
    refine Ev.if_pos (by omega) ?_
    rw [B_bt_mid]
    refine Ev.val_bind (digit_f c) ?_
    by_cases h : (dg c == d) = true
    · refine Ev.if_pos h ?_
      have := ih (p ++ [c]) (by simpa using hp)
      have e : wrap64 ((p.length : Int) + 1) = ((p ++ [c]).length : Int) := by
        rw [wrap_id (by omega) (by simp at hp; omega)]; simp
      rw [e]
      simp only [List.append_assoc, List.singleton_append] at this
      simp only [tk, dk, List.takeWhile_cons, List.dropWhile_cons, h, if_true]
      exact this
    · refine Ev.if_neg h ?_
      refine Ev.if_pos (by rw [B_size]; simp; omega) ?_
      rw [B_cut_left, B_cut_right]
      simp only [tk, dk, List.takeWhile_cons, List.dropWhile_cons, h, List.append_nil, Bool.false_eq_true, if_false]
      exact Ev.now _
theorem take_f (d : Bool) (l : List UInt8) (h : l.length ≤ 1000000) : Ev (fun k => ver_take.f k (B l) d) (B (tk d l), B (dk d l)) := take_l0 d l [] h
/-- Digits without noughts ahead. -/
def bare (l : List UInt8) : List UInt8 := if l.dropWhile (fun c => c == 48) = [] then [48] else l.dropWhile (fun c => c == 48)
theorem bare_f (l : List UInt8) : ver_bare.f (B l) = some (B (bare l)) := by
  have h : strings_TrimLeft.f (B l) (⟨#[48]⟩ : ByteArray) = some (B (l.dropWhile (fun c => c == 48))) := by
    unfold strings_TrimLeft.f
    rw [if_pos ⟨by decide, by decide⟩]
    congr 1
    show B _ = _
    rw [B_inj, B_data]
    unfold Lib.trimLeftS
    congr 1
    funext c
    simp
    rfl
  unfold ver_bare.f
  rw [h]
  show (if (B _).toList = [] then _ else _) = _
  rw [B_toList]
  unfold bare
  split <;> rfl
theorem bare_le (l : List UInt8) : (bare l).length ≤ l.length + 1 := by
  unfold bare
  split
  · simp
  · have := (List.dropWhile_sublist (fun c : UInt8 => c == 48) (l := l)).length_le; omega
def orL : List Int → Int
  | [] => 0
  | x :: l => orr x (orL l)
theorem rd_mid (p : List Int) (x : Int) (r : List Int) : rd (p ++ x :: r) (p.length : Int) = x := by
  unfold rd; simp
theorem Or_l0 : ∀ (r p : List Int), (p ++ r).length ≤ 1000000 → Ev (fun k => cmp_Or_int.l0 k 0 (p ++ r) ((p ++ r).length : Int) (p.length : Int)) (orL r) := by
  intro r
  induction r with
  | nil =>
    intro p _
    refine Ev.step (fun k => by rw [cmp_Or_int.l0]) ?_
    refine Ev.if_neg (by simp) ?_
    exact Ev.now _
  | cons x r ih =>
    intro p hp
    refine Ev.step (fun k => by rw [cmp_Or_int.l0]) ?_
    refine Ev.if_pos (by simp; omega) ?_
    refine Ev.if_pos (by omega) ?_
    refine Ev.if_pos (by simp; omega) ?_
    rw [rd_mid]
    unfold orL orr
    by_cases h : x = 0
    · refine Ev.if_pos h ?_
      rw [if_pos h]
      have := ih (p ++ [x]) (by simpa using hp)
      have e : wrap64 ((p.length : Int) + 1) = ((p ++ [x]).length : Int) := by
        rw [wrap_id (by omega) (by simp at hp; omega)]; simp
      rw [e]
      simp only [List.append_assoc, List.singleton_append] at this
      exact this
    · refine Ev.if_neg h ?_
      rw [if_neg h]
      exact Ev.now _
theorem Or_f (l : List Int) (h : l.length ≤ 1000000) : Ev (fun k => cmp_Or_int.f k l) (orL l) := Or_l0 l [] h
theorem or_0 (x : Int) : orr x 0 = x := by unfold orr; split <;> omega
theorem Compare_f (a b : Int) : cmp_Compare_int.f a b = some (sgn a b) := by
  unfold cmp_Compare_int.f cmp_isNaN_int.f sgn
  simp
  (repeat' split) <;> first | rfl | omega
/-- Two runs of digits, by number. -/
def numC (a b : List UInt8) : Int := orr (sgn ((bare a).length : Int) ((bare b).length : Int)) (lexB (bare a) (bare b))
theorem numC_cmp : Cmp numC := Cmp.lex (sgn_cmp.comap (fun l : List UInt8 => ((bare l).length : Int))) (lexB_cmp.comap bare)
theorem number_f (a b : List UInt8) : Ev (fun k => ver_number.f k (B a) (B b)) (numC a b) := by
  refine Ev.congr (fun k => by rw [ver_number.f]) ?_
  refine Ev.val_bind (bare_f a) ?_
  refine Ev.val_bind (bare_f b) ?_
  refine Ev.val_bind (Compare_f _ _) ?_
  refine Ev.val_bind (a := lexB (bare a) (bare b)) (by unfold strings_Compare.f; rw [B_data, B_data, compare_lexB]) ?_
  refine Ev.bind (Or_f _ (by simp)) ?_
  rw [B_size, B_size]
  simp only [orL, or_0]
  exact Ev.now _
/-- Where a byte of a run stands. -/
def wg (c : UInt8) : Int := if c.toNat = 126 then 0 else if lt_ c = true then 2 + c.toNat else 1000 + c.toNat
theorem weight_f (l : List UInt8) (i : Nat) : ver_weight.f (B l) (i : Int) = some (((l.drop i).map wg).headD 1) := by
  unfold ver_weight.f
  by_cases h : i < l.length
  · rw [if_neg (by rw [B_size]; omega), if_pos (by omega), if_pos (by rw [B_size]; omega), B_bt l i h, letter_f]
    rw [List.drop_eq_getElem_cons h]
    have hc := (l[i]).toNat_lt
    simp only [List.map_cons, List.headD_cons, Option.bind_some]
    unfold wg
    rw [wrap_id (x := ((l[i]).toNat : Int)) (by omega) (by omega), wrap_id (by omega) (by omega), wrap_id (by omega) (by omega)]
    by_cases h1 : (l[i]).toNat = 126
    · rw [if_pos (by omega), if_pos h1]
    · rw [if_neg (by omega), if_neg h1]
      split <;> rfl
  · rw [if_pos (by rw [B_size]; omega), List.drop_eq_nil_of_le (by omega)]
    rfl
def wordsC (a b : List UInt8) : Int := pad sgn 1 (a.map wg) (b.map wg)
theorem wordsC_cmp : Cmp wordsC := (pad_cmp sgn_cmp 1).comap (fun l : List UInt8 => l.map wg)
theorem pad_step {α : Type} {c : α → α → Int} (h : Cmp c) (z : α) (l m : List α) : pad c z l m = orr (c (l.headD z) (m.headD z)) (pad c z l.tail m.tail) := by
  cases l <;> cases m <;> simp [pad, h.self, orr]
theorem words_l0 (a b : List UInt8) (ha : a.length ≤ 1000000) (hb : b.length ≤ 1000000) : ∀ n (i : Nat), max a.length b.length - i = n → i ≤ max a.length b.length →
    Ev (fun k => ver_words.l0 k (B a) (B b) ((max a.length b.length : Nat) : Int) (i : Int)) (pad sgn 1 ((a.drop i).map wg) ((b.drop i).map wg)) := by
  intro n
  induction n with
  | zero =>
    intro i h0 hi
    refine Ev.step (fun k => by rw [ver_words.l0]) ?_
    refine Ev.if_neg (by omega) ?_
    rw [List.drop_eq_nil_of_le (by omega), List.drop_eq_nil_of_le (by omega)]
    simp only [List.map_nil, pad]
    exact Ev.now _
  | succ n ih =>
    intro i h0 hi
    refine Ev.step (fun k => by rw [ver_words.l0]) ?_
    refine Ev.if_pos (by omega) ?_
    refine Ev.val_bind (weight_f a i) ?_
    refine Ev.val_bind (weight_f b i) ?_
    refine Ev.val_bind (Compare_f _ _) ?_
    rw [pad_step sgn_cmp]
    unfold orr
    by_cases h : sgn (((a.drop i).map wg).headD 1) (((b.drop i).map wg).headD 1) = 0
    · refine Ev.if_pos h ?_
      rw [if_pos h]
      have := ih (i + 1) (by omega) (by omega)
      rw [show wrap64 ((i : Int) + 1) = ((i + 1 : Nat) : Int) by rw [wrap_id (by omega) (by omega)]; omega]
      simpa [List.tail_drop] using this
    · refine Ev.if_neg h ?_
      rw [if_neg h]
      exact Ev.now _
theorem words_f (a b : List UInt8) (ha : a.length ≤ 1000000) (hb : b.length ≤ 1000000) : Ev (fun k => ver_words.f k (B a) (B b)) (wordsC a b) := by
  have := words_l0 a b ha hb _ 0 rfl (by omega)
  refine Ev.congr (fun k => by rw [ver_words.f]) ?_
  have e : mx ((B a).size : Int) ((B b).size : Int) = ((max a.length b.length : Nat) : Int) := by rw [B_size, B_size]; unfold mx; split <;> omega
  rw [e]
  simpa [wordsC] using this
def cellsN : Nat → List UInt8 → List (List UInt8 × List UInt8)
  | 0, _ => []
  | n + 1, l => if l = [] then [] else (tk true l, tk false (dk true l)) :: cellsN n (dk false (dk true l))
theorem dk2_lt (l : List UInt8) (h : l ≠ []) : (dk false (dk true l)).length < l.length := by
  cases l with
  | nil => exact absurd rfl h
  | cons c l =>
    cases hc : dg c
    · have e : dk true (c :: l) = c :: l := by simp [dk, hc]
      rw [e]
      have e2 : dk false (c :: l) = dk false l := by simp [dk, hc]
      rw [e2]
      have := dk_le false l; simp; omega
    · have e : dk true (c :: l) = dk true l := by simp [dk, hc]
      rw [e]
      have := dk_le false (dk true l); have := dk_le true l; simp; omega
theorem cellsN_enough : ∀ n m (l : List UInt8), l.length ≤ n → l.length ≤ m → cellsN n l = cellsN m l
  | 0, 0, _, _, _ => rfl
  | 0, m + 1, l, h, _ => by obtain rfl : l = [] := List.length_eq_zero_iff.mp (by omega); simp [cellsN]
  | n + 1, 0, l, _, h => by obtain rfl : l = [] := List.length_eq_zero_iff.mp (by omega); simp [cellsN]
  | n + 1, m + 1, l, h1, h2 => by
    unfold cellsN
    by_cases h : l = []
    · rw [if_pos h, if_pos h]
    · rw [if_neg h, if_neg h]
      have := dk2_lt l h
      rw [cellsN_enough n m _ (by omega) (by omega)]
/-- A part, run by run. -/
def cells (l : List UInt8) : List (List UInt8 × List UInt8) := cellsN l.length l
theorem cells_nil : cells [] = [] := rfl
theorem cells_cons {l : List UInt8} (h : l ≠ []) : cells l = (tk true l, tk false (dk true l)) :: cells (dk false (dk true l)) := by
  unfold cells
  have := dk2_lt l h
  obtain ⟨n, hn⟩ : ∃ n, l.length = n + 1 := ⟨l.length - 1, by omega⟩
  rw [hn]
  rw [cellsN, if_neg h, cellsN_enough n _ _ (by omega) (Nat.le_refl _)]
theorem cells_head (l : List UInt8) : (cells l).headD ([], []) = (tk true l, tk false (dk true l)) := by
  by_cases h : l = []
  · subst h; rfl
  · rw [cells_cons h]; rfl
theorem cells_tail (l : List UInt8) : (cells l).tail = cells (dk false (dk true l)) := by
  by_cases h : l = []
  · subst h; rfl
  · rw [cells_cons h]; rfl
def cellC (x y : List UInt8 × List UInt8) : Int := orr (numC x.1 y.1) (wordsC x.2 y.2)
theorem cellC_cmp : Cmp cellC := Cmp.lex (numC_cmp.comap Prod.fst) (wordsC_cmp.comap Prod.snd)
/-- Two parts, run by run. -/
def orderC (a b : List UInt8) : Int := pad cellC ([], []) (cells a) (cells b)
theorem orderC_cmp : Cmp orderC := (pad_cmp cellC_cmp ([], [])).comap cells
theorem order_step (a b : List UInt8) : orderC a b = orr (orr (numC (tk true a) (tk true b)) (wordsC (tk false (dk true a)) (tk false (dk true b)))) (orderC (dk false (dk true a)) (dk false (dk true b))) := by
  unfold orderC
  rw [pad_step cellC_cmp, cells_head, cells_head, cells_tail, cells_tail]
  rfl
theorem order_j1 (a b : List UInt8) (ha : a.length ≤ 100000) (hb : b.length ≤ 100000) (ih : Ev (fun k => ver_order.l0 k (B (dk false (dk true a))) (B (dk false (dk true b)))) (orderC (dk false (dk true a)) (dk false (dk true b)))) :
    Ev (fun k => ver_order.j1 k (B a) (B b) true) (orderC a b) := by
  have l1 := dk_le true a; have l2 := dk_le true b
  have l3 := tk_le false (dk true a); have l4 := tk_le false (dk true b)
  refine Ev.step (fun k => by rw [ver_order.j1]) ?_
  refine Ev.if_pos rfl ?_
  refine Ev.bind (take_f true a (by omega)) ?_
  refine Ev.bind (take_f true b (by omega)) ?_
  refine Ev.bind (take_f false (dk true a) (by omega)) ?_
  refine Ev.bind (take_f false (dk true b) (by omega)) ?_
  refine Ev.bind (number_f _ _) ?_
  refine Ev.bind (words_f _ _ (by omega) (by omega)) ?_
  refine Ev.bind (Or_f _ (by simp)) ?_
  rw [order_step]
  simp only [orL, or_0]
  by_cases h : orr (numC (tk true a) (tk true b)) (wordsC (tk false (dk true a)) (tk false (dk true b))) = 0
  · refine Ev.if_pos h ?_
    rw [h]
    exact ih
  · refine Ev.if_neg h ?_
    generalize orr (numC (tk true a) (tk true b)) (wordsC (tk false (dk true a)) (tk false (dk true b))) = x at h ⊢
    unfold orr
    rw [if_neg h]
    exact Ev.now _
theorem order_l0 : ∀ n (a b : List UInt8), a.length + b.length ≤ n → n ≤ 100000 → Ev (fun k => ver_order.l0 k (B a) (B b)) (orderC a b) := by
  intro n
  induction n using Nat.strongRecOn with
  | ind n ih =>
    intro a b h hn
    refine Ev.step (fun k => by rw [ver_order.l0]) ?_
    by_cases h1 : a = []
    · refine Ev.if_pos (by rw [B_toList, h1]) ?_
      rw [B_toList]
      by_cases h2 : b = []
      · subst h1; subst h2
        refine Ev.step (fun k => by rw [ver_order.j1]) ?_
        refine Ev.if_neg (by decide) ?_
        simp only [orderC, cells_nil, pad]
        exact Ev.now _
      · have hb : (!b.isEmpty) = true := by cases b <;> simp_all
        rw [hb]
        have t1 := dk2_lt b h2
        have t2 := dk_le false (dk true a); have t3 := dk_le true a
        exact order_j1 a b (by omega) (by omega) (ih (a.length + b.length - 1) (by omega) _ _ (by omega) (by omega))
    · refine Ev.if_neg (by rw [B_toList]; exact h1) ?_
      have t1 := dk2_lt a h1
      have t2 := dk_le false (dk true b); have t3 := dk_le true b
      exact order_j1 a b (by omega) (by omega) (ih (a.length + b.length - 1) (by omega) _ _ (by omega) (by omega))
theorem order_f (a b : List UInt8) (ha : a.length ≤ 50000) (hb : b.length ≤ 50000) : Ev (fun k => ver_order.f k (B a) (B b)) (orderC a b) := order_l0 _ a b (Nat.le_refl _) (by omega)
end Go.Proofs.YtpijehmhgjkkoaaDoor.Q
namespace Go.Proofs.YtpijehmhgjkkoaaDoor.Q
open Go.RowKit Go.Proofs.YtpijehmhgjkkoaaDoorW.PrintWords Go.Proofs.YtpijehmhgjkkoaaDoorW.PrintLast Go.Proofs.YtpijehmhgjkkoaaDoorW.PB Go.Proofs.YtpijehmhgjkkoaaDoorW.VC
/-- What is ahead of the first such byte, and what is behind it. -/
def bf (c : UInt8) (l : List UInt8) : List UInt8 := l.takeWhile (fun x => x != c)
def af (c : UInt8) (l : List UInt8) : List UInt8 := (l.dropWhile (fun x => x != c)).tail
theorem bf_af {c : UInt8} : ∀ {l : List UInt8}, c ∈ l → l = bf c l ++ c :: af c l
  | x :: l, h => by
    by_cases hx : x = c
    · subst hx; simp [bf, af]
    · have := bf_af (l := l) (by simpa [Ne.symm hx] using h)
      have hb : (x != c) = true := by simpa using hx
      simp only [bf, af, List.takeWhile_cons, List.dropWhile_cons, hb, if_true] at this ⊢
      rw [List.cons_append, ← this]
theorem index_spec (c : UInt8) : ∀ l : List UInt8, Lib.indexByte l c = if c ∈ l then ((bf c l).length : Int) else -1
  | [] => by simp [Lib.indexByte]
  | x :: l => by
    unfold Lib.indexByte
    rw [index_spec c l]
    by_cases hx : x = c
    · subst hx; simp [bf]
    · have hb : (x != c) = true := by simpa using hx
      have hb2 : (x == c) = false := by simpa using hx
      rw [hb2]
      have hm : c ∈ x :: l ↔ c ∈ l := by simp [Ne.symm hx]
      by_cases h : c ∈ l
      · rw [if_pos h, if_pos (hm.mpr h)]
        have hp : ¬ (((bf c l).length : Int) == -1) = true := by rw [beq_iff_eq]; omega
        rw [if_neg hp]
        simp [bf, hb]
      · rw [if_neg h, if_neg (fun h' => h (hm.mp h'))]
        rfl
theorem Index_f (c : UInt8) (l : List UInt8) : stringslite_Index.f (B l) (B [c]) = some (if c ∈ l then ((bf c l).length : Int) else -1) := by
  have hc : (bt (B [c]) 0).toNat.toUInt8 = c := by rw [B_bt_0]; simp
  unfold stringslite_Index.f
  rw [if_pos (by rw [B_size]; rfl), hc, B_data, index_spec]
theorem Cut_at (p r : List UInt8) (c : UInt8) (hl : (p ++ c :: r).length ≤ 1000000) (n : Int) (hn : n = (p.length : Int)) (s : ByteArray) (hs : s = B (p ++ c :: r)) (b : ByteArray) (hb : b.size = 1) :
    (if n ≥ 0 then (if 0 ≤ n then (if n ≤ (s.size : Int) then (if 0 ≤ (wrap64 (n + (b.size : Int))) then (if (wrap64 (n + (b.size : Int))) ≤ (s.size : Int) then (some ((s.extract 0 (n : Int).toNat), (s.extract ((wrap64 (n + (b.size : Int))) : Int).toNat s.size), true)) else (none)) else (none)) else (none)) else (none)) else (some (s, (⟨#[]⟩ : ByteArray), false)) : Option (ByteArray × ByteArray × Bool)) = some (B p, B r, true) := by
  subst hn
  have hz : (s.size : Int) = (p.length : Int) + 1 + r.length := by rw [hs, B_size]; simp; omega
  have hw : wrap64 ((p.length : Int) + (b.size : Int)) = (p.length : Int) + 1 := by
    simp only [List.length_append, List.length_cons] at hl
    rw [hb, wrap_id (by omega) (by omega)]; rfl
  rw [if_pos (by omega), if_pos (by omega), if_pos (by omega), hw, if_pos (by omega), if_pos (by omega)]
  have x1 : s.extract 0 ((p.length : Nat) : Int).toNat = B p := by rw [hs]; exact B_cut_left _ _
  have x2 : s.extract ((p.length : Int) + 1).toNat s.size = B r := by
    have e : ((p.length : Int) + 1).toNat = (((p ++ [c]).length : Nat) : Int).toNat := by simp
    have hs' : s = B ((p ++ [c]) ++ r) := by rw [hs, List.append_assoc]; rfl
    rw [e, hs']
    exact B_cut_right _ _
  rw [x1, x2]
theorem Cut_f (c : UInt8) (l : List UInt8) (hl : l.length ≤ 1000000) : strings_Cut.f (B l) (B [c]) = some (if c ∈ l then (B (bf c l), B (af c l), true) else (B l, B [], false)) := by
  unfold strings_Cut.f stringslite_Cut.f
  rw [Index_f]
  by_cases h : c ∈ l
  · simp only [if_pos h, Option.bind_some]
    have hs := bf_af h
    rw [Cut_at (bf c l) (af c l) c (by rw [← hs]; exact hl) _ rfl (B l) (congrArg B hs) (B [c]) (by rw [B_size]; rfl)]
    rfl
  · simp only [if_neg h, Option.bind_some]
    rw [if_neg (by omega)]
    rfl
theorem fails_f (b : Bool) (n : Int) (h : n ≠ 0) : ver_fails.f b n = some (if b = true then 0 else n) := by
  unfold ver_fails.f
  cases b
  · simp [h]
  · rfl
/-- A byte that a part may hold. -/
def okB (c : UInt8) : Bool := dg c || (lt_ c || [46, 43, 126].contains c)
def pOK (s : List UInt8) : Bool := !s.isEmpty && (dg (s.headD 0) && (dg (s.getLastD 0) && s.all okB))
theorem runs_l0 : ∀ (r p : List UInt8), (p ++ r).length ≤ 1000000 →
    Ev (fun k => ver_runs.l0 k (B (p ++ r)) ((p ++ r).length : Int) (p.length : Int)) (if r.all okB = true then 0 else 5) := by
  intro r
  induction r with
  | nil =>
    intro p hp
    refine Ev.step (fun k => by rw [ver_runs.l0]) ?_
    refine Ev.if_neg (by simp) ?_
    exact Ev.now _
  | cons c r ih =>
    intro p hp
    have nx := ih (p ++ [c]) (by simpa using hp)
    have e : wrap64 ((p.length : Int) + 1) = ((p ++ [c]).length : Int) := by
      rw [wrap_id (by omega) (by simp at hp; omega)]; simp
    simp only [List.append_assoc, List.singleton_append] at nx
    refine Ev.step (fun k => by rw [ver_runs.l0]) ?_
    refine Ev.if_pos (by simp; omega) ?_
    refine Ev.if_pos (by omega) ?_
    refine Ev.if_pos (by rw [B_size]; simp; omega) ?_
    rw [B_bt_mid]
    refine Ev.val_bind (digit_f c) ?_
    by_cases h : dg c = true
    · refine Ev.if_pos h ?_
      refine Ev.val_bind (fails_f true 5 (by decide)) ?_
      refine Ev.if_pos rfl ?_
      rw [e]
      simp only [List.all_cons, okB, h, Bool.true_or, Bool.true_and]
      exact nx
    · refine Ev.if_neg h ?_
      refine Ev.val_bind (letter_f c) ?_
      by_cases h2 : lt_ c = true
      · refine Ev.if_pos h2 ?_
        refine Ev.val_bind (fails_f true 5 (by decide)) ?_
        refine Ev.if_pos rfl ?_
        rw [e]
        simp only [List.all_cons, okB, h2, Bool.true_or, Bool.or_true, Bool.true_and]
        exact nx
      · refine Ev.if_neg h2 ?_
        refine Ev.val_bind (a := Lib.indexByte [46, 43, 126] c) (by unfold strings_IndexByte.f; congr 1; rw [Int.toNat_natCast]; congr 1; simp) ?_
        refine Ev.val_bind (fails_f _ 5 (by decide)) ?_
        have hk : decide (Lib.indexByte [46, 43, 126] c ≥ 0) = [46, 43, 126].contains c := (Lib.contains_iff_indexByte _ _).symm
        rw [hk]
        have ho : okB c = [46, 43, 126].contains c := by simp only [okB, Bool.eq_false_iff.mpr h, Bool.eq_false_iff.mpr h2, Bool.false_or]
        rw [List.all_cons, ho]
        by_cases h3 : [46, 43, 126].contains c = true
        · rw [h3]
          refine Ev.if_pos (by simp) ?_
          rw [e, Bool.true_and]
          exact nx
        · rw [Bool.eq_false_iff.mpr h3]
          refine Ev.if_neg (by simp) ?_
          exact Ev.now _
theorem runs_j0 (s : List UInt8) (h : s.length ≤ 1000000) : Ev (fun k => ver_runs.j0 k (B s)) (if s.all okB = true then 0 else 5) := by
  refine Ev.step (fun k => by rw [ver_runs.j0]) ?_
  rw [B_size]
  exact runs_l0 s [] h
theorem bt_last (q : List UInt8) (x : UInt8) (h : (q ++ [x]).length ≤ 1000000) : bt (B (q ++ [x])) (wrap64 (((B (q ++ [x])).size : Int) - 1)) = (x.toNat : Int) := by
  rw [B_size, wrap_id (by simp only [List.length_append, List.length_cons]; omega) (by simp only [List.length_append, List.length_cons] at h ⊢; omega)]
  have : (((q ++ [x]).length : Nat) : Int) - 1 = (q.length : Int) := by simp
  rw [this, B_bt_mid]
theorem runs_f (s : List UInt8) (h : s.length ≤ 1000000) : Ev (fun k => ver_runs.f k (B s)) (if pOK s = true then 0 else 5) := by
  refine Ev.congr (fun k => by rw [ver_runs.f]) ?_
  rcases List.eq_nil_or_concat s with rfl | ⟨q, x, rfl⟩
  · refine Ev.if_pos (by rw [B_toList]) ?_
    refine Ev.val_bind (fails_f false 5 (by decide)) ?_
    refine Ev.if_neg (by decide) ?_
    exact Ev.now _
  · rw [List.concat_eq_append] at h ⊢
    have hn : q ++ [x] ≠ [] := by simp
    refine Ev.if_neg (by rw [B_toList]; exact hn) ?_
    refine Ev.if_pos (by rw [B_size, List.length_append]; simp only [List.length_cons]; omega) ?_
    obtain ⟨c, r, hcr⟩ : ∃ c r, q ++ [x] = c :: r := by cases q with | nil => exact ⟨x, [], rfl⟩ | cons a t => exact ⟨a, t ++ [x], rfl⟩
    have h0 : bt (B (q ++ [x])) 0 = (c.toNat : Int) := by rw [hcr]; exact B_bt_0 c r
    have hp : pOK (q ++ [x]) = (dg c && (dg x && (q ++ [x]).all okB)) := by
      unfold pOK
      rw [show (q ++ [x]).isEmpty = false by rw [hcr]; rfl, show (q ++ [x]).headD 0 = c by rw [hcr]; rfl, show (q ++ [x]).getLastD 0 = x by simp [List.getLastD_eq_getLast?]]
      rfl
    rw [hp, h0]
    refine Ev.val_bind (digit_f c) ?_
    by_cases hc : dg c = true
    · refine Ev.if_pos hc ?_
      rw [bt_last q x h]
      have e1 : wrap64 (((B (q ++ [x])).size : Int) - 1) = (q.length : Int) := by
        rw [B_size, wrap_id (by simp only [List.length_append, List.length_cons]; omega) (by simp only [List.length_append, List.length_cons] at h ⊢; omega)]; simp
      rw [e1]
      refine Ev.if_pos (by omega) ?_
      refine Ev.if_pos (by rw [B_size, List.length_append]; simp only [List.length_cons]; omega) ?_
      refine Ev.val_bind (digit_f x) ?_
      refine Ev.val_bind (fails_f _ 5 (by decide)) ?_
      rw [hc, Bool.true_and]
      by_cases hx : dg x = true
      · rw [hx, Bool.true_and]
        refine Ev.if_pos rfl ?_
        exact runs_j0 _ h
      · rw [Bool.eq_false_iff.mpr hx]
        refine Ev.if_neg (by decide) ?_
        exact Ev.now _
    · refine Ev.if_neg hc ?_
      refine Ev.val_bind (fails_f false 5 (by decide)) ?_
      refine Ev.if_neg (by decide) ?_
      rw [Bool.eq_false_iff.mpr hc]
      exact Ev.now _
abbrev Cut := List UInt8 × List UInt8 × List UInt8 × Int
def BC (t : Cut) : ByteArray × ByteArray × ByteArray × Int := (B t.1, B t.2.1, B t.2.2.1, t.2.2.2)
def badV (n : Int) : Cut := ([], [], [], n)
def rest (e s : List UInt8) : Cut :=
  if 45 ∈ s then (if pOK (bf 45 s) = true ∧ pOK (af 45 s) = true then (e, bf 45 s, af 45 s, 0) else badV 5)
  else (if pOK s = true then (e, s, [48], 0) else badV 5)
theorem bf_le (c : UInt8) (l : List UInt8) : (bf c l).length ≤ l.length := (List.takeWhile_sublist _).length_le
theorem af_le (c : UInt8) (l : List UInt8) : (af c l).length ≤ l.length := by
  have := (List.dropWhile_sublist (fun x : UInt8 => x != c) (l := l)).length_le
  unfold af; rw [List.length_tail]; omega
theorem cut_j0 (s e q : List UInt8) (h : s.length ≤ 1000000) : Ev (fun k => ver_cut.j0 k (B s) (B e) (B q) (B [48])) (BC (rest e s)) := by
  have l1 := bf_le 45 s; have l2 := af_le 45 s
  have hc := Cut_f 45 s h
  have r1 := runs_f (bf 45 s) (by omega)
  have r2 := runs_f (af 45 s) (by omega)
  have r3 := runs_f s h
  have r4 := runs_f [48] (by decide)
  rw [if_pos (by decide : pOK [48] = true)] at r4
  refine Ev.step (fun k => by rw [ver_cut.j0]) ?_
  by_cases hm : (45 : UInt8) ∈ s
  · rw [if_pos hm] at hc
    refine Ev.val_bind hc ?_
    refine Ev.if_pos rfl ?_
    refine Ev.bind r1 ?_
    by_cases h1 : pOK (bf 45 s) = true
    · refine Ev.if_pos (if_pos h1) ?_
      refine Ev.bind r2 ?_
      by_cases h2 : pOK (af 45 s) = true
      · refine Ev.if_pos (if_pos h2) ?_
        have hr : rest e s = (e, bf 45 s, af 45 s, 0) := by unfold rest; rw [if_pos hm, if_pos ⟨h1, h2⟩]
        rw [hr]
        exact Ev.now _
      · refine Ev.if_neg (by rw [if_neg h2]; decide) ?_
        have hr : rest e s = badV 5 := by unfold rest; rw [if_pos hm, if_neg (fun h' => h2 h'.2)]
        rw [hr, if_neg h2]
        exact Ev.now _
    · refine Ev.if_neg (by rw [if_neg h1]; decide) ?_
      have hr : rest e s = badV 5 := by unfold rest; rw [if_pos hm, if_neg (fun h' => h1 h'.1)]
      rw [hr, if_neg h1]
      exact Ev.now _
  · rw [if_neg hm] at hc
    refine Ev.val_bind hc ?_
    refine Ev.if_neg (by simp) ?_
    refine Ev.bind r3 ?_
    by_cases h1 : pOK s = true
    · refine Ev.if_pos (if_pos h1) ?_
      refine Ev.bind r4 ?_
      refine Ev.if_pos rfl ?_
      have hr : rest e s = (e, s, [48], 0) := by unfold rest; rw [if_neg hm, if_pos h1]
      rw [hr]
      exact Ev.now _
    · refine Ev.if_neg (by rw [if_neg h1]; decide) ?_
      have hr : rest e s = badV 5 := by unfold rest; rw [if_neg hm, if_neg h1]
      rw [hr, if_neg h1]
      exact Ev.now _
theorem digits_dg (c : UInt8) : ([48, 49, 50, 51, 52, 53, 54, 55, 56, 57] : List UInt8).contains c = dg c := by
  have h : ∀ n : Fin 256, ([48, 49, 50, 51, 52, 53, 54, 55, 56, 57] : List UInt8).contains (UInt8.ofNat n.val) = dg (UInt8.ofNat n.val) := by decide +kernel
  have := h ⟨c.toNat, c.toNat_lt⟩
  simpa using this
theorem dw_nil (p : UInt8 → Bool) : ∀ l : List UInt8, l.dropWhile p = [] ↔ ∀ x ∈ l, p x = true
  | [] => by simp
  | x :: l => by
    cases h : p x
    · simp [h]
    · simp [h, dw_nil p l]
theorem dw_head (p : UInt8 → Bool) : ∀ (l : List UInt8) x t, l.dropWhile p = x :: t → p x = false
  | [], _, _, h => by simp at h
  | y :: l, x, t, h => by
    cases hy : p y
    · simp [hy] at h; rw [← h.1]; exact hy
    · rw [List.dropWhile_cons, hy, if_pos rfl] at h; exact dw_head p l x t h
theorem trim_all (p : UInt8 → Bool) (l : List UInt8) : ((l.reverse.dropWhile p).reverse.dropWhile p).isEmpty = l.all p := by
  cases hd : l.reverse.dropWhile p with
  | nil =>
    have : ∀ x ∈ l, p x = true := fun x hx => (dw_nil p _).mp hd x (by simpa using hx)
    simp only [List.reverse_nil, List.dropWhile_nil, List.isEmpty_nil]
    exact (List.all_eq_true.mpr this).symm
  | cons x t =>
    have hx : p x = false := dw_head p _ x t hd
    have hxl : x ∈ l := by
      have : x ∈ l.reverse.dropWhile p := by rw [hd]; simp
      simpa using (List.dropWhile_sublist p).subset this
    have e2 : l.all p = false := by
      rw [Bool.eq_false_iff]; intro h
      have := List.all_eq_true.mp h x hxl
      rw [hx] at this; cases this
    rw [e2]
    rw [Bool.eq_false_iff]; intro h
    have h' := List.isEmpty_iff.mp h
    have := (dw_nil p _).mp h' x (by simp)
    rw [hx] at this; cases this
theorem Trim_f (e : List UInt8) (h : e.length ≤ 1000000) : ∃ t, strings_Trim.f (B e) (⟨#[48, 49, 50, 51, 52, 53, 54, 55, 56, 57]⟩ : ByteArray) = some t ∧ t.toList.isEmpty = e.all dg := by
  refine ⟨_, by unfold strings_Trim.f; rw [if_pos ⟨by rw [B_size]; omega, by decide, by decide⟩], ?_⟩
  show (B _).toList.isEmpty = _
  rw [B_toList, B_data]
  unfold Lib.trimS Lib.trimLeftS Lib.trimRightS
  have : (fun x => ([48, 49, 50, 51, 52, 53, 54, 55, 56, 57] : List UInt8).contains x) = dg := funext digits_dg
  show ((e.reverse.dropWhile fun x => ([48, 49, 50, 51, 52, 53, 54, 55, 56, 57] : List UInt8).contains x).reverse.dropWhile fun x => ([48, 49, 50, 51, 52, 53, 54, 55, 56, 57] : List UInt8).contains x).isEmpty = _
  rw [this]
  exact trim_all dg e
/-- A version, cut. -/
def vcut (l : List UInt8) : Cut :=
  if 40 < l.length then badV 4
  else if 58 ∈ l then (if 1 ≤ (bf 58 l).length ∧ (bf 58 l).length ≤ 6 ∧ (bf 58 l).all dg = true then rest (bf 58 l) (af 58 l) else badV 5)
  else rest [48] l
theorem cut_f (l : List UInt8) : Ev (fun k => ver_cut.f k (B l)) (BC (vcut l)) := by
  have f5 := fails_f false 5 (by decide)
  rw [if_neg (by decide)] at f5
  refine Ev.congr (fun k => by rw [ver_cut.f]) ?_
  refine Ev.val_bind (fails_f _ 4 (by decide)) ?_
  by_cases h : 40 < l.length
  · have hr : vcut l = badV 4 := by unfold vcut; rw [if_pos h]
    have hd : ¬ decide (((B l).size : Int) ≤ 40) = true := by rw [B_size, decide_eq_true_iff]; omega
    refine Ev.if_neg (by rw [if_neg hd]; decide) ?_
    rw [hr, if_neg hd]
    exact Ev.now _
  · have hd : decide (((B l).size : Int) ≤ 40) = true := by rw [B_size, decide_eq_true_iff]; omega
    refine Ev.if_pos (if_pos hd) ?_
    have hc := Cut_f 58 l (by omega)
    have l1 := bf_le 58 l; have l2 := af_le 58 l
    by_cases hm : (58 : UInt8) ∈ l
    · rw [if_pos hm] at hc
      refine Ev.val_bind hc ?_
      refine Ev.if_pos rfl ?_
      by_cases h1 : 1 ≤ (bf 58 l).length
      · refine Ev.if_pos (by show ((B (bf 58 l)).size : Int) ≥ 1; rw [B_size]; omega) ?_
        by_cases h2 : (bf 58 l).length ≤ 6
        · refine Ev.if_pos (by show ((B (bf 58 l)).size : Int) ≤ 6; rw [B_size]; omega) ?_
          obtain ⟨t, ht, he⟩ := Trim_f (bf 58 l) (by omega)
          refine Ev.val_bind ht ?_
          refine Ev.val_bind (fails_f _ 5 (by decide)) ?_
          rw [he]
          by_cases h3 : (bf 58 l).all dg = true
          · refine Ev.if_pos (if_pos h3) ?_
            have hr : vcut l = rest (bf 58 l) (af 58 l) := by unfold vcut; rw [if_neg h, if_pos hm, if_pos ⟨h1, h2, h3⟩]
            rw [hr]
            exact cut_j0 (af 58 l) (bf 58 l) [] (by omega)
          · refine Ev.if_neg (by rw [if_neg h3]; decide) ?_
            have hr : vcut l = badV 5 := by unfold vcut; rw [if_neg h, if_pos hm, if_neg (fun h' => h3 h'.2.2)]
            rw [hr, if_neg h3]
            exact Ev.now _
        · refine Ev.if_neg (by show ¬ ((B (bf 58 l)).size : Int) ≤ 6; rw [B_size]; omega) ?_
          refine Ev.val_bind f5 ?_
          have hr : vcut l = badV 5 := by unfold vcut; rw [if_neg h, if_pos hm, if_neg (fun h' => h2 h'.2.1)]
          rw [hr]
          refine Ev.if_neg (by decide) ?_
          exact Ev.now _
      · refine Ev.if_neg (by show ¬ ((B (bf 58 l)).size : Int) ≥ 1; rw [B_size]; omega) ?_
        refine Ev.val_bind f5 ?_
        have hr : vcut l = badV 5 := by unfold vcut; rw [if_neg h, if_pos hm, if_neg (fun h' => h1 h'.1)]
        rw [hr]
        refine Ev.if_neg (by decide) ?_
        exact Ev.now _
    · rw [if_neg hm] at hc
      refine Ev.val_bind hc ?_
      refine Ev.if_neg (by simp) ?_
      have hr : vcut l = rest [48] l := by unfold vcut; rw [if_neg h, if_neg hm]
      rw [hr]
      exact cut_j0 l [48] [] (by omega)
theorem rest_le (e s : List UInt8) (n : Nat) (he : e.length ≤ n) (hs : s.length ≤ n) (hn : 1 ≤ n) : (rest e s).1.length ≤ n ∧ (rest e s).2.1.length ≤ n ∧ (rest e s).2.2.1.length ≤ n := by
  have l1 := bf_le 45 s; have l2 := af_le 45 s
  unfold rest badV
  (repeat' split) <;> simp <;> omega
theorem vcut_le (l : List UInt8) : (vcut l).1.length ≤ 40 ∧ (vcut l).2.1.length ≤ 40 ∧ (vcut l).2.2.1.length ≤ 40 := by
  have l1 := bf_le 58 l; have l2 := af_le 58 l
  unfold vcut
  (repeat' split)
  · simp [badV]
  · exact rest_le _ _ 40 (by omega) (by omega) (by omega)
  · simp [badV]
  · exact rest_le _ _ 40 (by simp) (by omega) (by omega)
/-- Two versions. -/
def verC (x y : Cut) : Int := orr (numC x.1 y.1) (orr (orderC x.2.1 y.2.1) (orderC x.2.2.1 y.2.2.1))
theorem verC_cmp : Cmp verC := Cmp.lex (numC_cmp.comap (fun x : Cut => x.1)) (Cmp.lex (orderC_cmp.comap (fun x : Cut => x.2.1)) (orderC_cmp.comap (fun x : Cut => x.2.2.1)))
theorem rest_err (e s : List UInt8) : (rest e s).2.2.2 = 0 ∨ ((rest e s).2.2.2 ≠ 0 ∧ rest e s = badV (rest e s).2.2.2) := by
  unfold rest badV
  (repeat' split) <;> simp
theorem vcut_err (l : List UInt8) : (vcut l).2.2.2 = 0 ∨ ((vcut l).2.2.2 ≠ 0 ∧ vcut l = badV (vcut l).2.2.2) := by
  unfold vcut
  (repeat' split)
  · simp [badV]
  · exact rest_err _ _
  · simp [badV]
  · exact rest_err _ _
theorem cut_1 (l : List UInt8) : Ev (fun k => ver_Compare_1.f k 0 (B l) (⟨#[]⟩ : ByteArray) (⟨#[]⟩ : ByteArray) (⟨#[]⟩ : ByteArray)) ((vcut l).2.2.2, B (vcut l).1, B (vcut l).2.1, B (vcut l).2.2.1) := by
  refine Ev.congr (fun k => by rw [ver_Compare_1.f]) ?_
  refine Ev.bind (cut_f l) ?_
  rcases vcut_err l with h | ⟨h, hb⟩
  · refine Ev.if_pos h ?_
    rw [show (BC (vcut l)).1 = B (vcut l).1 from rfl, h]
    exact Ev.now _
  · refine Ev.if_neg h ?_
    rw [hb]
    exact Ev.now _
theorem cut_2 (l : List UInt8) : Ev (fun k => ver_Compare_2.f k 0 (B l) (⟨#[]⟩ : ByteArray) (⟨#[]⟩ : ByteArray) (⟨#[]⟩ : ByteArray)) ((vcut l).2.2.2, B (vcut l).1, B (vcut l).2.1, B (vcut l).2.2.1) := by
  refine Ev.congr (fun k => by rw [ver_Compare_2.f]) ?_
  refine Ev.bind (cut_f l) ?_
  rcases vcut_err l with h | ⟨h, hb⟩
  · refine Ev.if_pos h ?_
    rw [show (BC (vcut l)).1 = B (vcut l).1 from rfl, h]
    exact Ev.now _
  · refine Ev.if_neg h ?_
    rw [hb]
    exact Ev.now _
theorem Compare_v (a b : List UInt8) : Ev (fun k => ver_Compare.f k (B a) (B b)) (verC (vcut a) (vcut b)) := by
  obtain ⟨a1, a2, a3⟩ := vcut_le a
  obtain ⟨b1, b2, b3⟩ := vcut_le b
  refine Ev.congr (fun k => by rw [ver_Compare.f]) ?_
  refine Ev.bind (cut_1 a) ?_
  refine Ev.bind (cut_2 b) ?_
  refine Ev.bind (number_f _ _) ?_
  refine Ev.bind (order_f _ _ (by omega) (by omega)) ?_
  refine Ev.bind (order_f _ _ (by omega) (by omega)) ?_
  refine Ev.bind (Or_f _ (by simp)) ?_
  simp only [orL, or_0]
  exact Ev.now _
end Go.Proofs.YtpijehmhgjkkoaaDoor.Q
namespace Go.Proofs.YtpijehmhgjkkoaaDoor.Q
open Go.RowKit Go.Proofs.YtpijehmhgjkkoaaDoorW.PrintWords Go.Proofs.YtpijehmhgjkkoaaDoorW.PrintLast Go.Proofs.YtpijehmhgjkkoaaDoorW.PB Go.Proofs.YtpijehmhgjkkoaaDoorW.VC
theorem known_k : manciplelaw1_known.f 60 = some true := by kernel_rfl
theorem known_f : Ev (fun k => manciplelaw1_known.f k) true := Ev.of (fun k => manciplelaw1_known.mono k) known_k
theorem rdigit_f (c : UInt8) : mancipleref9_digit.f (c.toNat : Int) = some (dg c) := digit_f c
theorem rletter_f (c : UInt8) : mancipleref9_letter.f (c.toNat : Int) = some (lt_ c) := letter_f c
theorem place_l0 (c : UInt8) : ∀ (r p : List UInt8), (p ++ r).length ≤ 1000000 →
    Ev (fun k => mancipleref9_place.l0 k (B (p ++ r)) (c.toNat : Int) (p.length : Int)) (if c ∈ r then (((p ++ bf c r).length : Nat) : Int) else -1) := by
  intro r
  induction r with
  | nil =>
    intro p hp
    refine Ev.step (fun k => by rw [mancipleref9_place.l0]) ?_
    refine Ev.if_neg (by rw [B_size]; simp) ?_
    exact Ev.now _
  | cons x r ih =>
    intro p hp
    have nx := ih (p ++ [x]) (by simpa using hp)
    have e : wrap64 ((p.length : Int) + 1) = ((p ++ [x]).length : Int) := by
      rw [wrap_id (by omega) (by simp at hp; omega)]; simp
    simp only [List.append_assoc, List.singleton_append] at nx
    refine Ev.step (fun k => by rw [mancipleref9_place.l0]) ?_
    refine Ev.if_pos (by rw [B_size]; simp; omega) ?_
    refine Ev.if_pos (by omega) ?_
    rw [B_bt_mid]
    by_cases h : x = c
    · subst h
      refine Ev.if_pos rfl ?_
      simp only [List.mem_cons, true_or, if_true, bf, List.takeWhile_cons, bne_self_eq_false, Bool.false_eq_true, if_false, List.append_nil]
      exact Ev.now _
    · refine Ev.if_neg (fun h' => h (UInt8.toNat_inj.mp (by omega))) ?_
      rw [e]
      have hb : (x != c) = true := by simpa using h
      have hm : c ∈ x :: r ↔ c ∈ r := by simp [Ne.symm h]
      have hf : bf c (x :: r) = x :: bf c r := by simp [bf, hb]
      rw [hf]
      simp only [hm]
      exact nx
theorem place_f (c : UInt8) (l : List UInt8) (h : l.length ≤ 1000000) : Ev (fun k => mancipleref9_place.f k (B l) (c.toNat : Int)) (if c ∈ l then ((bf c l).length : Int) else -1) := place_l0 c l [] h
theorem part_l0 : ∀ (r p : List UInt8), (p ++ r).length ≤ 1000000 →
    Ev (fun k => mancipleref9_part.l0 k (B (p ++ r)) (p.length : Int)) (r.all okB) := by
  intro r
  induction r with
  | nil =>
    intro p hp
    refine Ev.step (fun k => by rw [mancipleref9_part.l0]) ?_
    refine Ev.if_neg (by rw [B_size]; simp) ?_
    exact Ev.now _
  | cons c r ih =>
    intro p hp
    have nx := ih (p ++ [c]) (by simpa using hp)
    have e : wrap64 ((p.length : Int) + 1) = ((p ++ [c]).length : Int) := by
      rw [wrap_id (by omega) (by simp at hp; omega)]; simp
    simp only [List.append_assoc, List.singleton_append] at nx
    refine Ev.step (fun k => by rw [mancipleref9_part.l0]) ?_
    refine Ev.if_pos (by rw [B_size]; simp; omega) ?_
    refine Ev.if_pos (by omega) ?_
    rw [B_bt_mid, e]
    rw [List.all_cons]
    refine Ev.val_bind (rdigit_f c) ?_
    by_cases h : dg c = true
    · refine Ev.if_pos h ?_
      rw [show okB c = true by simp [okB, h], Bool.true_and]
      exact nx
    · refine Ev.if_neg h ?_
      refine Ev.val_bind (rletter_f c) ?_
      by_cases h2 : lt_ c = true
      · refine Ev.if_pos h2 ?_
        rw [show okB c = true by simp [okB, h2], Bool.true_and]
        exact nx
      · refine Ev.if_neg h2 ?_
        by_cases h3 : (c.toNat : Int) = 46
        · refine Ev.if_pos h3 ?_
          obtain rfl : c = 46 := UInt8.toNat_inj.mp (by show c.toNat = 46; omega)
          rw [show okB 46 = true by decide, Bool.true_and]
          exact nx
        · refine Ev.if_neg h3 ?_
          by_cases h4 : (c.toNat : Int) = 43
          · refine Ev.if_pos h4 ?_
            obtain rfl : c = 43 := UInt8.toNat_inj.mp (by show c.toNat = 43; omega)
            rw [show okB 43 = true by decide, Bool.true_and]
            exact nx
          · refine Ev.if_neg h4 ?_
            by_cases h5 : (c.toNat : Int) = 126
            · refine Ev.if_pos h5 ?_
              obtain rfl : c = 126 := UInt8.toNat_inj.mp (by show c.toNat = 126; omega)
              rw [show okB 126 = true by decide, Bool.true_and]
              exact nx
            · refine Ev.if_neg h5 ?_
              have ho : okB c = false := by
                have a3 : c ≠ 46 := fun hh => h3 (by rw [hh]; rfl)
                have a4 : c ≠ 43 := fun hh => h4 (by rw [hh]; rfl)
                have a5 : c ≠ 126 := fun hh => h5 (by rw [hh]; rfl)
                simp [okB, h, h2, a3, a4, a5]
              rw [ho, Bool.false_and]
              exact Ev.now _
theorem part_j0 (s : List UInt8) (x : Bool) (h : s.length ≤ 1000000) : Ev (fun k => mancipleref9_part.j0 k (B s) x) (!x && s.all okB) := by
  refine Ev.step (fun k => by rw [mancipleref9_part.j0]) ?_
  cases x
  · refine Ev.if_neg (by decide) ?_
    exact part_l0 s [] h
  · refine Ev.if_pos rfl ?_
    exact Ev.now _
theorem part_f (s : List UInt8) (h : s.length ≤ 1000000) : Ev (fun k => mancipleref9_part.f k (B s)) (pOK s) := by
  refine Ev.congr (fun k => by rw [mancipleref9_part.f]) ?_
  rcases List.eq_nil_or_concat s with rfl | ⟨q, x, rfl⟩
  · refine Ev.if_pos (by rw [B_toList]) ?_
    exact part_j0 [] true (by simp)
  · rw [List.concat_eq_append] at h ⊢
    have hn : q ++ [x] ≠ [] := by simp
    refine Ev.if_neg (by rw [B_toList]; exact hn) ?_
    refine Ev.if_pos (by rw [B_size, List.length_append]; simp only [List.length_cons]; omega) ?_
    obtain ⟨c, r, hcr⟩ : ∃ c r, q ++ [x] = c :: r := by cases q with | nil => exact ⟨x, [], rfl⟩ | cons a t => exact ⟨a, t ++ [x], rfl⟩
    have h0 : bt (B (q ++ [x])) 0 = (c.toNat : Int) := by rw [hcr]; exact B_bt_0 c r
    have hp : pOK (q ++ [x]) = (dg c && (dg x && (q ++ [x]).all okB)) := by
      unfold pOK
      rw [show (q ++ [x]).isEmpty = false by rw [hcr]; rfl, show (q ++ [x]).headD 0 = c by rw [hcr]; rfl, show (q ++ [x]).getLastD 0 = x by simp [List.getLastD_eq_getLast?]]
      rfl
    rw [hp, h0]
    refine Ev.val_bind (rdigit_f c) ?_
    by_cases hc : dg c = true
    · refine Ev.if_pos hc ?_
      rw [bt_last q x h]
      have e1 : wrap64 (((B (q ++ [x])).size : Int) - 1) = (q.length : Int) := by
        rw [B_size, wrap_id (by simp only [List.length_append, List.length_cons]; omega) (by simp only [List.length_append, List.length_cons] at h ⊢; omega)]; simp
      rw [e1]
      refine Ev.if_pos (by omega) ?_
      refine Ev.if_pos (by rw [B_size, List.length_append]; simp only [List.length_cons]; omega) ?_
      refine Ev.val_bind (rdigit_f x) ?_
      have := part_j0 (q ++ [x]) (!dg x) h
      rw [hc, Bool.true_and]
      simpa using this
    · refine Ev.if_neg hc ?_
      have := part_j0 (q ++ [x]) true h
      rw [Bool.eq_false_iff.mpr hc, Bool.false_and]
      simpa using this
/-- A version's parts, as the reference cuts them. -/
abbrev RCut := List UInt8 × List UInt8 × List UInt8 × Bool
def BR (t : RCut) : ByteArray × ByteArray × ByteArray × Bool := (B t.1, B t.2.1, B t.2.2.1, t.2.2.2)
def badR : RCut := ([], [], [], false)
def rrest (e s : List UInt8) : RCut :=
  if 45 ∈ s then (if pOK (af 45 s) = true then (e, bf 45 s, af 45 s, pOK (bf 45 s)) else badR) else (e, s, [], pOK s)
def rcut (l : List UInt8) : RCut :=
  if 58 ∈ l then (if 1 ≤ (bf 58 l).length ∧ (bf 58 l).length ≤ 6 ∧ (bf 58 l).all dg = true then rrest (bf 58 l) (af 58 l) else badR)
  else rrest [] l
theorem cut_left {c : UInt8} {l : List UInt8} (h : c ∈ l) : (B l).extract 0 ((bf c l).length : Int).toNat = B (bf c l) := by
  have := B_cut_left (bf c l) (c :: af c l)
  rwa [← bf_af h] at this
theorem cut_right {c : UInt8} {l : List UInt8} (h : c ∈ l) : (B l).extract (((bf c l).length : Int) + 1).toNat (B l).size = B (af c l) := by
  have := B_cut_right (bf c l ++ [c]) (af c l)
  rw [List.append_assoc, List.singleton_append, ← bf_af h] at this
  rw [← this]
  congr 1
  simp
theorem bf_lt {c : UInt8} {l : List UInt8} (h : c ∈ l) : (bf c l).length + 1 ≤ l.length := by
  have := congrArg List.length (bf_af h)
  rw [List.length_append, List.length_cons] at this; omega
theorem parts_j2 (s e : List UInt8) (h : s.length ≤ 1000000) : Ev (fun k => mancipleref9_parts.j2 k (B s) (B e)) (BR (rrest e s)) := by
  have l1 := bf_le 45 s; have l2 := af_le 45 s
  refine Ev.step (fun k => by rw [mancipleref9_parts.j2]) ?_
  have hp := place_f 45 s h
  by_cases hm : (45 : UInt8) ∈ s
  · have l3 := bf_lt hm
    rw [if_pos hm] at hp
    refine Ev.bind hp ?_
    have ew : wrap64 (((bf 45 s).length : Int) + 1) = ((bf 45 s).length : Int) + 1 := wrap_id (by omega) (by omega)
    rw [ew]
    refine Ev.if_pos (by omega) ?_
    refine Ev.if_pos (by omega) ?_
    refine Ev.if_pos (by rw [B_size]; omega) ?_
    rw [cut_right hm]
    refine Ev.val_bind rfl ?_
    refine Ev.if_pos (by omega) ?_
    refine Ev.if_pos (by rw [B_size]; omega) ?_
    rw [cut_left hm]
    refine Ev.val_bind rfl ?_
    refine Ev.bind (part_f (af 45 s) (by omega)) ?_
    by_cases h1 : pOK (af 45 s) = true
    · refine Ev.if_pos h1 ?_
      refine Ev.bind (part_f (bf 45 s) (by omega)) ?_
      have hr : rrest e s = (e, bf 45 s, af 45 s, pOK (bf 45 s)) := by unfold rrest; rw [if_pos hm, if_pos h1]
      rw [hr]
      exact Ev.now _
    · refine Ev.if_neg h1 ?_
      have hr : rrest e s = badR := by unfold rrest; rw [if_pos hm, if_neg h1]
      rw [hr]
      exact Ev.now _
  · rw [if_neg hm] at hp
    refine Ev.bind hp ?_
    refine Ev.if_neg (by decide) ?_
    refine Ev.bind (part_f s h) ?_
    have hr : rrest e s = (e, s, [], pOK s) := by unfold rrest; rw [if_neg hm]
    rw [hr]
    exact Ev.now _
theorem parts_l0 (s : List UInt8) (hs : s.length ≤ 1000000) : ∀ (r p : List UInt8), (p ++ r).length ≤ 1000000 →
    Ev (fun k => mancipleref9_parts.l0 k (B s) (B (p ++ r)) (p.length : Int)) (BR (if r.all dg = true then rrest (p ++ r) s else badR)) := by
  intro r
  induction r with
  | nil =>
    intro p hp
    refine Ev.step (fun k => by rw [mancipleref9_parts.l0]) ?_
    refine Ev.if_neg (by rw [B_size]; simp) ?_
    exact parts_j2 s (p ++ []) hs
  | cons c r ih =>
    intro p hp
    have nx := ih (p ++ [c]) (by simpa using hp)
    have e : wrap64 ((p.length : Int) + 1) = ((p ++ [c]).length : Int) := by
      rw [wrap_id (by omega) (by simp at hp; omega)]; simp
    simp only [List.append_assoc, List.singleton_append] at nx
    refine Ev.step (fun k => by rw [mancipleref9_parts.l0]) ?_
    refine Ev.if_pos (by rw [B_size]; simp; omega) ?_
    refine Ev.if_pos (by omega) ?_
    rw [B_bt_mid, e]
    refine Ev.val_bind (rdigit_f c) ?_
    rw [List.all_cons]
    by_cases h : dg c = true
    · refine Ev.if_pos h ?_
      rw [h, Bool.true_and]
      exact nx
    · refine Ev.if_neg h ?_
      rw [Bool.eq_false_iff.mpr h, Bool.false_and, if_neg (by decide)]
      exact Ev.now _
theorem parts_j0 (s e : List UInt8) (x : Bool) (hs : s.length ≤ 1000000) (he : e.length ≤ 1000000) : Ev (fun k => mancipleref9_parts.j0 k (B s) (B e) x) (BR (if x = false ∧ e.all dg = true then rrest e s else badR)) := by
  refine Ev.step (fun k => by rw [mancipleref9_parts.j0]) ?_
  cases x
  · refine Ev.if_neg (by decide) ?_
    have := parts_l0 s hs e [] he
    simpa using this
  · refine Ev.if_pos rfl ?_
    rw [if_neg (fun h => by cases h.1)]
    exact Ev.now _
theorem parts_f (l : List UInt8) (h : l.length ≤ 1000000) : Ev (fun k => mancipleref9_parts.f k (B l)) (BR (rcut l)) := by
  have l1 := bf_le 58 l; have l2 := af_le 58 l
  refine Ev.congr (fun k => by rw [mancipleref9_parts.f]) ?_
  have hp := place_f 58 l h
  by_cases hm : (58 : UInt8) ∈ l
  · have l3 := bf_lt hm
    rw [if_pos hm] at hp
    refine Ev.bind hp ?_
    have ew : wrap64 (((bf 58 l).length : Int) + 1) = ((bf 58 l).length : Int) + 1 := wrap_id (by omega) (by omega)
    rw [ew]
    refine Ev.if_pos (by omega) ?_
    refine Ev.if_pos (by omega) ?_
    refine Ev.if_pos (by rw [B_size]; omega) ?_
    rw [cut_left hm]
    refine Ev.val_bind rfl ?_
    refine Ev.if_pos (by omega) ?_
    refine Ev.if_pos (by rw [B_size]; omega) ?_
    rw [cut_right hm]
    refine Ev.val_bind rfl ?_
    unfold rcut
    rw [if_pos hm, B_size]
    by_cases h1 : 1 ≤ (bf 58 l).length
    · refine Ev.if_neg (by omega) ?_
      have := parts_j0 (af 58 l) (bf 58 l) (decide (((bf 58 l).length : Int) > 6)) (by omega) (by omega)
      have e : (decide (((bf 58 l).length : Int) > 6) = false ∧ (bf 58 l).all dg = true) ↔ (1 ≤ (bf 58 l).length ∧ (bf 58 l).length ≤ 6 ∧ (bf 58 l).all dg = true) := by
        rw [decide_eq_false_iff_not]
        constructor
        · exact fun ⟨a, b⟩ => ⟨h1, by omega, b⟩
        · exact fun ⟨_, a, b⟩ => ⟨by omega, b⟩
      simp only [e] at this
      exact this
    · refine Ev.if_pos (by omega) ?_
      have := parts_j0 (af 58 l) (bf 58 l) true (by omega) (by omega)
      rw [if_neg (fun h => by cases h.1)] at this
      rw [if_neg (fun h => h1 h.1)]
      exact this
  · rw [if_neg hm] at hp
    refine Ev.bind hp ?_
    refine Ev.if_neg (by decide) ?_
    unfold rcut
    rw [if_neg hm]
    exact parts_j2 l [] h
def rcheck (l : List UInt8) : Int := if 40 < l.length then 4 else if (rcut l).2.2.2 = true then 0 else 5
theorem CheckVer_f (l : List UInt8) : Ev (fun k => mancipleref9_CheckVer.f k (B l)) (rcheck l) := by
  refine Ev.congr (fun k => by rw [mancipleref9_CheckVer.f]) ?_
  unfold rcheck
  by_cases h : 40 < l.length
  · refine Ev.if_pos (by rw [B_size]; omega) ?_
    rw [if_pos h]
    exact Ev.now _
  · refine Ev.if_neg (by rw [B_size]; omega) ?_
    rw [if_neg h]
    refine Ev.bind (parts_f l (by omega)) ?_
    by_cases h1 : (rcut l).2.2.2 = true
    · refine Ev.if_pos h1 ?_
      rw [if_pos h1]
      exact Ev.now _
    · refine Ev.if_neg h1 ?_
      rw [if_neg h1]
      exact Ev.now _
end Go.Proofs.YtpijehmhgjkkoaaDoor.Q
namespace Go.Proofs.YtpijehmhgjkkoaaDoor.Q
set_option linter.unusedVariables false
set_option linter.unusedSimpArgs false
open Go.RowKit Go.Proofs.YtpijehmhgjkkoaaDoorW.PrintWords Go.Proofs.YtpijehmhgjkkoaaDoorW.PrintLast Go.Proofs.YtpijehmhgjkkoaaDoorW.PB Go.Proofs.YtpijehmhgjkkoaaDoorW.VC
def rbare (l : List UInt8) : List UInt8 := if l = [] then [] else bare l
theorem rbare_nil : rbare [] = [] := rfl
theorem bare_nil : bare [] = [48] := rfl
theorem rbare_cons {l : List UInt8} (h : l ≠ []) : rbare l = bare l := if_neg h
theorem bare_ne (l : List UInt8) : bare l ≠ [] := by
  unfold bare
  split
  · simp
  · assumption
theorem bare_48 (l : List UInt8) : bare (48 :: l) = bare l := by simp [bare]
theorem bare_of {c : UInt8} (h : c ≠ 48) (l : List UInt8) : bare (c :: l) = c :: l := by simp [bare, h]
theorem rbare_l0 : ∀ l : List UInt8, l.length ≤ 1000000 → Ev (fun k => mancipleref9_bare.l0 k (B l)) (B (rbare l))
  | [], _ => by
    refine Ev.step (fun k => by rw [mancipleref9_bare.l0]) ?_
    refine Ev.if_neg (by rw [B_size]; simp) ?_
    exact Ev.now _
  | [c], _ => by
    refine Ev.step (fun k => by rw [mancipleref9_bare.l0]) ?_
    refine Ev.if_neg (by rw [B_size]; simp) ?_
    have : rbare [c] = [c] := by
      rw [rbare_cons (by simp)]
      by_cases h : c = 48
      · subst h; rfl
      · exact bare_of h []
    rw [this]
    exact Ev.now _
  | c :: d :: r, hl => by
    have ih := rbare_l0 (d :: r) (by simp only [List.length_cons] at hl ⊢; omega)
    refine Ev.step (fun k => by rw [mancipleref9_bare.l0]) ?_
    refine Ev.if_pos (by rw [B_size]; simp only [List.length_cons]; omega) ?_
    refine Ev.if_pos (by rw [B_size]; simp only [List.length_cons]; omega) ?_
    rw [B_bt_0]
    rw [rbare_cons (by simp)] at ih ⊢
    by_cases h : c = 48
    · subst h
      refine Ev.if_pos rfl ?_
      refine Ev.if_pos (by rw [B_size]; simp only [List.length_cons]; omega) ?_
      have e : (B (48 :: d :: r)).extract 1 (B (48 :: d :: r)).size = B (d :: r) := by
        have := B_cut_right [48] (d :: r); simpa using this
      rw [e, bare_48]
      exact ih
    · refine Ev.if_neg (fun h' => h (UInt8.toNat_inj.mp (by show c.toNat = 48; omega))) ?_
      rw [bare_of h]
      exact Ev.now _
theorem rbare_f (l : List UInt8) (h : l.length ≤ 1000000) : Ev (fun k => mancipleref9_bare.f k (B l)) (B (rbare l)) := rbare_l0 l h
theorem run_take : ∀ k s d i, mancipleref9_run.l0 k s d i = ver_take.l0 k s d i
  | 0, _, _, _ => by rw [mancipleref9_run.l0, ver_take.l0]
  | k + 1, s, d, i => by
    rw [mancipleref9_run.l0, ver_take.l0, run_take k]
    rfl
theorem run_f (d : Bool) (l : List UInt8) (h : l.length ≤ 1000000) : Ev (fun k => mancipleref9_run.f k (B l) d) (B (tk d l), B (dk d l)) := by
  refine Ev.congr (fun k => ?_) (take_f d l h)
  exact run_take k _ _ _
theorem sign_f (a b : Int) : mancipleref9_sign.f a b = some (sgn a b) := by
  unfold mancipleref9_sign.f sgn
  (repeat' split) <;> first | rfl | omega
theorem less_spec : ∀ l m : List UInt8, Op.bytesLess l m = decide (lexB l m = -1)
  | [], [] => by simp [Op.bytesLess, lexB, pad]
  | [], b :: m => by rw [← compare_lexB]; simp [Op.bytesLess, Lib.compareBytes]
  | a :: l, [] => by rw [← compare_lexB]; simp [Op.bytesLess, Lib.compareBytes]
  | a :: l, b :: m => by
    have ih := less_spec l m
    rw [← compare_lexB] at ih ⊢
    simp only [Op.bytesLess, Lib.compareBytes]
    rw [ih]
    by_cases h1 : a < b
    · simp [h1]
    · by_cases h2 : b < a
      · have h3 : a ≠ b := fun h => by subst h; exact h1 h2
        simp [h1, h2, h3]
      · have h3 : a = b := UInt8.toNat_inj.mp (by rw [UInt8.lt_iff_toNat_lt] at h1 h2; omega)
        simp [h1, h2, h3]
theorem lexB_zero : ∀ l m : List UInt8, lexB l m = 0 ↔ l = m
  | [], [] => by simp [lexB, pad]
  | [], b :: m => by rw [← compare_lexB]; simp [Lib.compareBytes]
  | a :: l, [] => by rw [← compare_lexB]; simp [Lib.compareBytes]
  | a :: l, b :: m => by
    have ih := lexB_zero l m
    rw [← compare_lexB] at ih ⊢
    simp only [Lib.compareBytes]
    by_cases h1 : a < b
    · have h3 : a ≠ b := fun h => by subst h; rw [UInt8.lt_iff_toNat_lt] at h1; omega
      simp [h1, h3]
    · by_cases h2 : b < a
      · have h3 : a ≠ b := fun h => by subst h; exact h1 h2
        simp [h1, h2, h3]
      · have h3 : a = b := UInt8.toNat_inj.mp (by rw [UInt8.lt_iff_toNat_lt] at h1 h2; omega)
        simp [h1, h2, h3, ih]
theorem digits_j1 (a b : List UInt8) : Ev (fun k => mancipleref9_digits.j1 k (B (bare a)) (B (bare b))) (numC a b) := by
  refine Ev.step (fun k => by rw [mancipleref9_digits.j1]) ?_
  rw [B_size, B_size, B_toList, B_toList]
  unfold numC orr
  by_cases h : ((bare a).length : Int) = (bare b).length
  · refine Ev.if_pos h ?_
    rw [if_pos (sgn_zero.mpr h), less_spec]
    rcases lexB_cmp.rng (bare a) (bare b) with h1 | h1 | h1
    · refine Ev.if_pos (by rw [h1]; rfl) ?_
      rw [h1]
      exact Ev.now _
    · refine Ev.if_neg (by rw [h1]; decide) ?_
      refine Ev.if_pos ((lexB_zero _ _).mp h1) ?_
      rw [h1]
      exact Ev.now _
    · refine Ev.if_neg (by rw [h1]; decide) ?_
      refine Ev.if_neg (fun h2 => by have := (lexB_zero _ _).mpr h2; omega) ?_
      rw [h1]
      exact Ev.now _
  · refine Ev.if_neg h ?_
    rw [if_neg (fun h' => h (sgn_zero.mp h')), sign_f]
    exact Ev.now _
theorem digits_j0 (a b : List UInt8) : Ev (fun k => mancipleref9_digits.j0 k (B (bare a)) (B (rbare b))) (numC a b) := by
  refine Ev.step (fun k => by rw [mancipleref9_digits.j0]) ?_
  by_cases h : b = []
  · subst h
    refine Ev.if_pos (by rw [B_toList]; rfl) ?_
    exact digits_j1 a []
  · rw [rbare_cons h]
    refine Ev.if_neg (by rw [B_toList]; exact bare_ne b) ?_
    exact digits_j1 a b
theorem digits_f (a b : List UInt8) (ha : a.length ≤ 1000000) (hb : b.length ≤ 1000000) : Ev (fun k => mancipleref9_digits.f k (B a) (B b)) (numC a b) := by
  refine Ev.congr (fun k => by rw [mancipleref9_digits.f]) ?_
  refine Ev.bind (rbare_f a ha) ?_
  refine Ev.bind (rbare_f b hb) ?_
  by_cases h : a = []
  · subst h
    refine Ev.if_pos (by rw [B_toList]; rfl) ?_
    exact digits_j0 [] b
  · rw [rbare_cons h]
    refine Ev.if_neg (by rw [B_toList]; exact bare_ne a) ?_
    exact digits_j0 a b
/-- Where a byte of a run stands, as the reference tells it. -/
def rw_ (c : UInt8) : Int := if c.toNat = 126 then -1 else if lt_ c = true then c.toNat else 256 + c.toNat
theorem mark_f (l : List UInt8) (i : Nat) : mancipleref9_mark.f (B l) (i : Int) = some (((l.drop i).map rw_).headD 0) := by
  unfold mancipleref9_mark.f
  by_cases h : i < l.length
  · rw [if_neg (by rw [B_size]; omega), if_pos (by omega), if_pos (by rw [B_size]; omega), B_bt l i h, rletter_f]
    rw [List.drop_eq_getElem_cons h]
    have hc := (l[i]).toNat_lt
    simp only [List.map_cons, List.headD_cons, Option.bind_some]
    unfold rw_
    rw [wrap_id (x := ((l[i]).toNat : Int)) (by omega) (by omega), wrap_id (by omega) (by omega)]
    by_cases h1 : (l[i]).toNat = 126
    · rw [if_pos (by omega), if_pos h1]
    · rw [if_neg (by omega), if_neg h1]
      split <;> rfl
  · rw [if_pos (by rw [B_size]; omega), List.drop_eq_nil_of_le (by omega)]
    rfl
theorem lt_range {c : UInt8} (h : lt_ c = true) : 65 ≤ c.toNat ∧ c.toNat ≤ 122 := by
  unfold lt_ at h; rw [decide_eq_true_iff] at h; omega
theorem rw_key (x y : Nat) (p q : Prop) [Decidable p] [Decidable q] (hx : x < 256) (hy : y < 256) (hp : p → 65 ≤ x ∧ x ≤ 122) (hq : q → 65 ≤ y ∧ y ≤ 122) :
    sgn (if x = 126 then -1 else if p then (x : Int) else 256 + x) (if y = 126 then -1 else if q then (y : Int) else 256 + y) = sgn (if x = 126 then 0 else if p then 2 + (x : Int) else 1000 + x) (if y = 126 then 0 else if q then 2 + (y : Int) else 1000 + y) := by
  unfold sgn
  by_cases h1 : x = 126 <;> by_cases h2 : y = 126 <;> by_cases h3 : p <;> by_cases h4 : q <;> simp only [h1, h2, h3, h4, if_true, if_false] <;>
    (try have q1 := hp h3) <;> (try have q2 := hq h4) <;> (repeat' split) <;> first | rfl | omega
theorem rw_wg (a b : UInt8) : sgn (rw_ a) (rw_ b) = sgn (wg a) (wg b) := rw_key _ _ _ _ a.toNat_lt b.toNat_lt lt_range lt_range
theorem rw_end_key (x : Nat) (p : Prop) [Decidable p] (hx : x < 256) (hp : p → 65 ≤ x ∧ x ≤ 122) :
    sgn (if x = 126 then -1 else if p then (x : Int) else 256 + x) 0 = sgn (if x = 126 then 0 else if p then 2 + (x : Int) else 1000 + x) 1 := by
  unfold sgn
  by_cases h1 : x = 126 <;> by_cases h3 : p <;> simp only [h1, h3, if_true, if_false] <;> (try have q1 := hp h3) <;> (repeat' split) <;> first | rfl | omega
theorem rw_end (a : UInt8) : sgn (rw_ a) 0 = sgn (wg a) 1 := rw_end_key _ _ a.toNat_lt lt_range
theorem end_rw (a : UInt8) : sgn 0 (rw_ a) = sgn 1 (wg a) := by
  rw [sgn_cmp.anti, rw_end, sgn_cmp.anti 1]; omega
theorem marks_words : ∀ a b : List UInt8, pad sgn 0 (a.map rw_) (b.map rw_) = wordsC a b
  | [], [] => by simp [wordsC, pad]
  | [], b :: m => by
    have ih := marks_words [] m
    unfold wordsC at ih ⊢
    simp only [List.map_nil, List.map_cons, pad, end_rw] at ih ⊢
    rw [ih]
  | a :: l, [] => by
    have ih := marks_words l []
    unfold wordsC at ih ⊢
    simp only [List.map_nil, List.map_cons, pad, rw_end] at ih ⊢
    rw [ih]
  | a :: l, b :: m => by
    have ih := marks_words l m
    unfold wordsC at ih ⊢
    simp only [List.map_cons, pad, rw_wg] at ih ⊢
    rw [ih]
theorem others_j1 (a b : List UInt8) (i : Nat) (ha : a.length ≤ 1000000) (hb : b.length ≤ 1000000) (hi : i < max a.length b.length)
    (ih : Ev (fun k => mancipleref9_others.l0 k (B a) (B b) ((i + 1 : Nat) : Int)) (pad sgn 0 ((a.drop (i + 1)).map rw_) ((b.drop (i + 1)).map rw_))) :
    Ev (fun k => mancipleref9_others.j1 k (B a) (B b) (i : Int) true) (pad sgn 0 ((a.drop i).map rw_) ((b.drop i).map rw_)) := by
  refine Ev.step (fun k => by rw [mancipleref9_others.j1]) ?_
  refine Ev.if_pos rfl ?_
  refine Ev.val_bind (mark_f a i) ?_
  refine Ev.val_bind (mark_f b i) ?_
  refine Ev.val_bind (sign_f _ _) ?_
  rw [pad_step sgn_cmp]
  unfold orr
  by_cases h : sgn (((a.drop i).map rw_).headD 0) (((b.drop i).map rw_).headD 0) = 0
  · refine Ev.if_pos h ?_
    rw [if_pos h]
    rw [show wrap64 ((i : Int) + 1) = ((i + 1 : Nat) : Int) by rw [wrap_id (by omega) (by omega)]; omega]
    simpa [List.tail_drop] using ih
  · refine Ev.if_neg h ?_
    rw [if_neg h]
    exact Ev.now _
theorem others_l0 (a b : List UInt8) (ha : a.length ≤ 1000000) (hb : b.length ≤ 1000000) : ∀ n (i : Nat), max a.length b.length - i = n → i ≤ max a.length b.length →
    Ev (fun k => mancipleref9_others.l0 k (B a) (B b) (i : Int)) (pad sgn 0 ((a.drop i).map rw_) ((b.drop i).map rw_)) := by
  intro n
  induction n with
  | zero =>
    intro i h0 hi
    refine Ev.step (fun k => by rw [mancipleref9_others.l0]) ?_
    refine Ev.if_neg (by rw [B_size]; omega) ?_
    refine Ev.step (fun k => by rw [mancipleref9_others.j1]) ?_
    refine Ev.if_neg (by rw [B_size, decide_eq_true_iff]; omega) ?_
    rw [List.drop_eq_nil_of_le (by omega), List.drop_eq_nil_of_le (by omega)]
    simp only [List.map_nil, pad]
    exact Ev.now _
  | succ n ih =>
    intro i h0 hi
    have := others_j1 a b i ha hb (by omega) (ih (i + 1) (by omega) (by omega))
    refine Ev.step (fun k => by rw [mancipleref9_others.l0]) ?_
    by_cases h : (i : Int) < ((B a).size : Int)
    · refine Ev.if_pos h ?_
      exact this
    · refine Ev.if_neg h ?_
      rw [decide_eq_true (by rw [B_size] at h ⊢; omega)]
      exact this
theorem others_f (a b : List UInt8) (ha : a.length ≤ 1000000) (hb : b.length ≤ 1000000) : Ev (fun k => mancipleref9_others.f k (B a) (B b)) (wordsC a b) := by
  have := others_l0 a b ha hb _ 0 rfl (by omega)
  refine Ev.congr (fun k => by rw [mancipleref9_others.f]) ?_
  rw [← marks_words]
  simpa using this
theorem held_j1 (a b : List UInt8) (ha : a.length ≤ 100000) (hb : b.length ≤ 100000) (ih : Ev (fun k => mancipleref9_held.l0 k (B (dk false (dk true a))) (B (dk false (dk true b)))) (orderC (dk false (dk true a)) (dk false (dk true b)))) :
    Ev (fun k => mancipleref9_held.j1 k (B a) (B b) true) (orderC a b) := by
  have l1 := dk_le true a; have l2 := dk_le true b; have l5 := tk_le true a; have l6 := tk_le true b
  have l3 := tk_le false (dk true a); have l4 := tk_le false (dk true b)
  refine Ev.step (fun k => by rw [mancipleref9_held.j1]) ?_
  refine Ev.if_pos rfl ?_
  refine Ev.bind (run_f true a (by omega)) ?_
  refine Ev.bind (run_f true b (by omega)) ?_
  refine Ev.bind (digits_f _ _ (by omega) (by omega)) ?_
  rw [order_step]
  generalize numC (tk true a) (tk true b) = x
  by_cases h : x = 0
  · refine Ev.if_pos h ?_
    subst h
    refine Ev.bind (run_f false (dk true a) (by omega)) ?_
    refine Ev.bind (run_f false (dk true b) (by omega)) ?_
    refine Ev.bind (others_f _ _ (by omega) (by omega)) ?_
    generalize wordsC (tk false (dk true a)) (tk false (dk true b)) = y
    by_cases h : y = 0
    · refine Ev.if_pos h ?_
      subst h
      exact ih
    · refine Ev.if_neg h ?_
      simp only [orr, if_true, if_neg h]
      exact Ev.now _
  · refine Ev.if_neg h ?_
    simp only [orr, if_neg h]
    exact Ev.now _
theorem held_l0 : ∀ n (a b : List UInt8), a.length + b.length ≤ n → n ≤ 100000 → Ev (fun k => mancipleref9_held.l0 k (B a) (B b)) (orderC a b) := by
  intro n
  induction n using Nat.strongRecOn with
  | ind n ih =>
    intro a b h hn
    refine Ev.step (fun k => by rw [mancipleref9_held.l0]) ?_
    by_cases h1 : a = []
    · refine Ev.if_pos (by rw [B_toList, h1]) ?_
      rw [B_toList]
      by_cases h2 : b = []
      · subst h1; subst h2
        refine Ev.step (fun k => by rw [mancipleref9_held.j1]) ?_
        refine Ev.if_neg (by decide) ?_
        simp only [orderC, cells_nil, pad]
        exact Ev.now _
      · have hb : (!b.isEmpty) = true := by cases b <;> simp_all
        rw [hb]
        have t1 := dk2_lt b h2
        have t2 := dk_le false (dk true a); have t3 := dk_le true a
        exact held_j1 a b (by omega) (by omega) (ih (a.length + b.length - 1) (by omega) _ _ (by omega) (by omega))
    · refine Ev.if_neg (by rw [B_toList]; exact h1) ?_
      have t1 := dk2_lt a h1
      have t2 := dk_le false (dk true b); have t3 := dk_le true b
      exact held_j1 a b (by omega) (by omega) (ih (a.length + b.length - 1) (by omega) _ _ (by omega) (by omega))
theorem held_f (a b : List UInt8) (ha : a.length ≤ 50000) (hb : b.length ≤ 50000) : Ev (fun k => mancipleref9_held.f k (B a) (B b)) (orderC a b) := held_l0 _ a b (Nat.le_refl _) (by omega)
/-- The number that digits tell. -/
def dv : List UInt8 → Nat
  | [] => 0
  | c :: l => (c.toNat - 48) * 10 ^ l.length + dv l
theorem dv_lt : ∀ l : List UInt8, l.all dg = true → dv l < 10 ^ l.length
  | [], _ => by simp [dv]
  | c :: l, h => by
    rw [List.all_cons, Bool.and_eq_true] at h
    have ih := dv_lt l h.2
    have hc : c.toNat - 48 ≤ 9 := by have := h.1; unfold dg at this; rw [decide_eq_true_iff] at this; omega
    simp only [dv, List.length_cons, Nat.pow_succ]
    have := Nat.mul_le_mul_right (10 ^ l.length) hc
    omega
def stepD (m : Nat) (c : UInt8) : Nat := 10 * m + (c.toNat - 48)
def dvA (n : Nat) (l : List UInt8) : Nat := l.foldl stepD n
theorem dvA_cons (n : Nat) (c : UInt8) (l : List UInt8) : dvA n (c :: l) = dvA (10 * n + (c.toNat - 48)) l := by unfold dvA; rw [List.foldl_cons, stepD]
theorem dvA_dv (l : List UInt8) : ∀ n, dvA n l = n * 10 ^ l.length + dv l := by
  induction l with
  | nil => intro n; simp only [dvA, dv, List.foldl_nil, List.length_nil, Nat.pow_zero, Nat.mul_one, Nat.add_zero]
  | cons c l ih =>
    intro n
    rw [dvA_cons, ih]
    simp only [dv, List.length_cons, Nat.pow_succ]
    generalize c.toNat - 48 = d
    generalize 10 ^ l.length = P
    have : (10 * n + d) * P = n * (P * 10) + d * P := by
      rw [Nat.add_mul, Nat.mul_comm 10 n, Nat.mul_assoc, Nat.mul_comm 10 P]
    omega
theorem dg_range {c : UInt8} (h : dg c = true) : 48 ≤ c.toNat ∧ c.toNat ≤ 57 := by unfold dg at h; rwa [decide_eq_true_iff] at h
theorem epoch_l0 : ∀ (r p : List UInt8) (n : Nat), (p ++ r).length ≤ 12 → r.all dg = true → n < 10 ^ p.length →
    Ev (fun k => mancipleref9_Epoch.l0 k (B (p ++ r)) (n : Int) (p.length : Int)) ((dvA n r : Nat) : Int) := by
  intro r
  induction r with
  | nil =>
    intro p n hp hr hn
    refine Ev.step (fun k => by rw [mancipleref9_Epoch.l0]) ?_
    refine Ev.if_neg (by rw [B_size]; simp) ?_
    exact Ev.now _
  | cons c r ih =>
    intro p n hp hr hn
    rw [List.all_cons, Bool.and_eq_true] at hr
    have hc := dg_range hr.1
    simp only [List.length_append, List.length_cons] at hp
    have hn12 : n < 10 ^ 12 := Nat.lt_of_lt_of_le hn (Nat.pow_le_pow_right (by decide) (by omega))
    rw [dvA_cons]
    have nx := ih (p ++ [c]) (10 * n + (c.toNat - 48)) (by simp; omega) hr.2 (by simp only [List.length_append, List.length_cons, List.length_nil, Nat.pow_succ]; omega)
    have e : wrap64 ((p.length : Int) + 1) = ((p ++ [c]).length : Int) := by
      rw [wrap_id (by omega) (by omega)]; simp
    simp only [List.append_assoc, List.singleton_append] at nx
    refine Ev.step (fun k => by rw [mancipleref9_Epoch.l0]) ?_
    refine Ev.if_pos (by rw [B_size]; simp; omega) ?_
    refine Ev.if_pos (by omega) ?_
    rw [B_bt_mid, e]
    have e2 : wrap64 (wrap64 (10 * (n : Int)) + ((c.toNat : Int) - 48) % 256) = ((10 * n + (c.toNat - 48) : Nat) : Int) := by
      rw [wrap_id (x := 10 * (n : Int)) (by omega) (by omega), wrap_id (by omega) (by omega)]; omega
    rw [e2]
    exact nx
theorem epoch_of (e : List UInt8) (h : e.length ≤ 6) (hd : e.all dg = true) : Ev (fun k => mancipleref9_Epoch.l0 k (B e) 0 0) ((dv e : Nat) : Int) := by
  have := epoch_l0 e [] 0 (by simpa using Nat.le_trans h (by decide)) hd (by simp)
  rw [dvA_dv] at this
  simpa using this
theorem lex_dv : ∀ l m : List UInt8, l.length = m.length → l.all dg = true → m.all dg = true → lexB l m = sgn (dv l : Int) (dv m : Int)
  | [], [], _, _, _ => by simp [lexB, pad, dv, sgn]
  | a :: l, b :: m, hl, h1, h2 => by
    simp only [List.length_cons, Nat.add_right_cancel_iff] at hl
    rw [List.all_cons, Bool.and_eq_true] at h1 h2
    have ih := lex_dv l m hl h1.2 h2.2
    have b1 := dv_lt l h1.2; have b2 := dv_lt m h2.2
    have r1 := dg_range h1.1; have r2 := dg_range h2.1
    have e : lexB (a :: l) (b :: m) = orr (sgn (val a) (val b)) (lexB l m) := by simp [lexB, pad]
    rw [e, ih]
    simp only [dv]
    rw [hl] at b1 ⊢
    generalize 10 ^ m.length = P at b1 b2 ⊢
    unfold orr
    by_cases hab : val a = val b
    · rw [if_pos (sgn_zero.mpr hab)]
      have : a.toNat = b.toNat := by unfold val at hab; omega
      rw [this]
      unfold sgn
      (repeat' split) <;> first | rfl | omega
    · rw [if_neg (fun h => hab (sgn_zero.mp h))]
      unfold val at hab ⊢
      unfold sgn
      by_cases hlt : a.toNat < b.toNat
      · have := Nat.mul_le_mul_right P (show (a.toNat - 48) + 1 ≤ b.toNat - 48 by omega)
        rw [Nat.add_mul] at this
        rw [if_pos (by omega), if_pos (by omega)]
      · have := Nat.mul_le_mul_right P (show (b.toNat - 48) + 1 ≤ a.toNat - 48 by omega)
        rw [Nat.add_mul] at this
        rw [if_neg (by omega), if_pos (by omega), if_neg (by omega), if_pos (by omega)]
theorem bare_dv : ∀ l : List UInt8, dv (bare l) = dv l
  | [] => by decide
  | c :: l => by
    by_cases h : c = 48
    · subst h; rw [bare_48, bare_dv l]; simp [dv]
    · rw [bare_of h]
theorem bare_all : ∀ l : List UInt8, l.all dg = true → (bare l).all dg = true
  | [], _ => by decide
  | c :: l, hd => by
    by_cases h : c = 48
    · subst h; rw [bare_48]; rw [List.all_cons, Bool.and_eq_true] at hd; exact bare_all l hd.2
    · rw [bare_of h]; exact hd
/-- A number without noughts ahead is one digit, or begins with a digit that is no nought. -/
theorem bare_head : ∀ l : List UInt8, bare l = [48] ∨ ∃ c r, bare l = c :: r ∧ c ≠ 48
  | [] => .inl rfl
  | c :: l => by
    by_cases h : c = 48
    · subst h; rw [bare_48]; exact bare_head l
    · rw [bare_of h]; exact .inr ⟨c, l, rfl, h⟩
theorem len_dv {a b : List UInt8} (ha : a.all dg = true) (hb : b.all dg = true) (hab : (bare a).length < (bare b).length) : dv a < dv b := by
  rw [← bare_dv a, ← bare_dv b]
  have h1 := dv_lt _ (bare_all a ha)
  have hb' := bare_all b hb
  rcases bare_head b with h | ⟨c, r, h, hc⟩
  · rw [h] at hab
    have := List.length_eq_zero_iff.mp (show (bare a).length = 0 by simp only [List.length_cons, List.length_nil] at hab; omega)
    exact absurd this (bare_ne a)
  · rw [h] at hab hb' ⊢
    rw [List.all_cons, Bool.and_eq_true] at hb'
    have hr := dg_range hb'.1
    have hc' : c.toNat ≠ 48 := fun h' => hc (UInt8.toNat_inj.mp h')
    simp only [List.length_cons] at hab
    have h2 : 10 ^ (bare a).length ≤ 10 ^ r.length := Nat.pow_le_pow_right (by decide) (by omega)
    have h3 := Nat.mul_le_mul_right (10 ^ r.length) (show 1 ≤ c.toNat - 48 by omega)
    simp only [dv]
    omega
theorem numC_dv (a b : List UInt8) (ha : a.all dg = true) (hb : b.all dg = true) : numC a b = sgn (dv a : Int) (dv b : Int) := by
  unfold numC orr
  by_cases h : (bare a).length = (bare b).length
  · rw [if_pos (sgn_zero.mpr (by omega)), lex_dv _ _ h (bare_all a ha) (bare_all b hb), bare_dv, bare_dv]
  · rw [if_neg (fun h' => h (by have := sgn_zero.mp h'; omega))]
    by_cases h1 : (bare a).length < (bare b).length
    · have := len_dv ha hb h1
      unfold sgn
      rw [if_pos (by omega), if_pos (by omega)]
    · have := len_dv hb ha (by omega)
      unfold sgn
      rw [if_neg (by omega), if_pos (by omega), if_neg (by omega), if_pos (by omega)]
end Go.Proofs.YtpijehmhgjkkoaaDoor.Q
namespace Go.Proofs.YtpijehmhgjkkoaaDoor.Q
set_option linter.unusedVariables false
set_option linter.unusedSimpArgs false
open Go.RowKit Go.Proofs.YtpijehmhgjkkoaaDoorW.PrintWords Go.Proofs.YtpijehmhgjkkoaaDoorW.PrintLast Go.Proofs.YtpijehmhgjkkoaaDoorW.PB Go.Proofs.YtpijehmhgjkkoaaDoorW.VC
abbrev Cell := List UInt8 × List UInt8
def norm (x : Cell) : Cell := (bare x.1, x.2)
def flat (l : List Cell) : List UInt8 := l.flatMap (fun x => x.1 ++ x.2)
/-- A part without noughts ahead of its numbers. -/
def plain (s : List UInt8) : List UInt8 := flat ((cells s).map norm)
theorem plain_nil : plain [] = [] := rfl
theorem plain_cons {s : List UInt8} (h : s ≠ []) : plain s = bare (tk true s) ++ (tk false (dk true s) ++ plain (dk false (dk true s))) := by
  unfold plain flat
  rw [cells_cons h]
  simp [norm]
def notHead (d : Bool) (l : List UInt8) : Prop := ∀ c r, l = c :: r → dg c ≠ d
theorem tk_all (d : Bool) : ∀ (l : List UInt8), ∀ c ∈ tk d l, dg c = d
  | [], c, h => by simp [tk] at h
  | x :: l, c, h => by
    unfold tk at h
    rw [List.takeWhile_cons] at h
    by_cases hx : (dg x == d) = true
    · rw [if_pos hx] at h
      rcases List.mem_cons.mp h with rfl | h
      · exact beq_iff_eq.mp hx
      · exact tk_all d l c h
    · rw [if_neg hx] at h; simp at h
theorem dk_head (d : Bool) (l : List UInt8) : notHead d (dk d l) := by
  intro c r h
  have := dw_head _ l c r h
  intro h'; rw [h'] at this; simp at this
theorem tk_dk_app (d : Bool) (b : List UInt8) (hb : notHead d b) : ∀ a : List UInt8, (∀ c ∈ a, dg c = d) → tk d (a ++ b) = a ∧ dk d (a ++ b) = b
  | [], _ => by
    cases b with
    | nil => exact ⟨rfl, rfl⟩
    | cons c r =>
      have : (dg c == d) = false := by rw [Bool.eq_false_iff]; intro h; exact hb c r rfl (beq_iff_eq.mp h)
      simp [tk, dk, this]
  | x :: a, h => by
    have ih := tk_dk_app d b hb a (fun c hc => h c (List.mem_cons_of_mem _ hc))
    have hx : (dg x == d) = true := beq_iff_eq.mpr (h x (List.mem_cons_self ..))
    unfold tk dk at ih ⊢
    simp only [List.cons_append, List.takeWhile_cons, List.dropWhile_cons, hx, if_true, ih.1, ih.2, and_self]
theorem bare_dg (l : List UInt8) (h : ∀ c ∈ l, dg c = true) : ∀ c ∈ bare l, dg c = true :=
  List.all_eq_true.mp (bare_all l (List.all_eq_true.mpr h))
theorem plain_head (s : List UInt8) : notHead false (plain s) := by
  intro c r h
  by_cases hs : s = []
  · subst hs; simp [plain_nil] at h
  · rw [plain_cons hs] at h
    have hb := bare_dg _ (tk_all true s)
    cases hq : bare (tk true s) with
    | nil => exact absurd hq (bare_ne _)
    | cons x t =>
      rw [hq, List.cons_append] at h
      have : x = c := (List.cons.inj h).1
      rw [← this, hb x (by rw [hq]; exact List.mem_cons_self ..)]
      decide
/-- Where a run of others is empty, nothing is behind it. -/
theorem no_word {s : List UInt8} (h : tk false (dk true s) = []) : dk false (dk true s) = [] ∧ dk true s = [] := by
  have e := tk_dk false (dk true s)
  rw [h, List.nil_append] at e
  cases hd : dk true s with
  | nil => exact ⟨rfl, rfl⟩
  | cons c r =>
    have := dk_head true s c r hd
    have hc : dg c = false := by cases hh : dg c <;> simp_all
    rw [hd] at h
    simp [tk, hc] at h
theorem cells_plain : ∀ n (s : List UInt8), s.length ≤ n → cells (plain s) = (cells s).map norm := by
  intro n
  induction n using Nat.strongRecOn with
  | ind n ih =>
    intro s hn
    by_cases hs : s = []
    · subst hs; rfl
    · have lt := dk2_lt s hs
      have ih' := ih (s.length - 1) (by have := List.length_pos_iff.mpr hs; omega) (dk false (dk true s)) (by omega)
      rw [cells_cons hs, List.map_cons, ← ih']
      have e := plain_cons hs
      have hne : plain s ≠ [] := by rw [e]; simp [bare_ne]
      have hd := bare_dg _ (tk_all true s)
      have hw := tk_all false (dk true s)
      have h1 : notHead true (tk false (dk true s) ++ plain (dk false (dk true s))) := by
        intro c r h
        cases hq : tk false (dk true s) with
        | nil => rw [hq, (no_word hq).1, plain_nil] at h; simp at h
        | cons x t =>
          rw [hq, List.cons_append] at h
          rw [← (List.cons.inj h).1, hw x (by rw [hq]; exact List.mem_cons_self ..)]
          decide
      have a1 := tk_dk_app true _ h1 _ hd
      have a2 := tk_dk_app false _ (plain_head (dk false (dk true s))) _ hw
      rw [cells_cons hne, e, a1.1, a1.2, a2.1, a2.2]
      rfl
theorem bare_bare (l : List UInt8) : bare (bare l) = bare l := by
  rcases bare_head l with h | ⟨c, r, h, hc⟩
  · rw [h]; decide
  · rw [h, bare_of hc]
theorem numC_zero (a b : List UInt8) : numC a b = 0 ↔ bare a = bare b := by
  unfold numC
  rw [orr_zero, sgn_zero, lexB_zero]
  exact ⟨fun h => h.2, fun h => ⟨by rw [h], h⟩⟩
theorem wg_key (x y : Nat) (p q : Prop) [Decidable p] [Decidable q] (hx : x < 256) (hy : y < 256) (hp : p → 65 ≤ x ∧ x ≤ 122) (hq : q → 65 ≤ y ∧ y ≤ 122)
    (h : (if x = 126 then (0 : Int) else if p then 2 + (x : Int) else 1000 + x) = (if y = 126 then 0 else if q then 2 + (y : Int) else 1000 + y)) : x = y := by
  by_cases h1 : x = 126 <;> by_cases h2 : y = 126 <;> by_cases h3 : p <;> by_cases h4 : q <;> simp only [h1, h2, h3, h4, if_true, if_false] at h <;>
    (try have q1 := hp h3) <;> (try have q2 := hq h4) <;> omega
theorem wg_inj {a b : UInt8} (h : wg a = wg b) : a = b := UInt8.toNat_inj.mp (wg_key _ _ _ _ a.toNat_lt b.toNat_lt lt_range lt_range h)
theorem wg_end (a : UInt8) : wg a ≠ 1 := by
  unfold wg
  (repeat' split) <;> omega
theorem wordsC_zero : ∀ a b : List UInt8, wordsC a b = 0 ↔ a = b
  | [], [] => by simp [wordsC, pad]
  | [], b :: m => by
    have : sgn 1 (wg b) ≠ 0 := fun h => wg_end b (sgn_zero.mp h).symm
    simp [wordsC, pad, orr, this]
  | a :: l, [] => by
    have : sgn (wg a) 1 ≠ 0 := fun h => wg_end a (sgn_zero.mp h)
    simp [wordsC, pad, orr, this]
  | a :: l, b :: m => by
    have ih := wordsC_zero l m
    unfold wordsC at ih ⊢
    simp only [List.map_cons, pad]
    rw [orr_zero, ih, sgn_zero, List.cons.injEq]
    exact ⟨fun h => ⟨wg_inj h.1, h.2⟩, fun h => ⟨by rw [h.1], h.2⟩⟩
theorem cellC_zero (x y : Cell) : cellC x y = 0 ↔ norm x = norm y := by
  unfold cellC norm
  rw [orr_zero, numC_zero, wordsC_zero, Prod.mk.injEq]
theorem cellC_norm (x y : Cell) : cellC (norm x) (norm y) = cellC x y := by
  unfold cellC norm numC
  simp only [bare_bare]
theorem cellC_z1 (y : Cell) : cellC ([], []) (norm y) = cellC ([], []) y := by
  unfold cellC norm numC
  simp only [bare_bare]
theorem cellC_z2 (y : Cell) : cellC (norm y) ([], []) = cellC y ([], []) := by
  unfold cellC norm numC
  simp only [bare_bare]
theorem pad_norm : ∀ l m : List Cell, pad cellC ([], []) (l.map norm) (m.map norm) = pad cellC ([], []) l m
  | [], [] => by simp [pad]
  | [], b :: m => by
    have ih := pad_norm [] m
    simp only [List.map_nil] at ih
    simp only [List.map_nil, List.map_cons, pad, cellC_z1, ih]
  | a :: l, [] => by
    have ih := pad_norm l []
    simp only [List.map_nil] at ih
    simp only [List.map_nil, List.map_cons, pad, cellC_z2, ih]
  | a :: l, b :: m => by
    have ih := pad_norm l m
    simp only [List.map_cons, pad, cellC_norm, ih]
def WF : List Cell → Prop
  | [] => False
  | x :: t => if t = [] then x.2 = [] else x.2 ≠ [] ∧ WF t
theorem WF_zero : ∀ l m : List Cell, WF l → WF m → pad cellC ([], []) l m = 0 → l.map norm = m.map norm
  | [], _, h, _, _ => h.elim
  | _ :: _, [], _, h, _ => h.elim
  | x :: l, y :: m, h1, h2, h => by
    simp only [pad] at h
    rw [orr_zero, cellC_zero] at h
    have e2 : x.2 = y.2 := by have := congrArg Prod.snd h.1; exact this
    simp only [WF] at h1 h2
    by_cases hl : l = []
    · rw [if_pos hl] at h1
      by_cases hm : m = []
      · subst hl; subst hm; simp [h.1]
      · rw [if_neg hm] at h2; exact absurd (by rw [← e2]; exact h1) h2.1
    · rw [if_neg hl] at h1
      by_cases hm : m = []
      · rw [if_pos hm] at h2; exact absurd (by rw [e2]; exact h2) h1.1
      · rw [if_neg hm] at h2
        rw [List.map_cons, List.map_cons, h.1, WF_zero l m h1.2 h2.2 h.2]
theorem last_app (a b : List UInt8) (h : b ≠ []) : (a ++ b).getLastD 0 = b.getLastD 0 := by
  simp [List.getLastD_eq_getLast?, List.getLast?_append, h]
  cases hb : b.getLast? with
  | none => exact absurd (List.getLast?_eq_none_iff.mp hb) h
  | some x => simp
theorem last_mem (b : List UInt8) (h : b ≠ []) : b.getLastD 0 ∈ b := by
  rcases List.eq_nil_or_concat b with rfl | ⟨q, x, rfl⟩
  · exact absurd rfl h
  · simp [List.getLastD_eq_getLast?]
theorem cells_WF : ∀ n (s : List UInt8), s.length ≤ n → s ≠ [] → dg (s.getLastD 0) = true → WF (cells s) := by
  intro n
  induction n using Nat.strongRecOn with
  | ind n ih =>
    intro s hn hs hl
    have lt := dk2_lt s hs
    rw [cells_cons hs]
    have e1 : s = tk true s ++ dk true s := (tk_dk true s).symm
    have e2 : dk true s = tk false (dk true s) ++ dk false (dk true s) := (tk_dk false (dk true s)).symm
    by_cases hr : dk false (dk true s) = []
    · rw [hr, cells_nil]
      simp only [WF, if_true]
      rw [hr, List.append_nil] at e2
      apply Classical.byContradiction
      intro hw
      rw [e1, e2, last_app _ _ (by rw [← e2]; intro h; exact hw (by rw [h]; rfl))] at hl
      have hx := tk_all false (dk true s) _ (last_mem _ hw)
      rw [← e2] at hl hx
      rw [hl] at hx; cases hx
    · have hw : tk false (dk true s) ≠ [] := fun h => hr (no_word h).1
      have hne : cells (dk false (dk true s)) ≠ [] := by rw [cells_cons hr]; simp
      simp only [WF, if_neg hne]
      refine ⟨hw, ih (s.length - 1) (by omega) _ (by omega) hr ?_⟩
      have e3 : s = (tk true s ++ tk false (dk true s)) ++ dk false (dk true s) := by rw [List.append_assoc, ← e2, ← e1]
      rw [e3, last_app _ _ hr] at hl
      exact hl
theorem pOK_of {s : List UInt8} (h : pOK s = true) : s ≠ [] ∧ dg (s.headD 0) = true ∧ dg (s.getLastD 0) = true ∧ ∀ c ∈ s, okB c = true := by
  unfold pOK at h
  simp only [Bool.and_eq_true, Bool.not_eq_true', List.all_eq_true] at h
  exact ⟨fun h' => by rw [h'] at h; simp at h, h.2.1, h.2.2.1, h.2.2.2⟩
theorem pOK_mk {s : List UInt8} (h1 : s ≠ []) (h2 : dg (s.headD 0) = true) (h3 : dg (s.getLastD 0) = true) (h4 : ∀ c ∈ s, okB c = true) : pOK s = true := by
  unfold pOK
  simp only [Bool.and_eq_true, Bool.not_eq_true', List.all_eq_true]
  exact ⟨by cases s <;> simp_all, h2, h3, h4⟩
theorem order_zero {p q : List UInt8} (hp : pOK p = true) (hq : pOK q = true) : orderC p q = 0 ↔ plain p = plain q := by
  have h1 := pOK_of hp; have h2 := pOK_of hq
  constructor
  · intro h
    have := WF_zero _ _ (cells_WF _ p (Nat.le_refl _) h1.1 h1.2.2.1) (cells_WF _ q (Nat.le_refl _) h2.1 h2.2.2.1) h
    unfold plain; rw [this]
  · intro h
    unfold orderC
    have e := congrArg cells h
    rw [cells_plain _ _ (Nat.le_refl _), cells_plain _ _ (Nat.le_refl _)] at e
    rw [← pad_norm, e]
    exact pad_zero cellC_cmp _ _
theorem cells_all (P : UInt8 → Prop) : ∀ n (s : List UInt8), s.length ≤ n → (∀ c ∈ s, P c) → ∀ x ∈ cells s, (∀ c ∈ x.1, P c ∧ dg c = true) ∧ (∀ c ∈ x.2, P c) := by
  intro n
  induction n using Nat.strongRecOn with
  | ind n ih =>
    intro s hn h x hx
    by_cases hs : s = []
    · subst hs; simp [cells_nil] at hx
    · have lt := dk2_lt s hs
      rw [cells_cons hs] at hx
      have m1 : ∀ c ∈ dk true s, P c := fun c hc => h c ((List.dropWhile_sublist _).subset hc)
      have m2 : ∀ c ∈ dk false (dk true s), P c := fun c hc => m1 c ((List.dropWhile_sublist _).subset hc)
      rcases List.mem_cons.mp hx with rfl | hx
      · exact ⟨fun c hc => ⟨h c ((List.takeWhile_sublist _).subset hc), tk_all true s c hc⟩, fun c hc => m1 c ((List.takeWhile_sublist _).subset hc)⟩
      · exact ih (s.length - 1) (by omega) _ (by omega) m2 x hx
theorem flat_last : ∀ l : List Cell, WF l → (∀ x ∈ l, ∀ c ∈ x.1, dg c = true) → flat (l.map norm) ≠ [] ∧ dg ((flat (l.map norm)).getLastD 0) = true
  | [], h, _ => h.elim
  | x :: t, h, hd => by
    have hb := bare_dg x.1 (hd x (List.mem_cons_self ..))
    have e : flat ((x :: t).map norm) = (bare x.1 ++ x.2) ++ flat (t.map norm) := by simp [flat, norm]
    rw [e]
    refine ⟨by simp [bare_ne], ?_⟩
    simp only [WF] at h
    by_cases ht : t = []
    · rw [if_pos ht] at h
      subst ht
      rw [h]
      simp only [flat, List.map_nil, List.flatMap_nil, List.append_nil]
      exact hb _ (last_mem _ (bare_ne _))
    · rw [if_neg ht] at h
      have ih := flat_last t h.2 (fun y hy => hd y (List.mem_cons_of_mem _ hy))
      rw [last_app _ _ ih.1]
      exact ih.2
theorem dg_ok {c : UInt8} (h : dg c = true) : okB c = true := by unfold okB; rw [h]; rfl
theorem plain_ok {s : List UInt8} (h : pOK s = true) : pOK (plain s) = true := by
  obtain ⟨h1, h2, h3, h4⟩ := pOK_of h
  have hw := cells_WF _ s (Nat.le_refl _) h1 h3
  have ha := cells_all (fun c => okB c = true) _ s (Nat.le_refl _) h4
  have hl := flat_last _ hw (fun x hx c hc => ((ha x hx).1 c hc).2)
  refine pOK_mk hl.1 ?_ hl.2 ?_
  · cases hp : plain s with
    | nil => exact absurd hp hl.1
    | cons c r =>
      have := plain_head s c r hp
      show dg c = true
      cases hh : dg c <;> simp_all
  · intro c hc
    unfold plain flat at hc
    obtain ⟨y, hy, hc⟩ := List.mem_flatMap.mp hc
    obtain ⟨x, hx, rfl⟩ := List.mem_map.mp hy
    rcases List.mem_append.mp hc with hc | hc
    · exact dg_ok (bare_dg x.1 (fun c hc => ((ha x hx).1 c hc).2) c hc)
    · exact (ha x hx).2 c hc
theorem plain_plain (s : List UInt8) : plain (plain s) = plain s := by
  unfold plain
  have := cells_plain _ s (Nat.le_refl _)
  unfold plain at this
  rw [this]
  congr 1
  rw [List.map_map]
  congr 1
  funext x
  simp [norm, bare_bare]
theorem bare_len {l : List UInt8} (h : l ≠ []) : (bare l).length ≤ l.length := by
  unfold bare
  split
  · have := List.length_pos_iff.mpr h; simp; omega
  · exact (List.dropWhile_sublist _).length_le
theorem tk_ne {s : List UInt8} (h : s ≠ []) (hd : notHead false s) : tk true s ≠ [] := by
  cases s with
  | nil => exact absurd rfl h
  | cons c r =>
    have : dg c = true := by have := hd c r rfl; cases hh : dg c <;> simp_all
    simp [tk, this]
theorem plain_len : ∀ n (s : List UInt8), s.length ≤ n → notHead false s → (plain s).length ≤ s.length := by
  intro n
  induction n using Nat.strongRecOn with
  | ind n ih =>
    intro s hn hd
    by_cases hs : s = []
    · subst hs; simp [plain_nil]
    · have lt := dk2_lt s hs
      have ih' := ih (s.length - 1) (by have := List.length_pos_iff.mpr hs; omega) (dk false (dk true s)) (by omega) (dk_head false _)
      have b := bare_len (tk_ne hs hd)
      have e1 := congrArg List.length (tk_dk true s)
      have e2 := congrArg List.length (tk_dk false (dk true s))
      rw [List.length_append] at e1 e2
      rw [plain_cons hs, List.length_append, List.length_append]
      omega
theorem ok_head {s : List UInt8} (h : pOK s = true) : notHead false s := by
  intro c r e
  have := (pOK_of h).2.1
  rw [e] at this
  intro h'; rw [show (c :: r).headD 0 = c from rfl, h'] at this; cases this
end Go.Proofs.YtpijehmhgjkkoaaDoor.Q
namespace Go.Proofs.YtpijehmhgjkkoaaDoor.Q
set_option linter.unusedVariables false
set_option linter.unusedSimpArgs false
open Go.RowKit Go.Proofs.YtpijehmhgjkkoaaDoorW.PrintWords Go.Proofs.YtpijehmhgjkkoaaDoorW.PrintLast Go.Proofs.YtpijehmhgjkkoaaDoorW.PB Go.Proofs.YtpijehmhgjkkoaaDoorW.VC
theorem rcanon_l0 : ∀ n (s o : List UInt8), s.length ≤ n → o.length + s.length ≤ 100000 → notHead false s →
    Ev (fun k => mancipleref9_canon.l0 k (B s) (B o) true) (B (o ++ plain s)) := by
  intro n
  induction n using Nat.strongRecOn with
  | ind n ih =>
    intro s o hn ho hd
    refine Ev.step (fun k => by rw [mancipleref9_canon.l0]) ?_
    by_cases hs : s = []
    · subst hs
      refine Ev.if_pos (by rw [B_toList]) ?_
      rw [plain_nil, List.append_nil]
      exact Ev.now _
    · refine Ev.if_neg (by rw [B_toList]; exact hs) ?_
      have lt := dk2_lt s hs
      have l1 := dk_le true s; have l2 := tk_le true s; have l3 := tk_le false (dk true s)
      have hne := tk_ne hs hd
      have b := bare_len hne
      have e1 := congrArg List.length (tk_dk true s)
      have e2 := congrArg List.length (tk_dk false (dk true s))
      rw [List.length_append] at e1 e2
      refine Ev.bind (run_f true s (by omega)) ?_
      refine Ev.if_pos rfl ?_
      refine Ev.bind (rbare_f (tk true s) (by omega)) ?_
      rw [rbare_cons hne]
      refine Ev.if_pos (by rw [B_size, B_size]; omega) ?_
      rw [B_append]
      refine Ev.step (fun k => by rw [mancipleref9_canon.l0]) ?_
      rw [plain_cons hs]
      by_cases hw : dk true s = []
      · refine Ev.if_pos (by rw [B_toList]; exact hw) ?_
        rw [hw, show tk false [] = [] from rfl, show dk false [] = [] from rfl, plain_nil, List.append_nil, List.append_nil]
        exact Ev.now _
      · refine Ev.if_neg (by rw [B_toList]; exact hw) ?_
        refine Ev.bind (run_f false (dk true s) (by omega)) ?_
        refine Ev.if_neg (by decide) ?_
        refine Ev.if_pos (by rw [B_size, B_size, List.length_append]; omega) ?_
        rw [B_append]
        have nx := ih (s.length - 1) (by omega) (dk false (dk true s)) ((o ++ bare (tk true s)) ++ tk false (dk true s)) (by omega) (by rw [List.length_append, List.length_append]; omega) (dk_head false _)
        simp only [List.append_assoc] at nx ⊢
        exact nx
theorem rcanon_f (s : List UInt8) (h : s.length ≤ 50000) (hd : notHead false s) : Ev (fun k => mancipleref9_canon.f k (B s)) (B (plain s)) :=
  rcanon_l0 _ s [] (Nat.le_refl _) (by simp; omega) hd
/-- The canonical form, of an epoch, a part and a revision that are without noughts ahead. -/
def K (e p r : List UInt8) : List UInt8 := (if e = [48] then [] else e ++ [58]) ++ (p ++ (if r = [48] then [] else 45 :: r))
def one (l : List UInt8) : List UInt8 := if l = [] then [48] else l
theorem one_ne {l : List UInt8} (h : l ≠ []) : one l = l := if_neg h
theorem plain_48 : plain [48] = [48] := by decide
theorem rCanon_j1 (r o : List UInt8) (hr : r.length ≤ 1000) (ho : o.length ≤ 1000) (hd : notHead false r) : Ev (fun k => mancipleref9_Canon.j1 k (B r) (B o)) (B (o ++ (if plain (one r) = [48] then [] else 45 :: plain (one r))), (0 : Int)) := by
  refine Ev.step (fun k => by rw [mancipleref9_Canon.j1]) ?_
  by_cases h : r = []
  · subst h
    refine Ev.if_pos (by rw [B_toList]) ?_
    rw [show one [] = [48] from rfl, plain_48, if_pos rfl, List.append_nil]
    exact Ev.now _
  · refine Ev.if_neg (by rw [B_toList]; exact h) ?_
    rw [one_ne h]
    have pl := plain_len _ r (Nat.le_refl _) hd
    refine Ev.bind (rcanon_f r (by omega) hd) ?_
    by_cases h2 : plain r = [48]
    · refine Ev.if_pos (by rw [B_toList]; exact h2) ?_
      rw [if_pos h2, List.append_nil]
      exact Ev.now _
    · refine Ev.if_neg (by rw [B_toList]; exact h2) ?_
      refine Ev.if_pos (by rw [B_size]; omega) ?_
      refine Ev.val_bind (a := B (o ++ [45])) (congrArg some (B_append o [45])) ?_
      refine Ev.bind (rcanon_f r (by omega) hd) ?_
      refine Ev.if_pos (by rw [B_size, B_size, List.length_append]; simp only [List.length_cons, List.length_nil]; omega) ?_
      rw [if_neg h2, B_append, List.append_assoc]
      exact Ev.now _
theorem rCanon_j0 (e r o : List UInt8) (x : Bool) (hx : x = true ↔ bare (one e) ≠ [48]) (he : e ≠ [] ∨ x = false) (hl : e.length ≤ 100) (hr : r.length ≤ 100) (ho : o.length ≤ 100) (hd : notHead false r) :
    Ev (fun k => mancipleref9_Canon.j0 k (B e) (B r) (B o) x) (B ((if bare (one e) = [48] then [] else bare (one e) ++ [58]) ++ (o ++ (if plain (one r) = [48] then [] else 45 :: plain (one r)))), (0 : Int)) := by
  refine Ev.step (fun k => by rw [mancipleref9_Canon.j0]) ?_
  cases x
  · refine Ev.if_neg (by decide) ?_
    have hb : bare (one e) = [48] := Classical.byContradiction (fun h => by have := hx.mpr h; cases this)
    rw [if_pos hb, List.nil_append]
    exact rCanon_j1 r o (by omega) (by omega) hd
  · refine Ev.if_pos rfl ?_
    have hb := hx.mp rfl
    have hn : e ≠ [] := by rcases he with h | h; exact h; cases h
    rw [if_neg hb]
    rw [one_ne hn] at hb ⊢
    have bl := bare_len hn
    refine Ev.bind (rbare_f e (by omega)) ?_
    rw [rbare_cons hn]
    refine Ev.if_pos (by rw [B_size]; omega) ?_
    refine Ev.val_bind (a := B (bare e ++ [58])) (congrArg some (B_append (bare e) [58])) ?_
    refine Ev.if_pos (by rw [B_size, B_size, List.length_append]; simp only [List.length_cons, List.length_nil]; omega) ?_
    rw [B_append]
    have := rCanon_j1 r ((bare e ++ [58]) ++ o) (by omega) (by rw [List.length_append, List.length_append]; simp only [List.length_cons, List.length_nil]; omega) hd
    rw [List.append_assoc (bare e ++ [58]) o] at this
    exact this
/-- A version that is one: its parts, as both cut them. -/
structure Good (l e p r : List UInt8) : Prop where
  len : l.length ≤ 40
  rc : rcut l = (e, p, r, true)
  vc : vcut l = (one e, p, one r, 0)
  dig : ∀ c ∈ one e, dg c = true
  le6 : (one e).length ≤ 6
  pp : pOK p = true
  pr : pOK (one r) = true
  ll : e.length + p.length + r.length ≤ l.length
  sh : l.length = (if e = [] then 0 else e.length + 1) + p.length + (if r = [] then 0 else r.length + 1)
theorem pOK_ne {s : List UInt8} (h : pOK s = true) : s ≠ [] := (pOK_of h).1
theorem app_len {c : UInt8} {l : List UInt8} (h : c ∈ l) : (bf c l).length + 1 + (af c l).length = l.length := by
  have := congrArg List.length (bf_af h)
  rw [List.length_append, List.length_cons] at this; omega
theorem rrest_spec (e s : List UInt8) : (∃ p r, rrest e s = (e, p, r, true) ∧ (∀ e1, rest e1 s = (e1, p, one r, 0)) ∧ pOK p = true ∧ pOK (one r) = true ∧ s.length = p.length + (if r = [] then 0 else r.length + 1))
    ∨ ((rrest e s).2.2.2 = false ∧ ∀ e1, rest e1 s = badV 5) := by
  unfold rrest rest
  by_cases hm : (45 : UInt8) ∈ s
  · have := app_len hm
    simp only [if_pos hm]
    by_cases h1 : pOK (af 45 s) = true
    · rw [if_pos h1]
      by_cases h2 : pOK (bf 45 s) = true
      · refine .inl ⟨bf 45 s, af 45 s, by rw [h2], fun e1 => by rw [if_pos ⟨h2, h1⟩, one_ne (pOK_ne h1)], h2, by rw [one_ne (pOK_ne h1)]; exact h1, ?_⟩
        rw [if_neg (pOK_ne h1)]; omega
      · exact .inr ⟨Bool.eq_false_iff.mpr h2, fun e1 => if_neg (fun h => h2 h.1)⟩
    · rw [if_neg h1]
      exact .inr ⟨rfl, fun e1 => if_neg (fun h => h1 h.2)⟩
  · simp only [if_neg hm]
    by_cases h1 : pOK s = true
    · refine .inl ⟨s, [], by rw [h1], fun e1 => by rw [if_pos h1]; rfl, h1, by decide, by simp⟩
    · exact .inr ⟨Bool.eq_false_iff.mpr h1, fun e1 => if_neg h1⟩
theorem sh_le (r : List UInt8) (n m : Nat) (h : n = m + (if r = [] then 0 else r.length + 1)) : m + r.length ≤ n := by
  by_cases hr : r = []
  · subst hr; simp at h ⊢; omega
  · rw [if_neg hr] at h; omega
theorem good_or (l : List UInt8) : (∃ e p r, Good l e p r) ∨ (rcheck l ≠ 0 ∧ vcut l = badV (rcheck l)) := by
  unfold rcheck
  by_cases h : 40 < l.length
  · rw [if_pos h]
    exact .inr ⟨by decide, by unfold vcut; rw [if_pos h]⟩
  · rw [if_neg h]
    by_cases hm : (58 : UInt8) ∈ l
    · have al := app_len hm
      by_cases hc : 1 ≤ (bf 58 l).length ∧ (bf 58 l).length ≤ 6 ∧ (bf 58 l).all dg = true
      · have hr : rcut l = rrest (bf 58 l) (af 58 l) := by unfold rcut; rw [if_pos hm, if_pos hc]
        have hv : vcut l = rest (bf 58 l) (af 58 l) := by unfold vcut; rw [if_neg h, if_pos hm, if_pos hc]
        have hne : bf 58 l ≠ [] := List.length_pos_iff.mp hc.1
        rcases rrest_spec (bf 58 l) (af 58 l) with ⟨p, r, h1, h2, h3, h4, h5⟩ | ⟨h1, h2⟩
        · refine .inl ⟨bf 58 l, p, r, by omega, by rw [hr, h1], by rw [hv, h2, one_ne hne], ?_, by rw [one_ne hne]; exact hc.2.1, h3, h4, ?_, ?_⟩
          · rw [one_ne hne]; exact List.all_eq_true.mp hc.2.2
          · have := sh_le r _ _ h5; omega
          · rw [if_neg hne]; omega
        · rw [hr, h1, hv, h2]
          exact .inr ⟨by decide, rfl⟩
      · have hr : rcut l = badR := by unfold rcut; rw [if_pos hm, if_neg hc]
        have hv : vcut l = badV 5 := by unfold vcut; rw [if_neg h, if_pos hm, if_neg hc]
        rw [hr, hv]
        exact .inr ⟨by decide, rfl⟩
    · have hr : rcut l = rrest [] l := by unfold rcut; rw [if_neg hm]
      have hv : vcut l = rest [48] l := by unfold vcut; rw [if_neg h, if_neg hm]
      rcases rrest_spec [] l with ⟨p, r, h1, h2, h3, h4, h5⟩ | ⟨h1, h2⟩
      · refine .inl ⟨[], p, r, by omega, by rw [hr, h1], by rw [hv, h2]; rfl, by decide, by decide, h3, h4, ?_, ?_⟩
        · have : ([] : List UInt8).length = 0 := rfl
          have := sh_le r _ _ h5; omega
        · rw [if_pos rfl]; omega
      · rw [hr, h1, hv, h2]
        exact .inr ⟨by decide, rfl⟩
theorem Good.check {l e p r : List UInt8} (g : Good l e p r) : rcheck l = 0 := by
  have := g.len
  unfold rcheck
  rw [if_neg (by omega), g.rc]; rfl
theorem pOK_one {r : List UInt8} (h : pOK (one r) = true) : notHead false r := by
  by_cases hr : r = []
  · subst hr; intro c t h; cases h
  · rw [one_ne hr] at h; exact ok_head h
theorem rCanon_good {l e p r : List UInt8} (g : Good l e p r) : Ev (fun k => mancipleref9_Canon.f k (B l)) (B (K (bare (one e)) (plain p) (plain (one r))), (0 : Int)) := by
  have l1 := g.len; have l2 := g.ll
  have hd := ok_head g.pp
  have pl := plain_len _ p (Nat.le_refl _) hd
  refine Ev.congr (fun k => by rw [mancipleref9_Canon.f]) ?_
  refine Ev.bind (CheckVer_f l) ?_
  refine Ev.if_pos g.check ?_
  refine Ev.bind (parts_f l (by omega)) ?_
  rw [g.rc]
  refine Ev.bind (rcanon_f p (by omega) hd) ?_
  by_cases he : e = []
  · subst he
    refine Ev.if_pos (by show (B []).toList = _; rw [B_toList]) ?_
    exact rCanon_j0 [] r (plain p) false ⟨fun h => (by cases h), fun h => absurd rfl h⟩ (.inr rfl) (by omega) (by omega) (by omega) (pOK_one g.pr)
  · refine Ev.if_neg (by show ¬ (B e).toList = _; rw [B_toList]; exact he) ?_
    refine Ev.bind (rbare_f e (by omega)) ?_
    refine rCanon_j0 e r (plain p) _ ?_ (.inl he) (by omega) (by omega) (by omega) (pOK_one g.pr)
    rw [B_toList, rbare_cons he, one_ne he]
    simp
theorem rCanon_bad {l : List UInt8} (h : rcheck l ≠ 0) : Ev (fun k => mancipleref9_Canon.f k (B l)) (B [], rcheck l) := by
  refine Ev.congr (fun k => by rw [mancipleref9_Canon.f]) ?_
  refine Ev.bind (CheckVer_f l) ?_
  refine Ev.if_neg h ?_
  exact Ev.now _
theorem dv_one (e : List UInt8) : dv (one e) = dv e := by
  unfold one
  split
  · rename_i h; subst h; decide
  · rfl
theorem rEpoch_good {l e p r : List UInt8} (g : Good l e p r) : Ev (fun k => mancipleref9_Epoch.f k (B l)) ((dv (one e) : Nat) : Int) := by
  have l1 := g.len
  refine Ev.congr (fun k => by rw [mancipleref9_Epoch.f]) ?_
  refine Ev.bind (parts_f l (by omega)) ?_
  rw [g.rc, dv_one]
  by_cases he : e = []
  · subst he; exact epoch_of [] (by decide) (by decide)
  · have a := g.le6; have b := g.dig
    rw [one_ne he] at a b
    exact epoch_of e a (List.all_eq_true.mpr b)
theorem rCompare_good {l e p r l' e' p' r' : List UInt8} (g : Good l e p r) (g' : Good l' e' p' r') : Ev (fun k => mancipleref9_Compare.f k (B l) (B l')) (verC (vcut l) (vcut l')) := by
  have l1 := g.len; have l2 := g'.len; have l3 := g.ll; have l4 := g'.ll
  refine Ev.congr (fun k => by rw [mancipleref9_Compare.f]) ?_
  refine Ev.bind (parts_f l (by omega)) ?_
  refine Ev.bind (parts_f l' (by omega)) ?_
  refine Ev.bind (rEpoch_good g) ?_
  refine Ev.bind (rEpoch_good g') ?_
  refine Ev.val_bind (sign_f _ _) ?_
  rw [g.rc, g'.rc, g.vc, g'.vc, ← numC_dv _ _ (List.all_eq_true.mpr g.dig) (List.all_eq_true.mpr g'.dig)]
  show Ev _ (orr (numC (one e) (one e')) (orr (orderC p p') (orderC (one r) (one r'))))
  generalize numC (one e) (one e') = x
  by_cases hx : x = 0
  · refine Ev.if_pos hx ?_
    rw [orr, if_pos hx]
    refine Ev.bind (held_f p p' (by omega) (by omega)) ?_
    generalize orderC p p' = y
    by_cases hy : y = 0
    · refine Ev.if_pos hy ?_
      rw [orr, if_pos hy]
      by_cases h1 : r = []
      · subst h1
        refine Ev.if_pos (by show (B []).toList = _; rw [B_toList]) ?_
        by_cases h2 : r' = []
        · subst h2
          refine Ev.if_pos (by show (B []).toList = _; rw [B_toList]) ?_
          refine Ev.bind (held_f [48] [48] (by decide) (by decide)) ?_
          exact Ev.now _
        · refine Ev.if_neg (by show ¬ (B r').toList = _; rw [B_toList]; exact h2) ?_
          rw [one_ne h2]
          refine Ev.bind (held_f [48] r' (by decide) (by omega)) ?_
          exact Ev.now _
      · refine Ev.if_neg (by show ¬ (B r).toList = _; rw [B_toList]; exact h1) ?_
        rw [one_ne h1]
        by_cases h2 : r' = []
        · subst h2
          refine Ev.if_pos (by show (B []).toList = _; rw [B_toList]) ?_
          refine Ev.bind (held_f r [48] (by omega) (by decide)) ?_
          exact Ev.now _
        · refine Ev.if_neg (by show ¬ (B r').toList = _; rw [B_toList]; exact h2) ?_
          rw [one_ne h2]
          refine Ev.bind (held_f r r' (by omega) (by omega)) ?_
          exact Ev.now _
    · refine Ev.if_neg hy ?_
      rw [orr, if_neg hy]
      exact Ev.now _
  · refine Ev.if_neg hx ?_
    rw [orr, if_neg hx]
    exact Ev.now _
theorem bf_app (c : UInt8) : ∀ a b : List UInt8, c ∉ a → bf c (a ++ c :: b) = a ∧ af c (a ++ c :: b) = b
  | [], b, _ => by simp [bf, af]
  | x :: a, b, h => by
    have ih := bf_app c a b (fun h' => h (List.mem_cons_of_mem _ h'))
    have hx : (x != c) = true := by simp only [bne_iff_ne]; exact fun h' => h (by rw [h']; exact List.mem_cons_self ..)
    unfold bf af at ih ⊢
    simp only [List.cons_append, List.takeWhile_cons, List.dropWhile_cons, hx, if_true, ih.1, ih.2, and_self]
theorem ok_not {s : List UInt8} (h : pOK s = true) (c : UInt8) (hc : okB c = false) : c ∉ s := fun hm => by
  have := (pOK_of h).2.2.2 c hm
  rw [hc] at this; cases this
def vcut0 (l : List UInt8) : Cut :=
  if 58 ∈ l then (if 1 ≤ (bf 58 l).length ∧ (bf 58 l).length ≤ 6 ∧ (bf 58 l).all dg = true then rest (bf 58 l) (af 58 l) else badV 5)
  else rest [48] l
theorem rest_K (e p r : List UInt8) (hp : pOK p = true) (hr : pOK r = true) : rest e (p ++ (if r = [48] then [] else 45 :: r)) = (e, p, r, 0) := by
  unfold rest
  have hn := ok_not hp 45 (by decide)
  by_cases h : r = [48]
  · rw [if_pos h, List.append_nil, if_neg hn, if_pos hp, h]
  · rw [if_neg h, if_pos (by simp), (bf_app 45 p r hn).1, (bf_app 45 p r hn).2, if_pos ⟨hp, hr⟩]
theorem vcut_K (e p r : List UInt8) (he : ∀ c ∈ e, dg c = true) (h1 : 1 ≤ e.length) (h6 : e.length ≤ 6) (hp : pOK p = true) (hr : pOK r = true) : vcut0 (K e p r) = (e, p, r, 0) := by
  have n1 := ok_not hp 58 (by decide)
  have n2 := ok_not hr 58 (by decide)
  have n3 : (58 : UInt8) ∉ e := fun h => absurd (he _ h) (by decide)
  have nt : (58 : UInt8) ∉ p ++ (if r = [48] then [] else 45 :: r) := by
    intro h
    rcases List.mem_append.mp h with h | h
    · exact n1 h
    · split at h
      · simp at h
      · rcases List.mem_cons.mp h with h | h
        · exact absurd h (by decide)
        · exact n2 h
  unfold K
  by_cases h : e = [48]
  · rw [if_pos h, List.nil_append]
    unfold vcut0
    rw [if_neg nt, rest_K _ _ _ hp hr, h]
  · rw [if_neg h, List.append_assoc, List.singleton_append]
    unfold vcut0
    rw [if_pos (by simp), (bf_app 58 e _ n3).1, (bf_app 58 e _ n3).2, if_pos ⟨h1, h6, List.all_eq_true.mpr he⟩, rest_K _ _ _ hp hr]
/-- The canonical form of a version. -/
def canonOf (e p r : List UInt8) : List UInt8 := K (bare (one e)) (plain p) (plain (one r))
theorem bare_pos (l : List UInt8) : 1 ≤ (bare l).length := List.length_pos_iff.mpr (bare_ne l)
theorem one_nn (l : List UInt8) : one l ≠ [] := by unfold one; split <;> simp_all
theorem canon_cut {l e p r : List UInt8} (g : Good l e p r) : vcut0 (canonOf e p r) = (bare (one e), plain p, plain (one r), 0) := by
  have := bare_len (one_nn e); have l6 := g.le6
  exact vcut_K _ _ _ (bare_dg _ g.dig) (bare_pos _) (by omega) (plain_ok g.pp) (plain_ok g.pr)
theorem zero_canon {l e p r l' e' p' r' : List UInt8} (g : Good l e p r) (g' : Good l' e' p' r') : verC (vcut l) (vcut l') = 0 ↔ canonOf e p r = canonOf e' p' r' := by
  rw [g.vc, g'.vc]
  show orr (numC (one e) (one e')) (orr (orderC p p') (orderC (one r) (one r'))) = 0 ↔ _
  rw [orr_zero, orr_zero, numC_zero, order_zero g.pp g'.pp, order_zero g.pr g'.pr]
  constructor
  · intro ⟨h1, h2, h3⟩
    unfold canonOf; rw [h1, h2, h3]
  · intro h
    have := congrArg vcut0 h
    rw [canon_cut g, canon_cut g'] at this
    simp only [Prod.mk.injEq] at this
    exact ⟨this.1, this.2.1, this.2.2.1⟩
end Go.Proofs.YtpijehmhgjkkoaaDoor.Q
namespace Go.Proofs.YtpijehmhgjkkoaaDoor.Q
set_option linter.unusedVariables false
set_option linter.unusedSimpArgs false
open Go.RowKit Go.Proofs.YtpijehmhgjkkoaaDoorW.PrintWords Go.Proofs.YtpijehmhgjkkoaaDoorW.PrintLast Go.Proofs.YtpijehmhgjkkoaaDoorW.PB Go.Proofs.YtpijehmhgjkkoaaDoorW.VC
theorem wrapU {x : Int} (h0 : 0 ≤ x) (h1 : x < 18446744073709551616) : IntKind.u64.wrap x = x := by
  have : IntKind.u64.wrap x = x % 18446744073709551616 := by
    unfold IntKind.wrap
    have h : IntKind.u64.signed = false := rfl
    have hb : (2 : Int) ^ IntKind.u64.bits = 18446744073709551616 := by decide
    simp only [h, hb, Bool.false_and, Bool.false_eq_true, if_false]
  rw [this]; omega
def dch (n : Nat) : UInt8 := UInt8.ofNat (48 + n % 10)
theorem dch_nat (n : Nat) : (dch n).toNat = 48 + n % 10 := by
  unfold dch; rw [UInt8.toNat_ofNat']; omega
theorem dch_dg (n : Nat) : dg (dch n) = true := by
  unfold dg; rw [decide_eq_true_iff, dch_nat]; omega
theorem one_digit (n : Nat) (h : n < 18446744073709551616) : strOfNums [(IntKind.u64.wrap (48 + (Int.tmod (n : Int) 10))) % 256] = B [dch n] := by
  have e : Int.tmod (n : Int) 10 = ((n % 10 : Nat) : Int) := by rw [Int.tmod_eq_emod_of_nonneg (by omega)]; omega
  rw [e, wrapU (by omega) (by omega)]
  have e2 : (48 + ((n % 10 : Nat) : Int)) % 256 = ((48 + n % 10 : Nat) : Int) := by omega
  rw [e2]
  unfold strOfNums B dch
  simp only [List.map_cons, List.map_nil, Int.toNat_natCast]
theorem Decimal_l0 : ∀ m (x : Nat) (D : List UInt8) N, x < 10 ^ (m + 1) → x < 1000000000000 → D.length + m ≤ N → N ≤ 1000 → D.all dg = true → D ≠ [] →
    ∃ E, Ev (fun k => mancipleref9_Decimal.l0 k (x : Int) (B D)) (B E) ∧ E.all dg = true ∧ E ≠ [] ∧ E.length ≤ N ∧ dv E = (x / 10) * 10 ^ D.length + dv D := by
  intro m
  induction m with
  | zero =>
    intro x D N hx _ hN _ hD hne
    refine ⟨D, ?_, hD, hne, by omega, ?_⟩
    · refine Ev.step (fun k => by rw [mancipleref9_Decimal.l0]) ?_
      refine Ev.if_neg (by omega) ?_
      exact Ev.now _
    · have : x / 10 = 0 := by omega
      rw [this]; omega
  | succ m ih =>
    intro x D N hx hb hN h1000 hD hne
    by_cases h : x < 10
    · refine ⟨D, ?_, hD, hne, by omega, ?_⟩
      · refine Ev.step (fun k => by rw [mancipleref9_Decimal.l0]) ?_
        refine Ev.if_neg (by omega) ?_
        exact Ev.now _
      · have : x / 10 = 0 := by omega
        rw [this]; omega
    · have e : Int.tdiv (x : Int) 10 = ((x / 10 : Nat) : Int) := by rw [Int.tdiv_eq_ediv_of_nonneg (by omega)]; omega
      have ew : IntKind.u64.wrap ((x / 10 : Nat) : Int) = ((x / 10 : Nat) : Int) := wrapU (by omega) (by omega)
      rw [Nat.pow_succ] at hx
      obtain ⟨E, h1, h2, h3, h4, h5⟩ := ih (x / 10) (dch (x / 10) :: D) N (by omega) (by omega) (by rw [List.length_cons]; omega) h1000 (by rw [List.all_cons, dch_dg, hD]; rfl) (by simp)
      refine ⟨E, ?_, h2, h3, h4, ?_⟩
      · refine Ev.step (fun k => by rw [mancipleref9_Decimal.l0]) ?_
        rw [e, ew]
        refine Ev.if_pos (by omega) ?_
        refine Ev.val_bind rfl ?_
        rw [one_digit (x / 10) (by omega)]
        refine Ev.if_pos (by rw [B_size, B_size]; simp only [List.length_cons, List.length_nil]; omega) ?_
        rw [B_append]
        exact h1
      · rw [h5]
        simp only [dv, List.length_cons, Nat.pow_succ, dch_nat]
        generalize 10 ^ D.length = P
        have e3 : 48 + x / 10 % 10 - 48 = x / 10 % 10 := by omega
        rw [e3]
        have e4 : x / 10 / 10 * (P * 10) + x / 10 % 10 * P = x / 10 * P := by
          have : x / 10 / 10 * (P * 10) = (10 * (x / 10 / 10)) * P := by rw [Nat.mul_comm P 10, ← Nat.mul_assoc, Nat.mul_comm (x / 10 / 10) 10]
          rw [this, ← Nat.add_mul]
          congr 1; omega
        omega
theorem Decimal_f (n : Nat) (h : n < 4294967296) : ∃ D, Ev (fun k => mancipleref9_Decimal.f k (n : Int)) (B D) ∧ D.all dg = true ∧ D ≠ [] ∧ D.length ≤ 10 ∧ dv D = n := by
  obtain ⟨E, h1, h2, h3, h4, h5⟩ := Decimal_l0 9 n [dch n] 10 (by omega) (by omega) (by simp) (by omega) (by rw [List.all_cons, dch_dg]; rfl) (by simp)
  refine ⟨E, ?_, h2, h3, h4, ?_⟩
  · refine Ev.congr (fun k => by rw [mancipleref9_Decimal.f]) ?_
    rw [one_digit n (by omega)]
    exact h1
  · rw [h5]
    simp only [dv, List.length_cons, List.length_nil, dch_nat]
    omega
theorem cells_digits {s : List UInt8} (h : ∀ c ∈ s, dg c = true) (hn : s ≠ []) : cells s = [(s, [])] := by
  have hh : notHead true [] := fun c r e => by cases e
  have := tk_dk_app true [] hh s h
  rw [List.append_nil] at this
  rw [cells_cons hn, this.1, this.2]
  rfl
theorem cells_more {n w s : List UInt8} (hn : ∀ c ∈ n, dg c = true) (h1 : n ≠ []) (hw : ∀ c ∈ w, dg c = false) (h2 : w ≠ []) (hs : ∀ c ∈ s, dg c = true) (h3 : s ≠ []) :
    cells (n ++ (w ++ s)) = [(n, w), (s, [])] := by
  have q1 : notHead true (w ++ s) := by
    intro c r e
    cases w with
    | nil => exact absurd rfl h2
    | cons x t =>
      rw [List.cons_append] at e
      rw [← (List.cons.inj e).1, hw x (List.mem_cons_self ..)]; decide
  have q2 : notHead false s := by
    intro c r e
    rw [hs c (by rw [e]; exact List.mem_cons_self ..)]; decide
  have a1 := tk_dk_app true _ q1 n hn
  have a2 := tk_dk_app false _ q2 w hw
  rw [cells_cons (by simp [h1]), a1.1, a1.2, a2.1, a2.2, cells_digits hs h3]
theorem ok_digits {s : List UInt8} (h : ∀ c ∈ s, dg c = true) (hn : s ≠ []) : pOK s = true := by
  refine pOK_mk hn ?_ (h _ (last_mem s hn)) (fun c hc => dg_ok (h c hc))
  cases s with
  | nil => exact absurd rfl hn
  | cons c r => exact h c (List.mem_cons_self ..)
theorem ok_more {n w s : List UInt8} (hn : ∀ c ∈ n, dg c = true) (h1 : n ≠ []) (hw : ∀ c ∈ w, okB c = true) (hs : ∀ c ∈ s, dg c = true) (h3 : s ≠ []) : pOK (n ++ (w ++ s)) = true := by
  have hws : w ++ s ≠ [] := by simp [h3]
  refine pOK_mk (by simp [h1]) ?_ ?_ ?_
  · cases n with
    | nil => exact absurd rfl h1
    | cons c r => exact hn c (List.mem_cons_self ..)
  · rw [last_app _ _ hws, last_app _ _ h3]
    exact hs _ (last_mem s h3)
  · intro c hc
    rcases List.mem_append.mp hc with hc | hc
    · exact dg_ok (hn c hc)
    · rcases List.mem_append.mp hc with hc | hc
      · exact hw c hc
      · exact dg_ok (hs c hc)
theorem vcut_part {s : List UInt8} (h : pOK s = true) (hl : s.length ≤ 40) : vcut s = ([48], s, [48], 0) := by
  unfold vcut rest
  rw [if_neg (by omega), if_neg (ok_not h 58 (by decide)), if_neg (ok_not h 45 (by decide)), if_pos h]
theorem vcut_epoch {s : List UInt8} (c : UInt8) (hc : dg c = true) (h : pOK s = true) (hl : s.length ≤ 38) : vcut (c :: 58 :: s) = ([c], s, [48], 0) := by
  have n1 : (58 : UInt8) ∉ [c] := by
    intro h'; rw [List.mem_singleton] at h'; rw [← h'] at hc; exact absurd hc (by decide)
  have e := bf_app 58 [c] s n1
  rw [List.singleton_append] at e
  unfold vcut rest
  rw [if_neg (by simp; omega), if_pos (by simp), e.1, e.2, if_pos ⟨by simp, by simp, by simp [hc]⟩, if_neg (ok_not h 45 (by decide)), if_pos h]
theorem vcut_rev {s : List UInt8} (h : pOK s = true) (hl : s.length ≤ 38) : vcut (49 :: 45 :: s) = ([48], [49], s, 0) := by
  have n1 : (45 : UInt8) ∉ ([49] : List UInt8) := by decide
  have e := bf_app 45 [49] s n1
  rw [List.singleton_append] at e
  unfold vcut rest
  have n2 : (58 : UInt8) ∉ (49 :: 45 :: s : List UInt8) := by
    intro h'
    rcases List.mem_cons.mp h' with h' | h'
    · exact absurd h' (by decide)
    · rcases List.mem_cons.mp h' with h' | h'
      · exact absurd h' (by decide)
      · exact ok_not h 58 (by decide) h'
  rw [if_neg (by simp; omega), if_neg n2, if_pos (by simp), e.1, e.2, if_pos ⟨by decide, h⟩]
theorem orr_self0 (x : Int) : orr 0 x = x := if_pos rfl
theorem order_digits {s t : List UInt8} (hs : ∀ c ∈ s, dg c = true) (h1 : s ≠ []) (ht : ∀ c ∈ t, dg c = true) (h2 : t ≠ []) : orderC s t = sgn (dv s : Int) (dv t : Int) := by
  unfold orderC
  rw [cells_digits hs h1, cells_digits ht h2]
  simp only [pad, cellC, (wordsC_zero [] []).mpr rfl, or_0]
  exact numC_dv s t (List.all_eq_true.mpr hs) (List.all_eq_true.mpr ht)
theorem order_self (s : List UInt8) : orderC s s = 0 := orderC_cmp.self s
end Go.Proofs.YtpijehmhgjkkoaaDoor.Q
namespace Go.Proofs.YtpijehmhgjkkoaaDoor.Q
set_option linter.unusedVariables false
set_option linter.unusedSimpArgs false
open Go.RowKit Go.Proofs.YtpijehmhgjkkoaaDoorW.PrintWords Go.Proofs.YtpijehmhgjkkoaaDoorW.PrintLast Go.Proofs.YtpijehmhgjkkoaaDoorW.PB Go.Proofs.YtpijehmhgjkkoaaDoorW.VC
def marks : List (List UInt8) := [[126], [], [65], [90], [97], [122], [43], [46]]
def mk_ (x : Nat) : List UInt8 := marks.getD x []
theorem mk_all : ∀ x : Fin 8, (mk_ x.val).all okB = true ∧ (mk_ x.val).all (fun c => !dg c) = true ∧ (x.val = 1 ∨ mk_ x.val ≠ []) ∧ (mk_ x.val).length ≤ 1 := by decide +kernel
theorem mk_order0 : ∀ x y : Fin 8, sgn (((mk_ x.val).map wg).headD 1) (((mk_ y.val).map wg).headD 1) = sgn (x.val : Int) (y.val : Int) := by decide +kernel
theorem tail_nil {l : List UInt8} (h : l.length ≤ 1) : (l.map wg).tail = [] := by
  cases l with
  | nil => rfl
  | cons a t =>
    cases t with
    | nil => rfl
    | cons b t => simp at h
theorem mk_order (x y : Fin 8) : wordsC (mk_ x.val) (mk_ y.val) = sgn (x.val : Int) (y.val : Int) := by
  unfold wordsC
  rw [pad_step sgn_cmp, tail_nil (mk_all x).2.2.2, tail_nil (mk_all y).2.2.2, mk_order0]
  simp only [pad, or_0]
theorem mk_rd (x : Nat) (h : x < 8) : rdOf ByteArray.empty [(⟨#[126]⟩ : ByteArray), (⟨#[]⟩ : ByteArray), (⟨#[65]⟩ : ByteArray), (⟨#[90]⟩ : ByteArray), (⟨#[97]⟩ : ByteArray), (⟨#[122]⟩ : ByteArray), (⟨#[43]⟩ : ByteArray), (⟨#[46]⟩ : ByteArray)] (x : Int) = B (mk_ x) := by
  rcases (show x = 0 ∨ x = 1 ∨ x = 2 ∨ x = 3 ∨ x = 4 ∨ x = 5 ∨ x = 6 ∨ x = 7 by omega) with rfl | rfl | rfl | rfl | rfl | rfl | rfl | rfl <;> rfl
def txt (x : Nat) (D : List UInt8) : List UInt8 := [53] ++ (mk_ x ++ (if x = 1 then [] else D))
theorem txt_runs (x : Nat) (h : x < 8) {D : List UInt8} (hD : ∀ c ∈ D, dg c = true) (hn : D ≠ []) : tk true (txt x D) = [53] ∧ tk false (dk true (txt x D)) = mk_ x := by
  have hm := mk_all ⟨x, h⟩
  have hnd : ∀ c ∈ mk_ x, dg c = false := fun c hc => by
    have := List.all_eq_true.mp hm.2.1 c hc
    cases hh : dg c
    · rfl
    · rw [hh] at this; cases this
  have q2 : notHead false (if x = 1 then [] else D) := by
    intro c r e
    split at e
    · cases e
    · rw [hD c (by rw [e]; exact List.mem_cons_self ..)]; decide
  have q1 : notHead true (mk_ x ++ (if x = 1 then [] else D)) := by
    intro c r e
    cases hq : mk_ x with
    | nil =>
      rcases hm.2.2.1 with h1 | h1
      · have h1' : x = 1 := h1
        rw [hq, if_pos h1'] at e; cases e
      · exact absurd hq h1
    | cons y t =>
      rw [hq, List.cons_append] at e
      rw [← (List.cons.inj e).1, hnd y (by rw [hq]; exact List.mem_cons_self ..)]; decide
  have a1 := tk_dk_app true _ q1 [53] (by decide)
  have a2 := tk_dk_app false _ q2 (mk_ x) hnd
  unfold txt
  rw [a1.1, a1.2, a2.1]
  exact ⟨rfl, rfl⟩
theorem txt_ok (x : Nat) (h : x < 8) {D : List UInt8} (hD : ∀ c ∈ D, dg c = true) (hn : D ≠ []) : pOK (txt x D) = true := by
  have hm := mk_all ⟨x, h⟩
  by_cases h1 : x = 1
  · subst h1
    show pOK [53] = true
    decide
  · unfold txt
    rw [if_neg h1]
    exact ok_more (by decide) (by decide) (fun c hc => List.all_eq_true.mp hm.1 c hc) hD hn
theorem txt_len (x : Nat) (h : x < 8) {D : List UInt8} (hl : D.length ≤ 10) : (txt x D).length ≤ 12 := by
  have := (mk_all ⟨x, h⟩).2.2.2
  have h' : (mk_ x).length ≤ 1 := this
  unfold txt
  rw [List.length_append, List.length_append]
  split <;> simp <;> omega
theorem txt_order (x y : Nat) (hx : x < 8) (hy : y < 8) {D : List UInt8} (hD : ∀ c ∈ D, dg c = true) (hn : D ≠ []) (hl : D.length ≤ 10) : verC (vcut (txt x D)) (vcut (txt y D)) = sgn (x : Int) (y : Int) := by
  have l1 := txt_len x hx hl; have l2 := txt_len y hy hl
  rw [vcut_part (txt_ok x hx hD hn) (by omega), vcut_part (txt_ok y hy hD hn) (by omega)]
  show orr (numC [48] [48]) (orr (orderC (txt x D) (txt y D)) (orderC [48] [48])) = _
  rw [numC_cmp.self, order_self, or_0, orr_self0]
  by_cases h : x = y
  · subst h
    rw [order_self, sgn_cmp.self]
  · have a := txt_runs x hx hD hn; have b := txt_runs y hy hD hn
    have hw : wordsC (mk_ x) (mk_ y) = sgn (x : Int) (y : Int) := mk_order ⟨x, hx⟩ ⟨y, hy⟩
    rw [order_step, a.1, a.2, b.1, b.2, numC_cmp.self, orr_self0, hw]
    have : sgn (x : Int) (y : Int) ≠ 0 := fun h' => h (by have := sgn_zero.mp h'; omega)
    unfold orr
    rw [if_neg this]
theorem marks_j1 (x y : Nat) (hx : x < 8) (hy : y < 8) {D : List UInt8} (hD : ∀ c ∈ D, dg c = true) (hn : D ≠ []) (hl : D.length ≤ 10) :
    Ev (fun k => manciplelaw1_VerMarks.j1 k (x : Int) (y : Int) (B (txt x D)) (B (txt y D))) true := by
  have c1 := Compare_v (txt x D) (txt y D)
  have c2 := Compare_v (txt y D) (txt x D)
  rw [txt_order x y hx hy hD hn hl] at c1
  rw [txt_order y x hy hx hD hn hl] at c2
  refine Ev.step (fun k => by rw [manciplelaw1_VerMarks.j1]) ?_
  by_cases h1 : (x : Int) < (y : Int)
  · have e1 : sgn (x : Int) (y : Int) = -1 := if_pos h1
    have e2 : sgn (y : Int) (x : Int) = 1 := by unfold sgn; rw [if_neg (by omega), if_pos h1]
    rw [e1] at c1; rw [e2] at c2
    refine Ev.if_pos h1 ?_
    refine Ev.step (fun k => by rw [manciplelaw1_VerMarks.j2]) ?_
    refine Ev.if_neg (by omega) ?_
    refine Ev.bind c1 ?_
    refine Ev.if_pos rfl ?_
    refine Ev.bind c2 ?_
    rw [show ((1 : Int) == wrap64 (- -1)) = true by rw [wrap_id (by omega) (by omega)]; rfl]
    exact Ev.now _
  · refine Ev.if_neg h1 ?_
    refine Ev.step (fun k => by rw [manciplelaw1_VerMarks.j2]) ?_
    by_cases h2 : (x : Int) > (y : Int)
    · have e1 : sgn (x : Int) (y : Int) = 1 := by unfold sgn; rw [if_neg h1, if_pos h2]
      have e2 : sgn (y : Int) (x : Int) = -1 := if_pos h2
      rw [e1] at c1; rw [e2] at c2
      refine Ev.if_pos h2 ?_
      refine Ev.bind c1 ?_
      refine Ev.if_pos rfl ?_
      refine Ev.bind c2 ?_
      exact Ev.now _
    · have e1 : sgn (x : Int) (y : Int) = 0 := by unfold sgn; rw [if_neg h1, if_neg h2]
      have e2 : sgn (y : Int) (x : Int) = 0 := by unfold sgn; rw [if_neg h2, if_neg h1]
      rw [e1] at c1; rw [e2] at c2
      refine Ev.if_neg h2 ?_
      refine Ev.bind c1 ?_
      refine Ev.if_pos rfl ?_
      refine Ev.bind c2 ?_
      rw [show ((0 : Int) == wrap64 (-0)) = true by rw [wrap_id (by omega) (by omega)]; rfl]
      exact Ev.now _
theorem marks_j0 (x y n : Nat) (hx : x < 8) (hy : y < 8) {D : List UInt8} (hD : ∀ c ∈ D, dg c = true) (hn : D ≠ []) (hl : D.length ≤ 10) (hv : Ev (fun k => mancipleref9_Decimal.f k (n : Int)) (B D)) (h256 : n < 256) :
    Ev (fun k => manciplelaw1_VerMarks.j0 k (n : Int) (x : Int) (y : Int) (B (txt x D)) (B ([53] ++ mk_ y))) true := by
  have hm : (mk_ y).length ≤ 1 := (mk_all ⟨y, hy⟩).2.2.2
  refine Ev.step (fun k => by rw [manciplelaw1_VerMarks.j0]) ?_
  have nx := marks_j1 x y hx hy hD hn hl
  by_cases h : y = 1
  · refine Ev.if_pos (by omega) ?_
    unfold txt at nx ⊢
    rw [if_pos h, List.append_nil] at nx
    exact nx
  · refine Ev.if_neg (by omega) ?_
    rw [wrapU (by omega) (by omega)]
    refine Ev.bind hv ?_
    refine Ev.if_pos (by rw [B_size, B_size, List.length_append]; simp only [List.length_cons, List.length_nil]; omega) ?_
    rw [B_append, List.append_assoc]
    unfold txt at nx ⊢
    rw [if_neg h] at nx
    exact nx
theorem VerMarks : manciplelaw1_VerMarks.Pure := by
  intro a0 a1 a2 w0 w1 w2
  have b0 : 0 ≤ a0 ∧ a0 ≤ 255 := by simpa [Lit.wf, IntKind.min, IntKind.max, IntKind.signed, IntKind.bits] using w0
  have b1 : 0 ≤ a1 ∧ a1 ≤ 255 := by simpa [Lit.wf, IntKind.min, IntKind.max, IntKind.signed, IntKind.bits] using w1
  have b2 : 0 ≤ a2 ∧ a2 ≤ 255 := by simpa [Lit.wf, IntKind.min, IntKind.max, IntKind.signed, IntKind.bits] using w2
  obtain ⟨x, hx⟩ : ∃ x : Nat, Int.tmod a0 8 = (x : Int) ∧ x < 8 := ⟨(a0 % 8).toNat, by rw [Int.tmod_eq_emod_of_nonneg b0.1]; omega, by omega⟩
  obtain ⟨y, hy⟩ : ∃ y : Nat, Int.tmod a1 8 = (y : Int) ∧ y < 8 := ⟨(a1 % 8).toNat, by rw [Int.tmod_eq_emod_of_nonneg b1.1]; omega, by omega⟩
  obtain ⟨n, rfl⟩ : ∃ n : Nat, a2 = (n : Int) := ⟨a2.toNat, by omega⟩
  obtain ⟨D, hv, hD, hn, hl, _⟩ := Decimal_f n (by omega)
  have hD' := List.all_eq_true.mp hD
  refine Ev.rounds ?_
  refine Ev.congr (fun k => by rw [manciplelaw1_VerMarks.f]) ?_
  rw [hx.1, hy.1, wrap_id (x := (x : Int)) (by omega) (by omega), wrap_id (x := (y : Int)) (by omega) (by omega)]
  have mx_ : (mk_ x).length ≤ 1 := (mk_all ⟨x, hx.2⟩).2.2.2
  have my_ : (mk_ y).length ≤ 1 := (mk_all ⟨y, hy.2⟩).2.2.2
  refine Ev.bind known_f ?_
  refine Ev.if_pos rfl ?_
  refine Ev.val_bind rfl ?_
  rw [mk_rd x hx.2, mk_rd y hy.2]
  refine Ev.if_pos (by omega) ?_
  refine Ev.if_pos (by simp only [List.length_cons, List.length_nil]; omega) ?_
  refine Ev.if_pos (by rw [B_size]; omega) ?_
  refine Ev.val_bind (a := B ([53] ++ mk_ x)) (congrArg some (B_append [53] (mk_ x))) ?_
  refine Ev.if_pos (by omega) ?_
  refine Ev.if_pos (by simp only [List.length_cons, List.length_nil]; omega) ?_
  refine Ev.if_pos (by rw [B_size]; omega) ?_
  refine Ev.val_bind (a := B ([53] ++ mk_ y)) (congrArg some (B_append [53] (mk_ y))) ?_
  have nx := marks_j0 x y n hx.2 hy.2 hD' hn hl hv (by omega)
  by_cases h : x = 1
  · refine Ev.if_pos (by omega) ?_
    unfold txt at nx
    rw [if_pos h, List.append_nil] at nx
    exact nx
  · refine Ev.if_neg (by omega) ?_
    rw [wrapU (by omega) (by omega)]
    refine Ev.bind hv ?_
    refine Ev.if_pos (by rw [B_size, B_size, List.length_append]; simp only [List.length_cons, List.length_nil]; omega) ?_
    rw [B_append, List.append_assoc]
    unfold txt at nx
    rw [if_neg h] at nx
    exact nx
end Go.Proofs.YtpijehmhgjkkoaaDoor.Q
