/- The plain laws for the statement VerRows: what the functions tell, as functions of lists of bytes, and the statement of them. Plain theorems. -/
import Derived.Test.YtneigokookpngaaDoorAVerRows3
import Derived.Lib.Bytealg
import Derived.Test.YtneigokookpngaaDoorWWords
import Derived.Test.YtneigokookpngaaDoorWLast
import Derived.Lib.Strings
import Derived.Lib.IndexAny
import Derived.Lib.SlTrimSet
namespace Go.Proofs.YtneigokookpngaaDoorW.VC
set_option linter.unusedVariables false
/-- A comparison that tells -1, 0 or 1, turned round the contrary, and is in one row. -/
structure Cmp {α : Type} (c : α → α → Int) : Prop where
  rng : ∀ a b, c a b = -1 ∨ c a b = 0 ∨ c a b = 1
  anti : ∀ a b, c b a = - c a b
  trans : ∀ a b d, c a b ≤ 0 → c b d ≤ 0 → c a d ≤ 0
theorem Cmp.self {α : Type} {c : α → α → Int} (h : Cmp c) (a : α) : c a a = 0 := by have := h.anti a a; omega
theorem Cmp.cong {α : Type} {c : α → α → Int} (h : Cmp c) {a b : α} (e : c a b = 0) (d : α) : c a d = c b d := by
  have e' : c b a = 0 := by rw [h.anti]; omega
  have h1 := h.trans a b d; have h2 := h.trans b a d
  have h3 := h.trans d b a; have h4 := h.trans d a b
  have r1 := h.rng a d; have r2 := h.rng b d
  have a1 := h.anti a d; have a2 := h.anti b d
  omega
theorem Cmp.comap {α β : Type} {c : α → α → Int} (h : Cmp c) (f : β → α) : Cmp (fun a b => c (f a) (f b)) :=
  ⟨fun _ _ => h.rng _ _, fun _ _ => h.anti _ _, fun _ _ _ => h.trans _ _ _⟩
def sgn (a b : Int) : Int := if a < b then -1 else if b < a then 1 else 0
theorem sgn_cmp : Cmp sgn := by
  refine ⟨fun a b => ?_, fun a b => ?_, fun a b d => ?_⟩ <;> unfold sgn <;> (repeat' split) <;> omega
theorem sgn_zero {a b : Int} : sgn a b = 0 ↔ a = b := by unfold sgn; (repeat' split) <;> omega
def orr (x y : Int) : Int := if x = 0 then y else x
theorem orr_zero {x y : Int} : orr x y = 0 ↔ x = 0 ∧ y = 0 := by unfold orr; split <;> omega
theorem Cmp.lex {α : Type} {c d : α → α → Int} (h : Cmp c) (k : Cmp d) : Cmp (fun a b => orr (c a b) (d a b)) := by
  refine ⟨fun a b => ?_, fun a b => ?_, fun a b e => ?_⟩
  · have := h.rng a b; have := k.rng a b; unfold orr; split <;> omega
  · have h1 := h.anti a b; have h2 := k.anti a b; unfold orr; (repeat' split) <;> omega
  · have h1 := h.trans a b e; have h2 := k.trans a b e
    have r1 := h.rng a b; have r2 := h.rng b e; have r3 := h.rng a e
    have c1 : c a b = 0 → c a e = c b e := fun z => h.cong z e
    have c2 : c b e = 0 → c a b = c a e := fun z => by
      have z' : c e b = 0 := by rw [h.anti]; omega
      have := h.cong z' a; have := h.anti a b; have := h.anti a e
      have := h.anti e a; have := h.anti b a; omega
    have c3 : c a e = 0 → c b e = - c a b := fun z => by have := h.cong z b; have := h.anti e b; have := h.anti b e; omega
    intro p q
    unfold orr at p q ⊢
    (repeat' split at p) <;> (repeat' split at q) <;> (repeat' split) <;> omega
variable {α : Type}
def pad (c : α → α → Int) (z : α) : List α → List α → Int
  | [], [] => 0
  | [], b :: m => orr (c z b) (pad c z [] m)
  | a :: l, [] => orr (c a z) (pad c z l [])
  | a :: l, b :: m => orr (c a b) (pad c z l m)
def padN (c : α → α → Int) (z : α) : Nat → List α → List α → Int
  | 0, _, _ => 0
  | n + 1, l, m => orr (c (l.headD z) (m.headD z)) (padN c z n l.tail m.tail)
theorem padN_nil {c : α → α → Int} (h : Cmp c) (z : α) : ∀ n, padN c z n [] [] = 0
  | 0 => rfl
  | n + 1 => by
    show orr (c z z) (padN c z n [] []) = 0
    rw [padN_nil h z n, orr_zero]
    exact ⟨h.self z, rfl⟩
theorem pad_N {c : α → α → Int} (h : Cmp c) (z : α) : ∀ n (l m : List α), l.length ≤ n → m.length ≤ n → pad c z l m = padN c z n l m
  | 0, [], [], _, _ => by simp [pad, padN]
  | n + 1, [], [], _, _ => by rw [padN_nil h]; simp [pad]
  | n + 1, [], b :: m, h1, h2 => by
    have := pad_N h z n [] m (by simp) (by simp at h2; omega)
    simp [pad, padN, this]
  | n + 1, a :: l, [], h1, h2 => by
    have := pad_N h z n l [] (by simp at h1; omega) (by simp)
    simp [pad, padN, this]
  | n + 1, a :: l, b :: m, h1, h2 => by
    have := pad_N h z n l m (by simp at h1; omega) (by simp at h2; omega)
    simp [pad, padN, this]
theorem padN_cmp {c : α → α → Int} (h : Cmp c) (z : α) : ∀ n, Cmp (padN c z n)
  | 0 => ⟨fun _ _ => .inr (.inl rfl), fun _ _ => rfl, fun _ _ _ _ _ => Int.le_refl 0⟩
  | n + 1 => Cmp.lex (h.comap (fun l : List α => l.headD z)) ((padN_cmp h z n).comap List.tail)
theorem pad_cmp {c : α → α → Int} (h : Cmp c) (z : α) : Cmp (pad c z) := by
  refine ⟨fun a b => ?_, fun a b => ?_, fun a b d => ?_⟩
  · rw [pad_N h z (max a.length b.length) a b (by omega) (by omega)]
    exact (padN_cmp h z _).rng _ _
  · rw [pad_N h z (max a.length b.length) a b (by omega) (by omega), pad_N h z (max a.length b.length) b a (by omega) (by omega)]
    exact (padN_cmp h z _).anti _ _
  · rw [pad_N h z (max a.length (max b.length d.length)) a b (by omega) (by omega), pad_N h z (max a.length (max b.length d.length)) b d (by omega) (by omega), pad_N h z (max a.length (max b.length d.length)) a d (by omega) (by omega)]
    exact (padN_cmp h z _).trans _ _ _

theorem pad_zero {c : α → α → Int} (h : Cmp c) (z : α) (l : List α) : pad c z l l = 0 := (pad_cmp h z).self l
theorem u8_cmp : Cmp (fun a b : UInt8 => sgn (a.toNat : Int) (b.toNat : Int)) := sgn_cmp.comap _
/-- The order of two texts, as a filled order: the end stands below each byte. -/
def val (c : UInt8) : Int := (c.toNat : Int)
def lexB (l m : List UInt8) : Int := pad sgn (-1) (l.map val) (m.map val)
theorem lexB_cmp : Cmp lexB := (pad_cmp sgn_cmp (-1)).comap (fun l : List UInt8 => l.map val)
theorem compare_lexB : ∀ l m : List UInt8, Lib.compareBytes l m = lexB l m
  | [], [] => by simp [Lib.compareBytes, lexB, pad]
  | [], b :: m => by
    have : sgn (-1) (val b) = -1 := by unfold sgn val; split <;> omega
    simp [Lib.compareBytes, lexB, pad, orr, this]
  | a :: l, [] => by
    have : sgn (val a) (-1) = 1 := by unfold sgn val; (repeat' split) <;> omega
    simp [Lib.compareBytes, lexB, pad, orr, this]
  | a :: l, b :: m => by
    have ih := compare_lexB l m
    have e : lexB (a :: l) (b :: m) = orr (sgn (val a) (val b)) (lexB l m) := by simp [lexB, pad]
    rw [e, ← ih]
    simp only [Lib.compareBytes]
    unfold orr sgn val
    have e1 : a < b ↔ (a.toNat : Int) < b.toNat := by rw [UInt8.lt_iff_toNat_lt]; omega
    have e2 : b < a ↔ (b.toNat : Int) < a.toNat := by rw [UInt8.lt_iff_toNat_lt]; omega
    by_cases h1 : a < b
    · simp [h1, e1.mp h1]
    · by_cases h2 : b < a
      · have h3 := e2.mp h2; have h4 : ¬ (a.toNat : Int) < b.toNat := by omega
        simp [h1, h2, h3, h4]
      · have h3 : ¬ (a.toNat : Int) < b.toNat := fun h => h1 (e1.mpr h); have h4 : ¬ (b.toNat : Int) < a.toNat := fun h => h2 (e2.mpr h)
        simp [h1, h2, h3, h4]
end Go.Proofs.YtneigokookpngaaDoorW.VC
namespace Go.Proofs.YtneigokookpngaaDoorW.PB
open Go.RowKit Go.Proofs.YtneigokookpngaaDoorW.PrintWords
/-- A text out of its bytes. -/
def B (l : List UInt8) : ByteArray := ⟨l.toArray⟩
theorem ex_B (s : ByteArray) : ∃ l, s = B l := ⟨s.data.toList, by unfold B; simp⟩
theorem B_data (l : List UInt8) : (B l).data.toList = l := rfl
theorem B_toList (l : List UInt8) : (B l).toList = l := by rw [Lib.toList_data]; rfl
theorem B_size (l : List UInt8) : (B l).size = l.length := by simp [B, ByteArray.size]
theorem B_inj {l m : List UInt8} : B l = B m ↔ l = m := ⟨fun h => by have := congrArg (fun s : ByteArray => s.data.toList) h; simpa [B] using this, fun h => by rw [h]⟩
theorem B_append (l m : List UInt8) : B l ++ B m = B (l ++ m) := by
  have h : (B l ++ B m).data = (B (l ++ m)).data := by simp [B, ByteArray.data_append]
  cases h1 : (B l ++ B m); cases h2 : B (l ++ m); rw [h1, h2] at h; simp_all
theorem B_extract (l : List UInt8) (a b : Nat) : (B l).extract a b = B ((l.take b).drop a) := by
  have h : ((B l).extract a b).data = (B ((l.take b).drop a)).data := by
    rw [ByteArray.data_extract]
    apply Array.ext'
    simp [B]
    rw [List.drop_take]
  cases h1 : (B l).extract a b; cases h2 : B ((l.take b).drop a); rw [h1, h2] at h; simp_all
theorem B_bt (l : List UInt8) (i : Nat) (h : i < l.length) : bt (B l) (i : Int) = (l[i].toNat : Int) := by
  have h' : (i : Int).toNat < (B l).size := by rw [B_size]; simpa using h
  rw [← bt_at (B l) (i : Int) h']
  simp [B]
  rfl
theorem B_nil : (⟨#[]⟩ : ByteArray) = B [] := rfl
theorem wrap_id {x : Int} (h0 : -9223372036854775808 ≤ x) (h1 : x ≤ 9223372036854775807) : wrap64 x = x := by unfold wrap64; omega
theorem Ev.if_pos {α : Type} {p : Prop} [Decidable p] {g f : Nat → Option α} {r : α} (hp : p) (h : Ev g r) : Ev (fun k => if p then g k else f k) r := by
  obtain ⟨K, h⟩ := h
  exact ⟨K, fun k hk => (_root_.if_pos hp).trans (h k hk)⟩
theorem Ev.if_neg {α : Type} {p : Prop} [Decidable p] {g f : Nat → Option α} {r : α} (hp : ¬ p) (h : Ev f r) : Ev (fun k => if p then g k else f k) r := by
  obtain ⟨K, h⟩ := h
  exact ⟨K, fun k hk => (_root_.if_neg hp).trans (h k hk)⟩
theorem Ev.some_bind {α β : Type} {a : α} {f : Nat → α → Option β} {r : β} (h : Ev (fun k => f k a) r) : Ev (fun k => (some a).bind (f k)) r := h
theorem Ev.val_bind {α β : Type} {g : Option α} {a : α} {f : Nat → α → Option β} {r : β} (h : g = some a) (k : Ev (fun n => f n a) r) : Ev (fun n => g.bind (f n)) r := by subst h; exact k
theorem B_bt_mid (p : List UInt8) (c : UInt8) (r : List UInt8) : bt (B (p ++ c :: r)) (p.length : Int) = (c.toNat : Int) := by
  rw [B_bt _ _ (by simp)]; simp
theorem B_bt_0 (c : UInt8) (r : List UInt8) : bt (B (c :: r)) 0 = (c.toNat : Int) := by
  have := B_bt_mid [] c r; simpa using this
theorem B_cut_left (p r : List UInt8) : (B (p ++ r)).extract 0 (p.length : Int).toNat = B p := by
  rw [B_extract]; simp
theorem B_cut_right (p r : List UInt8) : (B (p ++ r)).extract (p.length : Int).toNat (B (p ++ r)).size = B r := by
  rw [B_extract, B_size, List.take_length]; simp
end Go.Proofs.YtneigokookpngaaDoorW.PB
namespace Go.Proofs.YtneigokookpngaaDoor.Q
open Go.RowKit Go.Proofs.YtneigokookpngaaDoorW.PrintWords Go.Proofs.YtneigokookpngaaDoorW.PrintLast Go.Proofs.YtneigokookpngaaDoorW.PB Go.Proofs.YtneigokookpngaaDoorW.VC
def dg (c : UInt8) : Bool := decide (48 ≤ c.toNat ∧ c.toNat ≤ 57)
def lt_ (c : UInt8) : Bool := decide (97 ≤ c.toNat ∧ c.toNat ≤ 122 ∨ 65 ≤ c.toNat ∧ c.toNat ≤ 90)
theorem digit_f (c : UInt8) : ver_digit.f (c.toNat : Int) = some (dg c) := by
  unfold ver_digit.f dg
  split
  · congr 1; rw [decide_eq_decide]; omega
  · congr 1; symm; rw [decide_eq_false_iff_not]; omega
theorem letter_f (c : UInt8) : ver_letter.f (c.toNat : Int) = some (lt_ c) := by
  unfold ver_letter.f lt_
  (repeat' split) <;> congr 1
  · symm; rw [decide_eq_true_iff]; omega
  · rw [decide_eq_decide]; omega
  · symm; rw [decide_eq_false_iff_not]; omega
  · rw [decide_eq_decide]; omega
  · symm; rw [decide_eq_false_iff_not]; omega
/-- The run of one kind ahead, and what is behind it. -/
def tk (d : Bool) (l : List UInt8) : List UInt8 := l.takeWhile (fun c => dg c == d)
def dk (d : Bool) (l : List UInt8) : List UInt8 := l.dropWhile (fun c => dg c == d)
theorem tk_dk (d : Bool) (l : List UInt8) : tk d l ++ dk d l = l := List.takeWhile_append_dropWhile
theorem dk_le (d : Bool) (l : List UInt8) : (dk d l).length ≤ l.length := by
  have := congrArg List.length (tk_dk d l); rw [List.length_append] at this; omega
theorem tk_le (d : Bool) (l : List UInt8) : (tk d l).length ≤ l.length := by
  have := congrArg List.length (tk_dk d l); rw [List.length_append] at this; omega
theorem take_l0 (d : Bool) : ∀ (r p : List UInt8), (p ++ r).length ≤ 1000000 →
    Ev (fun k => ver_take.l0 k (B (p ++ r)) d (p.length : Int)) (B (p ++ tk d r), B (dk d r)) := by
  intro r
  induction r with
  | nil =>
    intro p hp
    refine Ev.step (fun k => by rw [ver_take.l0]) ?_
    refine Ev.if_neg (by rw [B_size]; simp) ?_
    refine Ev.if_pos (by omega) ?_
    refine Ev.if_pos (by rw [B_size]; simp) ?_
    rw [B_cut_left, B_cut_right]
    simp only [tk, dk, List.takeWhile_nil, List.dropWhile_nil, List.append_nil]
    exact Ev.now _
  | cons c r ih =>
    intro p hp
    refine Ev.step (fun k => by rw [ver_take.l0]) ?_
    refine Ev.if_pos (by rw [B_size]; simp; omega) ?_
    refine Ev.if_pos (by omega) ?_
    rw [B_bt_mid]
    refine Ev.val_bind (digit_f c) ?_
    by_cases h : (dg c == d) = true
    · refine Ev.if_pos h ?_
      have := ih (p ++ [c]) (by simpa using hp)
      have e : wrap64 ((p.length : Int) + 1) = ((p ++ [c]).length : Int) := by
        rw [wrap_id (by omega) (by simp at hp; omega)]; simp
      rw [e]
      simp only [List.append_assoc, List.singleton_append] at this
      simp only [tk, dk, List.takeWhile_cons, List.dropWhile_cons, h, if_true]
      exact this
    · refine Ev.if_neg h ?_
      refine Ev.if_pos (by rw [B_size]; simp; omega) ?_
      rw [B_cut_left, B_cut_right]
      simp only [tk, dk, List.takeWhile_cons, List.dropWhile_cons, h, List.append_nil, Bool.false_eq_true, if_false]
      exact Ev.now _
theorem take_f (d : Bool) (l : List UInt8) (h : l.length ≤ 1000000) : Ev (fun k => ver_take.f k (B l) d) (B (tk d l), B (dk d l)) := take_l0 d l [] h
/-- Digits without noughts ahead. -/
def bare (l : List UInt8) : List UInt8 := if l.dropWhile (fun c => c == 48) = [] then [48] else l.dropWhile (fun c => c == 48)
theorem bare_f (l : List UInt8) : ver_bare.f (B l) = some (B (bare l)) := by
  have h : strings_TrimLeft.f (B l) (⟨#[48]⟩ : ByteArray) = some (B (l.dropWhile (fun c => c == 48))) := by
    unfold strings_TrimLeft.f
    rw [if_pos ⟨by decide, by decide⟩]
    congr 1
    show B _ = _
    rw [B_inj, B_data]
    unfold Lib.trimLeftS
    congr 1
    funext c
    simp
    rfl
  unfold ver_bare.f
  rw [h]
  show (if (B _).toList = [] then _ else _) = _
  rw [B_toList]
  unfold bare
  split <;> rfl
theorem bare_le (l : List UInt8) : (bare l).length ≤ l.length + 1 := by
  unfold bare
  split
  · simp
  · have := (List.dropWhile_sublist (fun c : UInt8 => c == 48) (l := l)).length_le; omega
def orL : List Int → Int
  | [] => 0
  | x :: l => orr x (orL l)
theorem rd_mid (p : List Int) (x : Int) (r : List Int) : rd (p ++ x :: r) (p.length : Int) = x := by
  unfold rd; simp
theorem Or_l0 : ∀ (r p : List Int), (p ++ r).length ≤ 1000000 → Ev (fun k => cmp_Or_int.l0 k 0 (p ++ r) ((p ++ r).length : Int) (p.length : Int)) (orL r) := by
  intro r
  induction r with
  | nil =>
    intro p _
    refine Ev.step (fun k => by rw [cmp_Or_int.l0]) ?_
    refine Ev.if_neg (by simp) ?_
    exact Ev.now _
  | cons x r ih =>
    intro p hp
    refine Ev.step (fun k => by rw [cmp_Or_int.l0]) ?_
    refine Ev.if_pos (by simp; omega) ?_
    refine Ev.if_pos (by omega) ?_
    refine Ev.if_pos (by simp; omega) ?_
    rw [rd_mid]
    unfold orL orr
    by_cases h : x = 0
    · refine Ev.if_pos h ?_
      rw [if_pos h]
      have := ih (p ++ [x]) (by simpa using hp)
      have e : wrap64 ((p.length : Int) + 1) = ((p ++ [x]).length : Int) := by
        rw [wrap_id (by omega) (by simp at hp; omega)]; simp
      rw [e]
      simp only [List.append_assoc, List.singleton_append] at this
      exact this
    · refine Ev.if_neg h ?_
      rw [if_neg h]
      exact Ev.now _
theorem Or_f (l : List Int) (h : l.length ≤ 1000000) : Ev (fun k => cmp_Or_int.f k l) (orL l) := Or_l0 l [] h
theorem or_0 (x : Int) : orr x 0 = x := by unfold orr; split <;> omega
theorem Compare_f (a b : Int) : cmp_Compare_int.f a b = some (sgn a b) := by
  unfold cmp_Compare_int.f cmp_isNaN_int.f sgn
  simp
  (repeat' split) <;> first | rfl | omega
/-- Two runs of digits, by number. -/
def numC (a b : List UInt8) : Int := orr (sgn ((bare a).length : Int) ((bare b).length : Int)) (lexB (bare a) (bare b))
theorem numC_cmp : Cmp numC := Cmp.lex (sgn_cmp.comap (fun l : List UInt8 => ((bare l).length : Int))) (lexB_cmp.comap bare)
theorem number_f (a b : List UInt8) : Ev (fun k => ver_number.f k (B a) (B b)) (numC a b) := by
  refine Ev.congr (fun k => by rw [ver_number.f]) ?_
  refine Ev.val_bind (bare_f a) ?_
  refine Ev.val_bind (bare_f b) ?_
  refine Ev.val_bind (Compare_f _ _) ?_
  refine Ev.val_bind (a := lexB (bare a) (bare b)) (by unfold strings_Compare.f; rw [B_data, B_data, compare_lexB]) ?_
  refine Ev.bind (Or_f _ (by simp)) ?_
  rw [B_size, B_size]
  simp only [orL, or_0]
  exact Ev.now _
/-- Where a byte of a run stands. -/
def wg (c : UInt8) : Int := if c.toNat = 126 then 0 else if lt_ c = true then 2 + c.toNat else 1000 + c.toNat
theorem weight_f (l : List UInt8) (i : Nat) : ver_weight.f (B l) (i : Int) = some (((l.drop i).map wg).headD 1) := by
  unfold ver_weight.f
  by_cases h : i < l.length
  · rw [if_neg (by rw [B_size]; omega), if_pos (by omega), if_pos (by rw [B_size]; omega), B_bt l i h, letter_f]
    rw [List.drop_eq_getElem_cons h]
    have hc := (l[i]).toNat_lt
    simp only [List.map_cons, List.headD_cons, Option.bind_some]
    unfold wg
    rw [wrap_id (x := ((l[i]).toNat : Int)) (by omega) (by omega), wrap_id (by omega) (by omega), wrap_id (by omega) (by omega)]
    by_cases h1 : (l[i]).toNat = 126
    · rw [if_pos (by omega), if_pos h1]
    · rw [if_neg (by omega), if_neg h1]
      split <;> rfl
  · rw [if_pos (by rw [B_size]; omega), List.drop_eq_nil_of_le (by omega)]
    rfl
def wordsC (a b : List UInt8) : Int := pad sgn 1 (a.map wg) (b.map wg)
theorem wordsC_cmp : Cmp wordsC := (pad_cmp sgn_cmp 1).comap (fun l : List UInt8 => l.map wg)
theorem pad_step {α : Type} {c : α → α → Int} (h : Cmp c) (z : α) (l m : List α) : pad c z l m = orr (c (l.headD z) (m.headD z)) (pad c z l.tail m.tail) := by
  cases l <;> cases m <;> simp [pad, h.self, orr]
theorem words_l0 (a b : List UInt8) (ha : a.length ≤ 1000000) (hb : b.length ≤ 1000000) : ∀ n (i : Nat), max a.length b.length - i = n → i ≤ max a.length b.length →
    Ev (fun k => ver_words.l0 k (B a) (B b) ((max a.length b.length : Nat) : Int) (i : Int)) (pad sgn 1 ((a.drop i).map wg) ((b.drop i).map wg)) := by
  intro n
  induction n with
  | zero =>
    intro i h0 hi
    refine Ev.step (fun k => by rw [ver_words.l0]) ?_
    refine Ev.if_neg (by omega) ?_
    rw [List.drop_eq_nil_of_le (by omega), List.drop_eq_nil_of_le (by omega)]
    simp only [List.map_nil, pad]
    exact Ev.now _
  | succ n ih =>
    intro i h0 hi
    refine Ev.step (fun k => by rw [ver_words.l0]) ?_
    refine Ev.if_pos (by omega) ?_
    refine Ev.val_bind (weight_f a i) ?_
    refine Ev.val_bind (weight_f b i) ?_
    refine Ev.val_bind (Compare_f _ _) ?_
    rw [pad_step sgn_cmp]
    unfold orr
    by_cases h : sgn (((a.drop i).map wg).headD 1) (((b.drop i).map wg).headD 1) = 0
    · refine Ev.if_pos h ?_
      rw [if_pos h]
      have := ih (i + 1) (by omega) (by omega)
      rw [show wrap64 ((i : Int) + 1) = ((i + 1 : Nat) : Int) by rw [wrap_id (by omega) (by omega)]; omega]
      simpa [List.tail_drop] using this
    · refine Ev.if_neg h ?_
      rw [if_neg h]
      exact Ev.now _
theorem words_f (a b : List UInt8) (ha : a.length ≤ 1000000) (hb : b.length ≤ 1000000) : Ev (fun k => ver_words.f k (B a) (B b)) (wordsC a b) := by
  have := words_l0 a b ha hb _ 0 rfl (by omega)
  refine Ev.congr (fun k => by rw [ver_words.f]) ?_
  have e : mx ((B a).size : Int) ((B b).size : Int) = ((max a.length b.length : Nat) : Int) := by rw [B_size, B_size]; unfold mx; split <;> omega
  rw [e]
  simpa [wordsC] using this
def cellsN : Nat → List UInt8 → List (List UInt8 × List UInt8)
  | 0, _ => []
  | n + 1, l => if l = [] then [] else (tk true l, tk false (dk true l)) :: cellsN n (dk false (dk true l))
theorem dk2_lt (l : List UInt8) (h : l ≠ []) : (dk false (dk true l)).length < l.length := by
  cases l with
  | nil => exact absurd rfl h
  | cons c l =>
    cases hc : dg c
    · have e : dk true (c :: l) = c :: l := by simp [dk, hc]
      rw [e]
      have e2 : dk false (c :: l) = dk false l := by simp [dk, hc]
      rw [e2]
      have := dk_le false l; simp; omega
    · have e : dk true (c :: l) = dk true l := by simp [dk, hc]
      rw [e]
      have := dk_le false (dk true l); have := dk_le true l; simp; omega
theorem cellsN_enough : ∀ n m (l : List UInt8), l.length ≤ n → l.length ≤ m → cellsN n l = cellsN m l
  | 0, 0, _, _, _ => rfl
  | 0, m + 1, l, h, _ => by obtain rfl : l = [] := List.length_eq_zero_iff.mp (by omega); simp [cellsN]
  | n + 1, 0, l, _, h => by obtain rfl : l = [] := List.length_eq_zero_iff.mp (by omega); simp [cellsN]
  | n + 1, m + 1, l, h1, h2 => by
    unfold cellsN
    by_cases h : l = []
    · rw [if_pos h, if_pos h]
    · rw [if_neg h, if_neg h]
      have := dk2_lt l h
      rw [cellsN_enough n m _ (by omega) (by omega)]
/-- A part, run by run. -/
def cells (l : List UInt8) : List (List UInt8 × List UInt8) := cellsN l.length l
theorem cells_nil : cells [] = [] := rfl
theorem cells_cons {l : List UInt8} (h : l ≠ []) : cells l = (tk true l, tk false (dk true l)) :: cells (dk false (dk true l)) := by
  unfold cells
  have := dk2_lt l h
  obtain ⟨n, hn⟩ : ∃ n, l.length = n + 1 := ⟨l.length - 1, by omega⟩
  rw [hn]
  rw [cellsN, if_neg h, cellsN_enough n _ _ (by omega) (Nat.le_refl _)]
theorem cells_head (l : List UInt8) : (cells l).headD ([], []) = (tk true l, tk false (dk true l)) := by
  by_cases h : l = []
  · subst h; rfl
  · rw [cells_cons h]; rfl
theorem cells_tail (l : List UInt8) : (cells l).tail = cells (dk false (dk true l)) := by
  by_cases h : l = []
  · subst h; rfl
  · rw [cells_cons h]; rfl
def cellC (x y : List UInt8 × List UInt8) : Int := orr (numC x.1 y.1) (wordsC x.2 y.2)
theorem cellC_cmp : Cmp cellC := Cmp.lex (numC_cmp.comap Prod.fst) (wordsC_cmp.comap Prod.snd)
/-- Two parts, run by run. -/
def orderC (a b : List UInt8) : Int := pad cellC ([], []) (cells a) (cells b)
theorem orderC_cmp : Cmp orderC := (pad_cmp cellC_cmp ([], [])).comap cells
theorem order_step (a b : List UInt8) : orderC a b = orr (orr (numC (tk true a) (tk true b)) (wordsC (tk false (dk true a)) (tk false (dk true b)))) (orderC (dk false (dk true a)) (dk false (dk true b))) := by
  unfold orderC
  rw [pad_step cellC_cmp, cells_head, cells_head, cells_tail, cells_tail]
  rfl
theorem order_j1 (a b : List UInt8) (ha : a.length ≤ 100000) (hb : b.length ≤ 100000) (ih : Ev (fun k => ver_order.l0 k (B (dk false (dk true a))) (B (dk false (dk true b)))) (orderC (dk false (dk true a)) (dk false (dk true b)))) :
    Ev (fun k => ver_order.j1 k (B a) (B b) true) (orderC a b) := by
  have l1 := dk_le true a; have l2 := dk_le true b
  have l3 := tk_le false (dk true a); have l4 := tk_le false (dk true b)
  refine Ev.step (fun k => by rw [ver_order.j1]) ?_
  refine Ev.if_pos rfl ?_
  refine Ev.bind (take_f true a (by omega)) ?_
  refine Ev.bind (take_f true b (by omega)) ?_
  refine Ev.bind (take_f false (dk true a) (by omega)) ?_
  refine Ev.bind (take_f false (dk true b) (by omega)) ?_
  refine Ev.bind (number_f _ _) ?_
  refine Ev.bind (words_f _ _ (by omega) (by omega)) ?_
  refine Ev.bind (Or_f _ (by simp)) ?_
  rw [order_step]
  simp only [orL, or_0]
  by_cases h : orr (numC (tk true a) (tk true b)) (wordsC (tk false (dk true a)) (tk false (dk true b))) = 0
  · refine Ev.if_pos h ?_
    rw [h]
    exact ih
  · refine Ev.if_neg h ?_
    generalize orr (numC (tk true a) (tk true b)) (wordsC (tk false (dk true a)) (tk false (dk true b))) = x at h ⊢
    unfold orr
    rw [if_neg h]
    exact Ev.now _
theorem order_l0 : ∀ n (a b : List UInt8), a.length + b.length ≤ n → n ≤ 100000 → Ev (fun k => ver_order.l0 k (B a) (B b)) (orderC a b) := by
  intro n
  induction n using Nat.strongRecOn with
  | ind n ih =>
    intro a b h hn
    refine Ev.step (fun k => by rw [ver_order.l0]) ?_
    by_cases h1 : a = []
    · refine Ev.if_pos (by rw [B_toList, h1]) ?_
      rw [B_toList]
      by_cases h2 : b = []
      · subst h1; subst h2
        refine Ev.step (fun k => by rw [ver_order.j1]) ?_
        refine Ev.if_neg (by decide) ?_
        simp only [orderC, cells_nil, pad]
        exact Ev.now _
      · have hb : (!b.isEmpty) = true := by cases b <;> simp_all
        rw [hb]
        have t1 := dk2_lt b h2
        have t2 := dk_le false (dk true a); have t3 := dk_le true a
        exact order_j1 a b (by omega) (by omega) (ih (a.length + b.length - 1) (by omega) _ _ (by omega) (by omega))
    · refine Ev.if_neg (by rw [B_toList]; exact h1) ?_
      have t1 := dk2_lt a h1
      have t2 := dk_le false (dk true b); have t3 := dk_le true b
      exact order_j1 a b (by omega) (by omega) (ih (a.length + b.length - 1) (by omega) _ _ (by omega) (by omega))
theorem order_f (a b : List UInt8) (ha : a.length ≤ 50000) (hb : b.length ≤ 50000) : Ev (fun k => ver_order.f k (B a) (B b)) (orderC a b) := order_l0 _ a b (Nat.le_refl _) (by omega)
end Go.Proofs.YtneigokookpngaaDoor.Q
namespace Go.Proofs.YtneigokookpngaaDoor.Q
open Go.RowKit Go.Proofs.YtneigokookpngaaDoorW.PrintWords Go.Proofs.YtneigokookpngaaDoorW.PrintLast Go.Proofs.YtneigokookpngaaDoorW.PB Go.Proofs.YtneigokookpngaaDoorW.VC
/-- What is ahead of the first such byte, and what is behind it. -/
def bf (c : UInt8) (l : List UInt8) : List UInt8 := l.takeWhile (fun x => x != c)
def af (c : UInt8) (l : List UInt8) : List UInt8 := (l.dropWhile (fun x => x != c)).tail
theorem bf_af {c : UInt8} : ∀ {l : List UInt8}, c ∈ l → l = bf c l ++ c :: af c l
  | x :: l, h => by
    by_cases hx : x = c
    · subst hx; simp [bf, af]
    · have := bf_af (l := l) (by simpa [Ne.symm hx] using h)
      have hb : (x != c) = true := by simpa using hx
      simp only [bf, af, List.takeWhile_cons, List.dropWhile_cons, hb, if_true] at this ⊢
      rw [List.cons_append, ← this]
theorem index_spec (c : UInt8) : ∀ l : List UInt8, Lib.indexByte l c = if c ∈ l then ((bf c l).length : Int) else -1
  | [] => by simp [Lib.indexByte]
  | x :: l => by
    unfold Lib.indexByte
    rw [index_spec c l]
    by_cases hx : x = c
    · subst hx; simp [bf]
    · have hb : (x != c) = true := by simpa using hx
      have hb2 : (x == c) = false := by simpa using hx
      rw [hb2]
      have hm : c ∈ x :: l ↔ c ∈ l := by simp [Ne.symm hx]
      by_cases h : c ∈ l
      · rw [if_pos h, if_pos (hm.mpr h)]
        have hp : ¬ (((bf c l).length : Int) == -1) = true := by rw [beq_iff_eq]; omega
        rw [if_neg hp]
        simp [bf, hb]
      · rw [if_neg h, if_neg (fun h' => h (hm.mp h'))]
        rfl
theorem Index_f (c : UInt8) (l : List UInt8) : stringslite_Index.f (B l) (B [c]) = some (if c ∈ l then ((bf c l).length : Int) else -1) := by
  have hc : (bt (B [c]) 0).toNat.toUInt8 = c := by rw [B_bt_0]; simp
  unfold stringslite_Index.f
  rw [if_pos (by rw [B_size]; rfl), hc, B_data, index_spec]
theorem Cut_at (p r : List UInt8) (c : UInt8) (hl : (p ++ c :: r).length ≤ 1000000) (n : Int) (hn : n = (p.length : Int)) (s : ByteArray) (hs : s = B (p ++ c :: r)) (b : ByteArray) (hb : b.size = 1) :
    (if n ≥ 0 then (if 0 ≤ n then (if n ≤ (s.size : Int) then (if 0 ≤ (wrap64 (n + (b.size : Int))) then (if (wrap64 (n + (b.size : Int))) ≤ (s.size : Int) then (some ((s.extract 0 (n : Int).toNat), (s.extract ((wrap64 (n + (b.size : Int))) : Int).toNat s.size), true)) else (none)) else (none)) else (none)) else (none)) else (some (s, (⟨#[]⟩ : ByteArray), false)) : Option (ByteArray × ByteArray × Bool)) = some (B p, B r, true) := by
  subst hn
  have hz : (s.size : Int) = (p.length : Int) + 1 + r.length := by rw [hs, B_size]; simp; omega
  have hw : wrap64 ((p.length : Int) + (b.size : Int)) = (p.length : Int) + 1 := by
    simp only [List.length_append, List.length_cons] at hl
    rw [hb, wrap_id (by omega) (by omega)]; rfl
  rw [if_pos (by omega), if_pos (by omega), if_pos (by omega), hw, if_pos (by omega), if_pos (by omega)]
  have x1 : s.extract 0 ((p.length : Nat) : Int).toNat = B p := by rw [hs]; exact B_cut_left _ _
  have x2 : s.extract ((p.length : Int) + 1).toNat s.size = B r := by
    have e : ((p.length : Int) + 1).toNat = (((p ++ [c]).length : Nat) : Int).toNat := by simp
    have hs' : s = B ((p ++ [c]) ++ r) := by rw [hs, List.append_assoc]; rfl
    rw [e, hs']
    exact B_cut_right _ _
  rw [x1, x2]
theorem Cut_f (c : UInt8) (l : List UInt8) (hl : l.length ≤ 1000000) : strings_Cut.f (B l) (B [c]) = some (if c ∈ l then (B (bf c l), B (af c l), true) else (B l, B [], false)) := by
  unfold strings_Cut.f stringslite_Cut.f
  rw [Index_f]
  by_cases h : c ∈ l
  · simp only [if_pos h, Option.bind_some]
    have hs := bf_af h
    rw [Cut_at (bf c l) (af c l) c (by rw [← hs]; exact hl) _ rfl (B l) (congrArg B hs) (B [c]) (by rw [B_size]; rfl)]
    rfl
  · simp only [if_neg h, Option.bind_some]
    rw [if_neg (by omega)]
    rfl
theorem fails_f (b : Bool) (n : Int) (h : n ≠ 0) : ver_fails.f b n = some (if b = true then 0 else n) := by
  unfold ver_fails.f
  cases b
  · simp [h]
  · rfl
/-- A byte that a part may hold. -/
def okB (c : UInt8) : Bool := dg c || (lt_ c || [46, 43, 126].contains c)
def pOK (s : List UInt8) : Bool := !s.isEmpty && (dg (s.headD 0) && (dg (s.getLastD 0) && s.all okB))
theorem runs_l0 : ∀ (r p : List UInt8), (p ++ r).length ≤ 1000000 →
    Ev (fun k => ver_runs.l0 k (B (p ++ r)) ((p ++ r).length : Int) (p.length : Int)) (if r.all okB = true then 0 else 5) := by
  intro r
  induction r with
  | nil =>
    intro p hp
    refine Ev.step (fun k => by rw [ver_runs.l0]) ?_
    refine Ev.if_neg (by simp) ?_
    exact Ev.now _
  | cons c r ih =>
    intro p hp
    have nx := ih (p ++ [c]) (by simpa using hp)
    have e : wrap64 ((p.length : Int) + 1) = ((p ++ [c]).length : Int) := by
      rw [wrap_id (by omega) (by simp at hp; omega)]; simp
    simp only [List.append_assoc, List.singleton_append] at nx
    refine Ev.step (fun k => by rw [ver_runs.l0]) ?_
    refine Ev.if_pos (by simp; omega) ?_
    refine Ev.if_pos (by omega) ?_
    refine Ev.if_pos (by rw [B_size]; simp; omega) ?_
    rw [B_bt_mid]
    refine Ev.val_bind (digit_f c) ?_
    by_cases h : dg c = true
    · refine Ev.if_pos h ?_
      refine Ev.val_bind (fails_f true 5 (by decide)) ?_
      refine Ev.if_pos rfl ?_
      rw [e]
      simp only [List.all_cons, okB, h, Bool.true_or, Bool.true_and]
      exact nx
    · refine Ev.if_neg h ?_
      refine Ev.val_bind (letter_f c) ?_
      by_cases h2 : lt_ c = true
      · refine Ev.if_pos h2 ?_
        refine Ev.val_bind (fails_f true 5 (by decide)) ?_
        refine Ev.if_pos rfl ?_
        rw [e]
        simp only [List.all_cons, okB, h2, Bool.true_or, Bool.or_true, Bool.true_and]
        exact nx
      · refine Ev.if_neg h2 ?_
        refine Ev.val_bind (a := Lib.indexByte [46, 43, 126] c) (by unfold strings_IndexByte.f; congr 1; rw [Int.toNat_natCast]; congr 1; simp) ?_
        refine Ev.val_bind (fails_f _ 5 (by decide)) ?_
        have hk : decide (Lib.indexByte [46, 43, 126] c ≥ 0) = [46, 43, 126].contains c := (Lib.contains_iff_indexByte _ _).symm
        rw [hk]
        have ho : okB c = [46, 43, 126].contains c := by simp only [okB, Bool.eq_false_iff.mpr h, Bool.eq_false_iff.mpr h2, Bool.false_or]
        rw [List.all_cons, ho]
        by_cases h3 : [46, 43, 126].contains c = true
        · rw [h3]
          refine Ev.if_pos (by simp) ?_
          rw [e, Bool.true_and]
          exact nx
        · rw [Bool.eq_false_iff.mpr h3]
          refine Ev.if_neg (by simp) ?_
          exact Ev.now _
theorem runs_j0 (s : List UInt8) (h : s.length ≤ 1000000) : Ev (fun k => ver_runs.j0 k (B s)) (if s.all okB = true then 0 else 5) := by
  refine Ev.step (fun k => by rw [ver_runs.j0]) ?_
  rw [B_size]
  exact runs_l0 s [] h
theorem bt_last (q : List UInt8) (x : UInt8) (h : (q ++ [x]).length ≤ 1000000) : bt (B (q ++ [x])) (wrap64 (((B (q ++ [x])).size : Int) - 1)) = (x.toNat : Int) := by
  rw [B_size, wrap_id (by simp only [List.length_append, List.length_cons]; omega) (by simp only [List.length_append, List.length_cons] at h ⊢; omega)]
  have : (((q ++ [x]).length : Nat) : Int) - 1 = (q.length : Int) := by simp
  rw [this, B_bt_mid]
theorem runs_f (s : List UInt8) (h : s.length ≤ 1000000) : Ev (fun k => ver_runs.f k (B s)) (if pOK s = true then 0 else 5) := by
  refine Ev.congr (fun k => by rw [ver_runs.f]) ?_
  rcases List.eq_nil_or_concat s with rfl | ⟨q, x, rfl⟩
  · refine Ev.if_pos (by rw [B_toList]) ?_
    refine Ev.val_bind (fails_f false 5 (by decide)) ?_
    refine Ev.if_neg (by decide) ?_
    exact Ev.now _
  · rw [List.concat_eq_append] at h ⊢
    have hn : q ++ [x] ≠ [] := by simp
    refine Ev.if_neg (by rw [B_toList]; exact hn) ?_
    refine Ev.if_pos (by rw [B_size, List.length_append]; simp only [List.length_cons]; omega) ?_
    obtain ⟨c, r, hcr⟩ : ∃ c r, q ++ [x] = c :: r := by cases q with | nil => exact ⟨x, [], rfl⟩ | cons a t => exact ⟨a, t ++ [x], rfl⟩
    have h0 : bt (B (q ++ [x])) 0 = (c.toNat : Int) := by rw [hcr]; exact B_bt_0 c r
    have hp : pOK (q ++ [x]) = (dg c && (dg x && (q ++ [x]).all okB)) := by
      unfold pOK
      rw [show (q ++ [x]).isEmpty = false by rw [hcr]; rfl, show (q ++ [x]).headD 0 = c by rw [hcr]; rfl, show (q ++ [x]).getLastD 0 = x by simp [List.getLastD_eq_getLast?]]
      rfl
    rw [hp, h0]
    refine Ev.val_bind (digit_f c) ?_
    by_cases hc : dg c = true
    · refine Ev.if_pos hc ?_
      rw [bt_last q x h]
      have e1 : wrap64 (((B (q ++ [x])).size : Int) - 1) = (q.length : Int) := by
        rw [B_size, wrap_id (by simp only [List.length_append, List.length_cons]; omega) (by simp only [List.length_append, List.length_cons] at h ⊢; omega)]; simp
      rw [e1]
      refine Ev.if_pos (by omega) ?_
      refine Ev.if_pos (by rw [B_size, List.length_append]; simp only [List.length_cons]; omega) ?_
      refine Ev.val_bind (digit_f x) ?_
      refine Ev.val_bind (fails_f _ 5 (by decide)) ?_
      rw [hc, Bool.true_and]
      by_cases hx : dg x = true
      · rw [hx, Bool.true_and]
        refine Ev.if_pos rfl ?_
        exact runs_j0 _ h
      · rw [Bool.eq_false_iff.mpr hx]
        refine Ev.if_neg (by decide) ?_
        exact Ev.now _
    · refine Ev.if_neg hc ?_
      refine Ev.val_bind (fails_f false 5 (by decide)) ?_
      refine Ev.if_neg (by decide) ?_
      rw [Bool.eq_false_iff.mpr hc]
      exact Ev.now _
abbrev Cut := List UInt8 × List UInt8 × List UInt8 × Int
def BC (t : Cut) : ByteArray × ByteArray × ByteArray × Int := (B t.1, B t.2.1, B t.2.2.1, t.2.2.2)
def badV (n : Int) : Cut := ([], [], [], n)
def rest (e s : List UInt8) : Cut :=
  if 45 ∈ s then (if pOK (bf 45 s) = true ∧ pOK (af 45 s) = true then (e, bf 45 s, af 45 s, 0) else badV 5)
  else (if pOK s = true then (e, s, [48], 0) else badV 5)
theorem bf_le (c : UInt8) (l : List UInt8) : (bf c l).length ≤ l.length := (List.takeWhile_sublist _).length_le
theorem af_le (c : UInt8) (l : List UInt8) : (af c l).length ≤ l.length := by
  have := (List.dropWhile_sublist (fun x : UInt8 => x != c) (l := l)).length_le
  unfold af; rw [List.length_tail]; omega
theorem cut_j0 (s e q : List UInt8) (h : s.length ≤ 1000000) : Ev (fun k => ver_cut.j0 k (B s) (B e) (B q) (B [48])) (BC (rest e s)) := by
  have l1 := bf_le 45 s; have l2 := af_le 45 s
  have hc := Cut_f 45 s h
  have r1 := runs_f (bf 45 s) (by omega)
  have r2 := runs_f (af 45 s) (by omega)
  have r3 := runs_f s h
  have r4 := runs_f [48] (by decide)
  rw [if_pos (by decide : pOK [48] = true)] at r4
  refine Ev.step (fun k => by rw [ver_cut.j0]) ?_
  by_cases hm : (45 : UInt8) ∈ s
  · rw [if_pos hm] at hc
    refine Ev.val_bind hc ?_
    refine Ev.if_pos rfl ?_
    refine Ev.bind r1 ?_
    by_cases h1 : pOK (bf 45 s) = true
    · refine Ev.if_pos (if_pos h1) ?_
      refine Ev.bind r2 ?_
      by_cases h2 : pOK (af 45 s) = true
      · refine Ev.if_pos (if_pos h2) ?_
        have hr : rest e s = (e, bf 45 s, af 45 s, 0) := by unfold rest; rw [if_pos hm, if_pos ⟨h1, h2⟩]
        rw [hr]
        exact Ev.now _
      · refine Ev.if_neg (by rw [if_neg h2]; decide) ?_
        have hr : rest e s = badV 5 := by unfold rest; rw [if_pos hm, if_neg (fun h' => h2 h'.2)]
        rw [hr, if_neg h2]
        exact Ev.now _
    · refine Ev.if_neg (by rw [if_neg h1]; decide) ?_
      have hr : rest e s = badV 5 := by unfold rest; rw [if_pos hm, if_neg (fun h' => h1 h'.1)]
      rw [hr, if_neg h1]
      exact Ev.now _
  · rw [if_neg hm] at hc
    refine Ev.val_bind hc ?_
    refine Ev.if_neg (by simp) ?_
    refine Ev.bind r3 ?_
    by_cases h1 : pOK s = true
    · refine Ev.if_pos (if_pos h1) ?_
      refine Ev.bind r4 ?_
      refine Ev.if_pos rfl ?_
      have hr : rest e s = (e, s, [48], 0) := by unfold rest; rw [if_neg hm, if_pos h1]
      rw [hr]
      exact Ev.now _
    · refine Ev.if_neg (by rw [if_neg h1]; decide) ?_
      have hr : rest e s = badV 5 := by unfold rest; rw [if_neg hm, if_neg h1]
      rw [hr, if_neg h1]
      exact Ev.now _
theorem digits_dg (c : UInt8) : ([48, 49, 50, 51, 52, 53, 54, 55, 56, 57] : List UInt8).contains c = dg c := by
  have h : ∀ n : Fin 256, ([48, 49, 50, 51, 52, 53, 54, 55, 56, 57] : List UInt8).contains (UInt8.ofNat n.val) = dg (UInt8.ofNat n.val) := by decide +kernel
  have := h ⟨c.toNat, c.toNat_lt⟩
  simpa using this
theorem dw_nil (p : UInt8 → Bool) : ∀ l : List UInt8, l.dropWhile p = [] ↔ ∀ x ∈ l, p x = true
  | [] => by simp
  | x :: l => by
    cases h : p x
    · simp [h]
    · simp [h, dw_nil p l]
theorem dw_head (p : UInt8 → Bool) : ∀ (l : List UInt8) x t, l.dropWhile p = x :: t → p x = false
  | [], _, _, h => by simp at h
  | y :: l, x, t, h => by
    cases hy : p y
    · simp [hy] at h; rw [← h.1]; exact hy
    · rw [List.dropWhile_cons, hy, if_pos rfl] at h; exact dw_head p l x t h
theorem trim_all (p : UInt8 → Bool) (l : List UInt8) : ((l.reverse.dropWhile p).reverse.dropWhile p).isEmpty = l.all p := by
  cases hd : l.reverse.dropWhile p with
  | nil =>
    have : ∀ x ∈ l, p x = true := fun x hx => (dw_nil p _).mp hd x (by simpa using hx)
    simp only [List.reverse_nil, List.dropWhile_nil, List.isEmpty_nil]
    exact (List.all_eq_true.mpr this).symm
  | cons x t =>
    have hx : p x = false := dw_head p _ x t hd
    have hxl : x ∈ l := by
      have : x ∈ l.reverse.dropWhile p := by rw [hd]; simp
      simpa using (List.dropWhile_sublist p).subset this
    have e2 : l.all p = false := by
      rw [Bool.eq_false_iff]; intro h
      have := List.all_eq_true.mp h x hxl
      rw [hx] at this; cases this
    rw [e2]
    rw [Bool.eq_false_iff]; intro h
    have h' := List.isEmpty_iff.mp h
    have := (dw_nil p _).mp h' x (by simp)
    rw [hx] at this; cases this
theorem Trim_f (e : List UInt8) (h : e.length ≤ 1000000) : ∃ t, strings_Trim.f (B e) (⟨#[48, 49, 50, 51, 52, 53, 54, 55, 56, 57]⟩ : ByteArray) = some t ∧ t.toList.isEmpty = e.all dg := by
  refine ⟨_, by unfold strings_Trim.f; rw [if_pos ⟨by rw [B_size]; omega, by decide, by decide⟩], ?_⟩
  show (B _).toList.isEmpty = _
  rw [B_toList, B_data]
  unfold Lib.trimS Lib.trimLeftS Lib.trimRightS
  have : (fun x => ([48, 49, 50, 51, 52, 53, 54, 55, 56, 57] : List UInt8).contains x) = dg := funext digits_dg
  show ((e.reverse.dropWhile fun x => ([48, 49, 50, 51, 52, 53, 54, 55, 56, 57] : List UInt8).contains x).reverse.dropWhile fun x => ([48, 49, 50, 51, 52, 53, 54, 55, 56, 57] : List UInt8).contains x).isEmpty = _
  rw [this]
  exact trim_all dg e
/-- A version, cut. -/
def vcut (l : List UInt8) : Cut :=
  if 40 < l.length then badV 4
  else if 58 ∈ l then (if 1 ≤ (bf 58 l).length ∧ (bf 58 l).length ≤ 6 ∧ (bf 58 l).all dg = true then rest (bf 58 l) (af 58 l) else badV 5)
  else rest [48] l
theorem cut_f (l : List UInt8) : Ev (fun k => ver_cut.f k (B l)) (BC (vcut l)) := by
  have f5 := fails_f false 5 (by decide)
  rw [if_neg (by decide)] at f5
  refine Ev.congr (fun k => by rw [ver_cut.f]) ?_
  refine Ev.val_bind (fails_f _ 4 (by decide)) ?_
  by_cases h : 40 < l.length
  · have hr : vcut l = badV 4 := by unfold vcut; rw [if_pos h]
    have hd : ¬ decide (((B l).size : Int) ≤ 40) = true := by rw [B_size, decide_eq_true_iff]; omega
    refine Ev.if_neg (by rw [if_neg hd]; decide) ?_
    rw [hr, if_neg hd]
    exact Ev.now _
  · have hd : decide (((B l).size : Int) ≤ 40) = true := by rw [B_size, decide_eq_true_iff]; omega
    refine Ev.if_pos (if_pos hd) ?_
    have hc := Cut_f 58 l (by omega)
    have l1 := bf_le 58 l; have l2 := af_le 58 l
    by_cases hm : (58 : UInt8) ∈ l
    · rw [if_pos hm] at hc
      refine Ev.val_bind hc ?_
      refine Ev.if_pos rfl ?_
      by_cases h1 : 1 ≤ (bf 58 l).length
      · refine Ev.if_pos (by show ((B (bf 58 l)).size : Int) ≥ 1; rw [B_size]; omega) ?_
        by_cases h2 : (bf 58 l).length ≤ 6
        · refine Ev.if_pos (by show ((B (bf 58 l)).size : Int) ≤ 6; rw [B_size]; omega) ?_
          obtain ⟨t, ht, he⟩ := Trim_f (bf 58 l) (by omega)
          refine Ev.val_bind ht ?_
          refine Ev.val_bind (fails_f _ 5 (by decide)) ?_
          rw [he]
          by_cases h3 : (bf 58 l).all dg = true
          · refine Ev.if_pos (if_pos h3) ?_
            have hr : vcut l = rest (bf 58 l) (af 58 l) := by unfold vcut; rw [if_neg h, if_pos hm, if_pos ⟨h1, h2, h3⟩]
            rw [hr]
            exact cut_j0 (af 58 l) (bf 58 l) [] (by omega)
          · refine Ev.if_neg (by rw [if_neg h3]; decide) ?_
            have hr : vcut l = badV 5 := by unfold vcut; rw [if_neg h, if_pos hm, if_neg (fun h' => h3 h'.2.2)]
            rw [hr, if_neg h3]
            exact Ev.now _
        · refine Ev.if_neg (by show ¬ ((B (bf 58 l)).size : Int) ≤ 6; rw [B_size]; omega) ?_
          refine Ev.val_bind f5 ?_
          have hr : vcut l = badV 5 := by unfold vcut; rw [if_neg h, if_pos hm, if_neg (fun h' => h2 h'.2.1)]
          rw [hr]
          refine Ev.if_neg (by decide) ?_
          exact Ev.now _
      · refine Ev.if_neg (by show ¬ ((B (bf 58 l)).size : Int) ≥ 1; rw [B_size]; omega) ?_
        refine Ev.val_bind f5 ?_
        have hr : vcut l = badV 5 := by unfold vcut; rw [if_neg h, if_pos hm, if_neg (fun h' => h1 h'.1)]
        rw [hr]
        refine Ev.if_neg (by decide) ?_
        exact Ev.now _
    · rw [if_neg hm] at hc
      refine Ev.val_bind hc ?_
      refine Ev.if_neg (by simp) ?_
      have hr : vcut l = rest [48] l := by unfold vcut; rw [if_neg h, if_neg hm]
      rw [hr]
      exact cut_j0 l [48] [] (by omega)
theorem rest_le (e s : List UInt8) (n : Nat) (he : e.length ≤ n) (hs : s.length ≤ n) (hn : 1 ≤ n) : (rest e s).1.length ≤ n ∧ (rest e s).2.1.length ≤ n ∧ (rest e s).2.2.1.length ≤ n := by
  have l1 := bf_le 45 s; have l2 := af_le 45 s
  unfold rest badV
  (repeat' split) <;> simp <;> omega
theorem vcut_le (l : List UInt8) : (vcut l).1.length ≤ 40 ∧ (vcut l).2.1.length ≤ 40 ∧ (vcut l).2.2.1.length ≤ 40 := by
  have l1 := bf_le 58 l; have l2 := af_le 58 l
  unfold vcut
  (repeat' split)
  · simp [badV]
  · exact rest_le _ _ 40 (by omega) (by omega) (by omega)
  · simp [badV]
  · exact rest_le _ _ 40 (by simp) (by omega) (by omega)
/-- Two versions. -/
def verC (x y : Cut) : Int := orr (numC x.1 y.1) (orr (orderC x.2.1 y.2.1) (orderC x.2.2.1 y.2.2.1))
theorem verC_cmp : Cmp verC := Cmp.lex (numC_cmp.comap (fun x : Cut => x.1)) (Cmp.lex (orderC_cmp.comap (fun x : Cut => x.2.1)) (orderC_cmp.comap (fun x : Cut => x.2.2.1)))
theorem rest_err (e s : List UInt8) : (rest e s).2.2.2 = 0 ∨ ((rest e s).2.2.2 ≠ 0 ∧ rest e s = badV (rest e s).2.2.2) := by
  unfold rest badV
  (repeat' split) <;> simp
theorem vcut_err (l : List UInt8) : (vcut l).2.2.2 = 0 ∨ ((vcut l).2.2.2 ≠ 0 ∧ vcut l = badV (vcut l).2.2.2) := by
  unfold vcut
  (repeat' split)
  · simp [badV]
  · exact rest_err _ _
  · simp [badV]
  · exact rest_err _ _
theorem cut_1 (l : List UInt8) : Ev (fun k => ver_Compare_1.f k 0 (B l) (⟨#[]⟩ : ByteArray) (⟨#[]⟩ : ByteArray) (⟨#[]⟩ : ByteArray)) ((vcut l).2.2.2, B (vcut l).1, B (vcut l).2.1, B (vcut l).2.2.1) := by
  refine Ev.congr (fun k => by rw [ver_Compare_1.f]) ?_
  refine Ev.bind (cut_f l) ?_
  rcases vcut_err l with h | ⟨h, hb⟩
  · refine Ev.if_pos h ?_
    rw [show (BC (vcut l)).1 = B (vcut l).1 from rfl, h]
    exact Ev.now _
  · refine Ev.if_neg h ?_
    rw [hb]
    exact Ev.now _
theorem cut_2 (l : List UInt8) : Ev (fun k => ver_Compare_2.f k 0 (B l) (⟨#[]⟩ : ByteArray) (⟨#[]⟩ : ByteArray) (⟨#[]⟩ : ByteArray)) ((vcut l).2.2.2, B (vcut l).1, B (vcut l).2.1, B (vcut l).2.2.1) := by
  refine Ev.congr (fun k => by rw [ver_Compare_2.f]) ?_
  refine Ev.bind (cut_f l) ?_
  rcases vcut_err l with h | ⟨h, hb⟩
  · refine Ev.if_pos h ?_
    rw [show (BC (vcut l)).1 = B (vcut l).1 from rfl, h]
    exact Ev.now _
  · refine Ev.if_neg h ?_
    rw [hb]
    exact Ev.now _
theorem Compare_v (a b : List UInt8) : Ev (fun k => ver_Compare.f k (B a) (B b)) (verC (vcut a) (vcut b)) := by
  obtain ⟨a1, a2, a3⟩ := vcut_le a
  obtain ⟨b1, b2, b3⟩ := vcut_le b
  refine Ev.congr (fun k => by rw [ver_Compare.f]) ?_
  refine Ev.bind (cut_1 a) ?_
  refine Ev.bind (cut_2 b) ?_
  refine Ev.bind (number_f _ _) ?_
  refine Ev.bind (order_f _ _ (by omega) (by omega)) ?_
  refine Ev.bind (order_f _ _ (by omega) (by omega)) ?_
  refine Ev.bind (Or_f _ (by simp)) ?_
  simp only [orL, or_0]
  exact Ev.now _
end Go.Proofs.YtneigokookpngaaDoor.Q
namespace Go.Proofs.YtneigokookpngaaDoor.Q
open Go.RowKit Go.Proofs.YtneigokookpngaaDoorW.PrintWords Go.Proofs.YtneigokookpngaaDoorW.PrintLast Go.Proofs.YtneigokookpngaaDoorW.PB Go.Proofs.YtneigokookpngaaDoorW.VC
theorem known_k : manciplelaw1_known.f 60 = some true := by kernel_rfl
theorem known_f : Ev (fun k => manciplelaw1_known.f k) true := Ev.of (fun k => manciplelaw1_known.mono k) known_k
theorem rdigit_f (c : UInt8) : mancipleref9_digit.f (c.toNat : Int) = some (dg c) := digit_f c
theorem rletter_f (c : UInt8) : mancipleref9_letter.f (c.toNat : Int) = some (lt_ c) := letter_f c
theorem place_l0 (c : UInt8) : ∀ (r p : List UInt8), (p ++ r).length ≤ 1000000 →
    Ev (fun k => mancipleref9_place.l0 k (B (p ++ r)) (c.toNat : Int) (p.length : Int)) (if c ∈ r then (((p ++ bf c r).length : Nat) : Int) else -1) := by
  intro r
  induction r with
  | nil =>
    intro p hp
    refine Ev.step (fun k => by rw [mancipleref9_place.l0]) ?_
    refine Ev.if_neg (by rw [B_size]; simp) ?_
    exact Ev.now _
  | cons x r ih =>
    intro p hp
    have nx := ih (p ++ [x]) (by simpa using hp)
    have e : wrap64 ((p.length : Int) + 1) = ((p ++ [x]).length : Int) := by
      rw [wrap_id (by omega) (by simp at hp; omega)]; simp
    simp only [List.append_assoc, List.singleton_append] at nx
    refine Ev.step (fun k => by rw [mancipleref9_place.l0]) ?_
    refine Ev.if_pos (by rw [B_size]; simp; omega) ?_
    refine Ev.if_pos (by omega) ?_
    rw [B_bt_mid]
    by_cases h : x = c
    · subst h
      refine Ev.if_pos rfl ?_
      simp only [List.mem_cons, true_or, if_true, bf, List.takeWhile_cons, bne_self_eq_false, Bool.false_eq_true, if_false, List.append_nil]
      exact Ev.now _
    · refine Ev.if_neg (fun h' => h (UInt8.toNat_inj.mp (by omega))) ?_
      rw [e]
      have hb : (x != c) = true := by simpa using h
      have hm : c ∈ x :: r ↔ c ∈ r := by simp [Ne.symm h]
      have hf : bf c (x :: r) = x :: bf c r := by simp [bf, hb]
      rw [hf]
      simp only [hm]
      exact nx
theorem place_f (c : UInt8) (l : List UInt8) (h : l.length ≤ 1000000) : Ev (fun k => mancipleref9_place.f k (B l) (c.toNat : Int)) (if c ∈ l then ((bf c l).length : Int) else -1) := place_l0 c l [] h
theorem part_l0 : ∀ (r p : List UInt8), (p ++ r).length ≤ 1000000 →
    Ev (fun k => mancipleref9_part.l0 k (B (p ++ r)) (p.length : Int)) (r.all okB) := by
  intro r
  induction r with
  | nil =>
    intro p hp
    refine Ev.step (fun k => by rw [mancipleref9_part.l0]) ?_
    refine Ev.if_neg (by rw [B_size]; simp) ?_
    exact Ev.now _
  | cons c r ih =>
    intro p hp
    have nx := ih (p ++ [c]) (by simpa using hp)
    have e : wrap64 ((p.length : Int) + 1) = ((p ++ [c]).length : Int) := by
      rw [wrap_id (by omega) (by simp at hp; omega)]; simp
    simp only [List.append_assoc, List.singleton_append] at nx
    refine Ev.step (fun k => by rw [mancipleref9_part.l0]) ?_
    refine Ev.if_pos (by rw [B_size]; simp; omega) ?_
    refine Ev.if_pos (by omega) ?_
    rw [B_bt_mid, e]
    rw [List.all_cons]
    refine Ev.val_bind (rdigit_f c) ?_
    by_cases h : dg c = true
    · refine Ev.if_pos h ?_
      rw [show okB c = true by simp [okB, h], Bool.true_and]
      exact nx
    · refine Ev.if_neg h ?_
      refine Ev.val_bind (rletter_f c) ?_
      by_cases h2 : lt_ c = true
      · refine Ev.if_pos h2 ?_
        rw [show okB c = true by simp [okB, h2], Bool.true_and]
        exact nx
      · refine Ev.if_neg h2 ?_
        by_cases h3 : (c.toNat : Int) = 46
        · refine Ev.if_pos h3 ?_
          obtain rfl : c = 46 := UInt8.toNat_inj.mp (by show c.toNat = 46; omega)
          rw [show okB 46 = true by decide, Bool.true_and]
          exact nx
        · refine Ev.if_neg h3 ?_
          by_cases h4 : (c.toNat : Int) = 43
          · refine Ev.if_pos h4 ?_
            obtain rfl : c = 43 := UInt8.toNat_inj.mp (by show c.toNat = 43; omega)
            rw [show okB 43 = true by decide, Bool.true_and]
            exact nx
          · refine Ev.if_neg h4 ?_
            by_cases h5 : (c.toNat : Int) = 126
            · refine Ev.if_pos h5 ?_
              obtain rfl : c = 126 := UInt8.toNat_inj.mp (by show c.toNat = 126; omega)
              rw [show okB 126 = true by decide, Bool.true_and]
              exact nx
            · refine Ev.if_neg h5 ?_
              have ho : okB c = false := by
                have a3 : c ≠ 46 := fun hh => h3 (by rw [hh]; rfl)
                have a4 : c ≠ 43 := fun hh => h4 (by rw [hh]; rfl)
                have a5 : c ≠ 126 := fun hh => h5 (by rw [hh]; rfl)
                simp [okB, h, h2, a3, a4, a5]
              rw [ho, Bool.false_and]
              exact Ev.now _
theorem part_j0 (s : List UInt8) (x : Bool) (h : s.length ≤ 1000000) : Ev (fun k => mancipleref9_part.j0 k (B s) x) (!x && s.all okB) := by
  refine Ev.step (fun k => by rw [mancipleref9_part.j0]) ?_
  cases x
  · refine Ev.if_neg (by decide) ?_
    exact part_l0 s [] h
  · refine Ev.if_pos rfl ?_
    exact Ev.now _
theorem part_f (s : List UInt8) (h : s.length ≤ 1000000) : Ev (fun k => mancipleref9_part.f k (B s)) (pOK s) := by
  refine Ev.congr (fun k => by rw [mancipleref9_part.f]) ?_
  rcases List.eq_nil_or_concat s with rfl | ⟨q, x, rfl⟩
  · refine Ev.if_pos (by rw [B_toList]) ?_
    exact part_j0 [] true (by simp)
  · rw [List.concat_eq_append] at h ⊢
    have hn : q ++ [x] ≠ [] := by simp
    refine Ev.if_neg (by rw [B_toList]; exact hn) ?_
    refine Ev.if_pos (by rw [B_size, List.length_append]; simp only [List.length_cons]; omega) ?_
    obtain ⟨c, r, hcr⟩ : ∃ c r, q ++ [x] = c :: r := by cases q with | nil => exact ⟨x, [], rfl⟩ | cons a t => exact ⟨a, t ++ [x], rfl⟩
    have h0 : bt (B (q ++ [x])) 0 = (c.toNat : Int) := by rw [hcr]; exact B_bt_0 c r
    have hp : pOK (q ++ [x]) = (dg c && (dg x && (q ++ [x]).all okB)) := by
      unfold pOK
      rw [show (q ++ [x]).isEmpty = false by rw [hcr]; rfl, show (q ++ [x]).headD 0 = c by rw [hcr]; rfl, show (q ++ [x]).getLastD 0 = x by simp [List.getLastD_eq_getLast?]]
      rfl
    rw [hp, h0]
    refine Ev.val_bind (rdigit_f c) ?_
    by_cases hc : dg c = true
    · refine Ev.if_pos hc ?_
      rw [bt_last q x h]
      have e1 : wrap64 (((B (q ++ [x])).size : Int) - 1) = (q.length : Int) := by
        rw [B_size, wrap_id (by simp only [List.length_append, List.length_cons]; omega) (by simp only [List.length_append, List.length_cons] at h ⊢; omega)]; simp
      rw [e1]
      refine Ev.if_pos (by omega) ?_
      refine Ev.if_pos (by rw [B_size, List.length_append]; simp only [List.length_cons]; omega) ?_
      refine Ev.val_bind (rdigit_f x) ?_
      have := part_j0 (q ++ [x]) (!dg x) h
      rw [hc, Bool.true_and]
      simpa using this
    · refine Ev.if_neg hc ?_
      have := part_j0 (q ++ [x]) true h
      rw [Bool.eq_false_iff.mpr hc, Bool.false_and]
      simpa using this
/-- A version's parts, as the reference cuts them. -/
abbrev RCut := List UInt8 × List UInt8 × List UInt8 × Bool
def BR (t : RCut) : ByteArray × ByteArray × ByteArray × Bool := (B t.1, B t.2.1, B t.2.2.1, t.2.2.2)
def badR : RCut := ([], [], [], false)
def rrest (e s : List UInt8) : RCut :=
  if 45 ∈ s then (if pOK (af 45 s) = true then (e, bf 45 s, af 45 s, pOK (bf 45 s)) else badR) else (e, s, [], pOK s)
def rcut (l : List UInt8) : RCut :=
  if 58 ∈ l then (if 1 ≤ (bf 58 l).length ∧ (bf 58 l).length ≤ 6 ∧ (bf 58 l).all dg = true then rrest (bf 58 l) (af 58 l) else badR)
  else rrest [] l
theorem cut_left {c : UInt8} {l : List UInt8} (h : c ∈ l) : (B l).extract 0 ((bf c l).length : Int).toNat = B (bf c l) := by
  have := B_cut_left (bf c l) (c :: af c l)
  rwa [← bf_af h] at this
theorem cut_right {c : UInt8} {l : List UInt8} (h : c ∈ l) : (B l).extract (((bf c l).length : Int) + 1).toNat (B l).size = B (af c l) := by
  have := B_cut_right (bf c l ++ [c]) (af c l)
  rw [List.append_assoc, List.singleton_append, ← bf_af h] at this
  rw [← this]
  congr 1
  simp
theorem bf_lt {c : UInt8} {l : List UInt8} (h : c ∈ l) : (bf c l).length + 1 ≤ l.length := by
  have := congrArg List.length (bf_af h)
  rw [List.length_append, List.length_cons] at this; omega
theorem parts_j2 (s e : List UInt8) (h : s.length ≤ 1000000) : Ev (fun k => mancipleref9_parts.j2 k (B s) (B e)) (BR (rrest e s)) := by
  have l1 := bf_le 45 s; have l2 := af_le 45 s
  refine Ev.step (fun k => by rw [mancipleref9_parts.j2]) ?_
  have hp := place_f 45 s h
  by_cases hm : (45 : UInt8) ∈ s
  · have l3 := bf_lt hm
    rw [if_pos hm] at hp
    refine Ev.bind hp ?_
    have ew : wrap64 (((bf 45 s).length : Int) + 1) = ((bf 45 s).length : Int) + 1 := wrap_id (by omega) (by omega)
    rw [ew]
    refine Ev.if_pos (by omega) ?_
    refine Ev.if_pos (by omega) ?_
    refine Ev.if_pos (by rw [B_size]; omega) ?_
    rw [cut_right hm]
    refine Ev.val_bind rfl ?_
    refine Ev.if_pos (by omega) ?_
    refine Ev.if_pos (by rw [B_size]; omega) ?_
    rw [cut_left hm]
    refine Ev.val_bind rfl ?_
    refine Ev.bind (part_f (af 45 s) (by omega)) ?_
    by_cases h1 : pOK (af 45 s) = true
    · refine Ev.if_pos h1 ?_
      refine Ev.bind (part_f (bf 45 s) (by omega)) ?_
      have hr : rrest e s = (e, bf 45 s, af 45 s, pOK (bf 45 s)) := by unfold rrest; rw [if_pos hm, if_pos h1]
      rw [hr]
      exact Ev.now _
    · refine Ev.if_neg h1 ?_
      have hr : rrest e s = badR := by unfold rrest; rw [if_pos hm, if_neg h1]
      rw [hr]
      exact Ev.now _
  · rw [if_neg hm] at hp
    refine Ev.bind hp ?_
    refine Ev.if_neg (by decide) ?_
    refine Ev.bind (part_f s h) ?_
    have hr : rrest e s = (e, s, [], pOK s) := by unfold rrest; rw [if_neg hm]
    rw [hr]
    exact Ev.now _
theorem parts_l0 (s : List UInt8) (hs : s.length ≤ 1000000) : ∀ (r p : List UInt8), (p ++ r).length ≤ 1000000 →
    Ev (fun k => mancipleref9_parts.l0 k (B s) (B (p ++ r)) (p.length : Int)) (BR (if r.all dg = true then rrest (p ++ r) s else badR)) := by
  intro r
  induction r with
  | nil =>
    intro p hp
    refine Ev.step (fun k => by rw [mancipleref9_parts.l0]) ?_
    refine Ev.if_neg (by rw [B_size]; simp) ?_
    exact parts_j2 s (p ++ []) hs
  | cons c r ih =>
    intro p hp
    have nx := ih (p ++ [c]) (by simpa using hp)
    have e : wrap64 ((p.length : Int) + 1) = ((p ++ [c]).length : Int) := by
      rw [wrap_id (by omega) (by simp at hp; omega)]; simp
    simp only [List.append_assoc, List.singleton_append] at nx
    refine Ev.step (fun k => by rw [mancipleref9_parts.l0]) ?_
    refine Ev.if_pos (by rw [B_size]; simp; omega) ?_
    refine Ev.if_pos (by omega) ?_
    rw [B_bt_mid, e]
    refine Ev.val_bind (rdigit_f c) ?_
    rw [List.all_cons]
    by_cases h : dg c = true
    · refine Ev.if_pos h ?_
      rw [h, Bool.true_and]
      exact nx
    · refine Ev.if_neg h ?_
      rw [Bool.eq_false_iff.mpr h, Bool.false_and, if_neg (by decide)]
      exact Ev.now _
theorem parts_j0 (s e : List UInt8) (x : Bool) (hs : s.length ≤ 1000000) (he : e.length ≤ 1000000) : Ev (fun k => mancipleref9_parts.j0 k (B s) (B e) x) (BR (if x = false ∧ e.all dg = true then rrest e s else badR)) := by
  refine Ev.step (fun k => by rw [mancipleref9_parts.j0]) ?_
  cases x
  · refine Ev.if_neg (by decide) ?_
    have := parts_l0 s hs e [] he
    simpa using this
  · refine Ev.if_pos rfl ?_
    rw [if_neg (fun h => by cases h.1)]
    exact Ev.now _
theorem parts_f (l : List UInt8) (h : l.length ≤ 1000000) : Ev (fun k => mancipleref9_parts.f k (B l)) (BR (rcut l)) := by
  have l1 := bf_le 58 l; have l2 := af_le 58 l
  refine Ev.congr (fun k => by rw [mancipleref9_parts.f]) ?_
  have hp := place_f 58 l h
  by_cases hm : (58 : UInt8) ∈ l
  · have l3 := bf_lt hm
    rw [if_pos hm] at hp
    refine Ev.bind hp ?_
    have ew : wrap64 (((bf 58 l).length : Int) + 1) = ((bf 58 l).length : Int) + 1 := wrap_id (by omega) (by omega)
    rw [ew]
    refine Ev.if_pos (by omega) ?_
    refine Ev.if_pos (by omega) ?_
    refine Ev.if_pos (by rw [B_size]; omega) ?_
    rw [cut_left hm]
    refine Ev.val_bind rfl ?_
    refine Ev.if_pos (by omega) ?_
    refine Ev.if_pos (by rw [B_size]; omega) ?_
    rw [cut_right hm]
    refine Ev.val_bind rfl ?_
    unfold rcut
    rw [if_pos hm, B_size]
    by_cases h1 : 1 ≤ (bf 58 l).length
    · refine Ev.if_neg (by omega) ?_
      have := parts_j0 (af 58 l) (bf 58 l) (decide (((bf 58 l).length : Int) > 6)) (by omega) (by omega)
      have e : (decide (((bf 58 l).length : Int) > 6) = false ∧ (bf 58 l).all dg = true) ↔ (1 ≤ (bf 58 l).length ∧ (bf 58 l).length ≤ 6 ∧ (bf 58 l).all dg = true) := by
        rw [decide_eq_false_iff_not]
        constructor
        · exact fun ⟨a, b⟩ => ⟨h1, by omega, b⟩
        · exact fun ⟨_, a, b⟩ => ⟨by omega, b⟩
      simp only [e] at this
      exact this
    · refine Ev.if_pos (by omega) ?_
      have := parts_j0 (af 58 l) (bf 58 l) true (by omega) (by omega)
      rw [if_neg (fun h => by cases h.1)] at this
      rw [if_neg (fun h => h1 h.1)]
      exact this
  · rw [if_neg hm] at hp
    refine Ev.bind hp ?_
    refine Ev.if_neg (by decide) ?_
    unfold rcut
    rw [if_neg hm]
    exact parts_j2 l [] h
def rcheck (l : List UInt8) : Int := if 40 < l.length then 4 else if (rcut l).2.2.2 = true then 0 else 5
theorem CheckVer_f (l : List UInt8) : Ev (fun k => mancipleref9_CheckVer.f k (B l)) (rcheck l) := by
  refine Ev.congr (fun k => by rw [mancipleref9_CheckVer.f]) ?_
  unfold rcheck
  by_cases h : 40 < l.length
  · refine Ev.if_pos (by rw [B_size]; omega) ?_
    rw [if_pos h]
    exact Ev.now _
  · refine Ev.if_neg (by rw [B_size]; omega) ?_
    rw [if_neg h]
    refine Ev.bind (parts_f l (by omega)) ?_
    by_cases h1 : (rcut l).2.2.2 = true
    · refine Ev.if_pos h1 ?_
      rw [if_pos h1]
      exact Ev.now _
    · refine Ev.if_neg h1 ?_
      rw [if_neg h1]
      exact Ev.now _
end Go.Proofs.YtneigokookpngaaDoor.Q
namespace Go.Proofs.YtneigokookpngaaDoor.Q
open Go.RowKit Go.Proofs.YtneigokookpngaaDoorW.PrintWords Go.Proofs.YtneigokookpngaaDoorW.PrintLast Go.Proofs.YtneigokookpngaaDoorW.PB Go.Proofs.YtneigokookpngaaDoorW.VC
theorem rows_j0 (a b c : List UInt8) (x : Bool) : Ev (fun k => manciplelaw1_VerRows.j0 k (B a) (B b) (B c) x) true := by
  refine Ev.step (fun k => by rw [manciplelaw1_VerRows.j0]) ?_
  cases x
  · refine Ev.if_neg (by decide) ?_
    refine Ev.bind (Compare_v a b) ?_
    by_cases h1 : verC (vcut a) (vcut b) > 0
    · refine Ev.if_pos h1 ?_
      exact Ev.now _
    · refine Ev.if_neg h1 ?_
      refine Ev.bind (Compare_v b c) ?_
      by_cases h2 : verC (vcut b) (vcut c) > 0
      · refine Ev.if_pos h2 ?_
        exact Ev.now _
      · refine Ev.if_neg h2 ?_
        refine Ev.bind (Compare_v a c) ?_
        have h3 := verC_cmp.trans (vcut a) (vcut b) (vcut c) (by omega) (by omega)
        rw [decide_eq_true h3]
        exact Ev.now _
  · refine Ev.if_pos rfl ?_
    exact Ev.now _
theorem VerRows : manciplelaw1_VerRows.Pure := by
  intro s t u _ _ _
  obtain ⟨a, rfl⟩ := ex_B s
  obtain ⟨b, rfl⟩ := ex_B t
  obtain ⟨c, rfl⟩ := ex_B u
  refine Ev.rounds ?_
  refine Ev.congr (fun k => by rw [manciplelaw1_VerRows.f]) ?_
  refine Ev.bind known_f ?_
  refine Ev.if_pos rfl ?_
  refine Ev.bind (CheckVer_f a) ?_
  by_cases h1 : rcheck a = 0
  · refine Ev.if_pos h1 ?_
    refine Ev.bind (CheckVer_f b) ?_
    by_cases h2 : rcheck b = 0
    · refine Ev.if_pos h2 ?_
      refine Ev.bind (CheckVer_f c) ?_
      exact rows_j0 a b c _
    · refine Ev.if_neg h2 ?_
      exact rows_j0 a b c _
  · refine Ev.if_neg h1 ?_
    exact rows_j0 a b c _
end Go.Proofs.YtneigokookpngaaDoor.Q
