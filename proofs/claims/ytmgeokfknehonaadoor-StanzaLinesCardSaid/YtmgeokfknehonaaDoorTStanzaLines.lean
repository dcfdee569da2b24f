/- The plain laws for the statement StanzaLines: what the functions tell, as functions of lists of bytes, and the statement of them. Plain theorems. -/
import Derived.Test.YtmgeokfknehonaaDoorAStanzaLines3
import Derived.Test.YtmgeokfknehonaaDoorVStanzaLinesWords
import Derived.Test.YtmgeokfknehonaaDoorVStanzaLinesLast
import Derived.Lib.Strings
import Derived.Lib.SplitLaws
import Derived.Lib.CutLaws
import Derived.Lib.SlBy
namespace Go.Proofs.YtmgeokfknehonaaDoorW.PB
open Go.RowKit Go.Proofs.YtmgeokfknehonaaDoorW.PrintWords
/-- A text out of its bytes. -/
def B (l : List UInt8) : ByteArray := ⟨l.toArray⟩
theorem ex_B (s : ByteArray) : ∃ l, s = B l := ⟨s.data.toList, by unfold B; simp⟩
theorem B_data (l : List UInt8) : (B l).data.toList = l := rfl
theorem B_toList (l : List UInt8) : (B l).toList = l := by rw [Lib.toList_data]; rfl
theorem B_size (l : List UInt8) : (B l).size = l.length := by simp [B, ByteArray.size]
theorem B_inj {l m : List UInt8} : B l = B m ↔ l = m := ⟨fun h => by have := congrArg (fun s : ByteArray => s.data.toList) h; simpa [B] using this, fun h => by rw [h]⟩
theorem B_append (l m : List UInt8) : B l ++ B m = B (l ++ m) := by
  have h : (B l ++ B m).data = (B (l ++ m)).data := by simp [B, ByteArray.data_append]
  cases h1 : (B l ++ B m); cases h2 : B (l ++ m); rw [h1, h2] at h; simp_all
theorem B_extract (l : List UInt8) (a b : Nat) : (B l).extract a b = B ((l.take b).drop a) := by
  have h : ((B l).extract a b).data = (B ((l.take b).drop a)).data := by
    rw [ByteArray.data_extract]
    apply Array.ext'
    simp [B]
    rw [List.drop_take]
  cases h1 : (B l).extract a b; cases h2 : B ((l.take b).drop a); rw [h1, h2] at h; simp_all
theorem B_bt (l : List UInt8) (i : Nat) (h : i < l.length) : bt (B l) (i : Int) = (l[i].toNat : Int) := by
  have h' : (i : Int).toNat < (B l).size := by rw [B_size]; simpa using h
  rw [← bt_at (B l) (i : Int) h']
  simp [B]
  rfl
theorem B_nil : (⟨#[]⟩ : ByteArray) = B [] := rfl
theorem wrap_id {x : Int} (h0 : -9223372036854775808 ≤ x) (h1 : x ≤ 9223372036854775807) : wrap64 x = x := by unfold wrap64; omega
theorem Ev.if_pos {α : Type} {p : Prop} [Decidable p] {g f : Nat → Option α} {r : α} (hp : p) (h : Ev g r) : Ev (fun k => if p then g k else f k) r := by
  obtain ⟨K, h⟩ := h
  exact ⟨K, fun k hk => (_root_.if_pos hp).trans (h k hk)⟩
theorem Ev.if_neg {α : Type} {p : Prop} [Decidable p] {g f : Nat → Option α} {r : α} (hp : ¬ p) (h : Ev f r) : Ev (fun k => if p then g k else f k) r := by
  obtain ⟨K, h⟩ := h
  exact ⟨K, fun k hk => (_root_.if_neg hp).trans (h k hk)⟩
theorem Ev.some_bind {α β : Type} {a : α} {f : Nat → α → Option β} {r : β} (h : Ev (fun k => f k a) r) : Ev (fun k => (some a).bind (f k)) r := h
theorem Ev.val_bind {α β : Type} {g : Option α} {a : α} {f : Nat → α → Option β} {r : β} (h : g = some a) (k : Ev (fun n => f n a) r) : Ev (fun n => g.bind (f n)) r := by subst h; exact k
theorem B_bt_mid (p : List UInt8) (c : UInt8) (r : List UInt8) : bt (B (p ++ c :: r)) (p.length : Int) = (c.toNat : Int) := by
  rw [B_bt _ _ (by simp)]; simp
theorem B_bt_0 (c : UInt8) (r : List UInt8) : bt (B (c :: r)) 0 = (c.toNat : Int) := by
  have := B_bt_mid [] c r; simpa using this
theorem B_cut_left (p r : List UInt8) : (B (p ++ r)).extract 0 (p.length : Int).toNat = B p := by
  rw [B_extract]; simp
theorem B_cut_right (p r : List UInt8) : (B (p ++ r)).extract (p.length : Int).toNat (B (p ++ r)).size = B r := by
  rw [B_extract, B_size, List.take_length]; simp
end Go.Proofs.YtmgeokfknehonaaDoorW.PB
namespace Go.Proofs.YtmgeokfknehonaaDoorW.TX
open Go.RowKit Go.Proofs.YtmgeokfknehonaaDoorW.PrintWords Go.Proofs.YtmgeokfknehonaaDoorW.PB
set_option linter.unusedVariables false
set_option linter.unusedSimpArgs false
/-- A text's pieces between all bytes c. -/
def pieces (c : UInt8) : List UInt8 → List (List UInt8)
  | [] => [[]]
  | b :: l => if b = c then [] :: pieces c l else (b :: (pieces c l).headD []) :: (pieces c l).tail
theorem pieces_ne (c : UInt8) (l : List UInt8) : pieces c l ≠ [] := by
  cases l with
  | nil => simp [pieces]
  | cons b l => unfold pieces; split <;> simp
theorem splitK_pieces (c : UInt8) : ∀ l : List UInt8, Lib.splitK [c] 0 (Lib.count l [c]) l = pieces c l
  | [] => by rw [Lib.count_one]; rfl
  | b :: l => by
    have ih := splitK_pieces c l
    by_cases h : b = c
    · subst h
      rw [Lib.count_cons_eq, Nat.add_comm, Lib.splitK]
      have hix : Lib.index (b :: l) [b] = 0 := by rw [Lib.index]; simp [List.isPrefixOf]
      rw [hix, if_neg (by decide)]
      simp only [pieces, if_true]
      rw [← ih]
      simp
    · rw [Lib.count_cons_ne b c l h]
      have hp : ([c] : List UInt8).isPrefixOf (b :: l) = false := by simp [List.isPrefixOf, Ne.symm h]
      have hix : Lib.index (b :: l) [c] = if Lib.index l [c] == -1 then -1 else Lib.index l [c] + 1 := by rw [Lib.index, hp]; simp
      simp only [pieces, if_neg h]
      rw [← ih]
      cases hk : Lib.count l [c] with
      | zero => rfl
      | succ k =>
        have hge := Lib.index_ge l [c]
        by_cases hm : Lib.index l [c] = -1
        · rw [Lib.count_miss hm] at hk; cases hk
        · obtain ⟨j, hj⟩ : ∃ j : Nat, Lib.index l [c] = j := ⟨(Lib.index l [c]).toNat, by omega⟩
          rw [Lib.splitK, Lib.splitK, hix, hj]
          have e1 : ((j : Int) == -1) = false := by simp
          rw [e1]
          have e2 : ((j : Int) + 1 == -1) = false := by simp; omega
          simp only [Bool.false_eq_true, if_false, e2]
          have e3 : ((j : Int) + 1).toNat = j + 1 := by omega
          simp [e3]
theorem split_B (c : UInt8) (l : List UInt8) : Lib.splitB (B [c]) 0 (Lib.countB (B l) (B [c])) (B l) = (pieces c l).map B := by
  have h := Lib.splitB_data (B [c]) 0 (Lib.countB (B l) (B [c])) (B l)
  rw [B_data, B_data] at h
  have h2 : Lib.countB (B l) (B [c]) = Lib.count l [c] := rfl
  rw [h2] at h
  rw [splitK_pieces c l] at h
  rw [← h, List.map_map, h2]
  conv => lhs; rw [← List.map_id (Lib.splitB (B [c]) 0 (Lib.count l [c]) (B l))]
  refine List.map_congr_left fun x _ => ?_
  obtain ⟨m, rfl⟩ := ex_B x
  rfl
/-- Where no piece is broken. -/
theorem pieces_none {c : UInt8} : ∀ {l : List UInt8}, c ∉ l → pieces c l = [l]
  | [], _ => rfl
  | b :: l, h => by
    have h1 : b ≠ c := fun e => h (by simp [e])
    have h2 : c ∉ l := fun e => h (by simp [e])
    simp [pieces, h1, pieces_none h2]
theorem pieces_append (c : UInt8) : ∀ (p r : List UInt8), c ∉ p → pieces c (p ++ c :: r) = p :: pieces c r
  | [], r, _ => by simp [pieces]
  | b :: p, r, h => by
    have h1 : b ≠ c := fun e => h (by simp [e])
    have h2 : c ∉ p := fun e => h (by simp [e])
    simp [pieces, h1, pieces_append c p r h2]
theorem pieces_mem (c : UInt8) : ∀ (l p : List UInt8), p ∈ pieces c l → c ∉ p
  | [], p, h => by simp [pieces] at h; simp [h]
  | b :: l, p, h => by
    unfold pieces at h
    split at h
    · rcases List.mem_cons.mp h with rfl | h
      · simp
      · exact pieces_mem c l p h
    · rename_i hb
      have hne := pieces_ne c l
      rcases List.mem_cons.mp h with rfl | h
      · have : (pieces c l).headD [] ∈ pieces c l := by
          cases hp : pieces c l with
          | nil => exact absurd hp hne
          | cons x xs => simp
        have := pieces_mem c l _ this
        simp [Ne.symm hb]
        simpa using this
      · exact pieces_mem c l p (List.mem_of_mem_tail h)
/-- Put together again. -/
def glue (c : UInt8) : List (List UInt8) → List UInt8
  | [] => []
  | [p] => p
  | p :: q :: ps => p ++ c :: glue c (q :: ps)
theorem glue_cons (c : UInt8) (p : List UInt8) {ps : List (List UInt8)} (h : ps ≠ []) : glue c (p :: ps) = p ++ c :: glue c ps := by
  cases ps with
  | nil => exact absurd rfl h
  | cons q ps => rfl
theorem glue_pieces (c : UInt8) : ∀ l : List UInt8, glue c (pieces c l) = l
  | [] => rfl
  | b :: l => by
    have ih := glue_pieces c l
    unfold pieces
    split
    · rename_i h
      rw [glue_cons c _ (pieces_ne c l), ih, h]
      rfl
    · cases hp : pieces c l with
      | nil => exact absurd hp (pieces_ne c l)
      | cons x xs =>
        rw [hp] at ih
        cases xs with
        | nil => simp [glue] at ih ⊢; exact ih
        | cons y ys => simp [glue] at ih ⊢; exact ih
/-- Two bytes, the first of which is not in p: where they are first. -/
theorem index_two (a b : UInt8) : ∀ (p q : List UInt8), a ∉ p → Lib.index (p ++ a :: b :: q) [a, b] = p.length
  | [], q, _ => by simp [Lib.index, List.isPrefixOf]
  | x :: p, q, h => by
    have h1 : x ≠ a := fun e => h (by simp [e])
    have h2 : a ∉ p := fun e => h (by simp [e])
    have ih := index_two a b p q h2
    have hp : ([a, b] : List UInt8).isPrefixOf (x :: (p ++ a :: b :: q)) = false := by simp [List.isPrefixOf, Ne.symm h1]
    rw [List.cons_append, Lib.index, hp, ih]
    have e1 : ((p.length : Int) == -1) = false := by simp
    rw [e1]
    simp
theorem index_at (a b : UInt8) : ∀ (l : List UInt8) (i : Nat), Lib.index l [a, b] = i → l = l.take i ++ a :: b :: l.drop (i + 2)
  | [], i, h => by simp [Lib.index] at h
  | x :: l, i, h => by
    unfold Lib.index at h
    split at h
    · rename_i hp
      obtain rfl : i = 0 := by omega
      cases l with
      | nil => simp [List.isPrefixOf] at hp
      | cons y l =>
        simp [List.isPrefixOf] at hp
        simp [hp.1, hp.2]
    · split at h
      · omega
      · rename_i hm
        have hge := Lib.index_ge l [a, b]
        have hm' : Lib.index l [a, b] ≠ -1 := fun e => hm (by rw [e]; rfl)
        obtain ⟨j, hj⟩ : ∃ j : Nat, Lib.index l [a, b] = j := ⟨(Lib.index l [a, b]).toNat, by omega⟩
        obtain rfl : i = j + 1 := by omega
        have ih := index_at a b l j hj
        have e : j + 1 + 2 = (j + 2) + 1 := by omega
        rw [e, List.take_succ_cons, List.drop_succ_cons, List.cons_append, ← ih]
theorem B_cut2 (p q : List UInt8) (a b : UInt8) : (B (p ++ a :: b :: q)).extract (p.length + 2) (B (p ++ a :: b :: q)).size = B q := by
  rw [B_extract, B_size, List.take_length]
  congr 1
  rw [show p ++ a :: b :: q = (p ++ [a, b]) ++ q by simp]
  rw [List.drop_append_of_le_length (by simp)]
  simp
/-- Trimmed of all of some bytes: empty just where it has no other ones. -/
theorem trim_empty (p : UInt8 → Bool) (l : List UInt8) : ((l.reverse.dropWhile p).reverse.dropWhile p).isEmpty = l.all p := by
  have dw : ∀ m : List UInt8, (m.dropWhile p = [] ↔ m.all p = true) := by
    intro m
    induction m with
    | nil => simp
    | cons x m ih =>
      by_cases hx : p x = true
      · simp [List.dropWhile_cons, hx, ih]
      · simp [List.dropWhile_cons, hx]
  by_cases h : l.all p = true
  · have : l.reverse.dropWhile p = [] := (dw _).mpr (by simpa using h)
    rw [this, h]; rfl
  · have e : l.all p = false := by simpa using h
    rw [e]
    rw [Bool.eq_false_iff]
    intro h2
    have h3 := (dw _).mp (List.isEmpty_iff.mp h2)
    cases hd : l.reverse.dropWhile p with
    | nil =>
      have := (dw _).mp hd
      exact h (by simpa using this)
    | cons x t =>
      rw [hd] at h3
      have hx : p x = true := by
        have := List.all_eq_true.mp h3 x (by simp)
        exact this
      have : ¬ p x = true := by
        have hh : ∀ (m : List UInt8) x t, m.dropWhile p = x :: t → ¬ p x = true := by
          intro m
          induction m with
          | nil => intro x t h; cases h
          | cons y m ih =>
            intro x t h
            by_cases hy : p y = true
            · rw [List.dropWhile_cons_of_pos hy] at h; exact ih x t h
            · rw [List.dropWhile_cons_of_neg hy] at h
              injection h with h1 _
              subst h1
              exact hy
        exact hh _ x t hd
      exact this hx
theorem ends_nl (l : List UInt8) : (∃ m, l = m ++ [10]) ∨ ¬ ∃ m, l = m ++ [10] := Classical.em _
end Go.Proofs.YtmgeokfknehonaaDoorW.TX
namespace Go.Proofs.YtmgeokfknehonaaDoor.Q
set_option linter.unusedVariables false
set_option linter.unusedSimpArgs false
open Go.RowKit Go.Proofs.YtmgeokfknehonaaDoorW.PrintWords Go.Proofs.YtmgeokfknehonaaDoorW.PrintLast Go.Proofs.YtmgeokfknehonaaDoorW.PB Go.Proofs.YtmgeokfknehonaaDoorW.TX
abbrev Bs := List UInt8
def lt_ (c : UInt8) : Bool := decide (97 ≤ c.toNat ∧ c.toNat ≤ 122 ∨ 65 ≤ c.toNat ∧ c.toNat ≤ 90)
def sh (c : UInt8) : Bool := decide (32 ≤ c.toNat ∧ c.toNat ≤ 126)
theorem must_f (b : Bool) (i e : Int) (he : e ≠ 0) : stanza_must.f b i e = some (if b = true then (0, 0) else (i, e)) := by
  unfold stanza_must.f
  cases b
  · simp [he]
  · simp
theorem letters_lt (c : UInt8) : ([97, 98, 99, 100, 101, 102, 103, 104, 105, 106, 107, 108, 109, 110, 111, 112, 113, 114, 115, 116, 117, 118, 119, 120, 121, 122, 65, 66, 67, 68, 69, 70, 71, 72, 73, 74, 75, 76, 77, 78, 79, 80, 81, 82, 83, 84, 85, 86, 87, 88, 89, 90] : List UInt8).contains c = lt_ c := by
  have h : ∀ n, n < 256 → ([97, 98, 99, 100, 101, 102, 103, 104, 105, 106, 107, 108, 109, 110, 111, 112, 113, 114, 115, 116, 117, 118, 119, 120, 121, 122, 65, 66, 67, 68, 69, 70, 71, 72, 73, 74, 75, 76, 77, 78, 79, 80, 81, 82, 83, 84, 85, 86, 87, 88, 89, 90] : List UInt8).contains (UInt8.ofNat n) = lt_ (UInt8.ofNat n) := by decide +kernel
  have := h c.toNat c.toNat_lt
  rwa [UInt8.ofNat_toNat] at this
theorem Trim_f (e : Bs) (h : e.length ≤ 1000000) : ∃ t, strings_Trim.f (B e) (⟨#[97, 98, 99, 100, 101, 102, 103, 104, 105, 106, 107, 108, 109, 110, 111, 112, 113, 114, 115, 116, 117, 118, 119, 120, 121, 122, 65, 66, 67, 68, 69, 70, 71, 72, 73, 74, 75, 76, 77, 78, 79, 80, 81, 82, 83, 84, 85, 86, 87, 88, 89, 90]⟩ : ByteArray) = some t ∧ t.toList.isEmpty = e.all lt_ := by
  refine ⟨_, by unfold strings_Trim.f; rw [if_pos ⟨by rw [B_size]; omega, by decide, by decide⟩], ?_⟩
  show (B _).toList.isEmpty = _
  rw [B_toList, B_data]
  unfold Lib.trimS Lib.trimLeftS Lib.trimRightS
  have e1 : (fun x => ([97, 98, 99, 100, 101, 102, 103, 104, 105, 106, 107, 108, 109, 110, 111, 112, 113, 114, 115, 116, 117, 118, 119, 120, 121, 122, 65, 66, 67, 68, 69, 70, 71, 72, 73, 74, 75, 76, 77, 78, 79, 80, 81, 82, 83, 84, 85, 86, 87, 88, 89, 90] : List UInt8).contains x) = lt_ := funext letters_lt
  have := trim_empty lt_ e
  rw [← e1] at this
  rw [← e1]
  exact this
def keyS (p : Bs) : Bool := decide (1 ≤ p.length ∧ p.length ≤ 16) && p.all lt_
theorem key_f (p : Bs) : stanza_key.f (B p) = some (keyS p) := by
  unfold stanza_key.f keyS
  rw [B_size]
  by_cases h1 : 1 ≤ p.length
  · rw [if_pos (by omega)]
    by_cases h2 : p.length ≤ 16
    · rw [if_pos (by omega)]
      obtain ⟨t, ht, he⟩ := Trim_f p (by omega)
      rw [ht]
      simp [he, h1, h2]
    · rw [if_neg (by omega)]
      simp [h2]
  · rw [if_neg (by omega)]
    simp [h1]
theorem shown_l0 : ∀ (r p : Bs), (p ++ r).length ≤ 1000000 → Ev (fun k => stanza_shown.l0 k (B (p ++ r)) ((p ++ r).length : Int) (p.length : Int)) (r.all sh) := by
  intro r
  induction r with
  | nil =>
    intro p hp
    refine Ev.step (fun k => by rw [stanza_shown.l0]) ?_
    refine Ev.if_neg (by simp) ?_
    exact Ev.now _
  | cons c r ih =>
    intro p hp
    refine Ev.step (fun k => by rw [stanza_shown.l0]) ?_
    refine Ev.if_pos (by simp; omega) ?_
    refine Ev.if_pos (by omega) ?_
    refine Ev.if_pos (by rw [B_size]; simp; omega) ?_
    rw [B_bt_mid]
    by_cases h1 : c.toNat < 32
    · refine Ev.if_pos (by omega) ?_
      have : sh c = false := by simp [sh]; omega
      simp only [List.all_cons, this, Bool.false_and]
      exact Ev.now _
    · refine Ev.if_neg (by omega) ?_
      by_cases h2 : c.toNat > 126
      · refine Ev.if_pos (by omega) ?_
        have : sh c = false := by simp [sh]; omega
        simp only [List.all_cons, this, Bool.false_and]
        exact Ev.now _
      · refine Ev.if_neg (by omega) ?_
        have h3 : sh c = true := by simp [sh]; omega
        have := ih (p ++ [c]) (by simpa using hp)
        have e : wrap64 ((p.length : Int) + 1) = ((p ++ [c]).length : Int) := by
          rw [wrap_id (by omega) (by simp at hp; omega)]; simp
        rw [e]
        simp only [List.append_assoc, List.singleton_append] at this
        simp only [List.all_cons, h3, Bool.true_and]
        exact this
theorem shown_f (v : Bs) (h : v.length ≤ 1000000) : Ev (fun k => stanza_shown.f k (B v)) (v.all sh) := by
  refine Ev.congr (fun k => by rw [stanza_shown.f, B_size]) ?_
  exact shown_l0 v [] h
/-- A line that is a field: its key, its value. -/
def fieldS (l : Bs) : Option (Bs × Bs) :=
  match l.dropWhile lt_ with
  | a :: b :: v => if a = 58 ∧ b = 32 ∧ 1 ≤ (l.takeWhile lt_).length ∧ (l.takeWhile lt_).length ≤ 16 ∧ v.all sh = true then some (l.takeWhile lt_, v) else none
  | _ => none
theorem tw_all (p : UInt8 → Bool) : ∀ (u r : Bs), u.all p = true → (∀ c ∈ r.head?, p c = false) → (u ++ r).takeWhile p = u ∧ (u ++ r).dropWhile p = r := by
  intro u
  induction u with
  | nil =>
    intro r _ hr
    cases r with
    | nil => simp
    | cons c r =>
      have := hr c (by simp)
      simp [List.takeWhile_cons, List.dropWhile_cons, this]
  | cons x u ih =>
    intro r hu hr
    simp only [List.all_cons, Bool.and_eq_true] at hu
    have := ih r hu.2 hr
    simp [List.takeWhile_cons, List.dropWhile_cons, hu.1, this.1, this.2]
theorem lt_colon : lt_ 58 = false := by decide
theorem fieldS_mk {u v : Bs} (h1 : keyS u = true) (h2 : v.all sh = true) : fieldS (u ++ 58 :: 32 :: v) = some (u, v) := by
  unfold keyS at h1
  simp only [Bool.and_eq_true, decide_eq_true_eq] at h1
  have := tw_all lt_ u (58 :: 32 :: v) h1.2 (by simp [lt_colon])
  unfold fieldS
  rw [this.1, this.2]
  simp [h1.1.1, h1.1.2, h2]
theorem fieldS_some {l u v : Bs} (h : fieldS l = some (u, v)) : l = u ++ 58 :: 32 :: v ∧ keyS u = true ∧ v.all sh = true := by
  unfold fieldS at h
  split at h
  · rename_i a b v' hd
    split at h
    · rename_i hc
      obtain ⟨rfl, rfl, h1, h2, h3⟩ := hc
      injection h with h
      injection h with h4 h5
      subst h4 h5
      refine ⟨?_, ?_, h3⟩
      · rw [← hd]; exact (List.takeWhile_append_dropWhile).symm
      · unfold keyS
        simp only [Bool.and_eq_true, decide_eq_true_eq]
        exact ⟨⟨h1, h2⟩, List.all_takeWhile⟩
    · cases h
  · cases h
theorem colon_not {u : Bs} (h : u.all lt_ = true) : (58 : UInt8) ∉ u := by
  intro hm
  have := List.all_eq_true.mp h 58 hm
  rw [lt_colon] at this
  cases this
/-- The program's cut at ': '. -/
theorem Cut_some (p q : Bs) (hp : (58 : UInt8) ∉ p) (hl : (p ++ 58 :: 32 :: q).length ≤ 1000000) : strings_Cut.f (B (p ++ 58 :: 32 :: q)) (⟨#[58, 32]⟩ : ByteArray) = some (B p, B q, true) := by
  have hi : stringslite_Index.f (B (p ++ 58 :: 32 :: q)) (⟨#[58, 32]⟩ : ByteArray) = some (p.length : Int) := by
    unfold stringslite_Index.f
    rw [if_neg (by decide), if_pos (by rw [B_size]; omega)]
    exact congrArg some (index_two 58 32 p q hp)
  unfold strings_Cut.f stringslite_Cut.f
  rw [hi]
  simp only [Option.bind_some]
  have hs : ((⟨#[58, 32]⟩ : ByteArray).size : Int) = 2 := rfl
  have hw : wrap64 ((p.length : Int) + 2) = (p.length : Int) + 2 := wrap_id (by omega) (by simp at hl; omega)
  have hz : (p ++ 58 :: 32 :: q).length = p.length + 2 + q.length := by simp; omega
  rw [hs, hw, if_pos (by omega), if_pos (by omega), if_pos (by rw [B_size, hz]; omega), if_pos (by omega), if_pos (by rw [B_size, hz]; omega)]
  simp only [Option.bind_some]
  have e1 : (B (p ++ 58 :: 32 :: q)).extract 0 (p.length : Int).toNat = B p := B_cut_left p _
  have e2 : (B (p ++ 58 :: 32 :: q)).extract ((p.length : Int) + 2).toNat (B (p ++ 58 :: 32 :: q)).size = B q := by
    rw [show ((p.length : Int) + 2).toNat = p.length + 2 by omega]
    exact B_cut2 p q 58 32
  rw [e1, e2]
theorem Cut_any (l : Bs) (hl : l.length ≤ 1000000) : (∃ p q, l = p ++ 58 :: 32 :: q ∧ strings_Cut.f (B l) (⟨#[58, 32]⟩ : ByteArray) = some (B p, B q, true)) ∨ (Lib.index l [58, 32] = -1 ∧ ∃ x y, strings_Cut.f (B l) (⟨#[58, 32]⟩ : ByteArray) = some (x, y, false)) := by
  have hge := Lib.index_ge l [58, 32]
  have hi : stringslite_Index.f (B l) (⟨#[58, 32]⟩ : ByteArray) = some (Lib.index l [58, 32]) := by
    unfold stringslite_Index.f
    rw [if_neg (by decide), if_pos (by rw [B_size]; omega)]
    rfl
  by_cases hm : Lib.index l [58, 32] = -1
  · refine .inr ⟨hm, B l, ⟨#[]⟩, ?_⟩
    unfold strings_Cut.f stringslite_Cut.f
    rw [hi, hm]
    rfl
  · obtain ⟨j, hj⟩ : ∃ j : Nat, Lib.index l [58, 32] = j := ⟨(Lib.index l [58, 32]).toNat, by omega⟩
    have hl2 := index_at 58 32 l j hj
    have hjl : j + 2 ≤ l.length := by
      rcases Nat.lt_or_ge l.length (j + 2) with h | h
      · have := congrArg List.length hl2
        simp [List.length_drop, List.length_take] at this
        omega
      · exact h
    refine .inl ⟨l.take j, l.drop (j + 2), hl2, ?_⟩
    unfold strings_Cut.f stringslite_Cut.f
    rw [hi, hj]
    simp only [Option.bind_some]
    have hs : ((⟨#[58, 32]⟩ : ByteArray).size : Int) = 2 := rfl
    have hw : wrap64 ((j : Int) + 2) = (j : Int) + 2 := wrap_id (by omega) (by omega)
    rw [hs, hw, if_pos (by omega), if_pos (by omega), if_pos (by rw [B_size]; omega), if_pos (by omega), if_pos (by rw [B_size]; omega)]
    simp only [Option.bind_some]
    have e1 : (B l).extract 0 (j : Int).toNat = B (l.take j) := by rw [B_extract]; simp
    have e2 : (B l).extract ((j : Int) + 2).toNat (B l).size = B (l.drop (j + 2)) := by
      rw [show ((j : Int) + 2).toNat = j + 2 by omega, B_extract, B_size, List.take_length]
    rw [e1, e2]
def FR (i : Int) : Option (Bs × Bs) → ByteArray × ByteArray × Int × Int × Int
  | some (u, v) => (B u, B v, i, 0, 0)
  | none => ((⟨#[]⟩ : ByteArray), (⟨#[]⟩ : ByteArray), 0, i, 2)
theorem field_f (i : Int) (l : Bs) (hl : l.length ≤ 1000000) : Ev (fun k => stanza_field.f k i (B l)) (FR i (fieldS l)) := by
  have m0 := must_f false i 2 (by decide)
  have m1 := must_f true i 2 (by decide)
  rw [if_neg (by decide)] at m0
  rw [if_pos rfl] at m1
  have bad : fieldS l = none → Ev (fun k => (stanza_must.f false i 2).bind fun bt125 => (if bt125.2 = 0 then (some ((⟨#[]⟩ : ByteArray), (⟨#[]⟩ : ByteArray), i, 0, 0)) else (some ((⟨#[]⟩ : ByteArray), (⟨#[]⟩ : ByteArray), 0, bt125.1, bt125.2)))) (FR i (fieldS l)) := by
    intro h
    rw [h, m0]
    exact Ev.now _
  have none_of : ∀ {p q : Bs}, l = p ++ 58 :: 32 :: q → (keyS p && q.all sh) = false → strings_Cut.f (B l) (⟨#[58, 32]⟩ : ByteArray) = some (B p, B q, true) → fieldS l = none := by
    intro p q hpq hk hc
    cases hf : fieldS l with
    | none => rfl
    | some uv =>
      obtain ⟨u, v⟩ := uv
      obtain ⟨h1, h2, h3⟩ := fieldS_some hf
      have hu : (58 : UInt8) ∉ u := colon_not (by simp only [keyS, Bool.and_eq_true] at h2; exact h2.2)
      have := Cut_some u v hu (by rw [← h1]; exact hl)
      rw [← h1, hc] at this
      injection this with this
      injection this with e1 e2
      injection e2 with e2 _
      rw [B_inj] at e1 e2
      subst e1 e2
      rw [h2, h3] at hk
      cases hk
  refine Ev.congr (fun k => by rw [stanza_field.f]) ?_
  rcases Cut_any l hl with ⟨p, q, hpq, hc⟩ | ⟨hm, x, y, hc⟩
  · refine Ev.val_bind hc ?_
    refine Ev.if_pos rfl ?_
    refine Ev.val_bind (key_f p) ?_
    by_cases hk : keyS p = true
    · refine Ev.if_pos hk ?_
      refine Ev.bind (shown_f q (by rw [hpq] at hl; simp at hl; omega)) ?_
      by_cases hs : q.all sh = true
      · rw [hs]
        refine Ev.val_bind m1 ?_
        refine Ev.if_pos rfl ?_
        rw [hpq, fieldS_mk hk hs]
        exact Ev.now _
      · have hs' : q.all sh = false := by simpa using hs
        rw [hs']
        refine Ev.val_bind m0 ?_
        refine Ev.if_neg (show ¬ (2 : Int) = 0 by decide) ?_
        rw [none_of hpq (by rw [hs']; simp) hc]
        exact Ev.now _
    · refine Ev.if_neg hk ?_
      have hk' : keyS p = false := by simpa using hk
      refine Ev.val_bind m0 ?_
      refine Ev.if_neg (show ¬ (2 : Int) = 0 by decide) ?_
      rw [none_of hpq (by rw [hk']; simp) hc]
      exact Ev.now _
  · refine Ev.val_bind hc ?_
    refine Ev.if_neg (by simp) ?_
    refine Ev.val_bind m0 ?_
    refine Ev.if_neg (show ¬ (2 : Int) = 0 by decide) ?_
    have : fieldS l = none := by
      cases hf : fieldS l with
      | none => rfl
      | some uv =>
        obtain ⟨u, v⟩ := uv
        obtain ⟨h1, h2, h3⟩ := fieldS_some hf
        have hu : (58 : UInt8) ∉ u := colon_not (by simp only [keyS, Bool.and_eq_true] at h2; exact h2.2)
        have := index_two 58 32 u v hu
        rw [← h1, hm] at this
        omega
    rw [this]
    exact Ev.now _
end Go.Proofs.YtmgeokfknehonaaDoor.Q
namespace Go.Proofs.YtmgeokfknehonaaDoor.Q
set_option linter.unusedVariables false
set_option linter.unusedSimpArgs false
open Go.RowKit Go.Proofs.YtmgeokfknehonaaDoorW.PrintWords Go.Proofs.YtmgeokfknehonaaDoorW.PrintLast Go.Proofs.YtmgeokfknehonaaDoorW.PB Go.Proofs.YtmgeokfknehonaaDoorW.TX
/-- A field: its key, its value, its line. -/
abbrev Fd := Bs × Bs × Nat
def pS (x : Fd) : S43 := ⟨B x.1, B x.2.1, (x.2.2 : Int)⟩
def rS (x : Fd) : S46 := ⟨B x.1, B x.2.1, (x.2.2 : Int)⟩
def getS (l : List Fd) (u : Bs) : Option Fd := l.find? (fun x => decide (x.1 = u))
def GR : Option Fd → ByteArray × ByteArray × Int × Bool
  | some x => (B x.1, B x.2.1, (x.2.2 : Int), true)
  | none => ((⟨#[]⟩ : ByteArray), (⟨#[]⟩ : ByteArray), 0, false)
theorem rdp_mid (p : List Fd) (x : Fd) (r : List Fd) : rd_T43 ((p ++ x :: r).map pS) (p.length : Int) = pS x := by
  unfold rd_T43
  simp [List.getD_eq_getElem?_getD]
theorem rdr_mid (p : List Fd) (x : Fd) (r : List Fd) : rd_T46 ((p ++ x :: r).map rS) (p.length : Int) = rS x := by
  unfold rd_T46
  simp [List.getD_eq_getElem?_getD]
theorem idx_get (u : Bs) : ∀ (r p : List Fd),
    (∃ q x s, r = q ++ x :: s ∧ getS r u = some x ∧ Lib.idxByFrom (fun _ (y : S43) => y.f0.toList == (B u).toList) z43 (r.map pS) p.length = ((p ++ q).length : Int)) ∨
    (getS r u = none ∧ Lib.idxByFrom (fun _ (y : S43) => y.f0.toList == (B u).toList) z43 (r.map pS) p.length = -1) := by
  intro r
  induction r with
  | nil => intro p; exact .inr ⟨rfl, rfl⟩
  | cons x r ih =>
    intro p
    have he : ((pS x).f0.toList == (B u).toList) = decide (x.1 = u) := by
      show ((B x.1).toList == (B u).toList) = _
      rw [B_toList, B_toList]
      by_cases h : x.1 = u <;> simp [h]
    by_cases h : x.1 = u
    · refine .inl ⟨[], x, r, rfl, by simp [getS, h], ?_⟩
      rw [List.map_cons, Lib.idxByFrom, he]
      simp [h]
    · rcases ih (p ++ [x]) with ⟨q, y, s, rfl, hg, hi⟩ | ⟨hg, hi⟩
      · refine .inl ⟨x :: q, y, s, rfl, ?_, ?_⟩
        · unfold getS at hg ⊢
          rw [List.find?_cons]
          simp only [h, decide_false]
          exact hg
        · rw [List.map_cons, Lib.idxByFrom, he]
          simp only [h, decide_false, Bool.false_eq_true, if_false]
          simpa using hi
      · refine .inr ⟨?_, ?_⟩
        · unfold getS at hg ⊢
          rw [List.find?_cons]
          simp only [h, decide_false]
          exact hg
        · rw [List.map_cons, Lib.idxByFrom, he]
          simp only [h, decide_false, Bool.false_eq_true, if_false]
          simpa using hi
theorem Get_f (l : List Fd) (u : Bs) : stanza_Get.f (l.map pS) (B u) = some (GR (getS l u)) := by
  unfold stanza_Get.f
  have hf : ∀ i, Lib.idxByFrom (fun _ (y : S43) => y.f0.toList == (B u).toList) z43 (l.map pS) 0 = i → (stanza_Field__stanza_Get_1.f (l.map pS) (B u)) = some i := fun i h => by
    unfold stanza_Field__stanza_Get_1.f Lib.idxBy
    rw [h]
  rcases idx_get u l [] with ⟨q, x, s, rfl, hg, hi⟩ | ⟨hg, hi⟩
  · rw [hf _ hi, hg]
    simp only [Option.bind_some, List.nil_append]
    rw [if_neg (by omega), if_pos (by omega), if_pos (by simp; omega), rdp_mid]
    rfl
  · rw [hf _ hi, hg]
    rfl
/-! ### The reference -/
theorem rGet_l0 (u : Bs) : ∀ (r p : List Fd), (p ++ r).length ≤ 1000000 → Ev (fun k => mancipleref9_Get.l0 k ((p ++ r).map rS) (B u) (p.length : Int)) (GR (getS r u)) := by
  intro r
  induction r with
  | nil =>
    intro p hp
    refine Ev.step (fun k => by rw [mancipleref9_Get.l0]) ?_
    refine Ev.if_neg (by simp) ?_
    exact Ev.now _
  | cons x r ih =>
    intro p hp
    refine Ev.step (fun k => by rw [mancipleref9_Get.l0]) ?_
    refine Ev.if_pos (by simp; omega) ?_
    refine Ev.if_pos (by omega) ?_
    rw [rdr_mid]
    by_cases h : x.1 = u
    · refine Ev.if_pos (by show (B x.1).toList = _; rw [h]) ?_
      have : getS (x :: r) u = some x := by simp [getS, h]
      rw [this]
      exact Ev.now _
    · refine Ev.if_neg (by show ¬ (B x.1).toList = (B u).toList; rw [B_toList, B_toList]; exact h) ?_
      have e : wrap64 ((p.length : Int) + 1) = ((p ++ [x]).length : Int) := by
        rw [wrap_id (by omega) (by simp at hp; omega)]; simp
      rw [e]
      have := ih (p ++ [x]) (by simpa using hp)
      simp only [List.append_assoc, List.singleton_append] at this
      have hg : getS (x :: r) u = getS r u := by
        unfold getS
        rw [List.find?_cons]
        simp only [h, decide_false]
      rw [hg]
      exact this
theorem rGet_f (l : List Fd) (u : Bs) (h : l.length ≤ 1000000) : Ev (fun k => mancipleref9_Get.f k (l.map rS) (B u)) (GR (getS l u)) := by
  refine Ev.congr (fun k => by rw [mancipleref9_Get.f]) ?_
  exact rGet_l0 u l [] h
theorem rletter_f (c : UInt8) : mancipleref9_letter.f (c.toNat : Int) = some (lt_ c) := by
  have := c.toNat_lt
  unfold mancipleref9_letter.f lt_
  by_cases h1 : (c.toNat : Int) ≥ 97
  · rw [if_pos h1]
    by_cases h2 : (c.toNat : Int) ≤ 122
    · rw [if_pos h2]
      simp; omega
    · rw [if_neg h2, if_pos (by omega)]
      congr 1
      rw [decide_eq_decide]
      omega
  · rw [if_neg h1]
    by_cases h2 : (c.toNat : Int) ≥ 65
    · rw [if_pos h2]
      congr 1
      rw [decide_eq_decide]
      omega
    · rw [if_neg h2]
      simp; omega
def RR : Option (Bs × Bs) → ByteArray × ByteArray × Int × Bool
  | some (u, v) => (B u, B v, 0, true)
  | none => ((⟨#[]⟩ : ByteArray), (⟨#[]⟩ : ByteArray), 0, false)
theorem rfield_l1 (u v : Bs) (x y : UInt8) : ∀ (r p : Bs), v = p ++ r → (u ++ x :: y :: v).length ≤ 1000000 →
    Ev (fun k => mancipleref9_field.l1 k (B (u ++ x :: y :: v)) (u.length : Int) ((u.length + 2 + p.length : Nat) : Int)) (RR (if r.all sh = true then some (u, v) else none)) := by
  intro r
  induction r with
  | nil =>
    intro p hv hl
    have hz : (u ++ x :: y :: v).length = u.length + 2 + v.length := by simp; omega
    have hp : v.length = p.length := by rw [hv]; simp
    refine Ev.step (fun k => by rw [mancipleref9_field.l1]) ?_
    refine Ev.if_neg (by rw [B_size, hz]; omega) ?_
    refine Ev.if_pos (by omega) ?_
    refine Ev.if_pos (by rw [B_size, hz]; omega) ?_
    have hw : wrap64 ((u.length : Int) + 2) = (u.length : Int) + 2 := wrap_id (by omega) (by omega)
    rw [hw]
    refine Ev.if_pos (by omega) ?_
    refine Ev.if_pos (by rw [B_size, hz]; omega) ?_
    have e1 : (B (u ++ x :: y :: v)).extract 0 (u.length : Int).toNat = B u := B_cut_left u _
    have e2 : (B (u ++ x :: y :: v)).extract ((u.length : Int) + 2).toNat (B (u ++ x :: y :: v)).size = B v := by
      rw [show ((u.length : Int) + 2).toNat = u.length + 2 by omega]
      exact B_cut2 u v x y
    rw [e1, e2]
    exact Ev.now _
  | cons c r ih =>
    intro p hv hl
    have hz : (u ++ x :: y :: v).length = u.length + 2 + v.length := by simp; omega
    have hp : v.length = p.length + 1 + r.length := by rw [hv]; simp; omega
    refine Ev.step (fun k => by rw [mancipleref9_field.l1]) ?_
    refine Ev.if_pos (by rw [B_size, hz]; omega) ?_
    refine Ev.if_pos (by omega) ?_
    have hb : bt (B (u ++ x :: y :: v)) ((u.length + 2 + p.length : Nat) : Int) = (c.toNat : Int) := by
      have := B_bt_mid (u ++ x :: y :: p) c r
      have e : (u ++ x :: y :: p).length = u.length + 2 + p.length := by simp; omega
      rw [e] at this
      rw [hv]
      simpa using this
    rw [hb]
    by_cases h1 : c.toNat < 32
    · refine Ev.if_pos (by omega) ?_
      have : sh c = false := by simp [sh]; omega
      simp only [List.all_cons, this, Bool.false_and]
      exact Ev.now _
    · refine Ev.if_neg (by omega) ?_
      by_cases h2 : c.toNat > 126
      · refine Ev.if_pos (by omega) ?_
        have : sh c = false := by simp [sh]; omega
        simp only [List.all_cons, this, Bool.false_and]
        exact Ev.now _
      · refine Ev.if_neg (by omega) ?_
        have h3 : sh c = true := by simp [sh]; omega
        have e : wrap64 (((u.length + 2 + p.length : Nat) : Int) + 1) = ((u.length + 2 + (p ++ [c]).length : Nat) : Int) := by
          rw [wrap_id (by omega) (by omega)]; simp; omega
        rw [e]
        simp only [List.all_cons, h3, Bool.true_and]
        exact ih (p ++ [c]) (by rw [hv]; simp) hl
theorem rfield_j2 (l : Bs) (u : Nat) : Ev (fun k => mancipleref9_field.j2 k (B l) (u : Int) true) (RR none) := by
  refine Ev.step (fun k => by rw [mancipleref9_field.j2]) ?_
  refine Ev.if_pos rfl ?_
  exact Ev.now _
theorem rfield_j1 (u r : Bs) (hu : u.all lt_ = true) (hr : ∀ c ∈ r.head?, lt_ c = false) (hl : (u ++ r).length ≤ 1000000) :
    Ev (fun k => mancipleref9_field.j1 k (B (u ++ r)) (u.length : Int)) (RR (fieldS (u ++ r))) := by
  have ht := tw_all lt_ u r hu hr
  have hw2 : wrap64 ((u.length : Int) + 2) = (u.length : Int) + 2 := wrap_id (by omega) (by simp at hl; omega)
  have hw1 : wrap64 ((u.length : Int) + 1) = (u.length : Int) + 1 := wrap_id (by omega) (by simp at hl; omega)
  refine Ev.step (fun k => by rw [mancipleref9_field.j1]) ?_
  by_cases h1 : u.length < 1
  · refine Ev.if_pos (by omega) ?_
    have : fieldS (u ++ r) = none := by
      unfold fieldS
      rw [ht.1, ht.2]
      split
      · rw [if_neg (by intro h; omega)]
      · rfl
    rw [this]
    exact rfield_j2 _ _
  refine Ev.if_neg (by omega) ?_
  by_cases h2 : 16 < u.length
  · refine Ev.if_pos (by omega) ?_
    have : fieldS (u ++ r) = none := by
      unfold fieldS
      rw [ht.1, ht.2]
      split
      · rw [if_neg (by intro h; omega)]
      · rfl
    rw [this]
    exact rfield_j2 _ _
  refine Ev.if_neg (by omega) ?_
  rw [hw2, hw1]
  have short : r.length < 2 → fieldS (u ++ r) = none := by
    intro h
    unfold fieldS
    rw [ht.2]
    match r, h with
    | [], _ => rfl
    | [a], _ => rfl
  match r, short, hl, ht, hr with
  | [], short, hl, ht, hr =>
    refine Ev.if_pos (by rw [B_size]; simp only [List.length_append, List.length_cons, List.length_nil]; omega) ?_
    rw [short (by simp)]
    exact rfield_j2 _ _
  | [a], short, hl, ht, hr =>
    refine Ev.if_pos (by rw [B_size]; simp only [List.length_append, List.length_cons, List.length_nil]; omega) ?_
    rw [short (by simp)]
    exact rfield_j2 _ _
  | a :: b :: v, short, hl, ht, hr =>
    refine Ev.if_neg (by rw [B_size]; simp; omega) ?_
    refine Ev.if_pos (by omega) ?_
    refine Ev.if_pos (by rw [B_size]; simp; omega) ?_
    rw [B_bt_mid]
    by_cases ha : a = 58
    · subst ha
      refine Ev.if_pos (by decide) ?_
      refine Ev.if_pos (by omega) ?_
      refine Ev.if_pos (by rw [B_size]; simp; omega) ?_
      have hb : bt (B (u ++ 58 :: b :: v)) ((u.length : Int) + 1) = (b.toNat : Int) := by
        have := B_bt_mid (u ++ [58]) b v
        simpa using this
      rw [hb]
      by_cases hb2 : b = 32
      · subst hb2
        have e0 : ((((32 : UInt8).toNat : Int)) != 32) = false := by decide
        rw [e0]
        refine Ev.step (fun k => by rw [mancipleref9_field.j2]) ?_
        refine Ev.if_neg (by decide) ?_
        rw [hw2]
        have := rfield_l1 u v 58 32 v [] rfl hl
        have e1 : ((u.length + 2 + ([] : Bs).length : Nat) : Int) = (u.length : Int) + 2 := by simp
        rw [e1] at this
        have e2 : fieldS (u ++ 58 :: 32 :: v) = if v.all sh = true then some (u, v) else none := by
          unfold fieldS
          rw [ht.1, ht.2]
          simp [show 1 ≤ u.length by omega, show u.length ≤ 16 by omega]
        rw [e2]
        exact this
      · have e0 : ((b.toNat : Int) != 32) = true := by
          rw [bne_iff_ne]
          intro h
          apply hb2
          have : b.toNat = 32 := by omega
          exact UInt8.toNat_inj.mp this
        rw [e0]
        have : fieldS (u ++ 58 :: b :: v) = none := by
          unfold fieldS
          rw [ht.2]
          simp [hb2]
        rw [this]
        exact rfield_j2 _ _
    · refine Ev.if_neg (by
        intro h
        apply ha
        have : a.toNat = 58 := by omega
        exact UInt8.toNat_inj.mp this) ?_
      have : fieldS (u ++ a :: b :: v) = none := by
        unfold fieldS
        rw [ht.2]
        simp [ha]
      rw [this]
      exact rfield_j2 _ _
theorem rfield_l0 : ∀ (r u : Bs), u.all lt_ = true → (u ++ r).length ≤ 1000000 → Ev (fun k => mancipleref9_field.l0 k (B (u ++ r)) (u.length : Int)) (RR (fieldS (u ++ r))) := by
  intro r
  induction r with
  | nil =>
    intro u hu hl
    refine Ev.step (fun k => by rw [mancipleref9_field.l0]) ?_
    refine Ev.if_neg (by rw [B_size]; simp) ?_
    exact rfield_j1 u [] hu (by simp) hl
  | cons c r ih =>
    intro u hu hl
    refine Ev.step (fun k => by rw [mancipleref9_field.l0]) ?_
    refine Ev.if_pos (by rw [B_size]; simp; omega) ?_
    refine Ev.if_pos (by omega) ?_
    rw [B_bt_mid]
    refine Ev.val_bind (rletter_f c) ?_
    by_cases h : lt_ c = true
    · refine Ev.if_pos h ?_
      have e : wrap64 ((u.length : Int) + 1) = ((u ++ [c]).length : Int) := by
        rw [wrap_id (by omega) (by simp at hl; omega)]; simp
      rw [e]
      have := ih (u ++ [c]) (by simp [h]; simpa using hu) (by simpa using hl)
      simpa using this
    · refine Ev.if_neg h ?_
      exact rfield_j1 u (c :: r) hu (by simpa using h) hl
theorem rfield_f (l : Bs) (hl : l.length ≤ 1000000) : Ev (fun k => mancipleref9_field.f k (B l)) (RR (fieldS l)) := by
  refine Ev.congr (fun k => by rw [mancipleref9_field.f]) ?_
  exact rfield_l0 l [] rfl hl
/-! ### Lines -/
theorem B_cut_mid (p c r : Bs) : (B (p ++ c ++ r)).extract (p.length : Int).toNat ((p ++ c).length : Int).toNat = B c := by
  rw [B_extract, Int.toNat_natCast, Int.toNat_natCast, List.take_left' rfl, List.drop_left' rfl]
theorem dropLast_cons' {α : Type} (x : α) {l : List α} (h : l ≠ []) : (x :: l).dropLast = x :: l.dropLast := by
  cases l with
  | nil => exact absurd rfl h
  | cons y l => rfl
theorem pieces_snoc (c : UInt8) : ∀ m : Bs, pieces c (m ++ [c]) = pieces c m ++ [[]]
  | [] => by simp [pieces]
  | b :: m => by
    have ih := pieces_snoc c m
    rw [List.cons_append, pieces, pieces]
    split
    · rw [ih]; rfl
    · rw [ih]
      cases h : pieces c m with
      | nil => exact absurd h (pieces_ne c m)
      | cons x xs => rfl
theorem rRows_l0 : ∀ (r p c : Bs) (out : List Bs), (10 : UInt8) ∉ c → (p ++ c ++ r).length ≤ 1000000 → out.length ≤ p.length →
    Ev (fun k => mancipleref9_Rows.l0 k (B (p ++ c ++ r)) (out.map B) (p.length : Int) ((p ++ c).length : Int)) ((out ++ (pieces 10 (c ++ r)).dropLast).map B, true) := by
  intro r
  induction r with
  | nil =>
    intro p c out hc hl ho
    refine Ev.step (fun k => by rw [mancipleref9_Rows.l0]) ?_
    refine Ev.if_neg (by rw [B_size]; simp) ?_
    rw [List.append_nil, pieces_none hc]
    simp only [List.dropLast_singleton, List.append_nil]
    exact Ev.now _
  | cons b r ih =>
    intro p c out hc hl ho
    have hz : (p ++ c ++ b :: r).length = p.length + c.length + 1 + r.length := by simp; omega
    refine Ev.step (fun k => by rw [mancipleref9_Rows.l0]) ?_
    refine Ev.if_pos (by rw [B_size, hz, List.length_append]; omega) ?_
    refine Ev.if_pos (by omega) ?_
    rw [B_bt_mid (p ++ c) b r]
    have e : wrap64 (((p ++ c).length : Int) + 1) = ((p ++ c ++ [b]).length : Int) := by
      rw [wrap_id (by omega) (by simp at hl ⊢; omega)]; simp; omega
    by_cases hb : b = 10
    · subst hb
      refine Ev.if_pos (by decide) ?_
      refine Ev.if_pos (by omega) ?_
      refine Ev.if_pos (by rw [List.length_append]; omega) ?_
      refine Ev.if_pos (by rw [B_size, hz, List.length_append]; omega) ?_
      refine Ev.if_pos (by simp; omega) ?_
      rw [B_cut_mid, e]
      have h := ih (p ++ c ++ [10]) [] (out ++ [c]) (by simp) (by simpa using hl) (by simp; omega)
      rw [pieces_append 10 c r hc, dropLast_cons' c (pieces_ne 10 r)]
      simp only [List.append_assoc, List.append_nil, List.singleton_append, List.cons_append, List.nil_append, List.map_append, List.map_cons, List.map_nil] at h ⊢
      exact h
    · refine Ev.if_neg (by
        intro h
        apply hb
        have : b.toNat = 10 := by omega
        exact UInt8.toNat_inj.mp this) ?_
      rw [e]
      have h := ih p (c ++ [b]) out (by simp [hc]; exact fun e => hb e.symm) (by simpa using hl) ho
      simp only [List.append_assoc, List.singleton_append] at h ⊢
      exact h
/-- The reference's lines of a text. -/
theorem rRows_nil : Ev (fun k => mancipleref9_Rows.f k (B [])) ([], true) := by
  refine Ev.congr (fun k => by rw [mancipleref9_Rows.f]) ?_
  refine Ev.if_pos (by rw [B_toList]) ?_
  refine Ev.step (fun k => by rw [mancipleref9_Rows.j0]) ?_
  refine Ev.if_neg (by decide) ?_
  exact rRows_l0 [] [] [] [] (by simp) (by simp) (by simp)
theorem rRows_last (m : Bs) (x : UInt8) (hl : (m ++ [x]).length ≤ 1000000) : Ev (fun k => mancipleref9_Rows.f k (B (m ++ [x]))) (if x = 10 then ((pieces 10 m).map B, true) else ([], false)) := by
  refine Ev.congr (fun k => by rw [mancipleref9_Rows.f]) ?_
  refine Ev.if_neg (by rw [B_toList]; simp) ?_
  have hw : wrap64 (((B (m ++ [x])).size : Int) - 1) = (m.length : Int) := by rw [B_size]; rw [List.length_append, List.length_singleton]; rw [wrap_id (by omega) (by simp at hl; omega)]; omega
  rw [hw]
  refine Ev.if_pos (by omega) ?_
  refine Ev.if_pos (by rw [B_size]; simp only [List.length_append, List.length_cons, List.length_nil]; omega) ?_
  rw [B_bt_mid m x []]
  refine Ev.step (fun k => by rw [mancipleref9_Rows.j0]) ?_
  by_cases hx : x = 10
  · subst hx
    refine Ev.if_neg (by decide) ?_
    rw [if_pos rfl]
    have := rRows_l0 (m ++ [10]) [] [] [] (by simp) (by simpa using hl) (by simp)
    simp only [List.nil_append] at this
    rw [pieces_snoc, List.dropLast_concat] at this
    exact this
  · refine Ev.if_pos (by
      rw [bne_iff_ne]
      intro h
      apply hx
      have : x.toNat = 10 := by omega
      exact UInt8.toNat_inj.mp this) ?_
    rw [if_neg hx]
    exact Ev.now _
end Go.Proofs.YtmgeokfknehonaaDoor.Q
namespace Go.Proofs.YtmgeokfknehonaaDoor.Q
set_option linter.unusedVariables false
set_option linter.unusedSimpArgs false
open Go.RowKit Go.Proofs.YtmgeokfknehonaaDoorW.PrintWords Go.Proofs.YtmgeokfknehonaaDoorW.PrintLast Go.Proofs.YtmgeokfknehonaaDoorW.PB Go.Proofs.YtmgeokfknehonaaDoorW.TX
/-- Lines, read one by one: the stanzas, or which line is wrong and why. -/
def parseS : Nat → List Bs → List Fd → List (List Fd) → List (List Fd) × Nat × Nat
  | _, [], now, out => (out ++ [now], 0, 0)
  | i, l :: rs, now, out =>
    if l = [] then (if now = [] ∨ rs = [] then ([], i, 2) else parseS (i + 1) rs [] (out ++ [now]))
    else match fieldS l with
      | none => ([], i, 2)
      | some (u, v) => if (getS now u).isSome = true then ([], i, 6) else parseS (i + 1) rs (now ++ [(u, v, i)]) out
def PP (r : List (List Fd) × Nat × Nat) : List (List S43) × Int × Int := (r.1.map (·.map pS), (r.2.1 : Int), (r.2.2 : Int))
def PR (r : List (List Fd) × Nat × Nat) : List (List S46) × Int × Int := (r.1.map (·.map rS), (r.2.1 : Int), (r.2.2 : Int))
theorem rdOf_mid (p : List Bs) (x : Bs) (r : List Bs) : rdOf ByteArray.empty ((p ++ x :: r).map B) (p.length : Int) = B x := by
  unfold rdOf
  simp [List.getD_eq_getElem?_getD]
theorem parse_l0 (rows : List Bs) (hn : rows.length ≤ 70000) (hl : ∀ l ∈ rows, l.length ≤ 1000000) : ∀ (rs p : List Bs) (now : List Fd) (out : List (List Fd)), rows = p ++ rs → out.length + now.length ≤ p.length →
    Ev (fun k => stanza_Parse.l0 k (rows.map B) (now.map pS) (rows.map B) (rows.length : Int) (p.length : Int) (out.map (·.map pS))) (PP (parseS p.length rs now out)) := by
  intro rs
  induction rs with
  | nil =>
    intro p now out hr ho
    subst hr
    simp only [List.append_nil] at hn ⊢
    refine Ev.step (fun k => by rw [stanza_Parse.l0]) ?_
    refine Ev.if_neg (by omega) ?_
    refine Ev.if_pos (by simp; omega) ?_
    simp only [parseS, PP]
    rw [List.map_append]
    exact Ev.now _
  | cons l rs ih =>
    intro p now out hr ho
    have hlen : rows.length = p.length + 1 + rs.length := by rw [hr]; simp; omega
    have hll : l.length ≤ 1000000 := hl l (by rw [hr]; simp)
    have hrd : rdOf ByteArray.empty (rows.map B) (p.length : Int) = B l := by rw [hr]; exact rdOf_mid p l rs
    have e : wrap64 ((p.length : Int) + 1) = ((p ++ [l]).length : Int) := by
      rw [wrap_id (by omega) (by omega)]; simp
    have hp1 : (p ++ [l]).length = p.length + 1 := by simp
    refine Ev.step (fun k => by rw [stanza_Parse.l0]) ?_
    refine Ev.if_pos (by omega) ?_
    refine Ev.if_pos (by omega) ?_
    refine Ev.if_pos (by rw [List.length_map]; omega) ?_
    rw [hrd]
    have hi2 := must_f false (p.length : Int) 2 (by decide)
    rw [if_neg (by decide)] at hi2
    by_cases h0 : l = []
    · subst h0
      refine Ev.if_pos (B_toList []) ?_
      by_cases hnow : now = []
      · subst hnow
        refine Ev.if_neg (by simp) ?_
        refine Ev.val_bind hi2 ?_
        refine Ev.if_neg (show ¬ (2 : Int) = 0 by decide) ?_
        have : parseS p.length ([] :: rs) [] out = ([], p.length, 2) := by simp [parseS]
        rw [this]
        exact Ev.now _
      · refine Ev.if_pos (by rw [List.length_map]; have := List.length_pos_iff.mpr hnow; omega) ?_
        by_cases hrs : rs = []
        · subst hrs
          have hd : decide ((p.length : Int) < wrap64 (((rows.map B).length : Int) - 1)) = false := by
            rw [List.length_map, hlen, wrap_id (by simp only [List.length_nil]; omega) (by simp only [List.length_nil]; omega)]
            simp
          rw [hd]
          refine Ev.val_bind hi2 ?_
          refine Ev.if_neg (show ¬ (2 : Int) = 0 by decide) ?_
          have : parseS p.length [[]] now out = ([], p.length, 2) := by simp [parseS]
          rw [this]
          exact Ev.now _
        · have hpos := List.length_pos_iff.mpr hrs
          have hd : decide ((p.length : Int) < wrap64 (((rows.map B).length : Int) - 1)) = true := by
            rw [List.length_map, hlen, wrap_id (by omega) (by omega), decide_eq_true_iff]
            omega
          rw [hd]
          have hi1 := must_f true (p.length : Int) 2 (by decide)
          rw [if_pos rfl] at hi1
          refine Ev.val_bind hi1 ?_
          refine Ev.if_pos rfl ?_
          refine Ev.if_pos (by rw [List.length_map]; omega) ?_
          have : parseS p.length ([] :: rs) now out = parseS (p.length + 1) rs [] (out ++ [now]) := by simp [parseS, hnow, hrs]
          rw [this, e]
          have h := ih (p ++ [[]]) [] (out ++ [now]) (by rw [hr]; simp) (by have := List.length_pos_iff.mpr hnow; simp; omega)
          rw [hp1, List.map_append] at h
          rw [hp1]
          exact h
    · refine Ev.if_neg (by rw [B_toList]; exact h0) ?_
      refine Ev.bind (field_f (p.length : Int) l hll) ?_
      cases hf : fieldS l with
      | none =>
        refine Ev.if_neg (show ¬ (2 : Int) = 0 by decide) ?_
        have : parseS p.length (l :: rs) now out = ([], p.length, 2) := by simp [parseS, h0, hf]
        rw [this]
        exact Ev.now _
      | some uv =>
        obtain ⟨u, v⟩ := uv
        refine Ev.if_pos rfl ?_
        refine Ev.val_bind (Get_f now u) ?_
        cases hg : getS now u with
        | some x =>
          have hi6 := must_f false (p.length : Int) 6 (by decide)
          rw [if_neg (by decide)] at hi6
          refine Ev.val_bind hi6 ?_
          refine Ev.if_neg (show ¬ (6 : Int) = 0 by decide) ?_
          have : parseS p.length (l :: rs) now out = ([], p.length, 6) := by simp [parseS, h0, hf, hg]
          rw [this]
          exact Ev.now _
        | none =>
          have hi6 := must_f true (p.length : Int) 6 (by decide)
          rw [if_pos rfl] at hi6
          refine Ev.val_bind hi6 ?_
          refine Ev.if_pos rfl ?_
          refine Ev.if_pos (by rw [List.length_map]; omega) ?_
          have : parseS p.length (l :: rs) now out = parseS (p.length + 1) rs (now ++ [(u, v, p.length)]) out := by simp [parseS, h0, hf, hg]
          rw [this, e]
          have h := ih (p ++ [l]) (now ++ [(u, v, p.length)]) out (by rw [hr]; simp) (by simp; omega)
          rw [hp1, List.map_append] at h
          rw [hp1]
          exact h
theorem rparse_l0 (rows : List Bs) (hn : rows.length ≤ 70000) (hl : ∀ l ∈ rows, l.length ≤ 1000000) : ∀ (rs p : List Bs) (now : List Fd) (out : List (List Fd)), rows = p ++ rs → out.length + now.length ≤ p.length → (rs = [] → now ≠ []) →
    Ev (fun k => mancipleref9_ParseStanzas.l0 k (rows.map B) (out.map (·.map rS)) (now.map rS) (p.length : Int)) (PR (parseS p.length rs now out)) := by
  intro rs
  induction rs with
  | nil =>
    intro p now out hr ho hne
    subst hr
    simp only [List.append_nil] at hn ⊢
    have hpos := List.length_pos_iff.mpr (hne rfl)
    refine Ev.step (fun k => by rw [mancipleref9_ParseStanzas.l0]) ?_
    refine Ev.if_neg (by simp) ?_
    refine Ev.if_pos (by rw [List.length_map]; omega) ?_
    refine Ev.if_pos (by simp; omega) ?_
    simp only [parseS, PR]
    rw [List.map_append]
    exact Ev.now _
  | cons l rs ih =>
    intro p now out hr ho hne
    have hlen : rows.length = p.length + 1 + rs.length := by rw [hr]; simp; omega
    have hll : l.length ≤ 1000000 := hl l (by rw [hr]; simp)
    have hrd : rdOf ByteArray.empty (rows.map B) (p.length : Int) = B l := by rw [hr]; exact rdOf_mid p l rs
    have e : wrap64 ((p.length : Int) + 1) = ((p ++ [l]).length : Int) := by
      rw [wrap_id (by omega) (by omega)]; simp
    have hp1 : (p ++ [l]).length = p.length + 1 := by simp
    refine Ev.step (fun k => by rw [mancipleref9_ParseStanzas.l0]) ?_
    refine Ev.if_pos (by rw [List.length_map]; omega) ?_
    refine Ev.if_pos (by omega) ?_
    rw [hrd]
    by_cases h0 : l = []
    · subst h0
      refine Ev.if_pos (B_toList []) ?_
      by_cases hnow : now = []
      · subst hnow
        refine Ev.if_pos (by simp) ?_
        have : parseS p.length ([] :: rs) [] out = ([], p.length, 2) := by simp [parseS]
        rw [this]
        exact Ev.now _
      · refine Ev.if_neg (by rw [List.length_map]; have := List.length_pos_iff.mpr hnow; omega) ?_
        have hw : wrap64 (((rows.map B).length : Int) - 1) = (p.length : Int) + rs.length := by
          rw [List.length_map, hlen, wrap_id (by omega) (by omega)]; omega
        rw [hw]
        by_cases hrs : rs = []
        · subst hrs
          refine Ev.if_pos (by simp) ?_
          have : parseS p.length [[]] now out = ([], p.length, 2) := by simp [parseS]
          rw [this]
          exact Ev.now _
        · have hpos := List.length_pos_iff.mpr hrs
          refine Ev.if_neg (by omega) ?_
          refine Ev.if_pos (by rw [List.length_map]; omega) ?_
          have : parseS p.length ([] :: rs) now out = parseS (p.length + 1) rs [] (out ++ [now]) := by simp [parseS, hnow, hrs]
          rw [this, e]
          have h := ih (p ++ [[]]) [] (out ++ [now]) (by rw [hr]; simp) (by have := List.length_pos_iff.mpr hnow; simp; omega) (fun h => absurd h hrs)
          rw [hp1, List.map_append] at h
          rw [hp1]
          exact h
    · refine Ev.if_neg (by rw [B_toList]; exact h0) ?_
      refine Ev.bind (rfield_f l hll) ?_
      cases hf : fieldS l with
      | none =>
        refine Ev.if_neg (by simp [RR]) ?_
        have : parseS p.length (l :: rs) now out = ([], p.length, 2) := by simp [parseS, h0, hf]
        rw [this]
        exact Ev.now _
      | some uv =>
        obtain ⟨u, v⟩ := uv
        refine Ev.if_pos rfl ?_
        refine Ev.bind (rGet_f now u (by omega)) ?_
        cases hg : getS now u with
        | some x =>
          refine Ev.if_pos rfl ?_
          have : parseS p.length (l :: rs) now out = ([], p.length, 6) := by simp [parseS, h0, hf, hg]
          rw [this]
          exact Ev.now _
        | none =>
          refine Ev.if_neg (by simp [GR]) ?_
          refine Ev.if_pos (by rw [List.length_map]; omega) ?_
          have : parseS p.length (l :: rs) now out = parseS (p.length + 1) rs (now ++ [(u, v, p.length)]) out := by simp [parseS, h0, hf, hg]
          rw [this, e]
          have h := ih (p ++ [l]) (now ++ [(u, v, p.length)]) out (by rw [hr]; simp) (by simp; omega) (fun _ => by simp)
          rw [hp1, List.map_append] at h
          rw [hp1]
          exact h
theorem pieces_len (c : UInt8) : ∀ l : Bs, (pieces c l).length ≤ l.length + 1 ∧ ∀ p ∈ pieces c l, p.length ≤ l.length
  | [] => by simp [pieces]
  | b :: l => by
    have ih := pieces_len c l
    unfold pieces
    split
    · refine ⟨by simp; exact ih.1, fun p hp => ?_⟩
      rcases List.mem_cons.mp hp with rfl | hp
      · simp
      · have := ih.2 p hp; simp; omega
    · refine ⟨?_, fun p hp => ?_⟩
      · have := ih.1
        have hne := List.length_pos_iff.mpr (pieces_ne c l)
        simp; omega
      · rcases List.mem_cons.mp hp with rfl | hp
        · have h : (pieces c l).headD [] ∈ pieces c l := by
            cases hp : pieces c l with
            | nil => exact absurd hp (pieces_ne c l)
            | cons x xs => simp
          have := ih.2 _ h
          simp only [List.length_cons]; omega
        · have := ih.2 p (List.mem_of_mem_tail hp); simp; omega
/-- Stanzas of any text. -/
def readS (s : Bs) : List (List Fd) × Nat × Nat :=
  if 65536 < s.length then ([], 0, 4)
  else if s = [] then ([], 0, 0)
  else if s.getLast? = some 10 then parseS 0 (pieces 10 s.dropLast) [] [] else ([], 0, 2)
theorem snoc_cases (s : Bs) : s = [] ∨ ∃ m x, s = m ++ [x] := by
  rcases List.eq_nil_or_concat s with h | ⟨m, x, h⟩
  · exact .inl h
  · exact .inr ⟨m, x, by rw [h]; exact List.concat_eq_append⟩
theorem HasSuffix_f (m : Bs) (x : UInt8) (hl : (m ++ [x]).length ≤ 1000000) : stringslite_HasSuffix.f (B (m ++ [x])) (⟨#[10]⟩ : ByteArray) = some (decide (x = 10)) := by
  unfold stringslite_HasSuffix.f
  have hs : ((⟨#[10]⟩ : ByteArray).size : Int) = 1 := rfl
  rw [B_size, hs]
  have hz : (m ++ [x]).length = m.length + 1 := by simp
  have hw : wrap64 (((m ++ [x]).length : Int) - 1) = (m.length : Int) := by rw [hz, wrap_id (by omega) (by omega)]; omega
  rw [hw, if_pos (by omega), if_pos (by omega), if_pos (by omega)]
  have e : (B (m ++ [x])).extract (m.length : Int).toNat (m ++ [x]).length = B [x] := by
    have := B_cut_right m [x]
    rwa [B_size] at this
  rw [e, B_toList, show (⟨#[10]⟩ : ByteArray).toList = [10] from B_toList [10]]
  by_cases h : x = 10 <;> simp [h]
theorem CutSuffix_f (m : Bs) (x : UInt8) (hl : (m ++ [x]).length ≤ 1000000) : strings_CutSuffix.f (B (m ++ [x])) (⟨#[10]⟩ : ByteArray) = some (if x = 10 then B m else B (m ++ [x]), decide (x = 10)) := by
  unfold strings_CutSuffix.f stringslite_CutSuffix.f
  rw [HasSuffix_f m x hl]
  simp only [Option.bind_some]
  by_cases h : x = 10
  · rw [if_pos (by simpa using h), if_pos h]
    have hs : ((⟨#[10]⟩ : ByteArray).size : Int) = 1 := rfl
    have hz : (m ++ [x]).length = m.length + 1 := by simp
    have hw : wrap64 (((B (m ++ [x])).size : Int) - 1) = (m.length : Int) := by rw [B_size, hz, wrap_id (by omega) (by omega)]; omega
    rw [hs, hw, if_pos (by omega), if_pos (by rw [B_size]; omega)]
    simp only [Option.bind_some]
    have e : (B (m ++ [x])).extract 0 (m.length : Int).toNat = B m := B_cut_left m [x]
    rw [e]
    simp [h]
  · rw [if_neg (by simpa using h), if_neg h]
    simp [h]
theorem Parse_f (s : Bs) (hs : s.length ≤ 1000000) : Ev (fun k => stanza_Parse.f k (B s)) (PP (readS s)) := by
  refine Ev.congr (fun k => by rw [stanza_Parse.f, B_size]) ?_
  unfold readS
  have h4 := must_f (decide ((s.length : Int) ≤ 65536)) 0 4 (by decide)
  refine Ev.val_bind h4 ?_
  by_cases h1 : 65536 < s.length
  · rw [if_pos h1]
    have hd : ¬ decide ((s.length : Int) ≤ 65536) = true := by rw [decide_eq_true_iff]; omega
    rw [if_neg hd]
    refine Ev.if_neg (show ¬ (4 : Int) = 0 by decide) ?_
    exact Ev.now _
  have hd : decide ((s.length : Int) ≤ 65536) = true := by rw [decide_eq_true_iff]; omega
  rw [if_neg h1, if_pos hd]
  refine Ev.if_pos rfl ?_
  rcases snoc_cases s with rfl | ⟨m, x, rfl⟩
  · rw [if_pos rfl]
    refine Ev.if_pos (B_toList []) ?_
    exact Ev.now _
  · rw [if_neg (by simp)]
    refine Ev.if_neg (by rw [B_toList]; simp) ?_
    refine Ev.val_bind (CutSuffix_f m x hs) ?_
    by_cases hx : x = 10
    · subst hx
      have h2 := must_f true 0 2 (by decide)
      rw [if_pos rfl] at h2
      refine Ev.val_bind h2 ?_
      refine Ev.if_pos rfl ?_
      have hp := pieces_len 10 m
      have hm : m.length ≤ 65536 := by simp at h1; omega
      have hsp : strings_Split.f (B m) (⟨#[10]⟩ : ByteArray) = some ((pieces 10 m).map B) := by
        unfold strings_Split.f
        rw [if_pos ⟨by rw [B_size]; omega, by decide⟩]
        exact congrArg some (split_B 10 m)
      refine Ev.val_bind hsp ?_
      have hg : (m ++ [(10 : UInt8)]).getLast? = some 10 := by simp
      rw [if_pos hg, List.dropLast_concat]
      have h := parse_l0 (pieces 10 m) (by omega) (fun l hl => by have := hp.2 l hl; omega) (pieces 10 m) [] [] [] rfl (by simp)
      rw [List.length_map]
      exact h
    · have h2 := must_f false 0 2 (by decide)
      rw [if_neg (by decide)] at h2
      have hx' : decide (x = 10) = false := by simpa using hx
      have hg : ¬ (m ++ [x]).getLast? = some 10 := by simpa using hx
      rw [if_neg hg]
      show Ev (fun k => (stanza_must.f (decide (x = 10)) 0 2).bind _) _
      rw [hx']
      refine Ev.val_bind h2 ?_
      refine Ev.if_neg (show ¬ (2 : Int) = 0 by decide) ?_
      exact Ev.now _
theorem rParse_f (s : Bs) (hs : s.length ≤ 1000000) : Ev (fun k => mancipleref9_ParseStanzas.f k (B s)) (PR (readS s)) := by
  refine Ev.congr (fun k => by rw [mancipleref9_ParseStanzas.f, B_size]) ?_
  unfold readS
  by_cases h1 : 65536 < s.length
  · rw [if_pos h1]
    refine Ev.if_pos (by omega) ?_
    exact Ev.now _
  rw [if_neg h1]
  refine Ev.if_neg (by omega) ?_
  rcases snoc_cases s with rfl | ⟨m, x, rfl⟩
  · rw [if_pos rfl]
    refine Ev.bind rRows_nil ?_
    refine Ev.if_pos rfl ?_
    refine Ev.step (fun k => by rw [mancipleref9_ParseStanzas.l0]) ?_
    refine Ev.if_neg (by simp) ?_
    refine Ev.if_neg (by simp) ?_
    exact Ev.now _
  · rw [if_neg (by simp)]
    refine Ev.bind (rRows_last m x hs) ?_
    by_cases hx : x = 10
    · subst hx
      have hg : (m ++ [(10 : UInt8)]).getLast? = some 10 := by simp
      rw [if_pos hg]
      refine Ev.if_pos rfl ?_
      have hp := pieces_len 10 m
      have hm : m.length ≤ 65536 := by simp at h1; omega
      have h := rparse_l0 (pieces 10 m) (by omega) (fun l hl => by have := hp.2 l hl; omega) (pieces 10 m) [] [] [] rfl (by simp) (fun h => absurd h (pieces_ne 10 m))
      rw [List.dropLast_concat]
      exact h
    · have hg : ¬ (m ++ [x]).getLast? = some 10 := by simpa using hx
      rw [if_neg hg]
      rw [if_neg hx]
      refine Ev.if_neg (by simp) ?_
      exact Ev.now _
end Go.Proofs.YtmgeokfknehonaaDoor.Q
namespace Go.Proofs.YtmgeokfknehonaaDoor.Q
set_option linter.unusedVariables false
set_option linter.unusedSimpArgs false
set_option linter.unnecessarySimpa false
open Go.RowKit Go.Proofs.YtmgeokfknehonaaDoorW.PrintWords Go.Proofs.YtmgeokfknehonaaDoorW.PrintLast Go.Proofs.YtmgeokfknehonaaDoorW.PB Go.Proofs.YtmgeokfknehonaaDoorW.TX
theorem Of_l0 : ∀ (r p : List Fd), (p ++ r).length ≤ 1000000 → Ev (fun k => manciplelaw5_Of.l0 k ((p ++ r).map pS) (p.map rS) (p.length : Int)) ((p ++ r).map rS) := by
  intro r
  induction r with
  | nil =>
    intro p hp
    refine Ev.step (fun k => by rw [manciplelaw5_Of.l0]) ?_
    refine Ev.if_neg (by simp) ?_
    rw [List.append_nil]
    exact Ev.now _
  | cons x r ih =>
    intro p hp
    refine Ev.step (fun k => by rw [manciplelaw5_Of.l0]) ?_
    refine Ev.if_pos (by simp; omega) ?_
    refine Ev.if_pos (by omega) ?_
    refine Ev.if_pos (by simp at hp ⊢; omega) ?_
    rw [rdp_mid]
    have e : wrap64 ((p.length : Int) + 1) = ((p ++ [x]).length : Int) := by
      rw [wrap_id (by omega) (by simp at hp; omega)]; simp
    rw [e]
    have h := ih (p ++ [x]) (by simpa using hp)
    simp only [List.append_assoc, List.singleton_append, List.map_append, List.map_cons, List.map_nil] at h
    simp only [List.map_append, List.map_cons]
    exact h
theorem Of_f (l : List Fd) (hl : l.length ≤ 1000000) : Ev (fun k => manciplelaw5_Of.f k (l.map pS)) (l.map rS) := by
  refine Ev.congr (fun k => by rw [manciplelaw5_Of.f]) ?_
  exact Of_l0 l [] hl
theorem Fields_l0 : ∀ (r p : List Fd), (p ++ r).length ≤ 1000000 → Ev (fun k => manciplelaw5_Fields.l0 k ((p ++ r).map rS) ((p ++ r).map rS) (p.length : Int)) true := by
  intro r
  induction r with
  | nil =>
    intro p hp
    refine Ev.step (fun k => by rw [manciplelaw5_Fields.l0]) ?_
    refine Ev.if_neg (by simp) ?_
    exact Ev.now _
  | cons x r ih =>
    intro p hp
    refine Ev.step (fun k => by rw [manciplelaw5_Fields.l0]) ?_
    refine Ev.if_pos (by simp; omega) ?_
    refine Ev.if_pos (by omega) ?_
    refine Ev.if_pos (by simp; omega) ?_
    rw [rdr_mid]
    refine Ev.if_neg (by simp) ?_
    have e : wrap64 ((p.length : Int) + 1) = ((p ++ [x]).length : Int) := by
      rw [wrap_id (by omega) (by simp at hp; omega)]; simp
    rw [e]
    have h := ih (p ++ [x]) (by simpa using hp)
    simp only [List.append_assoc, List.singleton_append] at h
    exact h
theorem Fields_f (l : List Fd) (hl : l.length ≤ 1000000) : Ev (fun k => manciplelaw5_Fields.f k (l.map rS) (l.map rS)) true := by
  refine Ev.congr (fun k => by rw [manciplelaw5_Fields.f]) ?_
  refine Ev.if_pos rfl ?_
  exact Fields_l0 l [] hl
theorem rdL_mid {α : Type} (d : α) (p : List α) (x : α) (r : List α) : (p ++ x :: r).getD (p.length : Int).toNat d = x := by
  simp [List.getD_eq_getElem?_getD]
theorem same_l0 : ∀ (r p : List (List Fd)), (p ++ r).length ≤ 1000000 → (∀ l ∈ p ++ r, l.length ≤ 1000000) →
    Ev (fun k => manciplelaw5_same.l0 k ((p ++ r).map (·.map pS)) ((p ++ r).map (·.map rS)) (p.length : Int)) true := by
  intro r
  induction r with
  | nil =>
    intro p hp hl
    refine Ev.step (fun k => by rw [manciplelaw5_same.l0]) ?_
    refine Ev.if_neg (by simp) ?_
    exact Ev.now _
  | cons x r ih =>
    intro p hp hl
    refine Ev.step (fun k => by rw [manciplelaw5_same.l0]) ?_
    refine Ev.if_pos (by simp; omega) ?_
    refine Ev.if_pos (by omega) ?_
    have e1 : rd_L3 ((p ++ x :: r).map (·.map pS)) (p.length : Int) = x.map pS := by
      unfold rd_L3
      have := rdL_mid ([] : List S43) (p.map (·.map pS)) (x.map pS) (r.map (·.map pS))
      simpa using this
    have e2 : rd_L7 ((p ++ x :: r).map (·.map rS)) (p.length : Int) = x.map rS := by
      unfold rd_L7
      have := rdL_mid ([] : List S46) (p.map (·.map rS)) (x.map rS) (r.map (·.map rS))
      simpa using this
    have hx := hl x (by simp)
    rw [e1, e2]
    refine Ev.bind (Of_f x hx) ?_
    refine Ev.if_pos (by simp; omega) ?_
    refine Ev.bind (Fields_f x hx) ?_
    refine Ev.if_pos rfl ?_
    have e : wrap64 ((p.length : Int) + 1) = ((p ++ [x]).length : Int) := by
      rw [wrap_id (by omega) (by simp at hp; omega)]; simp
    rw [e]
    have h := ih (p ++ [x]) (by simpa using hp) (by simpa using hl)
    simp only [List.append_assoc, List.singleton_append] at h
    exact h
theorem same_f (l : List (List Fd)) (hn : l.length ≤ 1000000) (hl : ∀ x ∈ l, x.length ≤ 1000000) : Ev (fun k => manciplelaw5_same.f k (l.map (·.map pS)) (l.map (·.map rS))) true := by
  refine Ev.congr (fun k => by rw [manciplelaw5_same.f]) ?_
  refine Ev.if_pos (by simp) ?_
  exact same_l0 l [] hn hl
/-! ### Told again -/
def lineT (x : Fd) : Bs := x.1 ++ 58 :: 32 :: (x.2.1 ++ [10])
def stT (s : List Fd) : Bs := s.flatMap lineT
theorem line_B (x : Fd) : stanza_Print.line (pS x) = B (lineT x) := by
  unfold stanza_Print.line lineT
  show ((B x.1 ++ B [58, 32]) ++ B x.2.1) ++ B [10] = _
  rw [B_append, B_append, B_append]
  simp
theorem inner_f : ∀ (s : List Fd) (o : Bs), (o ++ stT s).length ≤ 1000000 → stanza_Print.inner (s.map pS) (B o) = some (B (o ++ stT s))
  | [], o, h => by simp [stanza_Print.inner, stT]
  | x :: s, o, h => by
    have e : o ++ stT (x :: s) = (o ++ lineT x) ++ stT s := by simp [stT]
    rw [e] at h ⊢
    rw [List.map_cons, stanza_Print.inner, line_B, B_size, B_size, if_pos (by simp at h; omega), B_append]
    exact inner_f s (o ++ lineT x) h
theorem outer_f : ∀ (ls : List (List Fd)) (out : List Bs), out.length + ls.length ≤ 1000000 → (∀ s ∈ ls, (stT s).length ≤ 1000000) → stanza_Print.outer (ls.map (·.map pS)) (out.map B) = some ((out ++ ls.map stT).map B)
  | [], out, _, _ => by simp [stanza_Print.outer]
  | s :: ls, out, h, hl => by
    have h1 := inner_f s [] (by simpa using hl s (by simp))
    rw [List.nil_append] at h1
    rw [List.map_cons, stanza_Print.outer, if_pos (by rw [List.length_map]; simp at h; omega)]
    have h1' : stanza_Print.inner (s.map pS) (⟨#[]⟩ : ByteArray) = some (B (stT s)) := h1
    rw [h1']
    simp only [Option.bind_some]
    have h2 := outer_f ls (out ++ [stT s]) (by simp at h ⊢; omega) (fun x hx => hl x (by simp [hx]))
    simp only [List.map_append, List.map_cons, List.map_nil, List.append_assoc, List.singleton_append] at h2 ⊢
    exact h2
def joinT : List Bs → Bs
  | [] => []
  | [p] => p
  | p :: q :: ps => p ++ 10 :: joinT (q :: ps)
theorem join_eq : ∀ l : List Bs, Lib.join l [10] = joinT l
  | [] => rfl
  | [p] => Lib.join_one p [10]
  | p :: q :: ps => by
    have ih := join_eq (q :: ps)
    rw [Lib.join_cons] at ih ⊢
    unfold joinT
    rw [← ih]
    simp [Lib.joinTail]
theorem Print_f (ls : List (List Fd)) (hn : ls.length ≤ 1000000) (hl : ∀ s ∈ ls, (stT s).length ≤ 1000000) (hj : (joinT (ls.map stT)).length ≤ 1000000) : stanza_Print.f (ls.map (·.map pS)) = some (B (joinT (ls.map stT))) := by
  unfold stanza_Print.f
  have h1 := outer_f ls [] (by simpa using hn) hl
  rw [List.map_nil, List.nil_append] at h1
  rw [h1]
  simp only [Option.bind_some]
  unfold strings_Join.f
  have e : ((ls.map stT).map B).map (·.data.toList) = ls.map stT := by
    rw [List.map_map, List.map_map]
    exact List.map_congr_left fun x _ => rfl
  rw [e, show (⟨#[10]⟩ : ByteArray).data.toList = [10] from rfl, join_eq]
  rw [if_pos ⟨by omega, by simp; omega⟩]
  rfl
end Go.Proofs.YtmgeokfknehonaaDoor.Q
namespace Go.Proofs.YtmgeokfknehonaaDoor.Q
set_option linter.unusedVariables false
set_option linter.unusedSimpArgs false
set_option linter.unnecessarySimpa false
open Go.RowKit Go.Proofs.YtmgeokfknehonaaDoorW.PrintWords Go.Proofs.YtmgeokfknehonaaDoorW.PrintLast Go.Proofs.YtmgeokfknehonaaDoorW.PB Go.Proofs.YtmgeokfknehonaaDoorW.TX
theorem known_f : Ev (fun k => manciplelaw5_known.f k) true :=
  Ev.of manciplelaw5_known.mono (k := 60) (by kernel_rfl)
theorem joinT_last : ∀ (xs : List Bs) (y z : Bs), joinT (xs ++ [y ++ z]) = joinT (xs ++ [y]) ++ z
  | [], y, z => rfl
  | [x], y, z => by simp [joinT]
  | x :: x2 :: xs, y, z => by
    have := joinT_last (x2 :: xs) y z
    simp only [List.cons_append] at this ⊢
    unfold joinT
    rw [this]
    simp
theorem joinT_snoc : ∀ (xs : List Bs) (y : Bs), xs ≠ [] → joinT (xs ++ [y]) = joinT xs ++ 10 :: y
  | [], y, h => absurd rfl h
  | [x], y, _ => rfl
  | x :: x2 :: xs, y, _ => by
    have := joinT_snoc (x2 :: xs) y (by simp)
    simp only [List.cons_append] at this ⊢
    rw [joinT, joinT, this]
    simp
theorem joinT_mem : ∀ (xs : List Bs) (y : Bs), y ∈ xs → y.length ≤ (joinT xs).length
  | [], y, h => by cases h
  | [x], y, h => by
    obtain rfl : y = x := by simpa using h
    exact Nat.le_refl _
  | x :: x2 :: xs, y, h => by
    rcases List.mem_cons.mp h with rfl | h
    · simp [joinT]
    · have := joinT_mem (x2 :: xs) y h
      rw [joinT]
      simp
      omega
theorem field_told (l u v : Bs) (h : fieldS l = some (u, v)) : l = u ++ 58 :: 32 :: v := by
  unfold fieldS at h
  split at h
  · rename_i a b w hd
    split at h
    · rename_i hc
      obtain ⟨rfl, rfl, _⟩ := hc
      injection h with h
      injection h with h1 h2
      subst h2
      rw [← h1, ← hd, List.takeWhile_append_dropWhile]
    · cases h
  · cases h
def linesT (rs : List Bs) : Bs := rs.flatMap (· ++ [10])
theorem lines_pieces : ∀ (ps : List Bs), ps ≠ [] → linesT ps = glue 10 ps ++ [10]
  | [], h => absurd rfl h
  | [p], _ => by simp [linesT, glue]
  | p :: q :: ps, _ => by
    have := lines_pieces (q :: ps) (by simp)
    unfold linesT at this ⊢
    rw [List.flatMap_cons, this]
    simp [glue]
theorem parse_told : ∀ (rs : List Bs) (i : Nat) (now : List Fd) (out ls : List (List Fd)) (n : Nat), parseS i rs now out = (ls, n, 0) →
    joinT (ls.map stT) = joinT ((out ++ [now]).map stT) ++ linesT rs
  | [], i, now, out, ls, n, h => by
    simp only [parseS, Prod.mk.injEq] at h
    rw [← h.1]
    simp [linesT]
  | l :: rs, i, now, out, ls, n, h => by
    unfold parseS at h
    by_cases h0 : l = []
    · rw [if_pos h0] at h
      by_cases h1 : now = [] ∨ rs = []
      · rw [if_pos h1] at h
        simp at h
      · rw [if_neg h1] at h
        rw [parse_told rs _ _ _ _ _ h, h0]
        rw [List.map_append (l₂ := [[]]), List.map_singleton, show stT [] = [] from rfl, joinT_snoc _ _ (by simp)]
        simp [linesT]
    · rw [if_neg h0] at h
      cases hf : fieldS l with
      | none => rw [hf] at h; simp at h
      | some uv =>
        obtain ⟨u, v⟩ := uv
        rw [hf] at h
        simp only at h
        split at h
        · simp at h
        · rw [parse_told rs _ _ _ _ _ h]
          have e : stT (now ++ [(u, v, i)]) = stT now ++ (l ++ [10]) := by
            rw [field_told l u v hf]
            simp [stT, lineT]
          rw [List.map_append, List.map_singleton, e, joinT_last]
          simp [linesT]
theorem parse_bound (N : Nat) : ∀ (rs : List Bs) (i : Nat) (now : List Fd) (out ls : List (List Fd)) (n e : Nat), parseS i rs now out = (ls, n, e) → out.length + rs.length + 1 ≤ N → now.length + rs.length ≤ N → (∀ x ∈ out, x.length ≤ N) →
    ls.length ≤ N ∧ ∀ x ∈ ls, x.length ≤ N
  | [], i, now, out, ls, n, e, h, h1, h2, h3 => by
    simp only [parseS, Prod.mk.injEq] at h
    rw [← h.1]
    refine ⟨by simp at h1 ⊢; omega, fun x hx => ?_⟩
    rcases List.mem_append.mp hx with hx | hx
    · exact h3 x hx
    · obtain rfl : x = now := by simpa using hx
      simpa using h2
  | l :: rs, i, now, out, ls, n, e, h, h1, h2, h3 => by
    simp only [List.length_cons] at h1 h2
    have nil : ∀ a b : Nat, (([], a, b) : List (List Fd) × Nat × Nat) = (ls, n, e) → ls.length ≤ N ∧ ∀ x ∈ ls, x.length ≤ N := fun a b h => by
      simp only [Prod.mk.injEq] at h
      rw [← h.1]
      exact ⟨Nat.zero_le _, fun x hx => by cases hx⟩
    unfold parseS at h
    by_cases h0 : l = []
    · rw [if_pos h0] at h
      by_cases h4 : now = [] ∨ rs = []
      · rw [if_pos h4] at h
        exact nil _ _ h
      · rw [if_neg h4] at h
        refine parse_bound N rs _ _ _ _ _ _ h (by simp; omega) (by simp; omega) (fun x hx => ?_)
        rcases List.mem_append.mp hx with hx | hx
        · exact h3 x hx
        · obtain rfl : x = now := by simpa using hx
          omega
    · rw [if_neg h0] at h
      cases hf : fieldS l with
      | none => rw [hf] at h; exact nil _ _ h
      | some uv =>
        obtain ⟨u, v⟩ := uv
        rw [hf] at h
        simp only at h
        split at h
        · exact nil _ _ h
        · exact parse_bound N rs _ _ _ _ _ _ h (by omega) (by simp; omega) h3
theorem read_bound (s : Bs) (hs : s.length ≤ 900000) : (readS s).1.length ≤ 1000000 ∧ ∀ x ∈ (readS s).1, x.length ≤ 1000000 := by
  unfold readS
  split
  · exact ⟨by simp, fun x hx => by cases hx⟩
  split
  · exact ⟨by simp, fun x hx => by cases hx⟩
  split
  · have hp := (pieces_len 10 s.dropLast).1
    have hd : s.dropLast.length ≤ s.length := by simp
    exact parse_bound 1000000 _ _ _ _ _ _ _ rfl (by simp; omega) (by simp; omega) (fun x hx => by cases hx)
  · exact ⟨by simp, fun x hx => by cases hx⟩
/-- What is read whole and told again is the text. -/
theorem read_told (s : Bs) (h : (readS s).2.2 = 0) : joinT ((readS s).1.map stT) = s := by
  unfold readS at h ⊢
  split at h
  · simp at h
  rename_i h1
  rw [if_neg h1]
  split at h
  · rename_i h2
    rw [if_pos h2, h2]
    rfl
  rename_i h2
  rw [if_neg h2]
  split at h
  · rename_i h3
    rw [if_pos h3]
    have := parse_told (pieces 10 s.dropLast) 0 [] [] (parseS 0 (pieces 10 s.dropLast) [] []).1 (parseS 0 (pieces 10 s.dropLast) [] []).2.1 (Prod.ext rfl (Prod.ext rfl h))
    rw [this, lines_pieces _ (pieces_ne 10 _), glue_pieces]
    rcases snoc_cases s with rfl | ⟨m, x, rfl⟩
    · exact absurd rfl h2
    · obtain rfl : x = 10 := by simpa using h3
      simp [joinT, stT]
  · simp at h
theorem told_f (s : Bs) (hs : s.length ≤ 900000) (h : (readS s).2.2 = 0) : stanza_Print.f ((readS s).1.map (·.map pS)) = some (B s) := by
  have ht := read_told s h
  have hb := read_bound s hs
  have := Print_f (readS s).1 hb.1 (fun x hx => by
    have := joinT_mem ((readS s).1.map stT) (stT x) (List.mem_map_of_mem hx)
    rw [ht] at this
    omega) (by rw [ht]; omega)
  rw [this, ht]
end Go.Proofs.YtmgeokfknehonaaDoor.Q
namespace Go.Proofs.YtmgeokfknehonaaDoor.Q
set_option linter.unusedVariables false
set_option linter.unusedSimpArgs false
set_option linter.unnecessarySimpa false
open Go.RowKit Go.Proofs.YtmgeokfknehonaaDoorW.PrintWords Go.Proofs.YtmgeokfknehonaaDoorW.PrintLast Go.Proofs.YtmgeokfknehonaaDoorW.PB Go.Proofs.YtmgeokfknehonaaDoorW.TX
theorem wrapU {x : Int} (h0 : 0 ≤ x) (h1 : x < 18446744073709551616) : IntKind.u64.wrap x = x := by
  have : IntKind.u64.wrap x = x % 18446744073709551616 := by
    unfold IntKind.wrap
    have h : IntKind.u64.signed = false := rfl
    have hb : (2 : Int) ^ IntKind.u64.bits = 18446744073709551616 := by decide
    simp only [h, hb, Bool.false_and, Bool.false_eq_true, if_false]
  rw [this]; omega
def dch (n : Nat) : UInt8 := UInt8.ofNat (48 + n % 10)
theorem dch_nat (n : Nat) : (dch n).toNat = 48 + n % 10 := by
  unfold dch; rw [UInt8.toNat_ofNat']; omega
theorem dch_sh (n : Nat) : sh (dch n) = true := by
  unfold sh; rw [decide_eq_true_iff, dch_nat]; omega
theorem one_digit (n : Nat) (h : n < 18446744073709551616) : strOfNums [(IntKind.u64.wrap (48 + (Int.tmod (n : Int) 10))) % 256] = B [dch n] := by
  have e : Int.tmod (n : Int) 10 = ((n % 10 : Nat) : Int) := by rw [Int.tmod_eq_emod_of_nonneg (by omega)]; omega
  rw [e, wrapU (by omega) (by omega)]
  have e2 : (48 + ((n % 10 : Nat) : Int)) % 256 = ((48 + n % 10 : Nat) : Int) := by omega
  rw [e2]
  unfold strOfNums B dch
  simp only [List.map_cons, List.map_nil, Int.toNat_natCast]
theorem Decimal_l0 : ∀ m (x : Nat) (D : List UInt8) N, x < 10 ^ (m + 1) → x < 1000000000000 → D.length + m ≤ N → N ≤ 1000 → D.all sh = true →
    ∃ E, Ev (fun k => mancipleref9_Decimal.l0 k (x : Int) (B D)) (B E) ∧ E.all sh = true ∧ E.length ≤ N := by
  intro m
  induction m with
  | zero =>
    intro x D N hx _ hN _ hD
    refine ⟨D, ?_, hD, by omega⟩
    refine Ev.step (fun k => by rw [mancipleref9_Decimal.l0]) ?_
    refine Ev.if_neg (by omega) ?_
    exact Ev.now _
  | succ m ih =>
    intro x D N hx hb hN h1000 hD
    by_cases h : x < 10
    · refine ⟨D, ?_, hD, by omega⟩
      refine Ev.step (fun k => by rw [mancipleref9_Decimal.l0]) ?_
      refine Ev.if_neg (by omega) ?_
      exact Ev.now _
    · have e : Int.tdiv (x : Int) 10 = ((x / 10 : Nat) : Int) := by rw [Int.tdiv_eq_ediv_of_nonneg (by omega)]; omega
      have ew : IntKind.u64.wrap ((x / 10 : Nat) : Int) = ((x / 10 : Nat) : Int) := wrapU (by omega) (by omega)
      rw [Nat.pow_succ] at hx
      obtain ⟨E, h1, h2, h4⟩ := ih (x / 10) (dch (x / 10) :: D) N (by omega) (by omega) (by rw [List.length_cons]; omega) h1000 (by rw [List.all_cons, dch_sh, hD]; rfl)
      refine ⟨E, ?_, h2, h4⟩
      refine Ev.step (fun k => by rw [mancipleref9_Decimal.l0]) ?_
      rw [e, ew]
      refine Ev.if_pos (by omega) ?_
      refine Ev.val_bind rfl ?_
      rw [one_digit (x / 10) (by omega)]
      refine Ev.if_pos (by rw [B_size, B_size]; simp only [List.length_cons, List.length_nil]; omega) ?_
      rw [B_append]
      exact h1
theorem Decimal_ex (n : Nat) (h : n < 100000) : ∃ D, Ev (fun k => mancipleref9_Decimal.f k (n : Int)) (B D) ∧ D.all sh = true ∧ D.length ≤ 10 := by
  obtain ⟨E, h1, h2, h4⟩ := Decimal_l0 9 n [dch n] 10 (by omega) (by omega) (by simp) (by omega) (by rw [List.all_cons, dch_sh]; rfl)
  refine ⟨E, ?_, h2, h4⟩
  refine Ev.congr (fun k => by rw [mancipleref9_Decimal.f]) ?_
  rw [one_digit n (by omega)]
  exact h1
/-- A number in digits. -/
@[irreducible] noncomputable def decT (n : Nat) : Bs := if h : n < 100000 then Classical.choose (Decimal_ex n h) else []
theorem decT_f (n : Nat) (h : n < 100000) : Ev (fun k => mancipleref9_Decimal.f k (n : Int)) (B (decT n)) := by
  unfold decT; rw [dif_pos h]; exact (Classical.choose_spec (Decimal_ex n h)).1
theorem decT_sh (n : Nat) : (decT n).all sh = true := by
  unfold decT
  split
  · rename_i h; exact (Classical.choose_spec (Decimal_ex n h)).2.1
  · rfl
theorem decT_len (n : Nat) : (decT n).length ≤ 10 := by
  unfold decT
  split
  · rename_i h; exact (Classical.choose_spec (Decimal_ex n h)).2.2
  · simp
def keyT (j : Nat) : Bs := [75, UInt8.ofNat (97 + j)]
theorem keyT_ok : ∀ j, j < 9 → keyS (keyT j) = true := by decide +kernel
theorem keyT_inj : ∀ i, i < 9 → ∀ j, j < 9 → keyT i = keyT j → i = j := by decide +kernel
theorem keyT_txt (j : Nat) (h : j < 9) : strOfNums [75, (wrap64 (97 + (j : Int))) % 256] = B (keyT j) := by
  rw [wrap_id (by omega) (by omega)]
  have e : (97 + (j : Int)) % 256 = ((97 + j : Nat) : Int) := by omega
  rw [e]
  unfold strOfNums B keyT
  simp only [List.map_cons, List.map_nil, Int.toNat_natCast]
  rfl
noncomputable def rowT (j n : Nat) : Bs := keyT j ++ 58 :: 32 :: 118 :: decT n
theorem sh_v : sh 118 = true := by decide
theorem row_field (j n : Nat) (h : j < 9) : fieldS (rowT j n) = some (keyT j, 118 :: decT n) :=
  fieldS_mk (keyT_ok j h) (by rw [List.all_cons, sh_v, decT_sh]; rfl)
theorem sh_nl : ∀ l : Bs, l.all sh = true → (10 : UInt8) ∉ l := by
  intro l h hm
  have := List.all_eq_true.mp h 10 hm
  exact absurd this (by decide)
theorem keyT_nl : ∀ j, j < 9 → (10 : UInt8) ∉ keyT j := by decide +kernel
theorem row_nl (j n : Nat) (h : j < 9) : (10 : UInt8) ∉ rowT j n := by
  unfold rowT
  intro hm
  rcases List.mem_append.mp hm with hm | hm
  · exact keyT_nl j h hm
  · simp only [List.mem_cons] at hm
    rcases hm with hm | hm | hm | hm
    · exact absurd hm (by decide)
    · exact absurd hm (by decide)
    · exact absurd hm (by decide)
    · exact sh_nl _ (decT_sh n) hm
noncomputable def flds : Nat → Nat → Nat → List Fd
  | _, 0, _ => []
  | j, m + 1, n => (keyT j, 118 :: decT n, n) :: flds (j + 1) m (n + 1)
noncomputable def rowsT : Nat → Nat → Nat → List Bs
  | _, 0, _ => []
  | j, m + 1, n => rowT j n :: rowsT (j + 1) m (n + 1)
theorem parse_flds : ∀ (m j n : Nat) (rest : List Bs) (now : List Fd) (out : List (List Fd)), j + m ≤ 9 → (∀ x ∈ now, ∃ i, i < j ∧ x.1 = keyT i) →
    parseS n (rowsT j m n ++ rest) now out = parseS (n + m) rest (now ++ flds j m n) out
  | 0, j, n, rest, now, out, _, _ => by simp [rowsT, flds]
  | m + 1, j, n, rest, now, out, hj, hn => by
    have hne : rowT j n ≠ [] := by unfold rowT keyT; simp
    have hg : getS now (keyT j) = none := by
      unfold getS
      rw [List.find?_eq_none]
      intro x hx
      obtain ⟨i, hi, he⟩ := hn x hx
      have : ¬ x.1 = keyT j := fun h => by
        have := keyT_inj i (by omega) j (by omega) (he.symm.trans h)
        omega
      simpa using this
    rw [rowsT, flds, List.cons_append, parseS, if_neg hne, row_field j n (by omega)]
    simp only [hg, Option.isSome_none, Bool.false_eq_true, if_false]
    rw [parse_flds m (j + 1) (n + 1) rest _ out (by omega) (fun x hx => ?_)]
    · rw [show n + 1 + m = n + (m + 1) by omega]
      simp
    · rcases List.mem_append.mp hx with hx | hx
      · obtain ⟨i, hi, he⟩ := hn x hx
        exact ⟨i, by omega, he⟩
      · obtain rfl : x = (keyT j, 118 :: decT n, n) := by simpa using hx
        exact ⟨j, by omega, rfl⟩
noncomputable def rowsA : Nat → List Nat → Nat → List Bs
  | m, [], n => rowsT 0 m n
  | m, m' :: ms, n => rowsT 0 m n ++ [] :: rowsA m' ms (n + m + 1)
def endN : Nat → List Nat → Nat → Nat
  | m, [], n => n + m
  | m, m' :: ms, n => endN m' ms (n + m + 1)
noncomputable def lastF : Nat → List Nat → Nat → List Fd
  | m, [], n => flds 0 m n
  | m, m' :: ms, n => lastF m' ms (n + m + 1)
noncomputable def initF : Nat → List Nat → Nat → List (List Fd)
  | _, [], _ => []
  | m, m' :: ms, n => flds 0 m n :: initF m' ms (n + m + 1)
theorem rowsT_ne (j m n : Nat) (h : 1 ≤ m) : rowsT j m n ≠ [] := by
  cases m with
  | zero => omega
  | succ m => simp [rowsT]
theorem flds_ne (j m n : Nat) (h : 1 ≤ m) : flds j m n ≠ [] := by
  cases m with
  | zero => omega
  | succ m => simp [flds]
theorem rowsA_ne (m : Nat) (ms : List Nat) (n : Nat) (h : 1 ≤ m) : rowsA m ms n ≠ [] := by
  cases ms with
  | nil => exact rowsT_ne 0 m n h
  | cons m' ms => simp [rowsA]
theorem parse_all : ∀ (ms : List Nat) (m n : Nat) (out : List (List Fd)) (more : List Bs), 1 ≤ m → m ≤ 9 → (∀ x ∈ ms, 1 ≤ x ∧ x ≤ 9) →
    parseS n (rowsA m ms n ++ more) [] out = parseS (endN m ms n) more (lastF m ms n) (out ++ initF m ms n)
  | [], m, n, out, more, h1, h2, _ => by
    rw [rowsA, endN, lastF, initF, parse_flds m 0 n more [] out (by omega) (fun x hx => by cases hx)]
    simp
  | m' :: ms, m, n, out, more, h1, h2, h3 => by
    have hm' := h3 m' (by simp)
    rw [rowsA, endN, lastF, initF, List.append_assoc, List.cons_append, parse_flds m 0 n _ [] out (by omega) (fun x hx => by cases hx)]
    have hne : ¬ (([] ++ flds 0 m n) = [] ∨ rowsA m' ms (n + m + 1) ++ more = []) := by
      intro h
      rcases h with h | h
      · exact flds_ne 0 m n h1 (by simpa using h)
      · exact rowsA_ne m' ms (n + m + 1) hm'.1 (List.append_eq_nil_iff.mp h).1
    rw [parseS, if_pos rfl, if_neg hne, parse_all ms m' (n + m + 1) _ more hm'.1 hm'.2 (fun x hx => h3 x (by simp [hx]))]
    simp
theorem rowsT_nl : ∀ (m j n : Nat), j + m ≤ 9 → ∀ r ∈ rowsT j m n, (10 : UInt8) ∉ r
  | 0, j, n, _, r, h => by cases h
  | m + 1, j, n, hj, r, h => by
    rw [rowsT] at h
    rcases List.mem_cons.mp h with rfl | h
    · exact row_nl j n (by omega)
    · exact rowsT_nl m (j + 1) (n + 1) (by omega) r h
theorem rowsA_nl : ∀ (ms : List Nat) (m n : Nat), m ≤ 9 → (∀ x ∈ ms, x ≤ 9) → ∀ r ∈ rowsA m ms n, (10 : UInt8) ∉ r
  | [], m, n, h, _, r, hr => rowsT_nl m 0 n (by omega) r hr
  | m' :: ms, m, n, h, h2, r, hr => by
    rw [rowsA] at hr
    rcases List.mem_append.mp hr with hr | hr
    · exact rowsT_nl m 0 n (by omega) r hr
    · rcases List.mem_cons.mp hr with rfl | hr
      · simp
      · exact rowsA_nl ms m' (n + m + 1) (h2 m' (by simp)) (fun x hx => h2 x (by simp [hx])) r hr
theorem pieces_glue : ∀ (rows : List Bs), rows ≠ [] → (∀ r ∈ rows, (10 : UInt8) ∉ r) → pieces 10 (glue 10 rows) = rows
  | [], h, _ => absurd rfl h
  | [p], _, h => pieces_none (h p (by simp))
  | p :: q :: ps, _, h => by
    rw [glue, pieces_append 10 p _ (h p (by simp)), pieces_glue (q :: ps) (by simp) (fun r hr => h r (by simp [hr]))]
/-- Lines of one's own, read. -/
theorem read_lines (rows : List Bs) (hne : rows ≠ []) (hn : ∀ r ∈ rows, (10 : UInt8) ∉ r) (hl : (linesT rows).length ≤ 60000) : readS (linesT rows) = parseS 0 rows [] [] := by
  have e := lines_pieces rows hne
  unfold readS
  rw [if_neg (by omega), if_neg (by rw [e]; simp), if_pos (by rw [e]; simp)]
  rw [e, List.dropLast_concat, pieces_glue rows hne hn]
theorem lines_append (a b : List Bs) : linesT (a ++ b) = linesT a ++ linesT b := by simp [linesT]
theorem rowsT_len : ∀ (m j n : Nat), (linesT (rowsT j m n)).length ≤ 16 * m
  | 0, j, n => by simp [rowsT, linesT]
  | m + 1, j, n => by
    have ih := rowsT_len m (j + 1) (n + 1)
    have := decT_len n
    rw [rowsT, show linesT (rowT j n :: rowsT (j + 1) m (n + 1)) = (rowT j n ++ [10]) ++ linesT (rowsT (j + 1) m (n + 1)) by simp [linesT], List.length_append]
    have e : (rowT j n ++ [10]).length = (decT n).length + 6 := by simp [rowT, keyT]
    omega
/-- What follows the first group. -/
noncomputable def tailT : List Nat → Nat → Bs
  | [], _ => []
  | m :: ms, n => 10 :: (linesT (rowsT 0 m (n + 1)) ++ tailT ms (n + 1 + m))
def tailN : List Nat → Nat → Nat
  | [], n => n
  | m :: ms, n => tailN ms (n + 1 + m)
noncomputable def tailF : List Nat → Nat → List (List Fd)
  | [], _ => []
  | m :: ms, n => flds 0 m (n + 1) :: tailF ms (n + 1 + m)
theorem tail_text : ∀ (ms : List Nat) (m n : Nat), linesT (rowsA m ms n) = linesT (rowsT 0 m n) ++ tailT ms (n + m)
  | [], m, n => by simp [rowsA, tailT]
  | m' :: ms, m, n => by
    rw [rowsA, lines_append, show linesT ([] :: rowsA m' ms (n + m + 1)) = 10 :: linesT (rowsA m' ms (n + m + 1)) by simp [linesT], tail_text ms m' (n + m + 1), tailT]
theorem tail_end : ∀ (ms : List Nat) (m n : Nat), endN m ms n = tailN ms (n + m)
  | [], m, n => rfl
  | m' :: ms, m, n => by rw [endN, tailN, tail_end ms m' (n + m + 1)]
theorem tail_flds : ∀ (ms : List Nat) (m n : Nat), initF m ms n ++ [lastF m ms n] = flds 0 m n :: tailF ms (n + m)
  | [], m, n => rfl
  | m' :: ms, m, n => by rw [initF, lastF, tailF, List.cons_append, tail_flds ms m' (n + m + 1)]
theorem tail_len : ∀ (ms : List Nat) (n : Nat), (∀ x ∈ ms, x ≤ 9) → (tailT ms n).length ≤ 200 * ms.length
  | [], n, _ => by simp [tailT]
  | m :: ms, n, h => by
    have ih := tail_len ms (n + 1 + m) (fun x hx => h x (by simp [hx]))
    have h1 := rowsT_len m 0 (n + 1)
    have h2 := h m (by simp)
    rw [tailT, List.length_cons, List.length_append, List.length_cons]
    omega
theorem tail_N : ∀ (ms : List Nat) (n : Nat), (∀ x ∈ ms, x ≤ 9) → tailN ms n ≤ n + 10 * ms.length
  | [], n, _ => by simp [tailN]
  | m :: ms, n, h => by
    have ih := tail_N ms (n + 1 + m) (fun x hx => h x (by simp [hx]))
    have h2 := h m (by simp)
    rw [tailN, List.length_cons]
    omega
def lastM : Nat → List Nat → Nat
  | m, [] => m
  | _, m' :: ms => lastM m' ms
theorem flds_get : ∀ (m j n t : Nat), j ≤ t → t < j + m → (getS (flds j m n) (keyT t)).isSome = true
  | 0, j, n, t, h1, h2 => by omega
  | m + 1, j, n, t, h1, h2 => by
    rw [flds]
    unfold getS
    rw [List.find?_cons]
    by_cases h : keyT j = keyT t
    · simp [h]
    · simp only [h, decide_false]
      have : j ≠ t := fun e => h (by rw [e])
      exact flds_get m (j + 1) (n + 1) t (by omega) (by omega)
theorem last_get : ∀ (ms : List Nat) (m n t : Nat), t < lastM m ms → (getS (lastF m ms n) (keyT t)).isSome = true
  | [], m, n, t, h => flds_get m 0 n t (by omega) (by simpa [lastM] using h)
  | m' :: ms, m, n, t, h => by
    rw [lastF]
    exact last_get ms m' (n + m + 1) t h
/-- The key again: twice. -/
theorem parse_twice (ms : List Nat) (m t : Nat) (h1 : 1 ≤ m) (h2 : m ≤ 9) (h3 : ∀ x ∈ ms, 1 ≤ x ∧ x ≤ 9) (ht : t < lastM m ms) (ht9 : t < 9) :
    parseS 0 (rowsA m ms 0 ++ [keyT t ++ [58, 32, 120]]) [] [] = ([], endN m ms 0, 6) := by
  rw [parse_all ms m 0 [] _ h1 h2 h3]
  have hf : fieldS (keyT t ++ [58, 32, 120]) = some (keyT t, [120]) := fieldS_mk (keyT_ok t ht9) (by decide)
  rw [parseS, if_neg (by simp [keyT]), hf]
  simp only [last_get ms m 0 t ht, if_true]
end Go.Proofs.YtmgeokfknehonaaDoor.Q
namespace Go.Proofs.YtmgeokfknehonaaDoor.Q
set_option linter.unusedVariables false
set_option linter.unusedSimpArgs false
set_option linter.unnecessarySimpa false
open Go.RowKit Go.Proofs.YtmgeokfknehonaaDoorW.PrintWords Go.Proofs.YtmgeokfknehonaaDoorW.PrintLast Go.Proofs.YtmgeokfknehonaaDoorW.PB Go.Proofs.YtmgeokfknehonaaDoorW.TX
abbrev Rf := S46
def nat (vs : List Nat) : List Int := vs.map Int.ofNat
/-- How many lines a number stands for. -/
def mOf (v : Nat) : Nat := v % 9 + 1
theorem mOf_b (v : Nat) : 1 ≤ mOf v ∧ mOf v ≤ 9 := by unfold mOf; omega
theorem nat_rd (p : List Nat) (v : Nat) (r : List Nat) : rd (nat (p ++ v :: r)) (p.length : Int) = (v : Int) := by
  unfold rd nat
  simp [List.getD_eq_getElem?_getD]
theorem nat_len (vs : List Nat) : (nat vs).length = vs.length := by simp [nat]
theorem tm9 (v : Nat) (h : v < 256) : wrap64 (Int.tmod (v : Int) 9) = ((v % 9 : Nat) : Int) := by
  rw [Int.tmod_eq_emod_of_nonneg (by omega), wrap_id (by omega) (by omega)]; omega
theorem wsucc (n : Nat) (h : n ≤ 100000) : wrap64 ((n : Int) + 1) = ((n + 1 : Nat) : Int) := by
  rw [wrap_id (by omega) (by omega)]; omega
theorem lines_l1 (vs p : List Nat) (v : Nat) (r : List Nat) (hvs : vs = p ++ v :: r) (hv : v < 256) (hvl : vs.length ≤ 1000) (x1 : Int) (x7 : List (List Rf)) (h7 : x7.length ≤ 1000) :
    ∀ (m j : Nat) (text : Bs) (line : Nat) (now : List Fd), j + m = mOf v → text.length + 100 * m ≤ 100000 → line + m ≤ 50000 → now.length = j →
      Ev (fun k => manciplelaw5_StanzaLines.l0 k (nat vs) x1 (B (text ++ linesT (rowsT j m line))) ((line + m : Nat) : Int) (x7 ++ [(now ++ flds j m line).map rS]) ((p.length + 1 : Nat) : Int)) true →
      Ev (fun k => manciplelaw5_StanzaLines.l1 k (nat vs) x1 (B text) (line : Int) x7 (p.length : Int) (now.map rS) (j : Int)) true := by
  have hrd : rd (nat vs) (p.length : Int) = (v : Int) := by rw [hvs]; exact nat_rd p v r
  have hz : vs.length = p.length + 1 + r.length := by rw [hvs]; simp; omega
  intro m
  induction m with
  | zero =>
    intro j text line now hj ht hl hn h
    refine Ev.step (fun k => by rw [manciplelaw5_StanzaLines.l1]) ?_
    rw [hrd, tm9 v hv]
    refine Ev.if_pos (by omega) ?_
    refine Ev.if_pos (by rw [nat_len]; omega) ?_
    refine Ev.if_neg (by unfold mOf at hj; omega) ?_
    refine Ev.if_pos (by omega) ?_
    have e : wrap64 ((p.length : Int) + 1) = ((p.length + 1 : Nat) : Int) := by rw [wrap_id (by omega) (by omega)]; omega
    rw [e]
    simpa [rowsT, linesT, flds] using h
  | succ m ih =>
    intro j text line now hj ht hl hn h
    have hj9 : j < 9 := by have := (mOf_b v).2; omega
    have hd := decT_len line
    refine Ev.step (fun k => by rw [manciplelaw5_StanzaLines.l1]) ?_
    rw [hrd, tm9 v hv]
    refine Ev.if_pos (by omega) ?_
    refine Ev.if_pos (by rw [nat_len]; omega) ?_
    refine Ev.if_pos (by unfold mOf at hj; omega) ?_
    refine Ev.some_bind ?_
    rw [keyT_txt j hj9]
    have hkl : (keyT j).length = 2 := rfl
    refine Ev.if_pos (by rw [B_size, B_size, hkl]; omega) ?_
    refine Ev.some_bind ?_
    rw [B_append]
    refine Ev.if_pos (by rw [B_size, List.length_append, hkl]; omega) ?_
    refine Ev.some_bind ?_
    rw [show (⟨#[58, 32, 118]⟩ : ByteArray) = B [58, 32, 118] from rfl, B_append, wrapU (x := (line : Int)) (by omega) (by omega)]
    refine Ev.bind (decT_f line (by omega)) ?_
    refine Ev.if_pos (by rw [B_size, B_size, List.length_append, List.length_append, hkl]; simp only [List.length_cons, List.length_nil]; omega) ?_
    refine Ev.some_bind ?_
    rw [B_append]
    refine Ev.if_pos (by rw [B_size, List.length_append, List.length_append, List.length_append, hkl]; simp only [List.length_cons, List.length_nil]; omega) ?_
    refine Ev.bind (decT_f line (by omega)) ?_
    refine Ev.if_pos (by rw [B_size]; omega) ?_
    refine Ev.if_pos (by rw [List.length_map, hn]; omega) ?_
    rw [show (⟨#[10]⟩ : ByteArray) = B [10] from rfl, show (⟨#[118]⟩ : ByteArray) = B [118] from rfl, B_append, B_append]
    rw [wsucc line (by omega), wsucc j (by omega)]
    have et : (text ++ keyT j ++ [58, 32, 118] ++ decT line ++ [10]) ++ linesT (rowsT (j + 1) m (line + 1)) = text ++ linesT (rowsT j (m + 1) line) := by
      simp [rowsT, linesT, rowT]
    have en : now ++ [(keyT j, [118] ++ decT line, line)] ++ flds (j + 1) m (line + 1) = now ++ flds j (m + 1) line := by
      simp [flds]
    have hb1 : (text ++ keyT j ++ [58, 32, 118] ++ decT line ++ [10]).length + 100 * m ≤ 100000 := by
      simp only [List.length_append, hkl, List.length_cons, List.length_nil]
      clear et en h hrd hz ih hvs
      omega
    have hb2 : line + 1 + m ≤ 50000 := by omega
    have hb3 : (now ++ [(keyT j, [118] ++ decT line, line)]).length = j + 1 := by rw [List.length_append, List.length_singleton, hn]
    have := ih (j + 1) (text ++ keyT j ++ [58, 32, 118] ++ decT line ++ [10]) (line + 1) (now ++ [(keyT j, [118] ++ decT line, line)]) (by omega)
      hb1 hb2 hb3
      (by rw [et, en, show line + 1 + m = line + (m + 1) by omega]; exact h)
    rw [List.map_append, List.map_singleton] at this
    exact this
theorem lines_l0 (vs : List Nat) (hvs : ∀ v ∈ vs, v < 256) (hvl : vs.length ≤ 1000) (x1 : Int) :
    ∀ (r p : List Nat) (text : Bs) (line : Nat) (out : List (List Fd)), vs = p ++ r → 1 ≤ p.length → text.length + 1000 * r.length ≤ 50000 → line + 10 * r.length ≤ 40000 → out.length = p.length →
      Ev (fun k => manciplelaw5_StanzaLines.l0 k (nat vs) x1 (B (text ++ tailT (r.map mOf) line)) ((tailN (r.map mOf) line : Nat) : Int) ((out ++ tailF (r.map mOf) line).map (·.map rS)) (vs.length : Int)) true →
      Ev (fun k => manciplelaw5_StanzaLines.l0 k (nat vs) x1 (B text) (line : Int) (out.map (·.map rS)) (p.length : Int)) true := by
  intro r
  induction r with
  | nil =>
    intro p text line out hp h1 ht hl ho h
    have e : p.length = vs.length := by rw [hp]; simp
    rw [e]
    simpa [tailT, tailN, tailF] using h
  | cons v r ih =>
    intro p text line out hp h1 ht hl ho h
    have hz : vs.length = p.length + 1 + r.length := by rw [hp]; simp; omega
    have hm := mOf_b v
    simp only [List.length_cons] at ht hl
    refine Ev.step (fun k => by rw [manciplelaw5_StanzaLines.l0]) ?_
    refine Ev.if_pos (by rw [nat_len]; omega) ?_
    refine Ev.if_pos (by omega) ?_
    refine Ev.if_pos (by rw [B_size]; omega) ?_
    rw [show (⟨#[10]⟩ : ByteArray) = B [10] from rfl, B_append]
    rw [wsucc line (by omega)]
    refine Ev.step (fun k => by rw [manciplelaw5_StanzaLines.j1]) ?_
    have hr := rowsT_len (mOf v) 0 (line + 1)
    have := lines_l1 vs p v r hp (hvs v (by rw [hp]; simp)) hvl x1 (out.map (·.map rS)) (by rw [List.length_map]; omega) (mOf v) 0 (text ++ [10]) (line + 1) [] (by omega) (by rw [List.length_append, List.length_singleton]; omega) (by omega) rfl (by
      have h2 := ih (p ++ [v]) (text ++ [10] ++ linesT (rowsT 0 (mOf v) (line + 1))) (line + 1 + mOf v) (out ++ [flds 0 (mOf v) (line + 1)]) (by rw [hp]; simp) (by simp) (by
        rw [List.length_append, List.length_append, List.length_singleton]; omega) (by omega) (by simp [ho]) (by
        rw [List.map_cons, tailT, tailN, tailF] at h
        simpa using h)
      rw [show (p ++ [v]).length = p.length + 1 by simp] at h2
      simpa using h2)
    exact this
theorem rd_last (v : Nat) (vs : List Nat) : rd (nat (v :: vs)) ((vs.length : Nat) : Int) = (((v :: vs).getLast (by simp) : Nat) : Int) := by
  unfold rd nat
  rw [Int.toNat_natCast, List.getD_eq_getElem?_getD, List.getElem?_map, List.getLast_eq_getElem, List.getElem?_eq_getElem (by simp)]
  rfl
theorem lastM_map (v : Nat) (vs : List Nat) : lastM (mOf v) (vs.map mOf) = mOf ((v :: vs).getLast (by simp)) := by
  induction vs generalizing v with
  | nil => rfl
  | cons w vs ih =>
    rw [List.map_cons, lastM, ih w]
    rfl
/-- At the end: read, told, and with a key twice. -/
theorem lines_end (v : Nat) (vs : List Nat) (hv : ∀ x ∈ v :: vs, x < 256) (hl : vs.length ≤ 19) (b : Nat) (hb : b < 256) :
    Ev (fun k => manciplelaw5_StanzaLines.l0 k (nat (v :: vs)) (b : Int) (B (linesT (rowsA (mOf v) (vs.map mOf) 0))) ((endN (mOf v) (vs.map mOf) 0 : Nat) : Int)
      ((initF (mOf v) (vs.map mOf) 0 ++ [lastF (mOf v) (vs.map mOf) 0]).map (·.map rS)) ((v :: vs).length : Int)) true := by
  have h1 := mOf_b v
  have hms : ∀ x ∈ vs.map mOf, 1 ≤ x ∧ x ≤ 9 := fun x hx => by
    obtain ⟨y, _, rfl⟩ := List.mem_map.mp hx
    exact mOf_b y
  have hlen : (linesT (rowsA (mOf v) (vs.map mOf) 0)).length ≤ 4000 := by
    rw [tail_text, List.length_append]
    have h2 := rowsT_len (mOf v) 0 0
    have h3 := tail_len (vs.map mOf) (0 + mOf v) (fun x hx => (hms x hx).2)
    rw [List.length_map] at h3
    omega
  have hN : endN (mOf v) (vs.map mOf) 0 ≤ 300 := by
    rw [tail_end]
    have h3 := tail_N (vs.map mOf) (0 + mOf v) (fun x hx => (hms x hx).2)
    rw [List.length_map] at h3
    omega
  have hne := rowsA_ne (mOf v) (vs.map mOf) 0 h1.1
  have hnl := rowsA_nl (vs.map mOf) (mOf v) 0 h1.2 (fun x hx => (hms x hx).2)
  have hread : readS (linesT (rowsA (mOf v) (vs.map mOf) 0)) = (initF (mOf v) (vs.map mOf) 0 ++ [lastF (mOf v) (vs.map mOf) 0], 0, 0) := by
    rw [read_lines _ hne hnl (by omega)]
    have := parse_all (vs.map mOf) (mOf v) 0 [] [] h1.1 h1.2 hms
    rw [List.append_nil] at this
    rw [this]
    simp [parseS]
  have hbd := read_bound (linesT (rowsA (mOf v) (vs.map mOf) 0)) (by omega)
  have htold := told_f (linesT (rowsA (mOf v) (vs.map mOf) 0)) (by omega) (by rw [hread])
  rw [hread] at hbd htold
  refine Ev.step (fun k => by rw [manciplelaw5_StanzaLines.l0]) ?_
  refine Ev.if_neg (by rw [nat_len]; omega) ?_
  refine Ev.bind (Parse_f _ (by omega)) ?_
  rw [hread]
  refine Ev.if_pos rfl ?_
  refine Ev.bind (same_f _ hbd.1 hbd.2) ?_
  refine Ev.if_pos rfl ?_
  refine Ev.val_bind htold ?_
  refine Ev.step (fun k => by rw [manciplelaw5_StanzaLines.j3]) ?_
  refine Ev.if_neg (by simp) ?_
  refine Ev.if_neg (by rw [nat_len]; simp; omega) ?_
  have hz : ((nat (v :: vs)).length : Int) = (vs.length : Int) + 1 := by rw [nat_len]; simp
  have hw : wrap64 (((nat (v :: vs)).length : Int) - 1) = (vs.length : Int) := by rw [hz, wrap_id (by omega) (by omega)]; omega
  rw [hw, hz]
  clear hw hz
  refine Ev.if_pos (by omega) ?_
  refine Ev.if_pos (by omega) ?_
  rw [rd_last]
  have hL := hv ((v :: vs).getLast (by simp)) (List.getLast_mem _)
  have hM := lastM_map v vs
  generalize (v :: vs).getLast (by simp) = w at hL hM ⊢
  have hmw := mOf_b w
  have hwm : wrap64 (wrap64 (Int.tmod (w : Int) 9) + 1) = ((mOf w : Nat) : Int) := by
    rw [tm9 w hL, wrap_id (by omega) (by omega)]; unfold mOf; omega
  rw [hwm]
  clear hwm
  refine Ev.if_neg (by omega) ?_
  refine Ev.some_bind ?_
  have htm : Int.tmod (wrap64 (b : Int)) ((mOf w : Nat) : Int) = ((b % mOf w : Nat) : Int) := by
    rw [wrap_id (by omega) (by omega), Int.tmod_eq_emod_of_nonneg (by omega)]
    exact (Int.natCast_emod b (mOf w)).symm
  have ht : b % mOf w < mOf w := Nat.mod_lt _ (by omega)
  rw [htm]
  clear htm
  rw [keyT_txt (b % mOf w) (by omega)]
  have hkl : (keyT (b % mOf w)).length = 2 := rfl
  refine Ev.if_pos (by rw [B_size, B_size, hkl]; omega) ?_
  refine Ev.some_bind ?_
  rw [B_append]
  refine Ev.if_pos (by rw [B_size, List.length_append, hkl]; omega) ?_
  rw [show (⟨#[58, 32, 120, 10]⟩ : ByteArray) = B [58, 32, 120, 10] from rfl, B_append]
  have et : linesT (rowsA (mOf v) (vs.map mOf) 0) ++ keyT (b % mOf w) ++ [58, 32, 120, 10] = linesT (rowsA (mOf v) (vs.map mOf) 0 ++ [keyT (b % mOf w) ++ [58, 32, 120]]) := by
    rw [lines_append]
    simp [linesT]
  rw [et]
  have hl2 : (linesT (rowsA (mOf v) (vs.map mOf) 0 ++ [keyT (b % mOf w) ++ [58, 32, 120]])).length ≤ 5000 := by
    rw [← et, List.length_append, List.length_append, hkl]
    simp only [List.length_cons, List.length_nil]
    omega
  refine Ev.bind (Parse_f _ (by omega)) ?_
  have hr2 : readS (linesT (rowsA (mOf v) (vs.map mOf) 0 ++ [keyT (b % mOf w) ++ [58, 32, 120]])) = ([], endN (mOf v) (vs.map mOf) 0, 6) := by
    rw [read_lines _ (by simp) (fun r hr => ?_) (by omega)]
    · exact parse_twice (vs.map mOf) (mOf v) (b % mOf w) h1.1 h1.2 hms (by rw [hM]; exact ht) (by omega)
    · rcases List.mem_append.mp hr with hr | hr
      · exact hnl r hr
      · obtain rfl : r = keyT (b % mOf w) ++ [58, 32, 120] := by simpa using hr
        intro hm
        rcases List.mem_append.mp hm with hm | hm
        · exact keyT_nl _ (by omega) hm
        · exact absurd hm (by decide)
  rw [hr2]
  refine Ev.if_pos rfl ?_
  have e : ((PP ([], endN (mOf v) (vs.map mOf) 0, 6)).2.1 == ((endN (mOf v) (vs.map mOf) 0 : Nat) : Int)) = true := beq_self_eq_true _
  rw [e]
  exact Ev.now _
theorem lines_none (b : Int) : Ev (fun k => manciplelaw5_StanzaLines.l0 k [] b (⟨#[]⟩ : ByteArray) 0 ([] : List (List Rf)) 0) true := by
  refine Ev.step (fun k => by rw [manciplelaw5_StanzaLines.l0]) ?_
  refine Ev.if_neg (by decide) ?_
  refine Ev.bind (Parse_f [] (by simp)) ?_
  have hr : readS [] = ([], 0, 0) := rfl
  rw [hr]
  refine Ev.if_pos rfl ?_
  refine Ev.bind (same_f [] (by simp) (fun x hx => by cases hx)) ?_
  refine Ev.if_pos rfl ?_
  have ht := told_f [] (by simp) rfl
  rw [hr] at ht
  refine Ev.val_bind ht ?_
  refine Ev.step (fun k => by rw [manciplelaw5_StanzaLines.j3]) ?_
  refine Ev.if_neg (by simp [B_toList, B_nil]) ?_
  refine Ev.if_pos rfl ?_
  exact Ev.now _
theorem lines_all (vs : List Nat) (hv : ∀ x ∈ vs, x < 256) (hl : vs.length ≤ 20) (b : Nat) (hb : b < 256) :
    Ev (fun k => manciplelaw5_StanzaLines.l0 k (nat vs) (b : Int) (⟨#[]⟩ : ByteArray) 0 ([] : List (List Rf)) 0) true := by
  cases vs with
  | nil => exact lines_none _
  | cons v vs =>
    have hm := mOf_b v
    simp only [List.length_cons] at hl
    have hr := rowsT_len (mOf v) 0 0
    refine Ev.step (fun k => by rw [manciplelaw5_StanzaLines.l0]) ?_
    refine Ev.if_pos (by rw [nat_len]; simp) ?_
    refine Ev.if_neg (by decide) ?_
    refine Ev.step (fun k => by rw [manciplelaw5_StanzaLines.j1]) ?_
    have := lines_l1 (v :: vs) [] v vs rfl (hv v (by simp)) (by simp; omega) (b : Int) [] (by simp) (mOf v) 0 [] 0 [] (by omega) (by rw [List.length_nil]; omega) (by omega) rfl (by
      have h2 := lines_l0 (v :: vs) hv (by simp; omega) (b : Int) vs [v] (linesT (rowsT 0 (mOf v) 0)) (0 + mOf v) [flds 0 (mOf v) 0] rfl (by simp) (by omega) (by omega) rfl (by
        have h3 := lines_end v vs hv (by omega) b hb
        rw [tail_text, tail_end, tail_flds] at h3
        exact h3)
      simpa using h2)
    exact this
theorem StanzaLines : ∀ (l0 : (List Int)) (a1 : Int), (l0.length ≤ maxLen ∧ ∀ x_ ∈ l0, (Lit.int .u8 x_).wf = true) → ((Lit.int .u8 a1).wf = true) → ∃ k, manciplelaw5_StanzaLines.f k l0 a1 = some true := by
  intro l0 a1 h0 h1
  have b1 : 0 ≤ a1 ∧ a1 ≤ 255 := by simpa [Lit.wf, IntKind.min, IntKind.max, IntKind.signed, IntKind.bits] using h1
  obtain ⟨b, rfl⟩ : ∃ n : Nat, a1 = n := ⟨a1.toNat, by omega⟩
  have hx : ∀ x ∈ l0, 0 ≤ x ∧ x ≤ 255 := fun x hx => by simpa [Lit.wf, IntKind.min, IntKind.max, IntKind.signed, IntKind.bits] using h0.2 x hx
  obtain ⟨vs, rfl, hvs⟩ : ∃ vs : List Nat, l0 = nat vs ∧ ∀ v ∈ vs, v < 256 := by
    refine ⟨l0.map Int.toNat, ?_, fun v hv => ?_⟩
    · unfold nat
      rw [List.map_map]
      have : l0.map (Int.ofNat ∘ Int.toNat) = l0.map id := List.map_congr_left fun x hx' => by
        have := hx x hx'
        show ((x.toNat : Nat) : Int) = x
        omega
      rw [this, List.map_id]
    · obtain ⟨x, hx', rfl⟩ := List.mem_map.mp hv
      have := hx x hx'
      omega
  suffices h : Ev (fun k => manciplelaw5_StanzaLines.f k (nat vs) (b : Int)) true by
    obtain ⟨K, h⟩ := h
    exact ⟨K, h K (Nat.le_refl _)⟩
  refine Ev.congr (fun k => by rw [manciplelaw5_StanzaLines.f]) ?_
  refine Ev.bind known_f ?_
  refine Ev.if_pos rfl ?_
  rw [nat_len]
  by_cases h : (vs.length : Int) > 20
  · refine Ev.if_pos h ?_
    exact Ev.now _
  · refine Ev.if_neg h ?_
    exact lines_all vs hvs (by omega) b (by omega)
end Go.Proofs.YtmgeokfknehonaaDoor.Q
