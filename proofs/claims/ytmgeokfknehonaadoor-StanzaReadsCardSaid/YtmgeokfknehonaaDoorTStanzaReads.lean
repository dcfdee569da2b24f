/- The plain laws for the statement StanzaReads: what the functions tell, as functions of lists of bytes, and the statement of them. Plain theorems. -/
import Derived.Test.YtmgeokfknehonaaDoorAStanzaReads3
import Derived.Test.YtmgeokfknehonaaDoorVStanzaReadsWords
import Derived.Test.YtmgeokfknehonaaDoorVStanzaReadsLast
import Derived.Lib.Strings
import Derived.Lib.SplitLaws
import Derived.Lib.CutLaws
import Derived.Lib.SlBy
namespace Go.Proofs.YtmgeokfknehonaaDoorW.PB
open Go.RowKit Go.Proofs.YtmgeokfknehonaaDoorW.PrintWords
/-- A text out of its bytes. -/
def B (l : List UInt8) : ByteArray := ⟨l.toArray⟩
theorem ex_B (s : ByteArray) : ∃ l, s = B l := ⟨s.data.toList, by unfold B; simp⟩
theorem B_data (l : List UInt8) : (B l).data.toList = l := rfl
theorem B_toList (l : List UInt8) : (B l).toList = l := by rw [Lib.toList_data]; rfl
theorem B_size (l : List UInt8) : (B l).size = l.length := by simp [B, ByteArray.size]
theorem B_inj {l m : List UInt8} : B l = B m ↔ l = m := ⟨fun h => by have := congrArg (fun s : ByteArray => s.data.toList) h; simpa [B] using this, fun h => by rw [h]⟩
theorem B_append (l m : List UInt8) : B l ++ B m = B (l ++ m) := by
  have h : (B l ++ B m).data = (B (l ++ m)).data := by simp [B, ByteArray.data_append]
  cases h1 : (B l ++ B m); cases h2 : B (l ++ m); rw [h1, h2] at h; simp_all
theorem B_extract (l : List UInt8) (a b : Nat) : (B l).extract a b = B ((l.take b).drop a) := by
  have h : ((B l).extract a b).data = (B ((l.take b).drop a)).data := by
    rw [ByteArray.data_extract]
    apply Array.ext'
    simp [B]
    rw [List.drop_take]
  cases h1 : (B l).extract a b; cases h2 : B ((l.take b).drop a); rw [h1, h2] at h; simp_all
theorem B_bt (l : List UInt8) (i : Nat) (h : i < l.length) : bt (B l) (i : Int) = (l[i].toNat : Int) := by
  have h' : (i : Int).toNat < (B l).size := by rw [B_size]; simpa using h
  rw [← bt_at (B l) (i : Int) h']
  simp [B]
  rfl
theorem B_nil : (⟨#[]⟩ : ByteArray) = B [] := rfl
theorem wrap_id {x : Int} (h0 : -9223372036854775808 ≤ x) (h1 : x ≤ 9223372036854775807) : wrap64 x = x := by unfold wrap64; omega
theorem Ev.if_pos {α : Type} {p : Prop} [Decidable p] {g f : Nat → Option α} {r : α} (hp : p) (h : Ev g r) : Ev (fun k => if p then g k else f k) r := by
  obtain ⟨K, h⟩ := h
  exact ⟨K, fun k hk => (_root_.if_pos hp).trans (h k hk)⟩
theorem Ev.if_neg {α : Type} {p : Prop} [Decidable p] {g f : Nat → Option α} {r : α} (hp : ¬ p) (h : Ev f r) : Ev (fun k => if p then g k else f k) r := by
  obtain ⟨K, h⟩ := h
  exact ⟨K, fun k hk => (_root_.if_neg hp).trans (h k hk)⟩
theorem Ev.some_bind {α β : Type} {a : α} {f : Nat → α → Option β} {r : β} (h : Ev (fun k => f k a) r) : Ev (fun k => (some a).bind (f k)) r := h
theorem Ev.val_bind {α β : Type} {g : Option α} {a : α} {f : Nat → α → Option β} {r : β} (h : g = some a) (k : Ev (fun n => f n a) r) : Ev (fun n => g.bind (f n)) r := by subst h; exact k
theorem B_bt_mid (p : List UInt8) (c : UInt8) (r : List UInt8) : bt (B (p ++ c :: r)) (p.length : Int) = (c.toNat : Int) := by
  rw [B_bt _ _ (by simp)]; simp
theorem B_bt_0 (c : UInt8) (r : List UInt8) : bt (B (c :: r)) 0 = (c.toNat : Int) := by
  have := B_bt_mid [] c r; simpa using this
theorem B_cut_left (p r : List UInt8) : (B (p ++ r)).extract 0 (p.length : Int).toNat = B p := by
  rw [B_extract]; simp
theorem B_cut_right (p r : List UInt8) : (B (p ++ r)).extract (p.length : Int).toNat (B (p ++ r)).size = B r := by
  rw [B_extract, B_size, List.take_length]; simp
end Go.Proofs.YtmgeokfknehonaaDoorW.PB
namespace Go.Proofs.YtmgeokfknehonaaDoorW.TX
open Go.RowKit Go.Proofs.YtmgeokfknehonaaDoorW.PrintWords Go.Proofs.YtmgeokfknehonaaDoorW.PB
set_option linter.unusedVariables false
set_option linter.unusedSimpArgs false
/-- A text's pieces between all bytes c. -/
def pieces (c : UInt8) : List UInt8 → List (List UInt8)
  | [] => [[]]
  | b :: l => if b = c then [] :: pieces c l else (b :: (pieces c l).headD []) :: (pieces c l).tail
theorem pieces_ne (c : UInt8) (l : List UInt8) : pieces c l ≠ [] := by
  cases l with
  | nil => simp [pieces]
  | cons b l => unfold pieces; split <;> simp
theorem splitK_pieces (c : UInt8) : ∀ l : List UInt8, Lib.splitK [c] 0 (Lib.count l [c]) l = pieces c l
  | [] => by rw [Lib.count_one]; rfl
  | b :: l => by
    have ih := splitK_pieces c l
    by_cases h : b = c
    · subst h
      rw [Lib.count_cons_eq, Nat.add_comm, Lib.splitK]
      have hix : Lib.index (b :: l) [b] = 0 := by rw [Lib.index]; simp [List.isPrefixOf]
      rw [hix, if_neg (by decide)]
      simp only [pieces, if_true]
      rw [← ih]
      simp
    · rw [Lib.count_cons_ne b c l h]
      have hp : ([c] : List UInt8).isPrefixOf (b :: l) = false := by simp [List.isPrefixOf, Ne.symm h]
      have hix : Lib.index (b :: l) [c] = if Lib.index l [c] == -1 then -1 else Lib.index l [c] + 1 := by rw [Lib.index, hp]; simp
      simp only [pieces, if_neg h]
      rw [← ih]
      cases hk : Lib.count l [c] with
      | zero => rfl
      | succ k =>
        have hge := Lib.index_ge l [c]
        by_cases hm : Lib.index l [c] = -1
        · rw [Lib.count_miss hm] at hk; cases hk
        · obtain ⟨j, hj⟩ : ∃ j : Nat, Lib.index l [c] = j := ⟨(Lib.index l [c]).toNat, by omega⟩
          rw [Lib.splitK, Lib.splitK, hix, hj]
          have e1 : ((j : Int) == -1) = false := by simp
          rw [e1]
          have e2 : ((j : Int) + 1 == -1) = false := by simp; omega
          simp only [Bool.false_eq_true, if_false, e2]
          have e3 : ((j : Int) + 1).toNat = j + 1 := by omega
          simp [e3]
theorem split_B (c : UInt8) (l : List UInt8) : Lib.splitB (B [c]) 0 (Lib.countB (B l) (B [c])) (B l) = (pieces c l).map B := by
  have h := Lib.splitB_data (B [c]) 0 (Lib.countB (B l) (B [c])) (B l)
  rw [B_data, B_data] at h
  have h2 : Lib.countB (B l) (B [c]) = Lib.count l [c] := rfl
  rw [h2] at h
  rw [splitK_pieces c l] at h
  rw [← h, List.map_map, h2]
  conv => lhs; rw [← List.map_id (Lib.splitB (B [c]) 0 (Lib.count l [c]) (B l))]
  refine List.map_congr_left fun x _ => ?_
  obtain ⟨m, rfl⟩ := ex_B x
  rfl
/-- Where no piece is broken. -/
theorem pieces_none {c : UInt8} : ∀ {l : List UInt8}, c ∉ l → pieces c l = [l]
  | [], _ => rfl
  | b :: l, h => by
    have h1 : b ≠ c := fun e => h (by simp [e])
    have h2 : c ∉ l := fun e => h (by simp [e])
    simp [pieces, h1, pieces_none h2]
theorem pieces_append (c : UInt8) : ∀ (p r : List UInt8), c ∉ p → pieces c (p ++ c :: r) = p :: pieces c r
  | [], r, _ => by simp [pieces]
  | b :: p, r, h => by
    have h1 : b ≠ c := fun e => h (by simp [e])
    have h2 : c ∉ p := fun e => h (by simp [e])
    simp [pieces, h1, pieces_append c p r h2]
theorem pieces_mem (c : UInt8) : ∀ (l p : List UInt8), p ∈ pieces c l → c ∉ p
  | [], p, h => by simp [pieces] at h; simp [h]
  | b :: l, p, h => by
    unfold pieces at h
    split at h
    · rcases List.mem_cons.mp h with rfl | h
      · simp
      · exact pieces_mem c l p h
    · rename_i hb
      have hne := pieces_ne c l
      rcases List.mem_cons.mp h with rfl | h
      · have : (pieces c l).headD [] ∈ pieces c l := by
          cases hp : pieces c l with
          | nil => exact absurd hp hne
          | cons x xs => simp
        have := pieces_mem c l _ this
        simp [Ne.symm hb]
        simpa using this
      · exact pieces_mem c l p (List.mem_of_mem_tail h)
/-- Put together again. -/
def glue (c : UInt8) : List (List UInt8) → List UInt8
  | [] => []
  | [p] => p
  | p :: q :: ps => p ++ c :: glue c (q :: ps)
theorem glue_cons (c : UInt8) (p : List UInt8) {ps : List (List UInt8)} (h : ps ≠ []) : glue c (p :: ps) = p ++ c :: glue c ps := by
  cases ps with
  | nil => exact absurd rfl h
  | cons q ps => rfl
theorem glue_pieces (c : UInt8) : ∀ l : List UInt8, glue c (pieces c l) = l
  | [] => rfl
  | b :: l => by
    have ih := glue_pieces c l
    unfold pieces
    split
    · rename_i h
      rw [glue_cons c _ (pieces_ne c l), ih, h]
      rfl
    · cases hp : pieces c l with
      | nil => exact absurd hp (pieces_ne c l)
      | cons x xs =>
        rw [hp] at ih
        cases xs with
        | nil => simp [glue] at ih ⊢; exact ih
        | cons y ys => simp [glue] at ih ⊢; exact ih
/-- Two bytes, the first of which is not in p: where they are first. -/
theorem index_two (a b : UInt8) : ∀ (p q : List UInt8), a ∉ p → Lib.index (p ++ a :: b :: q) [a, b] = p.length
  | [], q, _ => by simp [Lib.index, List.isPrefixOf]
  | x :: p, q, h => by
    have h1 : x ≠ a := fun e => h (by simp [e])
    have h2 : a ∉ p := fun e => h (by simp [e])
    have ih := index_two a b p q h2
    have hp : ([a, b] : List UInt8).isPrefixOf (x :: (p ++ a :: b :: q)) = false := by simp [List.isPrefixOf, Ne.symm h1]
    rw [List.cons_append, Lib.index, hp, ih]
    have e1 : ((p.length : Int) == -1) = false := by simp
    rw [e1]
    simp
theorem index_at (a b : UInt8) : ∀ (l : List UInt8) (i : Nat), Lib.index l [a, b] = i → l = l.take i ++ a :: b :: l.drop (i + 2)
  | [], i, h => by simp [Lib.index] at h
  | x :: l, i, h => by
    unfold Lib.index at h
    split at h
    · rename_i hp
      obtain rfl : i = 0 := by omega
      cases l with
      | nil => simp [List.isPrefixOf] at hp
      | cons y l =>
        simp [List.isPrefixOf] at hp
        simp [hp.1, hp.2]
    · split at h
      · omega
      · rename_i hm
        have hge := Lib.index_ge l [a, b]
        have hm' : Lib.index l [a, b] ≠ -1 := fun e => hm (by rw [e]; rfl)
        obtain ⟨j, hj⟩ : ∃ j : Nat, Lib.index l [a, b] = j := ⟨(Lib.index l [a, b]).toNat, by omega⟩
        obtain rfl : i = j + 1 := by omega
        have ih := index_at a b l j hj
        have e : j + 1 + 2 = (j + 2) + 1 := by omega
        rw [e, List.take_succ_cons, List.drop_succ_cons, List.cons_append, ← ih]
theorem B_cut2 (p q : List UInt8) (a b : UInt8) : (B (p ++ a :: b :: q)).extract (p.length + 2) (B (p ++ a :: b :: q)).size = B q := by
  rw [B_extract, B_size, List.take_length]
  congr 1
  rw [show p ++ a :: b :: q = (p ++ [a, b]) ++ q by simp]
  rw [List.drop_append_of_le_length (by simp)]
  simp
/-- Trimmed of all of some bytes: empty just where it has no other ones. -/
theorem trim_empty (p : UInt8 → Bool) (l : List UInt8) : ((l.reverse.dropWhile p).reverse.dropWhile p).isEmpty = l.all p := by
  have dw : ∀ m : List UInt8, (m.dropWhile p = [] ↔ m.all p = true) := by
    intro m
    induction m with
    | nil => simp
    | cons x m ih =>
      by_cases hx : p x = true
      · simp [List.dropWhile_cons, hx, ih]
      · simp [List.dropWhile_cons, hx]
  by_cases h : l.all p = true
  · have : l.reverse.dropWhile p = [] := (dw _).mpr (by simpa using h)
    rw [this, h]; rfl
  · have e : l.all p = false := by simpa using h
    rw [e]
    rw [Bool.eq_false_iff]
    intro h2
    have h3 := (dw _).mp (List.isEmpty_iff.mp h2)
    cases hd : l.reverse.dropWhile p with
    | nil =>
      have := (dw _).mp hd
      exact h (by simpa using this)
    | cons x t =>
      rw [hd] at h3
      have hx : p x = true := by
        have := List.all_eq_true.mp h3 x (by simp)
        exact this
      have : ¬ p x = true := by
        have hh : ∀ (m : List UInt8) x t, m.dropWhile p = x :: t → ¬ p x = true := by
          intro m
          induction m with
          | nil => intro x t h; cases h
          | cons y m ih =>
            intro x t h
            by_cases hy : p y = true
            · rw [List.dropWhile_cons_of_pos hy] at h; exact ih x t h
            · rw [List.dropWhile_cons_of_neg hy] at h
              injection h with h1 _
              subst h1
              exact hy
        exact hh _ x t hd
      exact this hx
theorem ends_nl (l : List UInt8) : (∃ m, l = m ++ [10]) ∨ ¬ ∃ m, l = m ++ [10] := Classical.em _
end Go.Proofs.YtmgeokfknehonaaDoorW.TX
namespace Go.Proofs.YtmgeokfknehonaaDoor.Q
set_option linter.unusedVariables false
set_option linter.unusedSimpArgs false
open Go.RowKit Go.Proofs.YtmgeokfknehonaaDoorW.PrintWords Go.Proofs.YtmgeokfknehonaaDoorW.PrintLast Go.Proofs.YtmgeokfknehonaaDoorW.PB Go.Proofs.YtmgeokfknehonaaDoorW.TX
abbrev Bs := List UInt8
def lt_ (c : UInt8) : Bool := decide (97 ≤ c.toNat ∧ c.toNat ≤ 122 ∨ 65 ≤ c.toNat ∧ c.toNat ≤ 90)
def sh (c : UInt8) : Bool := decide (32 ≤ c.toNat ∧ c.toNat ≤ 126)
theorem must_f (b : Bool) (i e : Int) (he : e ≠ 0) : stanza_must.f b i e = some (if b = true then (0, 0) else (i, e)) := by
  unfold stanza_must.f
  cases b
  · simp [he]
  · simp
theorem letters_lt (c : UInt8) : ([97, 98, 99, 100, 101, 102, 103, 104, 105, 106, 107, 108, 109, 110, 111, 112, 113, 114, 115, 116, 117, 118, 119, 120, 121, 122, 65, 66, 67, 68, 69, 70, 71, 72, 73, 74, 75, 76, 77, 78, 79, 80, 81, 82, 83, 84, 85, 86, 87, 88, 89, 90] : List UInt8).contains c = lt_ c := by
  have h : ∀ n, n < 256 → ([97, 98, 99, 100, 101, 102, 103, 104, 105, 106, 107, 108, 109, 110, 111, 112, 113, 114, 115, 116, 117, 118, 119, 120, 121, 122, 65, 66, 67, 68, 69, 70, 71, 72, 73, 74, 75, 76, 77, 78, 79, 80, 81, 82, 83, 84, 85, 86, 87, 88, 89, 90] : List UInt8).contains (UInt8.ofNat n) = lt_ (UInt8.ofNat n) := by decide +kernel
  have := h c.toNat c.toNat_lt
  rwa [UInt8.ofNat_toNat] at this
theorem Trim_f (e : Bs) (h : e.length ≤ 1000000) : ∃ t, strings_Trim.f (B e) (⟨#[97, 98, 99, 100, 101, 102, 103, 104, 105, 106, 107, 108, 109, 110, 111, 112, 113, 114, 115, 116, 117, 118, 119, 120, 121, 122, 65, 66, 67, 68, 69, 70, 71, 72, 73, 74, 75, 76, 77, 78, 79, 80, 81, 82, 83, 84, 85, 86, 87, 88, 89, 90]⟩ : ByteArray) = some t ∧ t.toList.isEmpty = e.all lt_ := by
  refine ⟨_, by unfold strings_Trim.f; rw [if_pos ⟨by rw [B_size]; omega, by decide, by decide⟩], ?_⟩
  show (B _).toList.isEmpty = _
  rw [B_toList, B_data]
  unfold Lib.trimS Lib.trimLeftS Lib.trimRightS
  have e1 : (fun x => ([97, 98, 99, 100, 101, 102, 103, 104, 105, 106, 107, 108, 109, 110, 111, 112, 113, 114, 115, 116, 117, 118, 119, 120, 121, 122, 65, 66, 67, 68, 69, 70, 71, 72, 73, 74, 75, 76, 77, 78, 79, 80, 81, 82, 83, 84, 85, 86, 87, 88, 89, 90] : List UInt8).contains x) = lt_ := funext letters_lt
  have := trim_empty lt_ e
  rw [← e1] at this
  rw [← e1]
  exact this
def keyS (p : Bs) : Bool := decide (1 ≤ p.length ∧ p.length ≤ 16) && p.all lt_
theorem key_f (p : Bs) : stanza_key.f (B p) = some (keyS p) := by
  unfold stanza_key.f keyS
  rw [B_size]
  by_cases h1 : 1 ≤ p.length
  · rw [if_pos (by omega)]
    by_cases h2 : p.length ≤ 16
    · rw [if_pos (by omega)]
      obtain ⟨t, ht, he⟩ := Trim_f p (by omega)
      rw [ht]
      simp [he, h1, h2]
    · rw [if_neg (by omega)]
      simp [h2]
  · rw [if_neg (by omega)]
    simp [h1]
theorem shown_l0 : ∀ (r p : Bs), (p ++ r).length ≤ 1000000 → Ev (fun k => stanza_shown.l0 k (B (p ++ r)) ((p ++ r).length : Int) (p.length : Int)) (r.all sh) := by
  intro r
  induction r with
  | nil =>
    intro p hp
    refine Ev.step (fun k => by rw [stanza_shown.l0]) ?_
    refine Ev.if_neg (by simp) ?_
    exact Ev.now _
  | cons c r ih =>
    intro p hp
    refine Ev.step (fun k => by rw [stanza_shown.l0]) ?_
    refine Ev.if_pos (by simp; omega) ?_
    refine Ev.if_pos (by omega) ?_
    refine Ev.if_pos (by rw [B_size]; simp; omega) ?_
    rw [B_bt_mid]
    by_cases h1 : c.toNat < 32
    · refine Ev.if_pos (by omega) ?_
      have : sh c = false := by simp [sh]; omega
      simp only [List.all_cons, this, Bool.false_and]
      exact Ev.now _
    · refine Ev.if_neg (by omega) ?_
      by_cases h2 : c.toNat > 126
      · refine Ev.if_pos (by omega) ?_
        have : sh c = false := by simp [sh]; omega
        simp only [List.all_cons, this, Bool.false_and]
        exact Ev.now _
      · refine Ev.if_neg (by omega) ?_
        have h3 : sh c = true := by simp [sh]; omega
        have := ih (p ++ [c]) (by simpa using hp)
        have e : wrap64 ((p.length : Int) + 1) = ((p ++ [c]).length : Int) := by
          rw [wrap_id (by omega) (by simp at hp; omega)]; simp
        rw [e]
        simp only [List.append_assoc, List.singleton_append] at this
        simp only [List.all_cons, h3, Bool.true_and]
        exact this
theorem shown_f (v : Bs) (h : v.length ≤ 1000000) : Ev (fun k => stanza_shown.f k (B v)) (v.all sh) := by
  refine Ev.congr (fun k => by rw [stanza_shown.f, B_size]) ?_
  exact shown_l0 v [] h
/-- A line that is a field: its key, its value. -/
def fieldS (l : Bs) : Option (Bs × Bs) :=
  match l.dropWhile lt_ with
  | a :: b :: v => if a = 58 ∧ b = 32 ∧ 1 ≤ (l.takeWhile lt_).length ∧ (l.takeWhile lt_).length ≤ 16 ∧ v.all sh = true then some (l.takeWhile lt_, v) else none
  | _ => none
theorem tw_all (p : UInt8 → Bool) : ∀ (u r : Bs), u.all p = true → (∀ c ∈ r.head?, p c = false) → (u ++ r).takeWhile p = u ∧ (u ++ r).dropWhile p = r := by
  intro u
  induction u with
  | nil =>
    intro r _ hr
    cases r with
    | nil => simp
    | cons c r =>
      have := hr c (by simp)
      simp [List.takeWhile_cons, List.dropWhile_cons, this]
  | cons x u ih =>
    intro r hu hr
    simp only [List.all_cons, Bool.and_eq_true] at hu
    have := ih r hu.2 hr
    simp [List.takeWhile_cons, List.dropWhile_cons, hu.1, this.1, this.2]
theorem lt_colon : lt_ 58 = false := by decide
theorem fieldS_mk {u v : Bs} (h1 : keyS u = true) (h2 : v.all sh = true) : fieldS (u ++ 58 :: 32 :: v) = some (u, v) := by
  unfold keyS at h1
  simp only [Bool.and_eq_true, decide_eq_true_eq] at h1
  have := tw_all lt_ u (58 :: 32 :: v) h1.2 (by simp [lt_colon])
  unfold fieldS
  rw [this.1, this.2]
  simp [h1.1.1, h1.1.2, h2]
theorem fieldS_some {l u v : Bs} (h : fieldS l = some (u, v)) : l = u ++ 58 :: 32 :: v ∧ keyS u = true ∧ v.all sh = true := by
  unfold fieldS at h
  split at h
  · rename_i a b v' hd
    split at h
    · rename_i hc
      obtain ⟨rfl, rfl, h1, h2, h3⟩ := hc
      injection h with h
      injection h with h4 h5
      subst h4 h5
      refine ⟨?_, ?_, h3⟩
      · rw [← hd]; exact (List.takeWhile_append_dropWhile).symm
      · unfold keyS
        simp only [Bool.and_eq_true, decide_eq_true_eq]
        exact ⟨⟨h1, h2⟩, List.all_takeWhile⟩
    · cases h
  · cases h
theorem colon_not {u : Bs} (h : u.all lt_ = true) : (58 : UInt8) ∉ u := by
  intro hm
  have := List.all_eq_true.mp h 58 hm
  rw [lt_colon] at this
  cases this
/-- The program's cut at ': '. -/
theorem Cut_some (p q : Bs) (hp : (58 : UInt8) ∉ p) (hl : (p ++ 58 :: 32 :: q).length ≤ 1000000) : strings_Cut.f (B (p ++ 58 :: 32 :: q)) (⟨#[58, 32]⟩ : ByteArray) = some (B p, B q, true) := by
  have hi : stringslite_Index.f (B (p ++ 58 :: 32 :: q)) (⟨#[58, 32]⟩ : ByteArray) = some (p.length : Int) := by
    unfold stringslite_Index.f
    rw [if_neg (by decide), if_pos (by rw [B_size]; omega)]
    exact congrArg some (index_two 58 32 p q hp)
  unfold strings_Cut.f stringslite_Cut.f
  rw [hi]
  simp only [Option.bind_some]
  have hs : ((⟨#[58, 32]⟩ : ByteArray).size : Int) = 2 := rfl
  have hw : wrap64 ((p.length : Int) + 2) = (p.length : Int) + 2 := wrap_id (by omega) (by simp at hl; omega)
  have hz : (p ++ 58 :: 32 :: q).length = p.length + 2 + q.length := by simp; omega
  rw [hs, hw, if_pos (by omega), if_pos (by omega), if_pos (by rw [B_size, hz]; omega), if_pos (by omega), if_pos (by rw [B_size, hz]; omega)]
  simp only [Option.bind_some]
  have e1 : (B (p ++ 58 :: 32 :: q)).extract 0 (p.length : Int).toNat = B p := B_cut_left p _
  have e2 : (B (p ++ 58 :: 32 :: q)).extract ((p.length : Int) + 2).toNat (B (p ++ 58 :: 32 :: q)).size = B q := by
    rw [show ((p.length : Int) + 2).toNat = p.length + 2 by omega]
    exact B_cut2 p q 58 32
  rw [e1, e2]
theorem Cut_any (l : Bs) (hl : l.length ≤ 1000000) : (∃ p q, l = p ++ 58 :: 32 :: q ∧ strings_Cut.f (B l) (⟨#[58, 32]⟩ : ByteArray) = some (B p, B q, true)) ∨ (Lib.index l [58, 32] = -1 ∧ ∃ x y, strings_Cut.f (B l) (⟨#[58, 32]⟩ : ByteArray) = some (x, y, false)) := by
  have hge := Lib.index_ge l [58, 32]
  have hi : stringslite_Index.f (B l) (⟨#[58, 32]⟩ : ByteArray) = some (Lib.index l [58, 32]) := by
    unfold stringslite_Index.f
    rw [if_neg (by decide), if_pos (by rw [B_size]; omega)]
    rfl
  by_cases hm : Lib.index l [58, 32] = -1
  · refine .inr ⟨hm, B l, ⟨#[]⟩, ?_⟩
    unfold strings_Cut.f stringslite_Cut.f
    rw [hi, hm]
    rfl
  · obtain ⟨j, hj⟩ : ∃ j : Nat, Lib.index l [58, 32] = j := ⟨(Lib.index l [58, 32]).toNat, by omega⟩
    have hl2 := index_at 58 32 l j hj
    have hjl : j + 2 ≤ l.length := by
      rcases Nat.lt_or_ge l.length (j + 2) with h | h
      · have := congrArg List.length hl2
        simp [List.length_drop, List.length_take] at this
        omega
      · exact h
    refine .inl ⟨l.take j, l.drop (j + 2), hl2, ?_⟩
    unfold strings_Cut.f stringslite_Cut.f
    rw [hi, hj]
    simp only [Option.bind_some]
    have hs : ((⟨#[58, 32]⟩ : ByteArray).size : Int) = 2 := rfl
    have hw : wrap64 ((j : Int) + 2) = (j : Int) + 2 := wrap_id (by omega) (by omega)
    rw [hs, hw, if_pos (by omega), if_pos (by omega), if_pos (by rw [B_size]; omega), if_pos (by omega), if_pos (by rw [B_size]; omega)]
    simp only [Option.bind_some]
    have e1 : (B l).extract 0 (j : Int).toNat = B (l.take j) := by rw [B_extract]; simp
    have e2 : (B l).extract ((j : Int) + 2).toNat (B l).size = B (l.drop (j + 2)) := by
      rw [show ((j : Int) + 2).toNat = j + 2 by omega, B_extract, B_size, List.take_length]
    rw [e1, e2]
def FR (i : Int) : Option (Bs × Bs) → ByteArray × ByteArray × Int × Int × Int
  | some (u, v) => (B u, B v, i, 0, 0)
  | none => ((⟨#[]⟩ : ByteArray), (⟨#[]⟩ : ByteArray), 0, i, 2)
theorem field_f (i : Int) (l : Bs) (hl : l.length ≤ 1000000) : Ev (fun k => stanza_field.f k i (B l)) (FR i (fieldS l)) := by
  have m0 := must_f false i 2 (by decide)
  have m1 := must_f true i 2 (by decide)
  rw [if_neg (by decide)] at m0
  rw [if_pos rfl] at m1
  have bad : fieldS l = none → Ev (fun k => (stanza_must.f false i 2).bind fun bt125 => (if bt125.2 = 0 then (some ((⟨#[]⟩ : ByteArray), (⟨#[]⟩ : ByteArray), i, 0, 0)) else (some ((⟨#[]⟩ : ByteArray), (⟨#[]⟩ : ByteArray), 0, bt125.1, bt125.2)))) (FR i (fieldS l)) := by
    intro h
    rw [h, m0]
    exact Ev.now _
  have none_of : ∀ {p q : Bs}, l = p ++ 58 :: 32 :: q → (keyS p && q.all sh) = false → strings_Cut.f (B l) (⟨#[58, 32]⟩ : ByteArray) = some (B p, B q, true) → fieldS l = none := by
    intro p q hpq hk hc
    cases hf : fieldS l with
    | none => rfl
    | some uv =>
      obtain ⟨u, v⟩ := uv
      obtain ⟨h1, h2, h3⟩ := fieldS_some hf
      have hu : (58 : UInt8) ∉ u := colon_not (by simp only [keyS, Bool.and_eq_true] at h2; exact h2.2)
      have := Cut_some u v hu (by rw [← h1]; exact hl)
      rw [← h1, hc] at this
      injection this with this
      injection this with e1 e2
      injection e2 with e2 _
      rw [B_inj] at e1 e2
      subst e1 e2
      rw [h2, h3] at hk
      cases hk
  refine Ev.congr (fun k => by rw [stanza_field.f]) ?_
  rcases Cut_any l hl with ⟨p, q, hpq, hc⟩ | ⟨hm, x, y, hc⟩
  · refine Ev.val_bind hc ?_
    refine Ev.if_pos rfl ?_
    refine Ev.val_bind (key_f p) ?_
    by_cases hk : keyS p = true
    · refine Ev.if_pos hk ?_
      refine Ev.bind (shown_f q (by rw [hpq] at hl; simp at hl; omega)) ?_
      by_cases hs : q.all sh = true
      · rw [hs]
        refine Ev.val_bind m1 ?_
        refine Ev.if_pos rfl ?_
        rw [hpq, fieldS_mk hk hs]
        exact Ev.now _
      · have hs' : q.all sh = false := by simpa using hs
        rw [hs']
        refine Ev.val_bind m0 ?_
        refine Ev.if_neg (show ¬ (2 : Int) = 0 by decide) ?_
        rw [none_of hpq (by rw [hs']; simp) hc]
        exact Ev.now _
    · refine Ev.if_neg hk ?_
      have hk' : keyS p = false := by simpa using hk
      refine Ev.val_bind m0 ?_
      refine Ev.if_neg (show ¬ (2 : Int) = 0 by decide) ?_
      rw [none_of hpq (by rw [hk']; simp) hc]
      exact Ev.now _
  · refine Ev.val_bind hc ?_
    refine Ev.if_neg (by simp) ?_
    refine Ev.val_bind m0 ?_
    refine Ev.if_neg (show ¬ (2 : Int) = 0 by decide) ?_
    have : fieldS l = none := by
      cases hf : fieldS l with
      | none => rfl
      | some uv =>
        obtain ⟨u, v⟩ := uv
        obtain ⟨h1, h2, h3⟩ := fieldS_some hf
        have hu : (58 : UInt8) ∉ u := colon_not (by simp only [keyS, Bool.and_eq_true] at h2; exact h2.2)
        have := index_two 58 32 u v hu
        rw [← h1, hm] at this
        omega
    rw [this]
    exact Ev.now _
end Go.Proofs.YtmgeokfknehonaaDoor.Q
namespace Go.Proofs.YtmgeokfknehonaaDoor.Q
set_option linter.unusedVariables false
set_option linter.unusedSimpArgs false
open Go.RowKit Go.Proofs.YtmgeokfknehonaaDoorW.PrintWords Go.Proofs.YtmgeokfknehonaaDoorW.PrintLast Go.Proofs.YtmgeokfknehonaaDoorW.PB Go.Proofs.YtmgeokfknehonaaDoorW.TX
/-- A field: its key, its value, its line. -/
abbrev Fd := Bs × Bs × Nat
def pS (x : Fd) : S43 := ⟨B x.1, B x.2.1, (x.2.2 : Int)⟩
def rS (x : Fd) : S46 := ⟨B x.1, B x.2.1, (x.2.2 : Int)⟩
def getS (l : List Fd) (u : Bs) : Option Fd := l.find? (fun x => decide (x.1 = u))
def GR : Option Fd → ByteArray × ByteArray × Int × Bool
  | some x => (B x.1, B x.2.1, (x.2.2 : Int), true)
  | none => ((⟨#[]⟩ : ByteArray), (⟨#[]⟩ : ByteArray), 0, false)
theorem rdp_mid (p : List Fd) (x : Fd) (r : List Fd) : rd_T43 ((p ++ x :: r).map pS) (p.length : Int) = pS x := by
  unfold rd_T43
  simp [List.getD_eq_getElem?_getD]
theorem rdr_mid (p : List Fd) (x : Fd) (r : List Fd) : rd_T46 ((p ++ x :: r).map rS) (p.length : Int) = rS x := by
  unfold rd_T46
  simp [List.getD_eq_getElem?_getD]
theorem idx_get (u : Bs) : ∀ (r p : List Fd),
    (∃ q x s, r = q ++ x :: s ∧ getS r u = some x ∧ Lib.idxByFrom (fun _ (y : S43) => y.f0.toList == (B u).toList) z43 (r.map pS) p.length = ((p ++ q).length : Int)) ∨
    (getS r u = none ∧ Lib.idxByFrom (fun _ (y : S43) => y.f0.toList == (B u).toList) z43 (r.map pS) p.length = -1) := by
  intro r
  induction r with
  | nil => intro p; exact .inr ⟨rfl, rfl⟩
  | cons x r ih =>
    intro p
    have he : ((pS x).f0.toList == (B u).toList) = decide (x.1 = u) := by
      show ((B x.1).toList == (B u).toList) = _
      rw [B_toList, B_toList]
      by_cases h : x.1 = u <;> simp [h]
    by_cases h : x.1 = u
    · refine .inl ⟨[], x, r, rfl, by simp [getS, h], ?_⟩
      rw [List.map_cons, Lib.idxByFrom, he]
      simp [h]
    · rcases ih (p ++ [x]) with ⟨q, y, s, rfl, hg, hi⟩ | ⟨hg, hi⟩
      · refine .inl ⟨x :: q, y, s, rfl, ?_, ?_⟩
        · unfold getS at hg ⊢
          rw [List.find?_cons]
          simp only [h, decide_false]
          exact hg
        · rw [List.map_cons, Lib.idxByFrom, he]
          simp only [h, decide_false, Bool.false_eq_true, if_false]
          simpa using hi
      · refine .inr ⟨?_, ?_⟩
        · unfold getS at hg ⊢
          rw [List.find?_cons]
          simp only [h, decide_false]
          exact hg
        · rw [List.map_cons, Lib.idxByFrom, he]
          simp only [h, decide_false, Bool.false_eq_true, if_false]
          simpa using hi
theorem Get_f (l : List Fd) (u : Bs) : stanza_Get.f (l.map pS) (B u) = some (GR (getS l u)) := by
  unfold stanza_Get.f
  have hf : ∀ i, Lib.idxByFrom (fun _ (y : S43) => y.f0.toList == (B u).toList) z43 (l.map pS) 0 = i → (stanza_Field__stanza_Get_1.f (l.map pS) (B u)) = some i := fun i h => by
    unfold stanza_Field__stanza_Get_1.f Lib.idxBy
    rw [h]
  rcases idx_get u l [] with ⟨q, x, s, rfl, hg, hi⟩ | ⟨hg, hi⟩
  · rw [hf _ hi, hg]
    simp only [Option.bind_some, List.nil_append]
    rw [if_neg (by omega), if_pos (by omega), if_pos (by simp; omega), rdp_mid]
    rfl
  · rw [hf _ hi, hg]
    rfl
/-! ### The reference -/
theorem rGet_l0 (u : Bs) : ∀ (r p : List Fd), (p ++ r).length ≤ 1000000 → Ev (fun k => mancipleref9_Get.l0 k ((p ++ r).map rS) (B u) (p.length : Int)) (GR (getS r u)) := by
  intro r
  induction r with
  | nil =>
    intro p hp
    refine Ev.step (fun k => by rw [mancipleref9_Get.l0]) ?_
    refine Ev.if_neg (by simp) ?_
    exact Ev.now _
  | cons x r ih =>
    intro p hp
    refine Ev.step (fun k => by rw [mancipleref9_Get.l0]) ?_
    refine Ev.if_pos (by simp; omega) ?_
    refine Ev.if_pos (by omega) ?_
    rw [rdr_mid]
    by_cases h : x.1 = u
    · refine Ev.if_pos (by show (B x.1).toList = _; rw [h]) ?_
      have : getS (x :: r) u = some x := by simp [getS, h]
      rw [this]
      exact Ev.now _
    · refine Ev.if_neg (by show ¬ (B x.1).toList = (B u).toList; rw [B_toList, B_toList]; exact h) ?_
      have e : wrap64 ((p.length : Int) + 1) = ((p ++ [x]).length : Int) := by
        rw [wrap_id (by omega) (by simp at hp; omega)]; simp
      rw [e]
      have := ih (p ++ [x]) (by simpa using hp)
      simp only [List.append_assoc, List.singleton_append] at this
      have hg : getS (x :: r) u = getS r u := by
        unfold getS
        rw [List.find?_cons]
        simp only [h, decide_false]
      rw [hg]
      exact this
theorem rGet_f (l : List Fd) (u : Bs) (h : l.length ≤ 1000000) : Ev (fun k => mancipleref9_Get.f k (l.map rS) (B u)) (GR (getS l u)) := by
  refine Ev.congr (fun k => by rw [mancipleref9_Get.f]) ?_
  exact rGet_l0 u l [] h
theorem rletter_f (c : UInt8) : mancipleref9_letter.f (c.toNat : Int) = some (lt_ c) := by
  have := c.toNat_lt
  unfold mancipleref9_letter.f lt_
  by_cases h1 : (c.toNat : Int) ≥ 97
  · rw [if_pos h1]
    by_cases h2 : (c.toNat : Int) ≤ 122
    · rw [if_pos h2]
      simp; omega
    · rw [if_neg h2, if_pos (by omega)]
      congr 1
      rw [decide_eq_decide]
      omega
  · rw [if_neg h1]
    by_cases h2 : (c.toNat : Int) ≥ 65
    · rw [if_pos h2]
      congr 1
      rw [decide_eq_decide]
      omega
    · rw [if_neg h2]
      simp; omega
def RR : Option (Bs × Bs) → ByteArray × ByteArray × Int × Bool
  | some (u, v) => (B u, B v, 0, true)
  | none => ((⟨#[]⟩ : ByteArray), (⟨#[]⟩ : ByteArray), 0, false)
theorem rfield_l1 (u v : Bs) (x y : UInt8) : ∀ (r p : Bs), v = p ++ r → (u ++ x :: y :: v).length ≤ 1000000 →
    Ev (fun k => mancipleref9_field.l1 k (B (u ++ x :: y :: v)) (u.length : Int) ((u.length + 2 + p.length : Nat) : Int)) (RR (if r.all sh = true then some (u, v) else none)) := by
  intro r
  induction r with
  | nil =>
    intro p hv hl
    have hz : (u ++ x :: y :: v).length = u.length + 2 + v.length := by simp; omega
    have hp : v.length = p.length := by rw [hv]; simp
    refine Ev.step (fun k => by rw [mancipleref9_field.l1]) ?_
    refine Ev.if_neg (by rw [B_size, hz]; omega) ?_
    refine Ev.if_pos (by omega) ?_
    refine Ev.if_pos (by rw [B_size, hz]; omega) ?_
    have hw : wrap64 ((u.length : Int) + 2) = (u.length : Int) + 2 := wrap_id (by omega) (by omega)
    rw [hw]
    refine Ev.if_pos (by omega) ?_
    refine Ev.if_pos (by rw [B_size, hz]; omega) ?_
    have e1 : (B (u ++ x :: y :: v)).extract 0 (u.length : Int).toNat = B u := B_cut_left u _
    have e2 : (B (u ++ x :: y :: v)).extract ((u.length : Int) + 2).toNat (B (u ++ x :: y :: v)).size = B v := by
      rw [show ((u.length : Int) + 2).toNat = u.length + 2 by omega]
      exact B_cut2 u v x y
    rw [e1, e2]
    exact Ev.now _
  | cons c r ih =>
    intro p hv hl
    have hz : (u ++ x :: y :: v).length = u.length + 2 + v.length := by simp; omega
    have hp : v.length = p.length + 1 + r.length := by rw [hv]; simp; omega
    refine Ev.step (fun k => by rw [mancipleref9_field.l1]) ?_
    refine Ev.if_pos (by rw [B_size, hz]; omega) ?_
    refine Ev.if_pos (by omega) ?_
    have hb : bt (B (u ++ x :: y :: v)) ((u.length + 2 + p.length : Nat) : Int) = (c.toNat : Int) := by
      have := B_bt_mid (u ++ x :: y :: p) c r
      have e : (u ++ x :: y :: p).length = u.length + 2 + p.length := by simp; omega
      rw [e] at this
      rw [hv]
      simpa using this
    rw [hb]
    by_cases h1 : c.toNat < 32
    · refine Ev.if_pos (by omega) ?_
      have : sh c = false := by simp [sh]; omega
      simp only [List.all_cons, this, Bool.false_and]
      exact Ev.now _
    · refine Ev.if_neg (by omega) ?_
      by_cases h2 : c.toNat > 126
      · refine Ev.if_pos (by omega) ?_
        have : sh c = false := by simp [sh]; omega
        simp only [List.all_cons, this, Bool.false_and]
        exact Ev.now _
      · refine Ev.if_neg (by omega) ?_
        have h3 : sh c = true := by simp [sh]; omega
        have e : wrap64 (((u.length + 2 + p.length : Nat) : Int) + 1) = ((u.length + 2 + (p ++ [c]).length : Nat) : Int) := by
          rw [wrap_id (by omega) (by omega)]; simp; omega
        rw [e]
        simp only [List.all_cons, h3, Bool.true_and]
        exact ih (p ++ [c]) (by rw [hv]; simp) hl
theorem rfield_j2 (l : Bs) (u : Nat) : Ev (fun k => mancipleref9_field.j2 k (B l) (u : Int) true) (RR none) := by
  refine Ev.step (fun k => by rw [mancipleref9_field.j2]) ?_
  refine Ev.if_pos rfl ?_
  exact Ev.now _
theorem rfield_j1 (u r : Bs) (hu : u.all lt_ = true) (hr : ∀ c ∈ r.head?, lt_ c = false) (hl : (u ++ r).length ≤ 1000000) :
    Ev (fun k => mancipleref9_field.j1 k (B (u ++ r)) (u.length : Int)) (RR (fieldS (u ++ r))) := by
  have ht := tw_all lt_ u r hu hr
  have hw2 : wrap64 ((u.length : Int) + 2) = (u.length : Int) + 2 := wrap_id (by omega) (by simp at hl; omega)
  have hw1 : wrap64 ((u.length : Int) + 1) = (u.length : Int) + 1 := wrap_id (by omega) (by simp at hl; omega)
  refine Ev.step (fun k => by rw [mancipleref9_field.j1]) ?_
  by_cases h1 : u.length < 1
  · refine Ev.if_pos (by omega) ?_
    have : fieldS (u ++ r) = none := by
      unfold fieldS
      rw [ht.1, ht.2]
      split
      · rw [if_neg (by intro h; omega)]
      · rfl
    rw [this]
    exact rfield_j2 _ _
  refine Ev.if_neg (by omega) ?_
  by_cases h2 : 16 < u.length
  · refine Ev.if_pos (by omega) ?_
    have : fieldS (u ++ r) = none := by
      unfold fieldS
      rw [ht.1, ht.2]
      split
      · rw [if_neg (by intro h; omega)]
      · rfl
    rw [this]
    exact rfield_j2 _ _
  refine Ev.if_neg (by omega) ?_
  rw [hw2, hw1]
  have short : r.length < 2 → fieldS (u ++ r) = none := by
    intro h
    unfold fieldS
    rw [ht.2]
    match r, h with
    | [], _ => rfl
    | [a], _ => rfl
  match r, short, hl, ht, hr with
  | [], short, hl, ht, hr =>
    refine Ev.if_pos (by rw [B_size]; simp only [List.length_append, List.length_cons, List.length_nil]; omega) ?_
    rw [short (by simp)]
    exact rfield_j2 _ _
  | [a], short, hl, ht, hr =>
    refine Ev.if_pos (by rw [B_size]; simp only [List.length_append, List.length_cons, List.length_nil]; omega) ?_
    rw [short (by simp)]
    exact rfield_j2 _ _
  | a :: b :: v, short, hl, ht, hr =>
    refine Ev.if_neg (by rw [B_size]; simp; omega) ?_
    refine Ev.if_pos (by omega) ?_
    refine Ev.if_pos (by rw [B_size]; simp; omega) ?_
    rw [B_bt_mid]
    by_cases ha : a = 58
    · subst ha
      refine Ev.if_pos (by decide) ?_
      refine Ev.if_pos (by omega) ?_
      refine Ev.if_pos (by rw [B_size]; simp; omega) ?_
      have hb : bt (B (u ++ 58 :: b :: v)) ((u.length : Int) + 1) = (b.toNat : Int) := by
        have := B_bt_mid (u ++ [58]) b v
        simpa using this
      rw [hb]
      by_cases hb2 : b = 32
      · subst hb2
        have e0 : ((((32 : UInt8).toNat : Int)) != 32) = false := by decide
        rw [e0]
        refine Ev.step (fun k => by rw [mancipleref9_field.j2]) ?_
        refine Ev.if_neg (by decide) ?_
        rw [hw2]
        have := rfield_l1 u v 58 32 v [] rfl hl
        have e1 : ((u.length + 2 + ([] : Bs).length : Nat) : Int) = (u.length : Int) + 2 := by simp
        rw [e1] at this
        have e2 : fieldS (u ++ 58 :: 32 :: v) = if v.all sh = true then some (u, v) else none := by
          unfold fieldS
          rw [ht.1, ht.2]
          simp [show 1 ≤ u.length by omega, show u.length ≤ 16 by omega]
        rw [e2]
        exact this
      · have e0 : ((b.toNat : Int) != 32) = true := by
          rw [bne_iff_ne]
          intro h
          apply hb2
          have : b.toNat = 32 := by omega
          exact UInt8.toNat_inj.mp this
        rw [e0]
        have : fieldS (u ++ 58 :: b :: v) = none := by
          unfold fieldS
          rw [ht.2]
          simp [hb2]
        rw [this]
        exact rfield_j2 _ _
    · refine Ev.if_neg (by
        intro h
        apply ha
        have : a.toNat = 58 := by omega
        exact UInt8.toNat_inj.mp this) ?_
      have : fieldS (u ++ a :: b :: v) = none := by
        unfold fieldS
        rw [ht.2]
        simp [ha]
      rw [this]
      exact rfield_j2 _ _
theorem rfield_l0 : ∀ (r u : Bs), u.all lt_ = true → (u ++ r).length ≤ 1000000 → Ev (fun k => mancipleref9_field.l0 k (B (u ++ r)) (u.length : Int)) (RR (fieldS (u ++ r))) := by
  intro r
  induction r with
  | nil =>
    intro u hu hl
    refine Ev.step (fun k => by rw [mancipleref9_field.l0]) ?_
    refine Ev.if_neg (by rw [B_size]; simp) ?_
    exact rfield_j1 u [] hu (by simp) hl
  | cons c r ih =>
    intro u hu hl
    refine Ev.step (fun k => by rw [mancipleref9_field.l0]) ?_
    refine Ev.if_pos (by rw [B_size]; simp; omega) ?_
    refine Ev.if_pos (by omega) ?_
    rw [B_bt_mid]
    refine Ev.val_bind (rletter_f c) ?_
    by_cases h : lt_ c = true
    · refine Ev.if_pos h ?_
      have e : wrap64 ((u.length : Int) + 1) = ((u ++ [c]).length : Int) := by
        rw [wrap_id (by omega) (by simp at hl; omega)]; simp
      rw [e]
      have := ih (u ++ [c]) (by simp [h]; simpa using hu) (by simpa using hl)
      simpa using this
    · refine Ev.if_neg h ?_
      exact rfield_j1 u (c :: r) hu (by simpa using h) hl
theorem rfield_f (l : Bs) (hl : l.length ≤ 1000000) : Ev (fun k => mancipleref9_field.f k (B l)) (RR (fieldS l)) := by
  refine Ev.congr (fun k => by rw [mancipleref9_field.f]) ?_
  exact rfield_l0 l [] rfl hl
/-! ### Lines -/
theorem B_cut_mid (p c r : Bs) : (B (p ++ c ++ r)).extract (p.length : Int).toNat ((p ++ c).length : Int).toNat = B c := by
  rw [B_extract, Int.toNat_natCast, Int.toNat_natCast, List.take_left' rfl, List.drop_left' rfl]
theorem dropLast_cons' {α : Type} (x : α) {l : List α} (h : l ≠ []) : (x :: l).dropLast = x :: l.dropLast := by
  cases l with
  | nil => exact absurd rfl h
  | cons y l => rfl
theorem pieces_snoc (c : UInt8) : ∀ m : Bs, pieces c (m ++ [c]) = pieces c m ++ [[]]
  | [] => by simp [pieces]
  | b :: m => by
    have ih := pieces_snoc c m
    rw [List.cons_append, pieces, pieces]
    split
    · rw [ih]; rfl
    · rw [ih]
      cases h : pieces c m with
      | nil => exact absurd h (pieces_ne c m)
      | cons x xs => rfl
theorem rRows_l0 : ∀ (r p c : Bs) (out : List Bs), (10 : UInt8) ∉ c → (p ++ c ++ r).length ≤ 1000000 → out.length ≤ p.length →
    Ev (fun k => mancipleref9_Rows.l0 k (B (p ++ c ++ r)) (out.map B) (p.length : Int) ((p ++ c).length : Int)) ((out ++ (pieces 10 (c ++ r)).dropLast).map B, true) := by
  intro r
  induction r with
  | nil =>
    intro p c out hc hl ho
    refine Ev.step (fun k => by rw [mancipleref9_Rows.l0]) ?_
    refine Ev.if_neg (by rw [B_size]; simp) ?_
    rw [List.append_nil, pieces_none hc]
    simp only [List.dropLast_singleton, List.append_nil]
    exact Ev.now _
  | cons b r ih =>
    intro p c out hc hl ho
    have hz : (p ++ c ++ b :: r).length = p.length + c.length + 1 + r.length := by simp; omega
    refine Ev.step (fun k => by rw [mancipleref9_Rows.l0]) ?_
    refine Ev.if_pos (by rw [B_size, hz, List.length_append]; omega) ?_
    refine Ev.if_pos (by omega) ?_
    rw [B_bt_mid (p ++ c) b r]
    have e : wrap64 (((p ++ c).length : Int) + 1) = ((p ++ c ++ [b]).length : Int) := by
      rw [wrap_id (by omega) (by simp at hl ⊢; omega)]; simp; omega
    by_cases hb : b = 10
    · subst hb
      refine Ev.if_pos (by decide) ?_
      refine Ev.if_pos (by omega) ?_
      refine Ev.if_pos (by rw [List.length_append]; omega) ?_
      refine Ev.if_pos (by rw [B_size, hz, List.length_append]; omega) ?_
      refine Ev.if_pos (by simp; omega) ?_
      rw [B_cut_mid, e]
      have h := ih (p ++ c ++ [10]) [] (out ++ [c]) (by simp) (by simpa using hl) (by simp; omega)
      rw [pieces_append 10 c r hc, dropLast_cons' c (pieces_ne 10 r)]
      simp only [List.append_assoc, List.append_nil, List.singleton_append, List.cons_append, List.nil_append, List.map_append, List.map_cons, List.map_nil] at h ⊢
      exact h
    · refine Ev.if_neg (by
        intro h
        apply hb
        have : b.toNat = 10 := by omega
        exact UInt8.toNat_inj.mp this) ?_
      rw [e]
      have h := ih p (c ++ [b]) out (by simp [hc]; exact fun e => hb e.symm) (by simpa using hl) ho
      simp only [List.append_assoc, List.singleton_append] at h ⊢
      exact h
/-- The reference's lines of a text. -/
theorem rRows_nil : Ev (fun k => mancipleref9_Rows.f k (B [])) ([], true) := by
  refine Ev.congr (fun k => by rw [mancipleref9_Rows.f]) ?_
  refine Ev.if_pos (by rw [B_toList]) ?_
  refine Ev.step (fun k => by rw [mancipleref9_Rows.j0]) ?_
  refine Ev.if_neg (by decide) ?_
  exact rRows_l0 [] [] [] [] (by simp) (by simp) (by simp)
theorem rRows_last (m : Bs) (x : UInt8) (hl : (m ++ [x]).length ≤ 1000000) : Ev (fun k => mancipleref9_Rows.f k (B (m ++ [x]))) (if x = 10 then ((pieces 10 m).map B, true) else ([], false)) := by
  refine Ev.congr (fun k => by rw [mancipleref9_Rows.f]) ?_
  refine Ev.if_neg (by rw [B_toList]; simp) ?_
  have hw : wrap64 (((B (m ++ [x])).size : Int) - 1) = (m.length : Int) := by rw [B_size]; rw [List.length_append, List.length_singleton]; rw [wrap_id (by omega) (by simp at hl; omega)]; omega
  rw [hw]
  refine Ev.if_pos (by omega) ?_
  refine Ev.if_pos (by rw [B_size]; simp only [List.length_append, List.length_cons, List.length_nil]; omega) ?_
  rw [B_bt_mid m x []]
  refine Ev.step (fun k => by rw [mancipleref9_Rows.j0]) ?_
  by_cases hx : x = 10
  · subst hx
    refine Ev.if_neg (by decide) ?_
    rw [if_pos rfl]
    have := rRows_l0 (m ++ [10]) [] [] [] (by simp) (by simpa using hl) (by simp)
    simp only [List.nil_append] at this
    rw [pieces_snoc, List.dropLast_concat] at this
    exact this
  · refine Ev.if_pos (by
      rw [bne_iff_ne]
      intro h
      apply hx
      have : x.toNat = 10 := by omega
      exact UInt8.toNat_inj.mp this) ?_
    rw [if_neg hx]
    exact Ev.now _
end Go.Proofs.YtmgeokfknehonaaDoor.Q
namespace Go.Proofs.YtmgeokfknehonaaDoor.Q
set_option linter.unusedVariables false
set_option linter.unusedSimpArgs false
open Go.RowKit Go.Proofs.YtmgeokfknehonaaDoorW.PrintWords Go.Proofs.YtmgeokfknehonaaDoorW.PrintLast Go.Proofs.YtmgeokfknehonaaDoorW.PB Go.Proofs.YtmgeokfknehonaaDoorW.TX
/-- Lines, read one by one: the stanzas, or which line is wrong and why. -/
def parseS : Nat → List Bs → List Fd → List (List Fd) → List (List Fd) × Nat × Nat
  | _, [], now, out => (out ++ [now], 0, 0)
  | i, l :: rs, now, out =>
    if l = [] then (if now = [] ∨ rs = [] then ([], i, 2) else parseS (i + 1) rs [] (out ++ [now]))
    else match fieldS l with
      | none => ([], i, 2)
      | some (u, v) => if (getS now u).isSome = true then ([], i, 6) else parseS (i + 1) rs (now ++ [(u, v, i)]) out
def PP (r : List (List Fd) × Nat × Nat) : List (List S43) × Int × Int := (r.1.map (·.map pS), (r.2.1 : Int), (r.2.2 : Int))
def PR (r : List (List Fd) × Nat × Nat) : List (List S46) × Int × Int := (r.1.map (·.map rS), (r.2.1 : Int), (r.2.2 : Int))
theorem rdOf_mid (p : List Bs) (x : Bs) (r : List Bs) : rdOf ByteArray.empty ((p ++ x :: r).map B) (p.length : Int) = B x := by
  unfold rdOf
  simp [List.getD_eq_getElem?_getD]
theorem parse_l0 (rows : List Bs) (hn : rows.length ≤ 70000) (hl : ∀ l ∈ rows, l.length ≤ 1000000) : ∀ (rs p : List Bs) (now : List Fd) (out : List (List Fd)), rows = p ++ rs → out.length + now.length ≤ p.length →
    Ev (fun k => stanza_Parse.l0 k (rows.map B) (now.map pS) (rows.map B) (rows.length : Int) (p.length : Int) (out.map (·.map pS))) (PP (parseS p.length rs now out)) := by
  intro rs
  induction rs with
  | nil =>
    intro p now out hr ho
    subst hr
    simp only [List.append_nil] at hn ⊢
    refine Ev.step (fun k => by rw [stanza_Parse.l0]) ?_
    refine Ev.if_neg (by omega) ?_
    refine Ev.if_pos (by simp; omega) ?_
    simp only [parseS, PP]
    rw [List.map_append]
    exact Ev.now _
  | cons l rs ih =>
    intro p now out hr ho
    have hlen : rows.length = p.length + 1 + rs.length := by rw [hr]; simp; omega
    have hll : l.length ≤ 1000000 := hl l (by rw [hr]; simp)
    have hrd : rdOf ByteArray.empty (rows.map B) (p.length : Int) = B l := by rw [hr]; exact rdOf_mid p l rs
    have e : wrap64 ((p.length : Int) + 1) = ((p ++ [l]).length : Int) := by
      rw [wrap_id (by omega) (by omega)]; simp
    have hp1 : (p ++ [l]).length = p.length + 1 := by simp
    refine Ev.step (fun k => by rw [stanza_Parse.l0]) ?_
    refine Ev.if_pos (by omega) ?_
    refine Ev.if_pos (by omega) ?_
    refine Ev.if_pos (by rw [List.length_map]; omega) ?_
    rw [hrd]
    have hi2 := must_f false (p.length : Int) 2 (by decide)
    rw [if_neg (by decide)] at hi2
    by_cases h0 : l = []
    · subst h0
      refine Ev.if_pos (B_toList []) ?_
      by_cases hnow : now = []
      · subst hnow
        refine Ev.if_neg (by simp) ?_
        refine Ev.val_bind hi2 ?_
        refine Ev.if_neg (show ¬ (2 : Int) = 0 by decide) ?_
        have : parseS p.length ([] :: rs) [] out = ([], p.length, 2) := by simp [parseS]
        rw [this]
        exact Ev.now _
      · refine Ev.if_pos (by rw [List.length_map]; have := List.length_pos_iff.mpr hnow; omega) ?_
        by_cases hrs : rs = []
        · subst hrs
          have hd : decide ((p.length : Int) < wrap64 (((rows.map B).length : Int) - 1)) = false := by
            rw [List.length_map, hlen, wrap_id (by simp only [List.length_nil]; omega) (by simp only [List.length_nil]; omega)]
            simp
          rw [hd]
          refine Ev.val_bind hi2 ?_
          refine Ev.if_neg (show ¬ (2 : Int) = 0 by decide) ?_
          have : parseS p.length [[]] now out = ([], p.length, 2) := by simp [parseS]
          rw [this]
          exact Ev.now _
        · have hpos := List.length_pos_iff.mpr hrs
          have hd : decide ((p.length : Int) < wrap64 (((rows.map B).length : Int) - 1)) = true := by
            rw [List.length_map, hlen, wrap_id (by omega) (by omega), decide_eq_true_iff]
            omega
          rw [hd]
          have hi1 := must_f true (p.length : Int) 2 (by decide)
          rw [if_pos rfl] at hi1
          refine Ev.val_bind hi1 ?_
          refine Ev.if_pos rfl ?_
          refine Ev.if_pos (by rw [List.length_map]; omega) ?_
          have : parseS p.length ([] :: rs) now out = parseS (p.length + 1) rs [] (out ++ [now]) := by simp [parseS, hnow, hrs]
          rw [this, e]
          have h := ih (p ++ [[]]) [] (out ++ [now]) (by rw [hr]; simp) (by have := List.length_pos_iff.mpr hnow; simp; omega)
          rw [hp1, List.map_append] at h
          rw [hp1]
          exact h
    · refine Ev.if_neg (by rw [B_toList]; exact h0) ?_
      refine Ev.bind (field_f (p.length : Int) l hll) ?_
      cases hf : fieldS l with
      | none =>
        refine Ev.if_neg (show ¬ (2 : Int) = 0 by decide) ?_
        have : parseS p.length (l :: rs) now out = ([], p.length, 2) := by simp [parseS, h0, hf]
        rw [this]
        exact Ev.now _
      | some uv =>
        obtain ⟨u, v⟩ := uv
        refine Ev.if_pos rfl ?_
        refine Ev.val_bind (Get_f now u) ?_
        cases hg : getS now u with
        | some x =>
          have hi6 := must_f false (p.length : Int) 6 (by decide)
          rw [if_neg (by decide)] at hi6
          refine Ev.val_bind hi6 ?_
          refine Ev.if_neg (show ¬ (6 : Int) = 0 by decide) ?_
          have : parseS p.length (l :: rs) now out = ([], p.length, 6) := by simp [parseS, h0, hf, hg]
          rw [this]
          exact Ev.now _
        | none =>
          have hi6 := must_f true (p.length : Int) 6 (by decide)
          rw [if_pos rfl] at hi6
          refine Ev.val_bind hi6 ?_
          refine Ev.if_pos rfl ?_
          refine Ev.if_pos (by rw [List.length_map]; omega) ?_
          have : parseS p.length (l :: rs) now out = parseS (p.length + 1) rs (now ++ [(u, v, p.length)]) out := by simp [parseS, h0, hf, hg]
          rw [this, e]
          have h := ih (p ++ [l]) (now ++ [(u, v, p.length)]) out (by rw [hr]; simp) (by simp; omega)
          rw [hp1, List.map_append] at h
          rw [hp1]
          exact h
theorem rparse_l0 (rows : List Bs) (hn : rows.length ≤ 70000) (hl : ∀ l ∈ rows, l.length ≤ 1000000) : ∀ (rs p : List Bs) (now : List Fd) (out : List (List Fd)), rows = p ++ rs → out.length + now.length ≤ p.length → (rs = [] → now ≠ []) →
    Ev (fun k => mancipleref9_ParseStanzas.l0 k (rows.map B) (out.map (·.map rS)) (now.map rS) (p.length : Int)) (PR (parseS p.length rs now out)) := by
  intro rs
  induction rs with
  | nil =>
    intro p now out hr ho hne
    subst hr
    simp only [List.append_nil] at hn ⊢
    have hpos := List.length_pos_iff.mpr (hne rfl)
    refine Ev.step (fun k => by rw [mancipleref9_ParseStanzas.l0]) ?_
    refine Ev.if_neg (by simp) ?_
    refine Ev.if_pos (by rw [List.length_map]; omega) ?_
    refine Ev.if_pos (by simp; omega) ?_
    simp only [parseS, PR]
    rw [List.map_append]
    exact Ev.now _
  | cons l rs ih =>
    intro p now out hr ho hne
    have hlen : rows.length = p.length + 1 + rs.length := by rw [hr]; simp; omega
    have hll : l.length ≤ 1000000 := hl l (by rw [hr]; simp)
    have hrd : rdOf ByteArray.empty (rows.map B) (p.length : Int) = B l := by rw [hr]; exact rdOf_mid p l rs
    have e : wrap64 ((p.length : Int) + 1) = ((p ++ [l]).length : Int) := by
      rw [wrap_id (by omega) (by omega)]; simp
    have hp1 : (p ++ [l]).length = p.length + 1 := by simp
    refine Ev.step (fun k => by rw [mancipleref9_ParseStanzas.l0]) ?_
    refine Ev.if_pos (by rw [List.length_map]; omega) ?_
    refine Ev.if_pos (by omega) ?_
    rw [hrd]
    by_cases h0 : l = []
    · subst h0
      refine Ev.if_pos (B_toList []) ?_
      by_cases hnow : now = []
      · subst hnow
        refine Ev.if_pos (by simp) ?_
        have : parseS p.length ([] :: rs) [] out = ([], p.length, 2) := by simp [parseS]
        rw [this]
        exact Ev.now _
      · refine Ev.if_neg (by rw [List.length_map]; have := List.length_pos_iff.mpr hnow; omega) ?_
        have hw : wrap64 (((rows.map B).length : Int) - 1) = (p.length : Int) + rs.length := by
          rw [List.length_map, hlen, wrap_id (by omega) (by omega)]; omega
        rw [hw]
        by_cases hrs : rs = []
        · subst hrs
          refine Ev.if_pos (by simp) ?_
          have : parseS p.length [[]] now out = ([], p.length, 2) := by simp [parseS]
          rw [this]
          exact Ev.now _
        · have hpos := List.length_pos_iff.mpr hrs
          refine Ev.if_neg (by omega) ?_
          refine Ev.if_pos (by rw [List.length_map]; omega) ?_
          have : parseS p.length ([] :: rs) now out = parseS (p.length + 1) rs [] (out ++ [now]) := by simp [parseS, hnow, hrs]
          rw [this, e]
          have h := ih (p ++ [[]]) [] (out ++ [now]) (by rw [hr]; simp) (by have := List.length_pos_iff.mpr hnow; simp; omega) (fun h => absurd h hrs)
          rw [hp1, List.map_append] at h
          rw [hp1]
          exact h
    · refine Ev.if_neg (by rw [B_toList]; exact h0) ?_
      refine Ev.bind (rfield_f l hll) ?_
      cases hf : fieldS l with
      | none =>
        refine Ev.if_neg (by simp [RR]) ?_
        have : parseS p.length (l :: rs) now out = ([], p.length, 2) := by simp [parseS, h0, hf]
        rw [this]
        exact Ev.now _
      | some uv =>
        obtain ⟨u, v⟩ := uv
        refine Ev.if_pos rfl ?_
        refine Ev.bind (rGet_f now u (by omega)) ?_
        cases hg : getS now u with
        | some x =>
          refine Ev.if_pos rfl ?_
          have : parseS p.length (l :: rs) now out = ([], p.length, 6) := by simp [parseS, h0, hf, hg]
          rw [this]
          exact Ev.now _
        | none =>
          refine Ev.if_neg (by simp [GR]) ?_
          refine Ev.if_pos (by rw [List.length_map]; omega) ?_
          have : parseS p.length (l :: rs) now out = parseS (p.length + 1) rs (now ++ [(u, v, p.length)]) out := by simp [parseS, h0, hf, hg]
          rw [this, e]
          have h := ih (p ++ [l]) (now ++ [(u, v, p.length)]) out (by rw [hr]; simp) (by simp; omega) (fun _ => by simp)
          rw [hp1, List.map_append] at h
          rw [hp1]
          exact h
theorem pieces_len (c : UInt8) : ∀ l : Bs, (pieces c l).length ≤ l.length + 1 ∧ ∀ p ∈ pieces c l, p.length ≤ l.length
  | [] => by simp [pieces]
  | b :: l => by
    have ih := pieces_len c l
    unfold pieces
    split
    · refine ⟨by simp; exact ih.1, fun p hp => ?_⟩
      rcases List.mem_cons.mp hp with rfl | hp
      · simp
      · have := ih.2 p hp; simp; omega
    · refine ⟨?_, fun p hp => ?_⟩
      · have := ih.1
        have hne := List.length_pos_iff.mpr (pieces_ne c l)
        simp; omega
      · rcases List.mem_cons.mp hp with rfl | hp
        · have h : (pieces c l).headD [] ∈ pieces c l := by
            cases hp : pieces c l with
            | nil => exact absurd hp (pieces_ne c l)
            | cons x xs => simp
          have := ih.2 _ h
          simp only [List.length_cons]; omega
        · have := ih.2 p (List.mem_of_mem_tail hp); simp; omega
/-- Stanzas of any text. -/
def readS (s : Bs) : List (List Fd) × Nat × Nat :=
  if 65536 < s.length then ([], 0, 4)
  else if s = [] then ([], 0, 0)
  else if s.getLast? = some 10 then parseS 0 (pieces 10 s.dropLast) [] [] else ([], 0, 2)
theorem snoc_cases (s : Bs) : s = [] ∨ ∃ m x, s = m ++ [x] := by
  rcases List.eq_nil_or_concat s with h | ⟨m, x, h⟩
  · exact .inl h
  · exact .inr ⟨m, x, by rw [h]; exact List.concat_eq_append⟩
theorem HasSuffix_f (m : Bs) (x : UInt8) (hl : (m ++ [x]).length ≤ 1000000) : stringslite_HasSuffix.f (B (m ++ [x])) (⟨#[10]⟩ : ByteArray) = some (decide (x = 10)) := by
  unfold stringslite_HasSuffix.f
  have hs : ((⟨#[10]⟩ : ByteArray).size : Int) = 1 := rfl
  rw [B_size, hs]
  have hz : (m ++ [x]).length = m.length + 1 := by simp
  have hw : wrap64 (((m ++ [x]).length : Int) - 1) = (m.length : Int) := by rw [hz, wrap_id (by omega) (by omega)]; omega
  rw [hw, if_pos (by omega), if_pos (by omega), if_pos (by omega)]
  have e : (B (m ++ [x])).extract (m.length : Int).toNat (m ++ [x]).length = B [x] := by
    have := B_cut_right m [x]
    rwa [B_size] at this
  rw [e, B_toList, show (⟨#[10]⟩ : ByteArray).toList = [10] from B_toList [10]]
  by_cases h : x = 10 <;> simp [h]
theorem CutSuffix_f (m : Bs) (x : UInt8) (hl : (m ++ [x]).length ≤ 1000000) : strings_CutSuffix.f (B (m ++ [x])) (⟨#[10]⟩ : ByteArray) = some (if x = 10 then B m else B (m ++ [x]), decide (x = 10)) := by
  unfold strings_CutSuffix.f stringslite_CutSuffix.f
  rw [HasSuffix_f m x hl]
  simp only [Option.bind_some]
  by_cases h : x = 10
  · rw [if_pos (by simpa using h), if_pos h]
    have hs : ((⟨#[10]⟩ : ByteArray).size : Int) = 1 := rfl
    have hz : (m ++ [x]).length = m.length + 1 := by simp
    have hw : wrap64 (((B (m ++ [x])).size : Int) - 1) = (m.length : Int) := by rw [B_size, hz, wrap_id (by omega) (by omega)]; omega
    rw [hs, hw, if_pos (by omega), if_pos (by rw [B_size]; omega)]
    simp only [Option.bind_some]
    have e : (B (m ++ [x])).extract 0 (m.length : Int).toNat = B m := B_cut_left m [x]
    rw [e]
    simp [h]
  · rw [if_neg (by simpa using h), if_neg h]
    simp [h]
theorem Parse_f (s : Bs) (hs : s.length ≤ 1000000) : Ev (fun k => stanza_Parse.f k (B s)) (PP (readS s)) := by
  refine Ev.congr (fun k => by rw [stanza_Parse.f, B_size]) ?_
  unfold readS
  have h4 := must_f (decide ((s.length : Int) ≤ 65536)) 0 4 (by decide)
  refine Ev.val_bind h4 ?_
  by_cases h1 : 65536 < s.length
  · rw [if_pos h1]
    have hd : ¬ decide ((s.length : Int) ≤ 65536) = true := by rw [decide_eq_true_iff]; omega
    rw [if_neg hd]
    refine Ev.if_neg (show ¬ (4 : Int) = 0 by decide) ?_
    exact Ev.now _
  have hd : decide ((s.length : Int) ≤ 65536) = true := by rw [decide_eq_true_iff]; omega
  rw [if_neg h1, if_pos hd]
  refine Ev.if_pos rfl ?_
  rcases snoc_cases s with rfl | ⟨m, x, rfl⟩
  · rw [if_pos rfl]
    refine Ev.if_pos (B_toList []) ?_
    exact Ev.now _
  · rw [if_neg (by simp)]
    refine Ev.if_neg (by rw [B_toList]; simp) ?_
    refine Ev.val_bind (CutSuffix_f m x hs) ?_
    by_cases hx : x = 10
    · subst hx
      have h2 := must_f true 0 2 (by decide)
      rw [if_pos rfl] at h2
      refine Ev.val_bind h2 ?_
      refine Ev.if_pos rfl ?_
      have hp := pieces_len 10 m
      have hm : m.length ≤ 65536 := by simp at h1; omega
      have hsp : strings_Split.f (B m) (⟨#[10]⟩ : ByteArray) = some ((pieces 10 m).map B) := by
        unfold strings_Split.f
        rw [if_pos ⟨by rw [B_size]; omega, by decide⟩]
        exact congrArg some (split_B 10 m)
      refine Ev.val_bind hsp ?_
      have hg : (m ++ [(10 : UInt8)]).getLast? = some 10 := by simp
      rw [if_pos hg, List.dropLast_concat]
      have h := parse_l0 (pieces 10 m) (by omega) (fun l hl => by have := hp.2 l hl; omega) (pieces 10 m) [] [] [] rfl (by simp)
      rw [List.length_map]
      exact h
    · have h2 := must_f false 0 2 (by decide)
      rw [if_neg (by decide)] at h2
      have hx' : decide (x = 10) = false := by simpa using hx
      have hg : ¬ (m ++ [x]).getLast? = some 10 := by simpa using hx
      rw [if_neg hg]
      show Ev (fun k => (stanza_must.f (decide (x = 10)) 0 2).bind _) _
      rw [hx']
      refine Ev.val_bind h2 ?_
      refine Ev.if_neg (show ¬ (2 : Int) = 0 by decide) ?_
      exact Ev.now _
theorem rParse_f (s : Bs) (hs : s.length ≤ 1000000) : Ev (fun k => mancipleref9_ParseStanzas.f k (B s)) (PR (readS s)) := by
  refine Ev.congr (fun k => by rw [mancipleref9_ParseStanzas.f, B_size]) ?_
  unfold readS
  by_cases h1 : 65536 < s.length
  · rw [if_pos h1]
    refine Ev.if_pos (by omega) ?_
    exact Ev.now _
  rw [if_neg h1]
  refine Ev.if_neg (by omega) ?_
  rcases snoc_cases s with rfl | ⟨m, x, rfl⟩
  · rw [if_pos rfl]
    refine Ev.bind rRows_nil ?_
    refine Ev.if_pos rfl ?_
    refine Ev.step (fun k => by rw [mancipleref9_ParseStanzas.l0]) ?_
    refine Ev.if_neg (by simp) ?_
    refine Ev.if_neg (by simp) ?_
    exact Ev.now _
  · rw [if_neg (by simp)]
    refine Ev.bind (rRows_last m x hs) ?_
    by_cases hx : x = 10
    · subst hx
      have hg : (m ++ [(10 : UInt8)]).getLast? = some 10 := by simp
      rw [if_pos hg]
      refine Ev.if_pos rfl ?_
      have hp := pieces_len 10 m
      have hm : m.length ≤ 65536 := by simp at h1; omega
      have h := rparse_l0 (pieces 10 m) (by omega) (fun l hl => by have := hp.2 l hl; omega) (pieces 10 m) [] [] [] rfl (by simp) (fun h => absurd h (pieces_ne 10 m))
      rw [List.dropLast_concat]
      exact h
    · have hg : ¬ (m ++ [x]).getLast? = some 10 := by simpa using hx
      rw [if_neg hg]
      rw [if_neg hx]
      refine Ev.if_neg (by simp) ?_
      exact Ev.now _
end Go.Proofs.YtmgeokfknehonaaDoor.Q
namespace Go.Proofs.YtmgeokfknehonaaDoor.Q
set_option linter.unusedVariables false
set_option linter.unusedSimpArgs false
set_option linter.unnecessarySimpa false
open Go.RowKit Go.Proofs.YtmgeokfknehonaaDoorW.PrintWords Go.Proofs.YtmgeokfknehonaaDoorW.PrintLast Go.Proofs.YtmgeokfknehonaaDoorW.PB Go.Proofs.YtmgeokfknehonaaDoorW.TX
theorem Of_l0 : ∀ (r p : List Fd), (p ++ r).length ≤ 1000000 → Ev (fun k => manciplelaw5_Of.l0 k ((p ++ r).map pS) (p.map rS) (p.length : Int)) ((p ++ r).map rS) := by
  intro r
  induction r with
  | nil =>
    intro p hp
    refine Ev.step (fun k => by rw [manciplelaw5_Of.l0]) ?_
    refine Ev.if_neg (by simp) ?_
    rw [List.append_nil]
    exact Ev.now _
  | cons x r ih =>
    intro p hp
    refine Ev.step (fun k => by rw [manciplelaw5_Of.l0]) ?_
    refine Ev.if_pos (by simp; omega) ?_
    refine Ev.if_pos (by omega) ?_
    refine Ev.if_pos (by simp at hp ⊢; omega) ?_
    rw [rdp_mid]
    have e : wrap64 ((p.length : Int) + 1) = ((p ++ [x]).length : Int) := by
      rw [wrap_id (by omega) (by simp at hp; omega)]; simp
    rw [e]
    have h := ih (p ++ [x]) (by simpa using hp)
    simp only [List.append_assoc, List.singleton_append, List.map_append, List.map_cons, List.map_nil] at h
    simp only [List.map_append, List.map_cons]
    exact h
theorem Of_f (l : List Fd) (hl : l.length ≤ 1000000) : Ev (fun k => manciplelaw5_Of.f k (l.map pS)) (l.map rS) := by
  refine Ev.congr (fun k => by rw [manciplelaw5_Of.f]) ?_
  exact Of_l0 l [] hl
theorem Fields_l0 : ∀ (r p : List Fd), (p ++ r).length ≤ 1000000 → Ev (fun k => manciplelaw5_Fields.l0 k ((p ++ r).map rS) ((p ++ r).map rS) (p.length : Int)) true := by
  intro r
  induction r with
  | nil =>
    intro p hp
    refine Ev.step (fun k => by rw [manciplelaw5_Fields.l0]) ?_
    refine Ev.if_neg (by simp) ?_
    exact Ev.now _
  | cons x r ih =>
    intro p hp
    refine Ev.step (fun k => by rw [manciplelaw5_Fields.l0]) ?_
    refine Ev.if_pos (by simp; omega) ?_
    refine Ev.if_pos (by omega) ?_
    refine Ev.if_pos (by simp; omega) ?_
    rw [rdr_mid]
    refine Ev.if_neg (by simp) ?_
    have e : wrap64 ((p.length : Int) + 1) = ((p ++ [x]).length : Int) := by
      rw [wrap_id (by omega) (by simp at hp; omega)]; simp
    rw [e]
    have h := ih (p ++ [x]) (by simpa using hp)
    simp only [List.append_assoc, List.singleton_append] at h
    exact h
theorem Fields_f (l : List Fd) (hl : l.length ≤ 1000000) : Ev (fun k => manciplelaw5_Fields.f k (l.map rS) (l.map rS)) true := by
  refine Ev.congr (fun k => by rw [manciplelaw5_Fields.f]) ?_
  refine Ev.if_pos rfl ?_
  exact Fields_l0 l [] hl
theorem rdL_mid {α : Type} (d : α) (p : List α) (x : α) (r : List α) : (p ++ x :: r).getD (p.length : Int).toNat d = x := by
  simp [List.getD_eq_getElem?_getD]
theorem same_l0 : ∀ (r p : List (List Fd)), (p ++ r).length ≤ 1000000 → (∀ l ∈ p ++ r, l.length ≤ 1000000) →
    Ev (fun k => manciplelaw5_same.l0 k ((p ++ r).map (·.map pS)) ((p ++ r).map (·.map rS)) (p.length : Int)) true := by
  intro r
  induction r with
  | nil =>
    intro p hp hl
    refine Ev.step (fun k => by rw [manciplelaw5_same.l0]) ?_
    refine Ev.if_neg (by simp) ?_
    exact Ev.now _
  | cons x r ih =>
    intro p hp hl
    refine Ev.step (fun k => by rw [manciplelaw5_same.l0]) ?_
    refine Ev.if_pos (by simp; omega) ?_
    refine Ev.if_pos (by omega) ?_
    have e1 : rd_L3 ((p ++ x :: r).map (·.map pS)) (p.length : Int) = x.map pS := by
      unfold rd_L3
      have := rdL_mid ([] : List S43) (p.map (·.map pS)) (x.map pS) (r.map (·.map pS))
      simpa using this
    have e2 : rd_L7 ((p ++ x :: r).map (·.map rS)) (p.length : Int) = x.map rS := by
      unfold rd_L7
      have := rdL_mid ([] : List S46) (p.map (·.map rS)) (x.map rS) (r.map (·.map rS))
      simpa using this
    have hx := hl x (by simp)
    rw [e1, e2]
    refine Ev.bind (Of_f x hx) ?_
    refine Ev.if_pos (by simp; omega) ?_
    refine Ev.bind (Fields_f x hx) ?_
    refine Ev.if_pos rfl ?_
    have e : wrap64 ((p.length : Int) + 1) = ((p ++ [x]).length : Int) := by
      rw [wrap_id (by omega) (by simp at hp; omega)]; simp
    rw [e]
    have h := ih (p ++ [x]) (by simpa using hp) (by simpa using hl)
    simp only [List.append_assoc, List.singleton_append] at h
    exact h
theorem same_f (l : List (List Fd)) (hn : l.length ≤ 1000000) (hl : ∀ x ∈ l, x.length ≤ 1000000) : Ev (fun k => manciplelaw5_same.f k (l.map (·.map pS)) (l.map (·.map rS))) true := by
  refine Ev.congr (fun k => by rw [manciplelaw5_same.f]) ?_
  refine Ev.if_pos (by simp) ?_
  exact same_l0 l [] hn hl
/-! ### Told again -/
def lineT (x : Fd) : Bs := x.1 ++ 58 :: 32 :: (x.2.1 ++ [10])
def stT (s : List Fd) : Bs := s.flatMap lineT
theorem line_B (x : Fd) : stanza_Print.line (pS x) = B (lineT x) := by
  unfold stanza_Print.line lineT
  show ((B x.1 ++ B [58, 32]) ++ B x.2.1) ++ B [10] = _
  rw [B_append, B_append, B_append]
  simp
theorem inner_f : ∀ (s : List Fd) (o : Bs), (o ++ stT s).length ≤ 1000000 → stanza_Print.inner (s.map pS) (B o) = some (B (o ++ stT s))
  | [], o, h => by simp [stanza_Print.inner, stT]
  | x :: s, o, h => by
    have e : o ++ stT (x :: s) = (o ++ lineT x) ++ stT s := by simp [stT]
    rw [e] at h ⊢
    rw [List.map_cons, stanza_Print.inner, line_B, B_size, B_size, if_pos (by simp at h; omega), B_append]
    exact inner_f s (o ++ lineT x) h
theorem outer_f : ∀ (ls : List (List Fd)) (out : List Bs), out.length + ls.length ≤ 1000000 → (∀ s ∈ ls, (stT s).length ≤ 1000000) → stanza_Print.outer (ls.map (·.map pS)) (out.map B) = some ((out ++ ls.map stT).map B)
  | [], out, _, _ => by simp [stanza_Print.outer]
  | s :: ls, out, h, hl => by
    have h1 := inner_f s [] (by simpa using hl s (by simp))
    rw [List.nil_append] at h1
    rw [List.map_cons, stanza_Print.outer, if_pos (by rw [List.length_map]; simp at h; omega)]
    have h1' : stanza_Print.inner (s.map pS) (⟨#[]⟩ : ByteArray) = some (B (stT s)) := h1
    rw [h1']
    simp only [Option.bind_some]
    have h2 := outer_f ls (out ++ [stT s]) (by simp at h ⊢; omega) (fun x hx => hl x (by simp [hx]))
    simp only [List.map_append, List.map_cons, List.map_nil, List.append_assoc, List.singleton_append] at h2 ⊢
    exact h2
def joinT : List Bs → Bs
  | [] => []
  | [p] => p
  | p :: q :: ps => p ++ 10 :: joinT (q :: ps)
theorem join_eq : ∀ l : List Bs, Lib.join l [10] = joinT l
  | [] => rfl
  | [p] => Lib.join_one p [10]
  | p :: q :: ps => by
    have ih := join_eq (q :: ps)
    rw [Lib.join_cons] at ih ⊢
    unfold joinT
    rw [← ih]
    simp [Lib.joinTail]
theorem Print_f (ls : List (List Fd)) (hn : ls.length ≤ 1000000) (hl : ∀ s ∈ ls, (stT s).length ≤ 1000000) (hj : (joinT (ls.map stT)).length ≤ 1000000) : stanza_Print.f (ls.map (·.map pS)) = some (B (joinT (ls.map stT))) := by
  unfold stanza_Print.f
  have h1 := outer_f ls [] (by simpa using hn) hl
  rw [List.map_nil, List.nil_append] at h1
  rw [h1]
  simp only [Option.bind_some]
  unfold strings_Join.f
  have e : ((ls.map stT).map B).map (·.data.toList) = ls.map stT := by
    rw [List.map_map, List.map_map]
    exact List.map_congr_left fun x _ => rfl
  rw [e, show (⟨#[10]⟩ : ByteArray).data.toList = [10] from rfl, join_eq]
  rw [if_pos ⟨by omega, by simp; omega⟩]
  rfl
end Go.Proofs.YtmgeokfknehonaaDoor.Q
namespace Go.Proofs.YtmgeokfknehonaaDoor.Q
set_option linter.unusedVariables false
set_option linter.unusedSimpArgs false
set_option linter.unnecessarySimpa false
open Go.RowKit Go.Proofs.YtmgeokfknehonaaDoorW.PrintWords Go.Proofs.YtmgeokfknehonaaDoorW.PrintLast Go.Proofs.YtmgeokfknehonaaDoorW.PB Go.Proofs.YtmgeokfknehonaaDoorW.TX
theorem known_f : Ev (fun k => manciplelaw5_known.f k) true :=
  Ev.of manciplelaw5_known.mono (k := 60) (by kernel_rfl)
theorem joinT_last : ∀ (xs : List Bs) (y z : Bs), joinT (xs ++ [y ++ z]) = joinT (xs ++ [y]) ++ z
  | [], y, z => rfl
  | [x], y, z => by simp [joinT]
  | x :: x2 :: xs, y, z => by
    have := joinT_last (x2 :: xs) y z
    simp only [List.cons_append] at this ⊢
    unfold joinT
    rw [this]
    simp
theorem joinT_snoc : ∀ (xs : List Bs) (y : Bs), xs ≠ [] → joinT (xs ++ [y]) = joinT xs ++ 10 :: y
  | [], y, h => absurd rfl h
  | [x], y, _ => rfl
  | x :: x2 :: xs, y, _ => by
    have := joinT_snoc (x2 :: xs) y (by simp)
    simp only [List.cons_append] at this ⊢
    rw [joinT, joinT, this]
    simp
theorem joinT_mem : ∀ (xs : List Bs) (y : Bs), y ∈ xs → y.length ≤ (joinT xs).length
  | [], y, h => by cases h
  | [x], y, h => by
    obtain rfl : y = x := by simpa using h
    exact Nat.le_refl _
  | x :: x2 :: xs, y, h => by
    rcases List.mem_cons.mp h with rfl | h
    · simp [joinT]
    · have := joinT_mem (x2 :: xs) y h
      rw [joinT]
      simp
      omega
theorem field_told (l u v : Bs) (h : fieldS l = some (u, v)) : l = u ++ 58 :: 32 :: v := by
  unfold fieldS at h
  split at h
  · rename_i a b w hd
    split at h
    · rename_i hc
      obtain ⟨rfl, rfl, _⟩ := hc
      injection h with h
      injection h with h1 h2
      subst h2
      rw [← h1, ← hd, List.takeWhile_append_dropWhile]
    · cases h
  · cases h
def linesT (rs : List Bs) : Bs := rs.flatMap (· ++ [10])
theorem lines_pieces : ∀ (ps : List Bs), ps ≠ [] → linesT ps = glue 10 ps ++ [10]
  | [], h => absurd rfl h
  | [p], _ => by simp [linesT, glue]
  | p :: q :: ps, _ => by
    have := lines_pieces (q :: ps) (by simp)
    unfold linesT at this ⊢
    rw [List.flatMap_cons, this]
    simp [glue]
theorem parse_told : ∀ (rs : List Bs) (i : Nat) (now : List Fd) (out ls : List (List Fd)) (n : Nat), parseS i rs now out = (ls, n, 0) →
    joinT (ls.map stT) = joinT ((out ++ [now]).map stT) ++ linesT rs
  | [], i, now, out, ls, n, h => by
    simp only [parseS, Prod.mk.injEq] at h
    rw [← h.1]
    simp [linesT]
  | l :: rs, i, now, out, ls, n, h => by
    unfold parseS at h
    by_cases h0 : l = []
    · rw [if_pos h0] at h
      by_cases h1 : now = [] ∨ rs = []
      · rw [if_pos h1] at h
        simp at h
      · rw [if_neg h1] at h
        rw [parse_told rs _ _ _ _ _ h, h0]
        rw [List.map_append (l₂ := [[]]), List.map_singleton, show stT [] = [] from rfl, joinT_snoc _ _ (by simp)]
        simp [linesT]
    · rw [if_neg h0] at h
      cases hf : fieldS l with
      | none => rw [hf] at h; simp at h
      | some uv =>
        obtain ⟨u, v⟩ := uv
        rw [hf] at h
        simp only at h
        split at h
        · simp at h
        · rw [parse_told rs _ _ _ _ _ h]
          have e : stT (now ++ [(u, v, i)]) = stT now ++ (l ++ [10]) := by
            rw [field_told l u v hf]
            simp [stT, lineT]
          rw [List.map_append, List.map_singleton, e, joinT_last]
          simp [linesT]
theorem parse_bound (N : Nat) : ∀ (rs : List Bs) (i : Nat) (now : List Fd) (out ls : List (List Fd)) (n e : Nat), parseS i rs now out = (ls, n, e) → out.length + rs.length + 1 ≤ N → now.length + rs.length ≤ N → (∀ x ∈ out, x.length ≤ N) →
    ls.length ≤ N ∧ ∀ x ∈ ls, x.length ≤ N
  | [], i, now, out, ls, n, e, h, h1, h2, h3 => by
    simp only [parseS, Prod.mk.injEq] at h
    rw [← h.1]
    refine ⟨by simp at h1 ⊢; omega, fun x hx => ?_⟩
    rcases List.mem_append.mp hx with hx | hx
    · exact h3 x hx
    · obtain rfl : x = now := by simpa using hx
      simpa using h2
  | l :: rs, i, now, out, ls, n, e, h, h1, h2, h3 => by
    simp only [List.length_cons] at h1 h2
    have nil : ∀ a b : Nat, (([], a, b) : List (List Fd) × Nat × Nat) = (ls, n, e) → ls.length ≤ N ∧ ∀ x ∈ ls, x.length ≤ N := fun a b h => by
      simp only [Prod.mk.injEq] at h
      rw [← h.1]
      exact ⟨Nat.zero_le _, fun x hx => by cases hx⟩
    unfold parseS at h
    by_cases h0 : l = []
    · rw [if_pos h0] at h
      by_cases h4 : now = [] ∨ rs = []
      · rw [if_pos h4] at h
        exact nil _ _ h
      · rw [if_neg h4] at h
        refine parse_bound N rs _ _ _ _ _ _ h (by simp; omega) (by simp; omega) (fun x hx => ?_)
        rcases List.mem_append.mp hx with hx | hx
        · exact h3 x hx
        · obtain rfl : x = now := by simpa using hx
          omega
    · rw [if_neg h0] at h
      cases hf : fieldS l with
      | none => rw [hf] at h; exact nil _ _ h
      | some uv =>
        obtain ⟨u, v⟩ := uv
        rw [hf] at h
        simp only at h
        split at h
        · exact nil _ _ h
        · exact parse_bound N rs _ _ _ _ _ _ h (by omega) (by simp; omega) h3
theorem read_bound (s : Bs) (hs : s.length ≤ 900000) : (readS s).1.length ≤ 1000000 ∧ ∀ x ∈ (readS s).1, x.length ≤ 1000000 := by
  unfold readS
  split
  · exact ⟨by simp, fun x hx => by cases hx⟩
  split
  · exact ⟨by simp, fun x hx => by cases hx⟩
  split
  · have hp := (pieces_len 10 s.dropLast).1
    have hd : s.dropLast.length ≤ s.length := by simp
    exact parse_bound 1000000 _ _ _ _ _ _ _ rfl (by simp; omega) (by simp; omega) (fun x hx => by cases hx)
  · exact ⟨by simp, fun x hx => by cases hx⟩
/-- What is read whole and told again is the text. -/
theorem read_told (s : Bs) (h : (readS s).2.2 = 0) : joinT ((readS s).1.map stT) = s := by
  unfold readS at h ⊢
  split at h
  · simp at h
  rename_i h1
  rw [if_neg h1]
  split at h
  · rename_i h2
    rw [if_pos h2, h2]
    rfl
  rename_i h2
  rw [if_neg h2]
  split at h
  · rename_i h3
    rw [if_pos h3]
    have := parse_told (pieces 10 s.dropLast) 0 [] [] (parseS 0 (pieces 10 s.dropLast) [] []).1 (parseS 0 (pieces 10 s.dropLast) [] []).2.1 (Prod.ext rfl (Prod.ext rfl h))
    rw [this, lines_pieces _ (pieces_ne 10 _), glue_pieces]
    rcases snoc_cases s with rfl | ⟨m, x, rfl⟩
    · exact absurd rfl h2
    · obtain rfl : x = 10 := by simpa using h3
      simp [joinT, stT]
  · simp at h
theorem told_f (s : Bs) (hs : s.length ≤ 900000) (h : (readS s).2.2 = 0) : stanza_Print.f ((readS s).1.map (·.map pS)) = some (B s) := by
  have ht := read_told s h
  have hb := read_bound s hs
  have := Print_f (readS s).1 hb.1 (fun x hx => by
    have := joinT_mem ((readS s).1.map stT) (stT x) (List.mem_map_of_mem hx)
    rw [ht] at this
    omega) (by rw [ht]; omega)
  rw [this, ht]
end Go.Proofs.YtmgeokfknehonaaDoor.Q
namespace Go.Proofs.YtmgeokfknehonaaDoor.Q
set_option linter.unusedVariables false
set_option linter.unusedSimpArgs false
set_option linter.unnecessarySimpa false
open Go.RowKit Go.Proofs.YtmgeokfknehonaaDoorW.PrintWords Go.Proofs.YtmgeokfknehonaaDoorW.PrintLast Go.Proofs.YtmgeokfknehonaaDoorW.PB Go.Proofs.YtmgeokfknehonaaDoorW.TX
theorem StanzaReads : ∀ (a0 : ByteArray), (a0.size ≤ 140737488351232) → ∃ k, manciplelaw5_StanzaReads.f k a0 = some true := by
  intro a0 _
  obtain ⟨s, rfl⟩ := ex_B a0
  suffices h : Ev (fun k => manciplelaw5_StanzaReads.f k (B s)) true by
    obtain ⟨K, h⟩ := h
    exact ⟨K, h K (Nat.le_refl _)⟩
  refine Ev.congr (fun k => by rw [manciplelaw5_StanzaReads.f]) ?_
  refine Ev.bind known_f ?_
  refine Ev.if_pos rfl ?_
  by_cases h1 : s.length > 5000
  · refine Ev.if_pos (by rw [B_size]; omega) ?_
    exact Ev.now _
  refine Ev.if_neg (by rw [B_size]; omega) ?_
  refine Ev.bind (Parse_f s (by omega)) ?_
  refine Ev.bind (rParse_f s (by omega)) ?_
  refine Ev.if_pos rfl ?_
  refine Ev.if_pos rfl ?_
  have hb := read_bound s (by omega)
  refine Ev.bind (same_f (readS s).1 hb.1 hb.2) ?_
  refine Ev.if_pos rfl ?_
  by_cases h2 : (readS s).2.2 = 0
  · refine Ev.if_pos (show ((readS s).2.2 : Int) = 0 by omega) ?_
    refine Ev.val_bind (told_f s (by omega) h2) ?_
    have := Ev.now (α := Bool) ((B s).toList == (B s).toList)
    rw [beq_self_eq_true] at this
    simpa using this
  · refine Ev.if_neg (show ¬ ((readS s).2.2 : Int) = 0 by omega) ?_
    exact Ev.now _
end Go.Proofs.YtmgeokfknehonaaDoor.Q
