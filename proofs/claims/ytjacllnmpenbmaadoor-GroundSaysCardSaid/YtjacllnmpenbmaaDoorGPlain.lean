/- Plain laws for the ground's phrases: parts between spaces, numbers of one to three digits, words. No program. -/
import Derived.Lib.Split
import Derived.Lib.AtoiAll
import Derived.Lib.ItoaNum
namespace Go.Proofs.YtjacllnmpenbmaaDoor
open Go

/-- The parts of a text between spaces. -/
def splitL : List UInt8 → List (List UInt8)
  | [] => [[]]
  | c :: r => if c = 32 then [] :: splitL r else match splitL r with
    | [] => [[c]]
    | h :: t => (c :: h) :: t
theorem splitL_ne (l : List UInt8) : splitL l ≠ [] := by
  cases l with
  | nil => simp [splitL]
  | cons c r =>
    unfold splitL
    split
    · simp
    · split <;> simp
theorem splitL_none : ∀ (l : List UInt8), (32 : UInt8) ∉ l → splitL l = [l]
  | [], _ => rfl
  | c :: r, h => by
    simp only [List.mem_cons, not_or] at h
    unfold splitL
    rw [if_neg (Ne.symm h.1), splitL_none r h.2]
theorem splitL_app : ∀ (a r : List UInt8), (32 : UInt8) ∉ a → splitL (a ++ 32 :: r) = a :: splitL r
  | [], r, _ => by simp [splitL]
  | c :: a, r, h => by
    simp only [List.mem_cons, not_or] at h
    rw [List.cons_append, splitL, if_neg (Ne.symm h.1), splitL_app a r h.2]

theorem splitK_splitL : ∀ (n : Nat) (l : List UInt8), l.length ≤ n → Lib.splitK [32] 0 (Lib.count l [32]) l = splitL l := by
  intro n
  induction n with
  | zero =>
    intro l h
    have : l = [] := List.eq_nil_of_length_eq_zero (by omega)
    subst this
    rfl
  | succ n ih =>
    intro l h
    have hi := Lib.index_one l 32
    rcases Int.lt_or_le (Lib.indexByte l 32) 0 with h0 | h0
    · have hge := Lib.indexByte_ge l 32
      have hm : Lib.indexByte l 32 = -1 := by omega
      have hmem : (32 : UInt8) ∉ l := by
        intro hm'
        obtain ⟨k, hk⟩ := List.mem_iff_getElem?.1 hm'
        exact Lib.indexByte_none hm k hk
      rw [hm] at hi
      rw [Lib.count_miss hi, splitL_none l hmem]
      rfl
    · obtain ⟨i, hii⟩ : ∃ i : Nat, Lib.indexByte l 32 = i := ⟨(Lib.indexByte l 32).toNat, by omega⟩
      obtain ⟨h1, h2⟩ := Lib.indexByte_some hii
      have hil : i < l.length := (List.getElem?_eq_some_iff.1 h1).1
      rw [hii] at hi
      have hl : l = l.take i ++ 32 :: l.drop (i + 1) := by
        have := List.getElem?_eq_some_iff.1 h1
        obtain ⟨hlt, he⟩ := this
        conv => lhs; rw [← List.take_append_drop i l, List.drop_eq_getElem_cons hlt, he]
      have hmem : (32 : UInt8) ∉ l.take i := by
        intro hm'
        obtain ⟨k, hk⟩ := List.mem_iff_getElem?.1 hm'
        rw [List.getElem?_take] at hk
        split at hk
        · exact h2 k (by assumption) hk
        · cases hk
      have hc : Lib.count l [32] = 1 + Lib.count (l.drop (i + 1)) [32] := by
        have := Lib.count_hit (s := l) (sub := [32]) (i := i) (by simp) hi
        simpa using this
      rw [hc, Nat.add_comm 1, Lib.splitK]
      have hne : ¬ (Lib.index l [32] == -1) = true := fun e => by have := beq_iff_eq.1 e; omega
      rw [if_neg hne, hi]
      simp only [Int.toNat_natCast, Nat.add_zero, List.length_cons, List.length_nil, Nat.zero_add]
      rw [ih (l.drop (i + 1)) (by simp; omega)]
      conv => rhs; rw [hl]
      rw [splitL_app _ _ hmem]
/-- What strings.Split hands back, by bytes. -/
theorem splitB_splitL (s : ByteArray) : (Lib.splitB ⟨#[32]⟩ 0 (Lib.countB s ⟨#[32]⟩) s).map (·.data.toList) = splitL s.data.toList := by
  rw [Lib.splitB_data]
  exact splitK_splitL _ _ (Nat.le_refl _)

/-- A number of one to three digits, without a 0 ahead, up to 255. -/
def numL (l : List UInt8) : Option Nat :=
  if l.length < 1 ∨ 3 < l.length ∨ (l.head? = some 48 ∧ 1 < l.length) then none
  else if l.all (fun c => 48 ≤ c && c ≤ 57) then
    let n := l.foldl (fun n c => 10 * n + (c.toNat - 48)) 0
    if 255 < n then none else some n
  else none
/-- What the program's number asks. -/
def numG (l : List UInt8) : Option Nat :=
  match Lib.atoiAll l with
  | .ok v => if 0 ≤ v ∧ v ≤ 255 ∧ Lib.itoa v = l then some v.toNat else none
  | _ => none

/-- The digits of a number below 1000. -/
def dec3 (n : Nat) : List UInt8 :=
  if n < 10 then [UInt8.ofNat (48 + n)] else if n < 100 then [UInt8.ofNat (48 + n / 10), UInt8.ofNat (48 + n % 10)]
  else [UInt8.ofNat (48 + n / 100), UInt8.ofNat (48 + n / 10 % 10), UInt8.ofNat (48 + n % 10)]
theorem decDigits_dec3 (n : Nat) (h : n < 1000) : Lib.decDigits n = dec3 n := by
  unfold dec3
  split
  · rename_i h1; rw [Lib.decDigits, dif_pos h1]
  · rename_i h1
    split
    · rename_i h2
      rw [Lib.decDigits, dif_neg h1, Lib.decDigits, dif_pos (by omega)]
      rfl
    · rename_i h2
      rw [Lib.decDigits, dif_neg h1, Lib.decDigits, dif_neg (by omega), Lib.decDigits, dif_pos (by omega), Nat.div_div_eq_div_mul]
      rfl
theorem numL_dec3 : ∀ n : Fin 256, numL (dec3 n.val) = some n.val := by decide +kernel
theorem atoi_dec3 : ∀ n : Fin 256, (match Lib.atoiAll (dec3 n.val) with | .ok v => decide (v = (n.val : Int)) | _ => false) = true := by decide +kernel
theorem digit_of {c : UInt8} (h : (48 ≤ c && c ≤ 57) = true) : ∃ x, x < 10 ∧ c.toNat = 48 + x ∧ c = UInt8.ofNat (48 + x) := by
  simp [UInt8.le_iff_toNat_le] at h
  refine ⟨c.toNat - 48, by omega, by omega, ?_⟩
  rw [show 48 + (c.toNat - 48) = c.toNat by omega, UInt8.ofNat_toNat]
theorem numL_inv {l : List UInt8} {n : Nat} (h : numL l = some n) : n ≤ 255 ∧ l = dec3 n := by
  unfold numL at h
  split at h
  · cases h
  rename_i h1
  split at h
  case isFalse => cases h
  rename_i h2
  simp only [] at h
  split at h
  · cases h
  rename_i h3
  have h4 := Option.some.inj h
  refine ⟨by omega, ?_⟩
  match l, h1, h2, h3, h4 with
  | [], h1, _, _, _ => simp at h1
  | [a], _, h2, _, h4 =>
    simp only [List.all_cons, List.all_nil, Bool.and_true] at h2
    obtain ⟨x, hx, ha, ha'⟩ := digit_of h2
    simp only [List.foldl_cons, List.foldl_nil] at h4
    have : n = x := by omega
    subst this
    unfold dec3
    rw [if_pos hx, ha']
  | [a, b], h1, h2, _, h4 =>
    simp only [List.all_cons, List.all_nil, Bool.and_true, Bool.and_eq_true] at h2
    obtain ⟨x, hx, ha, ha'⟩ := digit_of (by simpa using h2.1)
    obtain ⟨y, hy, hb, hb'⟩ := digit_of (by simpa using h2.2)
    simp only [List.foldl_cons, List.foldl_nil] at h4
    have hx0 : x ≠ 0 := by
      rintro rfl
      apply h1
      right; right
      simp [ha']
    have hn : n = 10 * x + y := by omega
    unfold dec3
    rw [if_neg (by omega), if_pos (by omega), ha', hb', show n / 10 = x by omega, show n % 10 = y by omega]
  | [a, b, c], h1, h2, _, h4 =>
    simp only [List.all_cons, List.all_nil, Bool.and_true, Bool.and_eq_true] at h2
    obtain ⟨x, hx, ha, ha'⟩ := digit_of (by simpa using h2.1)
    obtain ⟨y, hy, hb, hb'⟩ := digit_of (by simpa using h2.2.1)
    obtain ⟨z, hz, hc, hc'⟩ := digit_of (by simpa using h2.2.2)
    simp only [List.foldl_cons, List.foldl_nil] at h4
    have hx0 : x ≠ 0 := by
      rintro rfl
      apply h1
      right; right
      simp [ha']
    have hn : n = 100 * x + 10 * y + z := by omega
    unfold dec3
    rw [if_neg (by omega), if_neg (by omega), ha', hb', hc', show n / 100 = x by omega, show n / 10 % 10 = y by omega, show n % 10 = z by omega]
  | a :: b :: c :: d :: r, h1, _, _, _ => exact absurd (by right; left; simp) h1
theorem numL_dec (n : Nat) (h : n < 256) : numL (Lib.decDigits n) = some n := by
  rw [decDigits_dec3 n (by omega)]
  exact numL_dec3 ⟨n, h⟩
theorem itoa_nat (n : Nat) : Lib.itoa (n : Int) = Lib.decDigits n := by
  unfold Lib.itoa
  rw [if_neg (by omega)]
  simp
theorem numG_numL (l : List UInt8) : numG l = numL l := by
  cases h : numL l with
  | some n =>
    obtain ⟨hn, hl⟩ := numL_inv h
    have ha := atoi_dec3 ⟨n, by omega⟩
    simp only [← hl] at ha
    unfold numG
    cases hat : Lib.atoiAll l with
    | ok v =>
      rw [hat] at ha
      have hv : v = (n : Int) := by simpa using ha
      subst hv
      simp only []
      rw [if_pos ⟨by omega, by omega, by rw [itoa_nat, decDigits_dec3 n (by omega), hl]⟩]
      simp
    | «syntax» => rw [hat] at ha; cases ha
    | range => rw [hat] at ha; cases ha
  | none =>
    unfold numG
    split
    · rename_i v hv
      split
      · rename_i hc
        obtain ⟨h0, h1, h2⟩ := hc
        obtain ⟨n, rfl⟩ := Int.eq_ofNat_of_zero_le h0
        rw [itoa_nat] at h2
        rw [← h2, numL_dec n (by omega)] at h
        cases h
      · rfl
    · rfl

/-- A word: its letters, its service, its sub, how many numbers. -/
structure Wrd where
  name : List UInt8
  sv : Nat
  sub : Nat
  n : Nat
instance : DecidableEq Wrd := fun a b => decidable_of_iff (a.name = b.name ∧ a.sv = b.sv ∧ a.sub = b.sub ∧ a.n = b.n) (by cases a; cases b; simp)
/-- The words, in the document's order. -/
def wrds : List Wrd := [⟨[112, 105, 110, 103], 17, 1, 0⟩, ⟨[104, 111, 117, 115, 101], 3, 27, 0⟩, ⟨[119, 97, 116, 99, 104], 12, 1, 1⟩, ⟨[114, 101, 115, 116], 12, 2, 1⟩, ⟨[111, 110], 19, 4, 1⟩, ⟨[111, 102, 102], 19, 5, 1⟩, ⟨[100, 114, 111, 112], 19, 2, 1⟩, ⟨[114, 111, 119], 19, 1, 4⟩,
  ⟨[116, 97, 98, 108, 101], 19, 8, 0⟩, ⟨[110, 111, 116, 97, 98, 108, 101], 19, 9, 0⟩, ⟨[109, 111, 100, 101], 128, 1, 1⟩, ⟨[104, 101, 97, 108], 128, 2, 1⟩, ⟨[102, 97, 105, 108], 128, 3, 1⟩, ⟨[104, 111, 108, 100], 128, 4, 1⟩, ⟨[102, 114, 101, 101], 128, 5, 1⟩, ⟨[114, 101, 116, 114, 121], 128, 6, 1⟩, ⟨[109, 117, 116, 101], 128, 7, 1⟩, ⟨[117, 110, 109, 117, 116, 101], 128, 8, 1⟩]
def byName (h : List UInt8) (k : Nat) (w : Wrd) : Bool := decide (w.name = h) && decide (w.n = k)
def byKind (sv sub : Nat) (w : Wrd) : Bool := decide (w.sv = sv) && decide (w.sub = sub)
/-- All numbers, or none. -/
def numsL : List (List UInt8) → Option (List Nat)
  | [] => some []
  | x :: r => match numL x with
    | none => none
    | some n => match numsL r with
      | none => none
      | some ns => some (n :: ns)
/-- What a phrase says. -/
def sayS (l : List UInt8) : Option (Nat × Nat × List Nat) :=
  match splitL l with
  | [] => none
  | h :: t => match numsL t with
    | none => none
    | some ns => match wrds.find? (byName h ns.length) with
      | none => none
      | some w => some (w.sv, w.sub, ns)
def numbersL (s : List UInt8) (ns : List Nat) : List UInt8 := ns.foldl (fun s n => s ++ 32 :: Lib.decDigits n) s
/-- The phrase of a command. -/
def phrS (sv sub : Nat) (ns : List Nat) : Option (List UInt8) :=
  match wrds.find? (byKind sv sub) with
  | none => none
  | some w => if w.n = ns.length then some (numbersL w.name ns) else none
theorem wrds_names : ∀ a ∈ wrds, ∀ b ∈ wrds, a.name = b.name → a = b := by decide
theorem wrds_kinds : ∀ a ∈ wrds, ∀ b ∈ wrds, a.sv = b.sv → a.sub = b.sub → a = b := by decide
theorem wrds_letters : ∀ a ∈ wrds, (32 : UInt8) ∉ a.name ∧ a.name ≠ [] ∧ a.name.length ≤ 8 ∧ a.n ≤ 4 ∧ a.sv < 256 ∧ a.sub < 256 := by decide
theorem dec_nospace (n : Nat) (h : n < 256) : (32 : UInt8) ∉ Lib.decDigits n ∧ (Lib.decDigits n).length ≤ 3 := by
  rw [decDigits_dec3 n (by omega)]
  have : ∀ n : Fin 256, (32 : UInt8) ∉ dec3 n.val ∧ (dec3 n.val).length ≤ 3 := by decide +kernel
  exact this ⟨n, h⟩
theorem numsL_length : ∀ {t : List (List UInt8)} {ns : List Nat}, numsL t = some ns → ns.length = t.length
  | [], ns, h => by simp [numsL] at h; subst h; rfl
  | x :: r, ns, h => by
    unfold numsL at h
    split at h
    · cases h
    · split at h
      · cases h
      · rename_i ns' hr
        have := numsL_length hr
        cases h
        simp [this]
theorem numsL_le : ∀ {t : List (List UInt8)} {ns : List Nat}, numsL t = some ns → ∀ n ∈ ns, n < 256
  | [], ns, h => by simp [numsL] at h; subst h; simp
  | x :: r, ns, h => by
    unfold numsL at h
    split at h
    · cases h
    · rename_i m hm
      split at h
      · cases h
      · rename_i ns' hr
        cases h
        intro n hn
        rcases List.mem_cons.1 hn with rfl | hn
        · have := (numL_inv hm).1; omega
        · exact numsL_le hr n hn
theorem numbersL_split : ∀ (ns : List Nat) (s : List UInt8), (32 : UInt8) ∉ s → (∀ n ∈ ns, n < 256) → splitL (numbersL s ns) = s :: ns.map Lib.decDigits := by
  have key : ∀ (ns : List Nat) (p s : List UInt8), (32 : UInt8) ∉ s → (∀ n ∈ ns, n < 256) → ∃ r, numbersL (p ++ s) ns = p ++ r ∧ splitL r = s :: ns.map Lib.decDigits := by
    intro ns
    induction ns with
    | nil => intro p s hs _; exact ⟨s, rfl, splitL_none s hs⟩
    | cons n ns ih =>
      intro p s hs hn
      obtain ⟨r, h1, h2⟩ := ih (p ++ s ++ [32]) (Lib.decDigits n) (dec_nospace n (hn n (by simp))).1 (fun m hm => hn m (by simp [hm]))
      refine ⟨s ++ 32 :: r, ?_, ?_⟩
      · show numbersL ((p ++ s) ++ 32 :: Lib.decDigits n) ns = _
        rw [show (p ++ s) ++ 32 :: Lib.decDigits n = (p ++ s ++ [32]) ++ Lib.decDigits n by simp, h1]
        simp
      · rw [splitL_app s r hs, h2]
        rfl
  intro ns s hs hn
  obtain ⟨r, h1, h2⟩ := key ns [] s hs hn
  simp only [List.nil_append] at h1
  rw [h1]
  exact h2
theorem numsL_dec : ∀ (ns : List Nat), (∀ n ∈ ns, n < 256) → numsL (ns.map Lib.decDigits) = some ns
  | [], _ => rfl
  | n :: ns, h => by
    rw [List.map_cons, numsL, numL_dec n (h n (by simp)), numsL_dec ns (fun m hm => h m (by simp [hm]))]
/-- What is said by a phrase is what the phrase was made of. -/
theorem say_phr {sv sub : Nat} {ns : List Nat} {s : List UInt8} (hn : ∀ n ∈ ns, n < 256) (h : phrS sv sub ns = some s) : sayS s = some (sv, sub, ns) := by
  unfold phrS at h
  split at h
  · cases h
  rename_i w hw
  split at h
  case isFalse => cases h
  rename_i hwn
  have hs := Option.some.inj h
  have hmem := List.mem_of_find?_eq_some hw
  have hk := List.find?_some hw
  simp [byKind] at hk
  have hlet := wrds_letters w hmem
  have hsp := numbersL_split ns w.name hlet.1 hn
  rw [hs] at hsp
  unfold sayS
  rw [hsp]
  simp only [numsL_dec ns hn]
  have hf : wrds.find? (byName w.name ns.length) = some w := by
    cases hf : wrds.find? (byName w.name ns.length) with
    | none =>
      have := List.find?_eq_none.1 hf w hmem
      exact absurd (by simp [byName, hwn]) this
    | some w2 =>
      have h2 := List.find?_some hf
      simp [byName] at h2
      rw [wrds_names w2 (List.mem_of_find?_eq_some hf) w hmem h2.1]
  rw [hf]
  simp [hk.1, hk.2]
theorem numbersL_length (ns : List Nat) (s : List UInt8) (hn : ∀ n ∈ ns, n < 256) : (numbersL s ns).length ≤ s.length + 4 * ns.length := by
  induction ns generalizing s with
  | nil => simp [numbersL]
  | cons n ns ih =>
    have h1 := ih (s ++ 32 :: Lib.decDigits n) (fun m hm => hn m (by simp [hm]))
    have h2 := (dec_nospace n (hn n (by simp))).2
    show (numbersL (s ++ 32 :: Lib.decDigits n) ns).length ≤ _
    simp at h1 ⊢
    omega
theorem phrS_ne {sv sub : Nat} {ns : List Nat} {s : List UInt8} (h : phrS sv sub ns = some s) : s ≠ [] ∧ ns.length ≤ 4 := by
  unfold phrS at h
  split at h
  · cases h
  rename_i w hw
  split at h
  case isFalse => cases h
  rename_i hwn
  have hs := Option.some.inj h
  have hlet := wrds_letters w (List.mem_of_find?_eq_some hw)
  refine ⟨?_, by omega⟩
  have : ∀ (ns : List Nat) (s : List UInt8), s ≠ [] → numbersL s ns ≠ [] := by
    intro ns
    induction ns with
    | nil => intro s h; exact h
    | cons n ns ih => intro s h; exact ih _ (by simp)
  rw [← hs]
  exact this ns w.name hlet.2.1
end Go.Proofs.YtjacllnmpenbmaaDoor
