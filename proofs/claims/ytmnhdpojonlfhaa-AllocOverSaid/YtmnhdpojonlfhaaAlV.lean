/- What is used in one of two books: the plain law of Over. -/
import Derived.Test.YtmnhdpojonlfhaaAlE
namespace Go.Proofs.Ytmnhdpojonlfhaa
open Go.RowKit

/-- a state whose runs are runs -/
structure Gd (gs : Gs) (secs : Int) (sn : SN) : Prop where
  slen : sn.length = gs.length
  size : ∀ g, g < gs.length → (sn.getD g sD).1 = (sect (gs.getD g (0, 0)) secs).toNat
  good : ∀ g, g < gs.length → Good (sn.getD g sD).1 (sn.getD g sD).2
/-- is a sector used? -/
def UsG (sn : SN) (g x : Nat) : Prop := Us (sn.getD g sD).2 x
section
variable {gs : Gs} {secs : Int} {sn : SN}
theorem Inv.gd {es : List Nat} (h : Inv gs secs sn es) : Gd gs secs sn := ⟨h.slen, h.size, h.good⟩
theorem Gd.set (h : Gd gs secs sn) {g : Nat} {rs : List (Nat × Nat)} (hg : g < gs.length) (hr : Good (sn.getD g sD).1 rs) : Gd gs secs (setG sn g rs) := by
  have hl : g < sn.length := by rw [h.slen]; exact hg
  refine ⟨by rw [setG_length]; exact h.slen, fun k hk => ?_, fun k hk => ?_⟩
  · by_cases e : k = g
    · subst e; rw [setG_same hl]; exact h.size _ hk
    · rw [setG_other e]; exact h.size _ hk
  · by_cases e : k = g
    · subst e; rw [setG_same hl]; exact hr
    · rw [setG_other e]; exact h.good _ hk
/-- states alike in what is used are one -/
theorem Gd.uniq {sn' : SN} (h : Gd gs secs sn) (h' : Gd gs secs sn') (hu : ∀ g x, g < gs.length → (UsG sn g x ↔ UsG sn' g x)) : sn = sn' := by
  apply List.ext_getElem
  · rw [h.slen, h'.slen]
  · intro i h1 h2
    have hi : i < gs.length := by rw [← h.slen]; exact h1
    have a := good_uniq (h.good i hi) (h'.good i hi) (fun x => hu i x hi)
    have b := (h.size i hi).trans (h'.size i hi).symm
    rw [List.getD_eq_getElem?_getD, List.getElem?_eq_getElem h1, List.getD_eq_getElem?_getD, List.getElem?_eq_getElem h2] at a b
    simp only [Option.getD_some] at a b
    exact Prod.ext b a

/-- a sector is taken, if it is free -/
def tk1 (size : Nat) (rs : List (Nat × Nat)) (a : Nat) : List (Nat × Nat) := (takeS size rs (a : Nat) 1).2
theorem tk1_spec {size : Nat} {rs : List (Nat × Nat)} (h : Good size rs) {a : Nat} (ha : a < size) : Good size (tk1 size rs a) ∧ (∀ x, Us (tk1 size rs a) x ↔ Us rs x ∨ x = a) ∧ sumR rs ≤ sumR (tk1 size rs a) := by
  refine ⟨takeS_good h _ _, ?_⟩
  unfold tk1
  rcases takeS_spec h (a : Nat) 1 with ⟨hn, _⟩ | ⟨_, ⟨x, x1, x2, x3⟩, e⟩ | ⟨_, _, _, hus, hs⟩
  · exact absurd ⟨by omega, by omega, by omega, by omega⟩ hn
  · rw [e]
    simp only [Int.toNat_natCast] at x1 x2
    have : x = a := by have h1 : (1 : Int).toNat = 1 := rfl; omega
    subst this
    refine ⟨fun y => ?_, Nat.le_refl _⟩
    constructor
    · exact .inl
    · rintro (h | rfl)
      · exact h
      · exact x3
  · simp only [Int.toNat_natCast] at hus hs
    refine ⟨fun y => ?_, by omega⟩
    rw [hus]
    have h1 : (1 : Int).toNat = 1 := rfl
    constructor
    · rintro (h | h)
      · exact .inl h
      · exact .inr (by omega)
    · rintro (h | h)
      · exact .inl h
      · exact .inr (by omega)
/-- n sectors from one on are taken -/
def tkN (size : Nat) (rs : List (Nat × Nat)) (a : Nat) : Nat → List (Nat × Nat)
  | 0 => rs
  | n + 1 => tk1 size (tkN size rs a n) (a + n)
theorem tkN_spec {size : Nat} {rs : List (Nat × Nat)} (h : Good size rs) {a : Nat} : ∀ n, a + n ≤ size → Good size (tkN size rs a n) ∧ (∀ x, Us (tkN size rs a n) x ↔ Us rs x ∨ (a ≤ x ∧ x < a + n)) ∧ sumR rs ≤ sumR (tkN size rs a n)
  | 0, _ => ⟨h, fun x => by simp only [tkN]; constructor; exact .inl; rintro (h | h); exact h; omega, Nat.le_refl _⟩
  | n + 1, hn => by
    obtain ⟨a1, a2, a3⟩ := tkN_spec (a := a) h n (by omega)
    obtain ⟨b1, b2, b3⟩ := tk1_spec a1 (a := a + n) (by omega)
    refine ⟨b1, fun x => ?_, Nat.le_trans a3 b3⟩
    simp only [tkN]
    rw [b2, a2]
    constructor
    · rintro ((h | h) | h)
      · exact .inl h
      · exact .inr (by omega)
      · exact .inr (by omega)
    · rintro (h | h)
      · exact .inl (.inl h)
      · by_cases e : x = a + n
        · exact .inr e
        · exact .inl (.inr (by omega))
/-- some runs are taken -/
def tkR (size : Nat) (rs : List (Nat × Nat)) : List (Nat × Nat) → List (Nat × Nat)
  | [] => rs
  | r :: l => tkR size (tkN size rs r.1 r.2) l
theorem tkR_snoc (size : Nat) : ∀ (l : List (Nat × Nat)) (rs : List (Nat × Nat)) (r : Nat × Nat), tkR size rs (l ++ [r]) = tkN size (tkR size rs l) r.1 r.2
  | [], _, _ => rfl
  | _ :: l, rs, r => tkR_snoc size l _ r
theorem tkR_spec {size : Nat} : ∀ (l : List (Nat × Nat)) (rs : List (Nat × Nat)), Good size rs → (∀ r ∈ l, r.1 + r.2 ≤ size) → Good size (tkR size rs l) ∧ (∀ x, Us (tkR size rs l) x ↔ Us rs x ∨ Us l x) ∧ sumR rs ≤ sumR (tkR size rs l)
  | [], rs, h, _ => ⟨h, fun x => by simp only [tkR]; constructor; exact .inl; rintro (h | h); exact h; exact absurd h (Us_nil x), Nat.le_refl _⟩
  | r :: l, rs, h, hl => by
    obtain ⟨a1, a2, a3⟩ := tkN_spec h r.2 (hl r (by simp))
    obtain ⟨b1, b2, b3⟩ := tkR_spec l _ a1 (fun q hq => hl q (by simp [hq]))
    refine ⟨b1, fun x => ?_, Nat.le_trans a3 b3⟩
    simp only [tkR]
    rw [b2, a2, Us_cons]
    constructor
    · rintro ((h | h) | h)
      · exact .inl h
      · exact .inr (.inl h)
      · exact .inr (.inr h)
    · rintro (h | h | h)
      · exact .inl (.inl h)
      · exact .inl (.inr h)
      · exact .inr h
/-- the first groups of a state over another one's -/
def ovA (sn sb : SN) : Nat → SN
  | 0 => sn
  | g + 1 => setG (ovA sn sb g) g (tkR ((ovA sn sb g).getD g sD).1 ((ovA sn sb g).getD g sD).2 (sb.getD g sD).2)
theorem ovA_length (sn sb : SN) : ∀ k, (ovA sn sb k).length = sn.length
  | 0 => rfl
  | k + 1 => by simp only [ovA, setG_length]; exact ovA_length sn sb k
theorem ovA_get (sn sb : SN) : ∀ k g, k ≤ sn.length → (ovA sn sb k).getD g sD = if g < k then ((sn.getD g sD).1, tkR (sn.getD g sD).1 (sn.getD g sD).2 (sb.getD g sD).2) else sn.getD g sD
  | 0, g, _ => by simp [ovA]
  | k + 1, g, hk => by
    have hl : k < (ovA sn sb k).length := by rw [ovA_length]; omega
    have ih := ovA_get sn sb k k (by omega)
    rw [if_neg (by omega)] at ih
    simp only [ovA]
    by_cases e : g = k
    · subst e
      rw [setG_same hl, ih, if_pos (by omega)]
    · rw [setG_other e, ovA_get sn sb k g (by omega)]
      by_cases h : g < k
      · rw [if_pos h, if_pos (by omega)]
      · rw [if_neg h, if_neg (by omega)]
theorem ovA_spec {sb : SN} (h : Gd gs secs sn) (hb : Gd gs secs sb) : Gd gs secs (ovA sn sb gs.length) ∧ (∀ g x, g < gs.length → (UsG (ovA sn sb gs.length) g x ↔ UsG sn g x ∨ UsG sb g x)) ∧ leftA (ovA sn sb gs.length) ≤ leftA sn := by
  have key : ∀ g, g < gs.length → (ovA sn sb gs.length).getD g sD = ((sn.getD g sD).1, tkR (sn.getD g sD).1 (sn.getD g sD).2 (sb.getD g sD).2) := fun g hg => by
    rw [ovA_get sn sb gs.length g (by rw [h.slen]; exact Nat.le_refl _), if_pos hg]
  have sp : ∀ g, g < gs.length → _ := fun g hg => tkR_spec (sb.getD g sD).2 (sn.getD g sD).2 (h.good g hg) (fun r hr => by
    have := ((hb.good g hg).1 r hr).2
    rw [hb.size g hg] at this
    rw [h.size g hg]
    exact this)
  refine ⟨⟨by rw [ovA_length]; exact h.slen, fun g hg => by rw [key g hg]; exact h.size g hg, fun g hg => by rw [key g hg]; exact (sp g hg).1⟩, fun g x hg => ?_, ?_⟩
  · unfold UsG
    rw [key g hg]
    exact (sp g hg).2.1 x
  · have : ∀ k, k ≤ gs.length → leftA (ovA sn sb k) ≤ leftA sn := by
      intro k
      induction k with
      | zero => intro _; exact Int.le_refl _
      | succ k ih =>
        intro hk
        have i1 := ih (by omega)
        have hl : k < (ovA sn sb k).length := by rw [ovA_length, h.slen]; omega
        have e := leftA_set (sn := ovA sn sb k) (g := k) (rs := tkR ((ovA sn sb k).getD k sD).1 ((ovA sn sb k).getD k sD).2 (sb.getD k sD).2) hl
        have hk2 := ovA_get sn sb k k (by rw [h.slen]; omega)
        rw [if_neg (by omega)] at hk2
        have hs := (sp k (by omega)).2.2
        simp only [ovA]
        rw [hk2] at e ⊢
        omega
    exact this _ (Nat.le_refl _)
/-- Over answers the same, whichever of both is first -/
theorem ovA_comm {sb : SN} (h : Gd gs secs sn) (hb : Gd gs secs sb) : ovA sn sb gs.length = ovA sb sn gs.length := by
  obtain ⟨a1, a2, _⟩ := ovA_spec h hb
  obtain ⟨b1, b2, _⟩ := ovA_spec hb h
  exact a1.uniq b1 fun g x hg => by rw [a2 g x hg, b2 g x hg]; exact Or.comm

/-- what is dropped in one state is dropped in another one where more is used -/
theorem eachGo_mono (size : Int) : ∀ (pl : List (Nat × Nat)) (sn sb : SN), Gd gs secs sn → Gd gs secs sb → (∀ x ∈ pl, sOk gs secs (stOf gs secs size x) ∧ 0 ≤ takesI gs secs x.1 size) → (pl.map (stOf gs secs size)).Pairwise Dis →
    (∀ x ∈ pl, ∀ y, sHas (stOf gs secs size x) x.1 y → UsG sb x.1 y → UsG sn x.1 y) → (eachGo freeS gs secs size pl sb).1 = 0 → (eachGo freeS gs secs size pl sn).1 = 0
  | [], _, _, _, _, _, _, _, _ => rfl
  | x :: r, sn, sb, h, hb, ho, hp, hu, h0 => by
    obtain ⟨o1, o2⟩ := ho x (by simp)
    have hx := o1.lt
    have et : ((takesI gs secs x.1 size).toNat : Int) = takesI gs secs x.1 size := Int.toNat_of_nonneg o2
    obtain ⟨t, ht⟩ : ∃ t, t = (takesI gs secs x.1 size).toNat := ⟨_, rfl⟩
    have htI : takesI gs secs x.1 size = (t : Int) := by rw [ht]; exact et.symm
    simp only [List.map_cons, List.pairwise_cons] at hp
    unfold eachGo at h0 ⊢
    rw [htI] at h0 ⊢
    simp only [stOf] at hx
    have hsx : ∀ y, sHas (stOf gs secs size x) x.1 y ↔ x.2 ≤ y ∧ y < x.2 + t := fun y => by unfold sHas stOf; dsimp only; rw [← ht]; exact ⟨fun h => h.2, fun h => ⟨rfl, h⟩⟩
    have hmy : May (sb.getD x.1 sD).1 (x.2 : Nat) (t : Nat) := by
      have a := o1.top
      have b := o1.pos
      simp only [stOf] at a b
      rw [← ht] at a b
      unfold May
      rw [hb.size _ hx]
      omega
    have hmy2 : May (sn.getD x.1 sD).1 (x.2 : Nat) (t : Nat) := by rw [h.size _ hx, ← hb.size _ hx]; exact hmy
    rcases freeS_spec (hb.good _ hx) (x.2 : Nat) (t : Nat) with ⟨hn, _⟩ | ⟨_, _, e⟩ | ⟨_, hall, e0, hus, _⟩
    · exact absurd hmy hn
    · rw [e] at h0; simp at h0
    · rw [if_pos e0] at h0
      simp only [Int.toNat_natCast] at hall hus
      rcases freeS_spec (h.good _ hx) (x.2 : Nat) (t : Nat) with ⟨hn, _⟩ | ⟨_, ⟨y, y1, y2, y3⟩, _⟩ | ⟨_, _, f0, hus2, _⟩
      · exact absurd hmy2 hn
      · simp only [Int.toNat_natCast] at y1 y2
        exact absurd (hu x (by simp) y ((hsx y).2 ⟨y1, y2⟩) (hall y y1 y2)) y3
      · rw [if_pos f0]
        simp only [Int.toNat_natCast] at hus2
        refine eachGo_mono size r _ _ (h.set hx (freeS_good (h.good _ hx) _ _)) (hb.set hx (freeS_good (hb.good _ hx) _ _)) (fun z hz => ho z (by simp [hz])) hp.2 (fun z hz y hy hub => ?_) h0
        have hd := hp.1 _ (List.mem_map_of_mem (f := stOf gs secs size) hz)
        have h1 := hu z (by simp [hz]) y hy
        unfold UsG at hub h1 ⊢
        by_cases e : z.1 = x.1
        · have hlb : x.1 < sb.length := by rw [hb.slen]; exact hx
          have hln : x.1 < sn.length := by rw [h.slen]; exact hx
          rw [e] at hub h1 ⊢
          rw [setG_same hlb] at hub
          rw [setG_same hln]
          have h2 := (hus y).1 hub
          refine (hus2 y).2 ⟨h1 h2.1, fun hc => ?_⟩
          refine hd x.1 y ((hsx y).2 hc) ?_
          rw [← e]
          exact hy
        · rw [setG_other e] at hub ⊢
          exact h1 hub
theorem drop_mono {sb : SN} {p : PtrT} (h : Gd gs secs sn) (hb : Gd gs secs sb) (hu : ∀ g x, g < gs.length → UsG sb g x → UsG sn g x) (h0 : (eachA freeS gs secs sb p).1 = 0) : (eachA freeS gs secs sn p).1 = 0 := by
  unfold eachA at h0 ⊢
  by_cases hr : ptrRight gs secs p = true
  · rw [if_pos hr] at h0 ⊢
    obtain ⟨a1, a2⟩ := ptrRight_strs hr
    have hb0 : (eachGo freeS gs secs p.size (plN p) sb).1 = 0 := by
      apply Classical.byContradiction
      intro hne
      rw [if_neg hne] at h0
      exact hne h0
    have := eachGo_mono p.size (plN p) sn sb h hb (fun x hx => ⟨a1 _ (List.mem_map_of_mem hx), plN_takes hr x hx⟩) a2 (fun x hx y _ hub => hu x.1 y (a1 _ (List.mem_map_of_mem hx)).lt hub) hb0
    rw [if_pos this]
    exact this
  · rw [if_neg hr] at h0; simp at h0
/-- marks keep a state's runs runs -/
theorem eachGo_gd (size : Int) (op : Nat → List (Nat × Nat) → Int → Int → Int × List (Nat × Nat)) (hop : ∀ sz rs a n, Good sz rs → Good sz (op sz rs a n).2) : ∀ (pl : List (Nat × Nat)) (sn : SN), Gd gs secs sn → (∀ x ∈ pl, x.1 < gs.length) → Gd gs secs (eachGo op gs secs size pl sn).2
  | [], _, h, _ => h
  | x :: r, sn, h, hl => by
    unfold eachGo
    split
    · exact eachGo_gd size op hop r _ (h.set (hl x (by simp)) (hop _ _ _ _ (h.good _ (hl x (by simp))))) (fun y hy => hl y (by simp [hy]))
    · exact h
theorem eachA_gd {op : Nat → List (Nat × Nat) → Int → Int → Int × List (Nat × Nat)} (hop : ∀ sz rs a n, Good sz rs → Good sz (op sz rs a n).2) (h : Gd gs secs sn) (p : PtrT) : Gd gs secs (eachA op gs secs sn p).2 := by
  unfold eachA
  by_cases hr : ptrRight gs secs p = true
  · rw [if_pos hr]
    have hl : ∀ x ∈ plN p, x.1 < gs.length := fun x hx => ((ptrRight_strs hr).1 _ (List.mem_map_of_mem hx)).lt
    split
    · exact eachGo_gd p.size op hop (plN p) sn h hl
    · exact h
  · rw [if_neg hr]; exact h
end
end Go.Proofs.Ytmnhdpojonlfhaa
