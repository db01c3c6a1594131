/- Plain words on the document's example of layer 12, and its calls. -/
import Derived.Test.YtnclibfhbngkjaaGreatDoorDepAfter
namespace Go.Proofs.YtnclibfhbngkjaaGreatDoor
open Go.RowKit
def xA : PkgD := ⟨[97], [49], [⟨[98], 1, [50]⟩], [], [], []⟩
def xB : PkgD := ⟨[98], [50], [], [], [], []⟩
def fA : BaseF := outF noneF [xA] []
def fAB : BaseF := outF noneF [xA, xB] []
def fL : BaseF := outF fAB [] [[98]]
theorem xA_right : rightP xA = true := by decide +kernel
theorem xB_right : rightP xB = true := by decide +kernel
theorem preA : preFault noneF [xA] [] = none := by kernel_rfl
theorem preAB : preFault noneF [xA, xB] [] = none := by kernel_rfl
theorem preL : preFault fAB [] [[98]] = none := by kernel_rfl
theorem fA_at (x : By) : fA x = if x = [97] then some (ofP xA) else none := rfl
theorem fAB_at (x : By) : fAB x = if x = [98] then some (ofP xB) else if x = [97] then some (ofP xA) else none := rfl
theorem fL_at (x : By) : fL x = if x = [98] then none else fAB x := rfl
theorem nA : NamesF fA [[97]] := ⟨by decide, by decide, fun x => by
  rw [fA_at]
  by_cases h : x = [97] <;> simp [h]⟩
theorem nAB : NamesF fAB [[97], [98]] := ⟨by decide, by decide, fun x => by
  rw [fAB_at]
  by_cases h : x = [98]
  · simp [h]
  · by_cases h2 : x = [97] <;> simp [h, h2]⟩
theorem nL : NamesF fL [[97]] := ⟨by decide, by decide, fun x => by
  rw [fL_at, fAB_at]
  by_cases h : x = [98]
  · simp [h]
  · by_cases h2 : x = [97] <;> simp [h, h2]⟩
theorem cA : checkD fA [[97]] = ⟨16, [97], [98]⟩ := by kernel_rfl
theorem cAB : checkD fAB [[97], [98]] = okD := by kernel_rfl
theorem cL : checkD fL [[97]] = ⟨16, [97], [98]⟩ := by kernel_rfl
theorem gAB : GoodF fAB := out_good GoodF.none (fun p hp => by
  simp only [List.mem_cons, List.not_mem_nil, or_false] at hp
  rcases hp with rfl | rfl
  · exact xA_right
  · exact xB_right)
theorem xA_small : SmallP xA := by constructor <;> simp [xA]
theorem xB_small : SmallP xB := by constructor <;> simp [xB]
def failV : Value := .tuple #[.agg #[.map none], .agg #[.int .i64 16, .string ⟨#[97]⟩, .string ⟨#[98]⟩]]
theorem ex_after1 (v : Value) (N : Nat) (ca : Option Addr) (A : PkgA) (w : World) (hE : EnvN w) (hb : BaseM w v N noneF) (hL : PkgsL w ca [(xA, A)]) (hN : N + 1 ≤ 100000) :
    Calls Tryz.prog 24 #[v, .agg #[.slice ca 1 1, .slice none 0 0]] w fun e w' => e = .returned failV ∧ Ext w w' := by
  have h := dep_after v N noneF ca 1 [(xA, A)] none 0 [] w hE hb GoodF.none hL (Or.inl rfl) (by intro x hx; simp only [List.mem_singleton] at hx; subst hx; exact xA_small) (by simp) (by simpa using hN) (by simp)
  refine h.mono ?_
  rintro e w' ⟨hx, h | ⟨_, ss, hs, h⟩⟩
  · obtain ⟨x, hp, _⟩ := h
    simp only [List.map_cons, List.map_nil] at hp
    rw [preA] at hp
    cases hp
  · simp only [List.map_cons, List.map_nil] at hs h
    obtain rfl := hs.eq nA
    rw [show outF noneF [xA] [] = fA from rfl, cA] at h
    rcases h with ⟨_, he⟩ | ⟨hc, _⟩
    · exact ⟨he, hx⟩
    · cases hc
theorem ex_after2 (v : Value) (N : Nat) (ca : Option Addr) (cc : Nat) (A B : PkgA) (w : World) (hE : EnvN w) (hb : BaseM w v N noneF) (hL : PkgsL w ca [(xA, A), (xB, B)]) (hN : N + 2 ≤ 100000) :
    Calls Tryz.prog 24 #[v, .agg #[.slice ca 2 cc, .slice none 0 0]] w fun e w' => (∃ b M, e = .returned (.tuple #[.agg #[.map (some b)], .agg #[.int .i64 0, .string ⟨#[]⟩, .string ⟨#[]⟩]]) ∧ EntsM w' b (N + 2) fAB M) ∧ Ext w w' := by
  have h := dep_after v N noneF ca cc [(xA, A), (xB, B)] none 0 [] w hE hb GoodF.none hL (Or.inl rfl) (by
    intro x hx
    simp only [List.mem_cons, List.not_mem_nil, or_false] at hx
    rcases hx with rfl | rfl
    · exact xA_small
    · exact xB_small) (by simp) (by simpa using hN) (by simp)
  refine h.mono ?_
  rintro e w' ⟨hx, h | ⟨_, ss, hs, h⟩⟩
  · obtain ⟨x, hp, _⟩ := h
    simp only [List.map_cons, List.map_nil] at hp
    rw [preAB] at hp
    cases hp
  · simp only [List.map_cons, List.map_nil] at hs h
    obtain rfl := hs.eq nAB
    rw [show outF noneF [xA, xB] [] = fAB from rfl, cAB] at h
    rcases h with ⟨hc, _⟩ | ⟨_, b, M, he, hm⟩
    · exact absurd rfl hc
    · exact ⟨⟨b, M, he, hm⟩, hx⟩
theorem ex_after3 (b N : Nat) (M : By → PkgA) (ga : Option Addr) (gc : Nat) (w : World) (hE : EnvN w) (hb : EntsM w b N fAB M) (hG : Strs w ga [[98]]) (hN : N ≤ 100000) :
    Calls Tryz.prog 24 #[.agg #[.map (some b)], .agg #[.slice none 0 0, .slice ga 1 gc]] w fun e w' => e = .returned failV ∧ Ext w w' := by
  have h := dep_after (.agg #[.map (some b)]) N fAB none 0 [] ga gc [[98]] w hE (Or.inr ⟨b, M, rfl, hb⟩) gAB (Or.inl rfl) hG (by simp) (by simp) (by simpa using hN) (by simp)
  refine h.mono ?_
  rintro e w' ⟨hx, h | ⟨_, ss, hs, h⟩⟩
  · obtain ⟨x, hp, _⟩ := h
    simp only [List.map_nil] at hp
    rw [preL] at hp
    cases hp
  · simp only [List.map_nil] at hs h
    obtain rfl := hs.eq nL
    rw [show outF fAB [] [[98]] = fL from rfl, cL] at h
    rcases h with ⟨_, he⟩ | ⟨hc, _⟩
    · exact ⟨he, hx⟩
    · cases hc
theorem ex_check (b N : Nat) (M : By → PkgA) (w : World) (hE : EnvN w) (hb : EntsM w b N fAB M) (hN : N ≤ 100000) :
    Calls Tryz.prog 62 #[.agg #[.map (some b)]] w fun e w' => e = .returned (.agg #[.int .i64 0, .string ⟨#[]⟩, .string ⟨#[]⟩]) ∧ Ext w w' := by
  refine (dep_check (.agg #[.map (some b)]) N fAB w hE (Or.inr ⟨b, M, rfl, hb⟩) gAB hN).mono ?_
  rintro e w' ⟨ss, hs, he, hx⟩
  obtain rfl := hs.eq nAB
  rw [cAB] at he
  exact ⟨he, hx⟩
theorem ex_names (b N : Nat) (M : By → PkgA) (w : World) (hb : EntsM w b N fAB M) (hN : N ≤ 100000) :
    Calls Tryz.prog 20 #[.agg #[.map (some b)]] w fun e w' => (∃ a c, e = .returned (.slice a 2 c)) ∧ Ext w w' := by
  refine (base_names (.agg #[.map (some b)]) N fAB w (Or.inr ⟨b, M, rfl, hb⟩) hN).mono ?_
  rintro e w' ⟨a, c, ss, he, hs, _, _, hx⟩
  obtain rfl := hs.eq nAB
  exact ⟨⟨a, c, he⟩, hx⟩
theorem no_names (w : World) : Calls Tryz.prog 20 #[.agg #[.map none]] w fun e w' => e = .returned (.slice none 0 0) ∧ Ext w w' := names_none w
theorem ex_new (w : World) : Calls Tryz.prog 13 #[.slice none 0 0] w fun e w' => (∃ b A, e = .returned (.agg #[.map (some b)]) ∧ EntsM w' b 0 noneF A) ∧ Ext w w' := by
  refine (base_new none 0 [] w (Or.inl rfl) (by simp) (by simp)).mono ?_
  rintro e w' ⟨b, A, he, _, hm, hx⟩
  exact ⟨⟨b, A, he, hm⟩, hx⟩
end Go.Proofs.YtnclibfhbngkjaaGreatDoor
