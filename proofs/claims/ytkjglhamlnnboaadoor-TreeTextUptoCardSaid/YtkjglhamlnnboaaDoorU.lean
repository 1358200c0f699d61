/-
  TreeText: what the text is.
-/
import Derived.Test.YtkjglhamlnnboaaDoorT
set_option linter.unusedVariables false
set_option linter.unusedSimpArgs false
namespace Go.Proofs.YtkjglhamlnnboaaDoor.Am
open Go Go.Proofs Go.RowKit
attribute [local semireducible] kcell khdr

/-- A block of statements. -/
theorem block_sem (ss : List Sm) (hok : SmsOk ss) (d : Nat) (hd : d + smDs ss ≤ 1000) (l : List UInt8) (hl : (l ++ smTs ss d).length ≤ 140737488355328) :
    SemCall P04 12 [.ptr 0 0 0, .p (.sl 7 (smCs ss)), vi (zn d)] (bldO (bRows l)) (bldR (bRows (l ++ smTs ss d))) := by
  rw [smTs_catF] at hl ⊢
  have hlen := smCs_len ss
  rw [← hlen] at hl ⊢
  refine block_node (zn d) (smCs ss) _ l ?_ hl (by have := smD_len ss; omega)
  intro j hj
  have hj2 : j < ss.length := by omega
  have hx : ss[j]? = some ss[j] := List.getElem?_eq_getElem hj2
  have hm : ss[j] ∈ ss := List.getElem_mem hj2
  have hD := smDs_mem hm
  have hs := stmts_sem _ ss[j] (Nat.le_refl _) (SmsOk_mem hok hm) d
  generalize ss[j] = x at *
  obtain ⟨k1, nm1, es1, cnt1, bd1, el1, a1⟩ := x
  refine ⟨k1, nm1, exCs es1, cnt1, smCs bd1, smCs el1, a1, by rw [smCs_get, hx]; simp [smC], fun l hl => ?_⟩
  simp only [hx] at hl ⊢
  have := hs l (by omega) hl
  simpa only [smC] using this

abbrev exV : Ex := .mk 1 0 (sb [118]) 0 [] 0
abbrev smF : Sm := .mk 8 (sb []) [] 0 [] [] 0
abbrev smS (n c : Int) : Sm := .mk n (sb [109]) [exV, exV] c [smF] [] 0
def resL (label : Int) (name : ByteArray) (z : Int) (by_ : ByteArray) (n c : Int) : List UInt8 :=
  catF (fun j => lineB 0 [if j = 0 then declT false label name z by_ else declT true 0 (sb [108]) 0 (sb [])]) 2 ++
    catF (fun j => lineB 0 [sb [116, 104, 114, 101, 97, 100, 32, 123]] ++ smTs [smS n c] 1 ++ lineB 0 [sb [125]]) 1

theorem bl (a : ByteArray) : a.data.toList.length = a.size := by rw [Array.length_toList]; rfl
theorem ba_app (a b : ByteArray) : (a ++ b).data.toList = a.data.toList ++ b.data.toList := by simp [ByteArray.data_append]
theorem ba_ext {a b : ByteArray} (h : a.data.toList = b.data.toList) : a = b := by
  cases a; cases b; congr 1; exact Array.ext' h
theorem sb_list (l : List UInt8) : (sb l).data.toList = l := rfl

def firstT (label : Int) (name : ByteArray) (z : Int) (by_ : ByteArray) (iz : ByteArray) : ByteArray :=
  let f0 := if label = 0 then sb [112, 117, 98, 108, 105, 99, 32] ++ name else sb [115, 101, 99, 114, 101, 116, 32] ++ name
  let f1 := if 0 < z then ((f0 ++ sb [91]) ++ iz) ++ sb [93] else f0
  if by_ = (⟨⟨[]⟩⟩ : ByteArray) then f1 else (f1 ++ sb [32, 98, 121, 32]) ++ by_
def lnT' (ic : ByteArray) (n : Int) : ByteArray := if n = 0 then sb [9, 108, 111, 99, 97, 108, 32, 109, 32, 61, 32, 118, 59, 10] else if n = 1 then sb [9, 109, 32, 61, 32, 118, 59, 10] else if n = 2 then sb [9, 109, 91, 118, 93, 32, 61, 32, 118, 59, 10] else if n = 3 then sb [9, 105, 102, 32, 40, 118, 41, 32, 123, 10, 9, 9, 102, 101, 110, 99, 101, 59, 10, 9, 125, 10] else if n = 4 then (sb [9, 108, 111, 111, 112, 32, 109, 32] ++ ic) ++ sb [32, 123, 10, 9, 9, 102, 101, 110, 99, 101, 59, 10, 9, 125, 10] else if n = 5 then sb [9, 116, 97, 107, 101, 32, 109, 59, 10] else if n = 6 then sb [9, 103, 105, 118, 101, 32, 109, 59, 10] else if n = 7 then sb [9, 97, 100, 100, 32, 109, 32, 118, 59, 10] else if n = 8 then sb [9, 102, 101, 110, 99, 101, 59, 10] else if n = 9 then sb [9, 111, 117, 116, 112, 117, 116, 32, 118, 59, 10] else sb [9, 111, 117, 116, 112, 117, 116, 32, 118, 59, 10]
def lnT (n c : Int) : ByteArray := lnT' (itoaS c) n

theorem decl_first (label : Int) (name : ByteArray) (z : Int) (by_ : ByteArray) (iz : ByteArray) : (declT' iz false label name z by_).data.toList = (firstT label name z by_ iz).data.toList ++ [59] := by
  simp only [declT', firstT]
  rw [if_neg (show ¬ false = true by decide)]
  by_cases h1 : label = 0
  · rw [if_pos h1, if_pos h1]
    by_cases h2 : 0 < z
    · rw [if_pos h2, if_pos h2]
      by_cases h3 : by_ = (⟨⟨[]⟩⟩ : ByteArray)
      · rw [if_pos h3, if_pos h3]; simp only [ba_app, sb_list, List.append_assoc]
      · rw [if_neg h3, if_neg h3]; simp only [ba_app, sb_list, List.append_assoc]
    · rw [if_neg h2, if_neg h2]
      by_cases h3 : by_ = (⟨⟨[]⟩⟩ : ByteArray)
      · rw [if_pos h3, if_pos h3]; simp only [ba_app, sb_list, List.append_assoc]
      · rw [if_neg h3, if_neg h3]; simp only [ba_app, sb_list, List.append_assoc]
  · rw [if_neg h1, if_neg h1]
    by_cases h2 : 0 < z
    · rw [if_pos h2, if_pos h2]
      by_cases h3 : by_ = (⟨⟨[]⟩⟩ : ByteArray)
      · rw [if_pos h3, if_pos h3]; simp only [ba_app, sb_list, List.append_assoc]
      · rw [if_neg h3, if_neg h3]; simp only [ba_app, sb_list, List.append_assoc]
    · rw [if_neg h2, if_neg h2]
      by_cases h3 : by_ = (⟨⟨[]⟩⟩ : ByteArray)
      · rw [if_pos h3, if_pos h3]; simp only [ba_app, sb_list, List.append_assoc]
      · rw [if_neg h3, if_neg h3]; simp only [ba_app, sb_list, List.append_assoc]

theorem fence_T : smTs [smF] 2 = [9, 9, 102, 101, 110, 99, 101, 59, 10] := by decide +kernel
theorem val_V (i : Nat) (h : i < 2) : valT [exV, exV] i = sb [118] := by
  match i, h with
  | 0, _ => rfl
  | 1, _ => rfl
theorem ln_is (n c : Int) (h0 : 0 ≤ n) (h : n ≤ 10) : smTs [smS n c] 1 = (lnT n c).data.toList := by
  have e : smTs [smS n c] 1 = stT 1 n (sb [109]) (itoaS c) (sb [118]) (sb [118]) (smTs [smF] 2) [] false := by
    simp only [smTs, smT, List.append_nil]
    rfl
  rw [e, fence_T]
  unfold lnT
  generalize itoaS c = ic
  unfold lnT'
  have hc : n = 0 ∨ n = 1 ∨ n = 2 ∨ n = 3 ∨ n = 4 ∨ n = 5 ∨ n = 6 ∨ n = 7 ∨ n = 8 ∨ n = 9 ∨ n = 10 := by omega
  rcases hc with rfl | rfl | rfl | rfl | rfl | rfl | rfl | rfl | rfl | rfl | rfl
  all_goals first | rfl | decide +kernel | (simp [stT, lineB, tabs, cat, ba_app, sb_list])

theorem resL_is (label : Int) (name : ByteArray) (z : Int) (by_ : ByteArray) (n c : Int) (h0 : 0 ≤ n) (h : n ≤ 10) :
    (⟨(resL label name z by_ n c).toArray⟩ : ByteArray) = ((firstT label name z by_ (itoaS z) ++ sb [59, 10, 108, 111, 99, 107, 32, 108, 59, 10, 116, 104, 114, 101, 97, 100, 32, 123, 10]) ++ lnT n c) ++ sb [125, 10] := by
  apply ba_ext
  have e2 : (declT true 0 (sb [108]) 0 (sb [])).data.toList = [108, 111, 99, 107, 32, 108, 59] := rfl
  have h1 := decl_first label name z by_ (itoaS z)
  simp only [resL, catF, List.range_succ, List.range_zero, List.nil_append, List.flatMap_cons, List.flatMap_nil, List.flatMap_append, List.append_nil, ln_is n c h0 h, ba_app, sb_list, lineB, tabs, List.replicate_zero, cat]
  simp only [declT] at *
  simp [h1]
  rw [e2]
  rfl
end Go.Proofs.YtkjglhamlnnboaaDoor.Am
