/- Own work: a router's octets, in plain Lean: what they are, that they tell it, and how many they are. -/
import Derived.Test.YthdcblpadgdamaaGreatDoorTpCodec
set_option linter.all false
namespace Go.Proofs
open Go Go.Trw
open Classical in
noncomputable def predT (p : api_Pred) : Str := if h : ∃ t, PX 8 p t then Classical.choose h else []
theorem predT_eq {p : api_Pred} {t : Str} (h : PX 8 p t) : predT p = t := by
  have hx : ∃ t, PX 8 p t := ⟨t, h⟩
  unfold predT
  rw [dif_pos hx]
  exact (Classical.choose_spec hx).fn h
theorem predT_px {p : api_Pred} (h : PV 8 p) : PX 8 p (predT p) := by
  obtain ⟨t, ht⟩ := PX.of h
  rw [predT_eq ht]; exact ht
noncomputable def whereL (p : api_Pred) : Str := textL (predT p)
theorem whereDec : Dec (PV 8) whereL := fun a b r s ha hb h => by
  obtain ⟨h1, h2⟩ := textDec _ _ _ _ trivial trivial h
  refine ⟨((predT_px ha).dec (predT_px hb) (r := []) (s := []) ?_).1, h2⟩
  rw [h1]
theorem nthDec : Dec (fun n : Int => 0 ≤ n) idL := idDec
noncomputable def defL (d : api_Def) : Str := textL d.Name ++ (listL textL d.Globs ++ (listL whereL d.Where ++ (textL d.Key ++ (textL d.J.Kind ++ (numL d.J.Parts ++ (numL d.J.Need ++ numL d.J.Window))))))
theorem defDec : Dec (fun d : api_Def => ∀ p ∈ d.Where, PV 8 p) defL := fun a b r s ha hb h => by
  simp only [defL, List.append_assoc] at h
  obtain ⟨h1, h⟩ := textDec _ _ _ _ trivial trivial h
  obtain ⟨h2, h⟩ := listDec textDec _ _ _ _ (fun _ _ => trivial) (fun _ _ => trivial) h
  obtain ⟨h3, h⟩ := listDec whereDec _ _ _ _ ha hb h
  obtain ⟨h4, h⟩ := textDec _ _ _ _ trivial trivial h
  obtain ⟨h5, h⟩ := textDec _ _ _ _ trivial trivial h
  obtain ⟨h6, h⟩ := numDec _ _ _ _ trivial trivial h
  obtain ⟨h7, h⟩ := numDec _ _ _ _ trivial trivial h
  obtain ⟨h8, h⟩ := numDec _ _ _ _ trivial trivial h
  refine ⟨?_, h⟩
  obtain ⟨a1, a2, a3, a4, a5, a6, a7, a8⟩ := a
  obtain ⟨b1, b2, b3, b4, b5, b6, b7, b8⟩ := b
  simp_all
def offL (o : api_Off) : Str := textL o.Topic ++ numL o.Next
theorem offDec : Dec (fun _ => True) offL := fun a b r s _ _ h => by
  simp only [offL, List.append_assoc] at h
  obtain ⟨h1, h⟩ := textDec _ _ _ _ trivial trivial h
  obtain ⟨h2, h⟩ := numDec _ _ _ _ trivial trivial h
  refine ⟨?_, h⟩
  cases a; cases b; simp_all
def keptL (k : api_Kept) : Str := numL k.Part ++ (idL k.Id ++ numL k.At)
theorem keptDec : Dec (fun k : api_Kept => 0 ≤ k.Id) keptL := fun a b r s ha hb h => by
  simp only [keptL, List.append_assoc] at h
  obtain ⟨h1, h⟩ := numDec _ _ _ _ trivial trivial h
  obtain ⟨h2, h⟩ := idDec _ _ _ _ ha hb h
  obtain ⟨h3, h⟩ := numDec _ _ _ _ trivial trivial h
  refine ⟨?_, h⟩
  cases a; cases b; simp_all
def instL (x : api_Inst) : Str := valL x.Key ++ listL keptL x.L
theorem instDec : Dec (fun x : api_Inst => val_May x.Key = true ∧ ∀ k ∈ x.L, 0 ≤ k.Id) instL := fun a b r s ha hb h => by
  simp only [instL, List.append_assoc] at h
  obtain ⟨h1, h⟩ := valDec _ _ _ _ ha.1 hb.1 h
  obtain ⟨h2, h⟩ := listDec keptDec _ _ _ _ ha.2 hb.2 h
  refine ⟨?_, h⟩
  cases a; cases b; simp_all
def nums5L (u : api_Sub) : Str := numL u.Fails ++ (numL u.Taken ++ (numL u.Passes ++ (numL u.Fires ++ numL u.Over)))
noncomputable def subL (u : api_Sub) : Str := defL u.D ++ (listL offL u.Offs ++ (listL instL u.Insts ++ nums5L u))
def subP (u : api_Sub) : Prop := (∀ p ∈ u.D.Where, PV 8 p) ∧ ∀ x ∈ u.Insts, val_May x.Key = true ∧ ∀ k ∈ x.L, 0 ≤ k.Id
theorem subDec : Dec subP subL := fun a b r s ha hb h => by
  simp only [subL, nums5L, List.append_assoc] at h
  obtain ⟨h1, h⟩ := defDec _ _ _ _ ha.1 hb.1 h
  obtain ⟨h2, h⟩ := listDec offDec _ _ _ _ (fun _ _ => trivial) (fun _ _ => trivial) h
  obtain ⟨h3, h⟩ := listDec instDec _ _ _ _ ha.2 hb.2 h
  obtain ⟨h4, h⟩ := numDec _ _ _ _ trivial trivial h
  obtain ⟨h5, h⟩ := numDec _ _ _ _ trivial trivial h
  obtain ⟨h6, h⟩ := numDec _ _ _ _ trivial trivial h
  obtain ⟨h7, h⟩ := numDec _ _ _ _ trivial trivial h
  obtain ⟨h8, h⟩ := numDec _ _ _ _ trivial trivial h
  refine ⟨?_, h⟩
  cases a; cases b; simp_all
def topicL (t : api_Topic) : Str := textL t.Name ++ (numL t.First ++ listL textL t.Log)
theorem topicDec : Dec (fun _ => True) topicL := fun a b r s _ _ h => by
  simp only [topicL, List.append_assoc] at h
  obtain ⟨h1, h⟩ := textDec _ _ _ _ trivial trivial h
  obtain ⟨h2, h⟩ := numDec _ _ _ _ trivial trivial h
  obtain ⟨h3, h⟩ := listDec textDec _ _ _ _ (fun _ _ => trivial) (fun _ _ => trivial) h
  refine ⟨?_, h⟩
  cases a; cases b; simp_all
def lastL (x : api_Last) : Str := textL x.Producer ++ (idL x.Seq ++ numL x.Offset)
theorem lastDec : Dec (fun x : api_Last => 0 ≤ x.Seq) lastL := fun a b r s ha hb h => by
  simp only [lastL, List.append_assoc] at h
  obtain ⟨h1, h⟩ := textDec _ _ _ _ trivial trivial h
  obtain ⟨h2, h⟩ := idDec _ _ _ _ ha hb h
  obtain ⟨h3, h⟩ := numDec _ _ _ _ trivial trivial h
  refine ⟨?_, h⟩
  cases a; cases b; simp_all
def outL (x : api_Out) : Str := idL x.Id ++ (textL x.Sub ++ (listL idL x.Ids ++ (numL x.Tries ++ numL x.Due)))
def outP (x : api_Out) : Prop := 0 ≤ x.Id ∧ ∀ i ∈ x.Ids, 0 ≤ i
theorem outDec : Dec outP outL := fun a b r s ha hb h => by
  simp only [outL, List.append_assoc] at h
  obtain ⟨h1, h⟩ := idDec _ _ _ _ ha.1 hb.1 h
  obtain ⟨h2, h⟩ := textDec _ _ _ _ trivial trivial h
  obtain ⟨h3, h⟩ := listDec idDec _ _ _ _ ha.2 hb.2 h
  obtain ⟨h4, h⟩ := numDec _ _ _ _ trivial trivial h
  obtain ⟨h5, h⟩ := numDec _ _ _ _ trivial trivial h
  refine ⟨?_, h⟩
  cases a; cases b; simp_all
def deadL (x : api_Dead) : Str := textL x.Sub ++ textL x.E
theorem deadDec : Dec (fun _ => True) deadL := fun a b r s _ _ h => by
  simp only [deadL, List.append_assoc] at h
  obtain ⟨h1, h⟩ := textDec _ _ _ _ trivial trivial h
  obtain ⟨h2, h⟩ := textDec _ _ _ _ trivial trivial h
  refine ⟨?_, h⟩
  cases a; cases b; simp_all
noncomputable def routerL (r : api_Router) : Str := numL r.Now ++ (listL topicL r.Topics ++ (listL lastL r.Lasts ++ (listL subL r.Subs ++ (numL r.Total ++ (listL outL r.Out ++ (listL outL r.Given ++ listL deadL r.Dead))))))
structure routerP (r : api_Router) : Prop where
  lasts : ∀ x ∈ r.Lasts, 0 ≤ x.Seq
  subs : ∀ x ∈ r.Subs, subP x
  out : ∀ x ∈ r.Out, outP x
  given_ : ∀ x ∈ r.Given, outP x
theorem routerDec : Dec routerP routerL := fun a b r s ha hb h => by
  simp only [routerL, List.append_assoc] at h
  obtain ⟨h1, h⟩ := numDec _ _ _ _ trivial trivial h
  obtain ⟨h2, h⟩ := listDec topicDec _ _ _ _ (fun _ _ => trivial) (fun _ _ => trivial) h
  obtain ⟨h3, h⟩ := listDec lastDec _ _ _ _ ha.lasts hb.lasts h
  obtain ⟨h4, h⟩ := listDec subDec _ _ _ _ ha.subs hb.subs h
  obtain ⟨h5, h⟩ := numDec _ _ _ _ trivial trivial h
  obtain ⟨h6, h⟩ := listDec outDec _ _ _ _ ha.out hb.out h
  obtain ⟨h7, h⟩ := listDec outDec _ _ _ _ ha.given_ hb.given_ h
  obtain ⟨h8, h⟩ := listDec deadDec _ _ _ _ (fun _ _ => trivial) (fun _ _ => trivial) h
  refine ⟨?_, h⟩
  cases a; cases b; simp_all
def boolL (b : Bool) : Str := if b then [1] else [0]
noncomputable def opL (o : api_Op) : Str := numL o.Kind ++ (textL o.S ++ (boolL o.Ok ++ (idL o.Id ++ (numL o.N ++ if o.Kind = 2 then defL o.D else []))))
/-- An operation that may be, as far as its octets lean on it. -/
structure opP (o : api_Op) : Prop where
  id : 0 ≤ o.Id
  d : o.Kind = 2 → ∀ p ∈ o.D.Where, PV 8 p
  none : o.Kind ≠ 2 → o.D = z_api_Def
theorem opDec : Dec opP opL := fun a b r s ha hb h => by
  simp only [opL, List.append_assoc] at h
  obtain ⟨h1, h⟩ := numDec _ _ _ _ trivial trivial h
  obtain ⟨h2, h⟩ := textDec _ _ _ _ trivial trivial h
  have h3 : a.Ok = b.Ok := by
    revert h; unfold boolL
    cases a.Ok <;> cases b.Ok <;> simp
  rw [h3] at h
  have h := List.append_cancel_left h
  obtain ⟨h4, h⟩ := idDec _ _ _ _ ha.id hb.id h
  obtain ⟨h5, h⟩ := numDec _ _ _ _ trivial trivial h
  rw [h1] at h
  by_cases hk : b.Kind = 2
  · rw [if_pos hk, if_pos hk] at h
    obtain ⟨h6, h⟩ := defDec _ _ _ _ (ha.d (h1.trans hk)) (hb.d hk) h
    refine ⟨?_, h⟩
    cases a; cases b; simp_all
  · rw [if_neg hk, if_neg hk] at h
    have h6 := ha.none (fun k => hk (h1 ▸ k))
    have h7 := hb.none hk
    refine ⟨?_, h⟩
    cases a; cases b; simp_all
end Go.Proofs
