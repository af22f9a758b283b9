/- Part of the proof of a law of this seat: TwX. No condition. -/
import Derived.Test.YtknffjhclhgoiaaDoorTwQ
import Derived.Lib.ItoaNum
import Derived.Test.YtknffjhclhgoiaaDoorTwY
import Derived.Test.YtknffjhclhgoiaaDoorProg
set_option linter.unusedVariables false
set_option linter.unusedSimpArgs false
namespace Go.Proofs.X
open Go Go.Tw Go.Proofs
structure S_code_form where
  name : (List UInt8)
  more : Int
  cost : Int
noncomputable instance : DecidableEq S_code_form := Classical.typeDecidableEq _
def zS_code_form : S_code_form := ⟨[], 0, 0⟩
abbrev gS_code_form (s : S_code_form) := (s.name, s.more, s.cost)
abbrev bS_code_form := (cProd cStr (cProd (cInt .i64) (cInt .i64)))
def cS_code_form : Codec S_code_form := cMap gS_code_form bS_code_form
theorem cS_code_form_flat : cS_code_form.Flat := cMap_flat (g := gS_code_form) (c := bS_code_form) (cProd_flat cStr_flat (cProd_flat (cInt_flat _) (cInt_flat _)))
def zS_code_form_cells : List Value := ([.string ⟨#[]⟩] ++ ([.int .i64 0] ++ [.int .i64 0]))
theorem zS_code_form_ok : ZeroOf cS_code_form zS_code_form_cells zS_code_form := zero_map (g := gS_code_form) (c := bS_code_form) (y := zS_code_form) (zero_prod zero_str (zero_prod (zero_int _) (zero_int _)))
theorem LS_code_form_name : Lens cS_code_form cStr 0 (fun s : S_code_form => s.name) (fun v (s : S_code_form) => { s with name := v }) := Lens.inn (g := gS_code_form) (c := bS_code_form) (get' := fun s : S_code_form => s.name) (set' := fun v (s : S_code_form) => { s with name := v }) (Lens.fst _ _) (fun _ => rfl) (fun _ _ => rfl)
theorem LS_code_form_more : Lens cS_code_form (cInt .i64) 1 (fun s : S_code_form => s.more) (fun v (s : S_code_form) => { s with more := v }) := Lens.inn (g := gS_code_form) (c := bS_code_form) (get' := fun s : S_code_form => s.more) (set' := fun v (s : S_code_form) => { s with more := v }) ((Lens.snd _ _).comp (Lens.fst _ _)) (fun _ => rfl) (fun _ _ => rfl)
theorem LS_code_form_cost : Lens cS_code_form (cInt .i64) 2 (fun s : S_code_form => s.cost) (fun v (s : S_code_form) => { s with cost := v }) := Lens.inn (g := gS_code_form) (c := bS_code_form) (get' := fun s : S_code_form => s.cost) (set' := fun v (s : S_code_form) => { s with cost := v }) ((Lens.snd _ _).comp (Lens.snd _ _)) (fun _ => rfl) (fun _ _ => rfl)
structure S_api_Cond where
  Id : Int
  By : Int
  Amount : Int
  Hash : (List Int)
  Expiry : Int
noncomputable instance : DecidableEq S_api_Cond := Classical.typeDecidableEq _
def zS_api_Cond : S_api_Cond := ⟨0, 0, 0, (List.replicate 32 0), 0⟩
abbrev gS_api_Cond (s : S_api_Cond) := (s.Id, s.By, s.Amount, s.Hash, s.Expiry)
abbrev bS_api_Cond := (cProd (cInt .u64) (cProd (cInt .i64) (cProd (cInt .u64) (cProd (cArr 32 (cInt .u8)) (cInt .u64)))))
def cS_api_Cond : Codec S_api_Cond := cMap gS_api_Cond bS_api_Cond
theorem cS_api_Cond_flat : cS_api_Cond.Flat := cMap_flat (g := gS_api_Cond) (c := bS_api_Cond) (cProd_flat (cInt_flat _) (cProd_flat (cInt_flat _) (cProd_flat (cInt_flat _) (cProd_flat (cArr_flat (cInt_flat _)) (cInt_flat _)))))
def zS_api_Cond_cells : List Value := ([.int .u64 0] ++ ([.int .i64 0] ++ ([.int .u64 0] ++ ((repCells [.int .u8 0] 32) ++ [.int .u64 0]))))
theorem zS_api_Cond_ok : ZeroOf cS_api_Cond zS_api_Cond_cells zS_api_Cond := zero_map (g := gS_api_Cond) (c := bS_api_Cond) (y := zS_api_Cond) (zero_prod (zero_int _) (zero_prod (zero_int _) (zero_prod (zero_int _) (zero_prod (zero_arr (zero_int _) 32) (zero_int _)))))
theorem LS_api_Cond_Id : Lens cS_api_Cond (cInt .u64) 0 (fun s : S_api_Cond => s.Id) (fun v (s : S_api_Cond) => { s with Id := v }) := Lens.inn (g := gS_api_Cond) (c := bS_api_Cond) (get' := fun s : S_api_Cond => s.Id) (set' := fun v (s : S_api_Cond) => { s with Id := v }) (Lens.fst _ _) (fun _ => rfl) (fun _ _ => rfl)
theorem LS_api_Cond_By : Lens cS_api_Cond (cInt .i64) 1 (fun s : S_api_Cond => s.By) (fun v (s : S_api_Cond) => { s with By := v }) := Lens.inn (g := gS_api_Cond) (c := bS_api_Cond) (get' := fun s : S_api_Cond => s.By) (set' := fun v (s : S_api_Cond) => { s with By := v }) ((Lens.snd _ _).comp (Lens.fst _ _)) (fun _ => rfl) (fun _ _ => rfl)
theorem LS_api_Cond_Amount : Lens cS_api_Cond (cInt .u64) 2 (fun s : S_api_Cond => s.Amount) (fun v (s : S_api_Cond) => { s with Amount := v }) := Lens.inn (g := gS_api_Cond) (c := bS_api_Cond) (get' := fun s : S_api_Cond => s.Amount) (set' := fun v (s : S_api_Cond) => { s with Amount := v }) ((Lens.snd _ _).comp ((Lens.snd _ _).comp (Lens.fst _ _))) (fun _ => rfl) (fun _ _ => rfl)
theorem LS_api_Cond_Hash : Lens cS_api_Cond (cArr 32 (cInt .u8)) 3 (fun s : S_api_Cond => s.Hash) (fun v (s : S_api_Cond) => { s with Hash := v }) := Lens.inn (g := gS_api_Cond) (c := bS_api_Cond) (get' := fun s : S_api_Cond => s.Hash) (set' := fun v (s : S_api_Cond) => { s with Hash := v }) ((Lens.snd _ _).comp ((Lens.snd _ _).comp ((Lens.snd _ _).comp (Lens.fst _ _)))) (fun _ => rfl) (fun _ _ => rfl)
theorem LS_api_Cond_Expiry : Lens cS_api_Cond (cInt .u64) 35 (fun s : S_api_Cond => s.Expiry) (fun v (s : S_api_Cond) => { s with Expiry := v }) := Lens.inn (g := gS_api_Cond) (c := bS_api_Cond) (get' := fun s : S_api_Cond => s.Expiry) (set' := fun v (s : S_api_Cond) => { s with Expiry := v }) ((Lens.snd _ _).comp ((Lens.snd _ _).comp ((Lens.snd _ _).comp (Lens.snd _ _)))) (fun _ => rfl) (fun _ _ => rfl)
structure S_api_State where
  Channel : Int
  Round : Int
  Moved : (List Int)
  Taken : (List Int)
  Conds : (List S_api_Cond)
noncomputable instance : DecidableEq S_api_State := Classical.typeDecidableEq _
def zS_api_State : S_api_State := ⟨0, 0, (List.replicate 2 0), (List.replicate 2 0), []⟩
abbrev gS_api_State (s : S_api_State) := (s.Channel, s.Round, s.Moved, s.Taken, s.Conds)
abbrev bS_api_State := (cProd (cInt .u32) (cProd (cInt .u64) (cProd (cArr 2 (cInt .u64)) (cProd (cArr 2 (cInt .u64)) (cSlice cS_api_Cond)))))
def cS_api_State : Codec S_api_State := cMap gS_api_State bS_api_State
theorem cS_api_State_flat : cS_api_State.Flat := cMap_flat (g := gS_api_State) (c := bS_api_State) (cProd_flat (cInt_flat _) (cProd_flat (cInt_flat _) (cProd_flat (cArr_flat (cInt_flat _)) (cProd_flat (cArr_flat (cInt_flat _)) cSlice_flat))))
def zS_api_State_cells : List Value := ([.int .u32 0] ++ ([.int .u64 0] ++ ((repCells [.int .u64 0] 2) ++ ((repCells [.int .u64 0] 2) ++ [.slice none 0 0]))))
theorem zS_api_State_ok : ZeroOf cS_api_State zS_api_State_cells zS_api_State := zero_map (g := gS_api_State) (c := bS_api_State) (y := zS_api_State) (zero_prod (zero_int _) (zero_prod (zero_int _) (zero_prod (zero_arr (zero_int _) 2) (zero_prod (zero_arr (zero_int _) 2) (zero_slice _)))))
theorem LS_api_State_Channel : Lens cS_api_State (cInt .u32) 0 (fun s : S_api_State => s.Channel) (fun v (s : S_api_State) => { s with Channel := v }) := Lens.inn (g := gS_api_State) (c := bS_api_State) (get' := fun s : S_api_State => s.Channel) (set' := fun v (s : S_api_State) => { s with Channel := v }) (Lens.fst _ _) (fun _ => rfl) (fun _ _ => rfl)
theorem LS_api_State_Round : Lens cS_api_State (cInt .u64) 1 (fun s : S_api_State => s.Round) (fun v (s : S_api_State) => { s with Round := v }) := Lens.inn (g := gS_api_State) (c := bS_api_State) (get' := fun s : S_api_State => s.Round) (set' := fun v (s : S_api_State) => { s with Round := v }) ((Lens.snd _ _).comp (Lens.fst _ _)) (fun _ => rfl) (fun _ _ => rfl)
theorem LS_api_State_Moved : Lens cS_api_State (cArr 2 (cInt .u64)) 2 (fun s : S_api_State => s.Moved) (fun v (s : S_api_State) => { s with Moved := v }) := Lens.inn (g := gS_api_State) (c := bS_api_State) (get' := fun s : S_api_State => s.Moved) (set' := fun v (s : S_api_State) => { s with Moved := v }) ((Lens.snd _ _).comp ((Lens.snd _ _).comp (Lens.fst _ _))) (fun _ => rfl) (fun _ _ => rfl)
theorem LS_api_State_Taken : Lens cS_api_State (cArr 2 (cInt .u64)) 4 (fun s : S_api_State => s.Taken) (fun v (s : S_api_State) => { s with Taken := v }) := Lens.inn (g := gS_api_State) (c := bS_api_State) (get' := fun s : S_api_State => s.Taken) (set' := fun v (s : S_api_State) => { s with Taken := v }) ((Lens.snd _ _).comp ((Lens.snd _ _).comp ((Lens.snd _ _).comp (Lens.fst _ _)))) (fun _ => rfl) (fun _ _ => rfl)
theorem LS_api_State_Conds : Lens cS_api_State (cSlice cS_api_Cond) 6 (fun s : S_api_State => s.Conds) (fun v (s : S_api_State) => { s with Conds := v }) := Lens.inn (g := gS_api_State) (c := bS_api_State) (get' := fun s : S_api_State => s.Conds) (set' := fun v (s : S_api_State) => { s with Conds := v }) ((Lens.snd _ _).comp ((Lens.snd _ _).comp ((Lens.snd _ _).comp (Lens.snd _ _)))) (fun _ => rfl) (fun _ _ => rfl)
structure S_tollhouseref10_Cond where
  Id : Int
  By : Int
  Amount : Int
  Hash : (List Int)
  Expiry : Int
noncomputable instance : DecidableEq S_tollhouseref10_Cond := Classical.typeDecidableEq _
def zS_tollhouseref10_Cond : S_tollhouseref10_Cond := ⟨0, 0, 0, (List.replicate 32 0), 0⟩
abbrev gS_tollhouseref10_Cond (s : S_tollhouseref10_Cond) := (s.Id, s.By, s.Amount, s.Hash, s.Expiry)
abbrev bS_tollhouseref10_Cond := (cProd (cInt .u64) (cProd (cInt .i64) (cProd (cInt .u64) (cProd (cArr 32 (cInt .u8)) (cInt .u64)))))
def cS_tollhouseref10_Cond : Codec S_tollhouseref10_Cond := cMap gS_tollhouseref10_Cond bS_tollhouseref10_Cond
theorem cS_tollhouseref10_Cond_flat : cS_tollhouseref10_Cond.Flat := cMap_flat (g := gS_tollhouseref10_Cond) (c := bS_tollhouseref10_Cond) (cProd_flat (cInt_flat _) (cProd_flat (cInt_flat _) (cProd_flat (cInt_flat _) (cProd_flat (cArr_flat (cInt_flat _)) (cInt_flat _)))))
def zS_tollhouseref10_Cond_cells : List Value := ([.int .u64 0] ++ ([.int .i64 0] ++ ([.int .u64 0] ++ ((repCells [.int .u8 0] 32) ++ [.int .u64 0]))))
theorem zS_tollhouseref10_Cond_ok : ZeroOf cS_tollhouseref10_Cond zS_tollhouseref10_Cond_cells zS_tollhouseref10_Cond := zero_map (g := gS_tollhouseref10_Cond) (c := bS_tollhouseref10_Cond) (y := zS_tollhouseref10_Cond) (zero_prod (zero_int _) (zero_prod (zero_int _) (zero_prod (zero_int _) (zero_prod (zero_arr (zero_int _) 32) (zero_int _)))))
theorem LS_tollhouseref10_Cond_Id : Lens cS_tollhouseref10_Cond (cInt .u64) 0 (fun s : S_tollhouseref10_Cond => s.Id) (fun v (s : S_tollhouseref10_Cond) => { s with Id := v }) := Lens.inn (g := gS_tollhouseref10_Cond) (c := bS_tollhouseref10_Cond) (get' := fun s : S_tollhouseref10_Cond => s.Id) (set' := fun v (s : S_tollhouseref10_Cond) => { s with Id := v }) (Lens.fst _ _) (fun _ => rfl) (fun _ _ => rfl)
theorem LS_tollhouseref10_Cond_By : Lens cS_tollhouseref10_Cond (cInt .i64) 1 (fun s : S_tollhouseref10_Cond => s.By) (fun v (s : S_tollhouseref10_Cond) => { s with By := v }) := Lens.inn (g := gS_tollhouseref10_Cond) (c := bS_tollhouseref10_Cond) (get' := fun s : S_tollhouseref10_Cond => s.By) (set' := fun v (s : S_tollhouseref10_Cond) => { s with By := v }) ((Lens.snd _ _).comp (Lens.fst _ _)) (fun _ => rfl) (fun _ _ => rfl)
theorem LS_tollhouseref10_Cond_Amount : Lens cS_tollhouseref10_Cond (cInt .u64) 2 (fun s : S_tollhouseref10_Cond => s.Amount) (fun v (s : S_tollhouseref10_Cond) => { s with Amount := v }) := Lens.inn (g := gS_tollhouseref10_Cond) (c := bS_tollhouseref10_Cond) (get' := fun s : S_tollhouseref10_Cond => s.Amount) (set' := fun v (s : S_tollhouseref10_Cond) => { s with Amount := v }) ((Lens.snd _ _).comp ((Lens.snd _ _).comp (Lens.fst _ _))) (fun _ => rfl) (fun _ _ => rfl)
theorem LS_tollhouseref10_Cond_Hash : Lens cS_tollhouseref10_Cond (cArr 32 (cInt .u8)) 3 (fun s : S_tollhouseref10_Cond => s.Hash) (fun v (s : S_tollhouseref10_Cond) => { s with Hash := v }) := Lens.inn (g := gS_tollhouseref10_Cond) (c := bS_tollhouseref10_Cond) (get' := fun s : S_tollhouseref10_Cond => s.Hash) (set' := fun v (s : S_tollhouseref10_Cond) => { s with Hash := v }) ((Lens.snd _ _).comp ((Lens.snd _ _).comp ((Lens.snd _ _).comp (Lens.fst _ _)))) (fun _ => rfl) (fun _ _ => rfl)
theorem LS_tollhouseref10_Cond_Expiry : Lens cS_tollhouseref10_Cond (cInt .u64) 35 (fun s : S_tollhouseref10_Cond => s.Expiry) (fun v (s : S_tollhouseref10_Cond) => { s with Expiry := v }) := Lens.inn (g := gS_tollhouseref10_Cond) (c := bS_tollhouseref10_Cond) (get' := fun s : S_tollhouseref10_Cond => s.Expiry) (set' := fun v (s : S_tollhouseref10_Cond) => { s with Expiry := v }) ((Lens.snd _ _).comp ((Lens.snd _ _).comp ((Lens.snd _ _).comp (Lens.snd _ _)))) (fun _ => rfl) (fun _ _ => rfl)
structure S_tollhouseref12_State where
  Channel : Int
  Round : Int
  Moved : (List Int)
  Taken : (List Int)
  Conds : (List S_tollhouseref10_Cond)
noncomputable instance : DecidableEq S_tollhouseref12_State := Classical.typeDecidableEq _
def zS_tollhouseref12_State : S_tollhouseref12_State := ⟨0, 0, (List.replicate 2 0), (List.replicate 2 0), []⟩
abbrev gS_tollhouseref12_State (s : S_tollhouseref12_State) := (s.Channel, s.Round, s.Moved, s.Taken, s.Conds)
abbrev bS_tollhouseref12_State := (cProd (cInt .u32) (cProd (cInt .u64) (cProd (cArr 2 (cInt .u64)) (cProd (cArr 2 (cInt .u64)) (cSlice cS_tollhouseref10_Cond)))))
def cS_tollhouseref12_State : Codec S_tollhouseref12_State := cMap gS_tollhouseref12_State bS_tollhouseref12_State
theorem cS_tollhouseref12_State_flat : cS_tollhouseref12_State.Flat := cMap_flat (g := gS_tollhouseref12_State) (c := bS_tollhouseref12_State) (cProd_flat (cInt_flat _) (cProd_flat (cInt_flat _) (cProd_flat (cArr_flat (cInt_flat _)) (cProd_flat (cArr_flat (cInt_flat _)) cSlice_flat))))
def zS_tollhouseref12_State_cells : List Value := ([.int .u32 0] ++ ([.int .u64 0] ++ ((repCells [.int .u64 0] 2) ++ ((repCells [.int .u64 0] 2) ++ [.slice none 0 0]))))
theorem zS_tollhouseref12_State_ok : ZeroOf cS_tollhouseref12_State zS_tollhouseref12_State_cells zS_tollhouseref12_State := zero_map (g := gS_tollhouseref12_State) (c := bS_tollhouseref12_State) (y := zS_tollhouseref12_State) (zero_prod (zero_int _) (zero_prod (zero_int _) (zero_prod (zero_arr (zero_int _) 2) (zero_prod (zero_arr (zero_int _) 2) (zero_slice _)))))
theorem LS_tollhouseref12_State_Channel : Lens cS_tollhouseref12_State (cInt .u32) 0 (fun s : S_tollhouseref12_State => s.Channel) (fun v (s : S_tollhouseref12_State) => { s with Channel := v }) := Lens.inn (g := gS_tollhouseref12_State) (c := bS_tollhouseref12_State) (get' := fun s : S_tollhouseref12_State => s.Channel) (set' := fun v (s : S_tollhouseref12_State) => { s with Channel := v }) (Lens.fst _ _) (fun _ => rfl) (fun _ _ => rfl)
theorem LS_tollhouseref12_State_Round : Lens cS_tollhouseref12_State (cInt .u64) 1 (fun s : S_tollhouseref12_State => s.Round) (fun v (s : S_tollhouseref12_State) => { s with Round := v }) := Lens.inn (g := gS_tollhouseref12_State) (c := bS_tollhouseref12_State) (get' := fun s : S_tollhouseref12_State => s.Round) (set' := fun v (s : S_tollhouseref12_State) => { s with Round := v }) ((Lens.snd _ _).comp (Lens.fst _ _)) (fun _ => rfl) (fun _ _ => rfl)
theorem LS_tollhouseref12_State_Moved : Lens cS_tollhouseref12_State (cArr 2 (cInt .u64)) 2 (fun s : S_tollhouseref12_State => s.Moved) (fun v (s : S_tollhouseref12_State) => { s with Moved := v }) := Lens.inn (g := gS_tollhouseref12_State) (c := bS_tollhouseref12_State) (get' := fun s : S_tollhouseref12_State => s.Moved) (set' := fun v (s : S_tollhouseref12_State) => { s with Moved := v }) ((Lens.snd _ _).comp ((Lens.snd _ _).comp (Lens.fst _ _))) (fun _ => rfl) (fun _ _ => rfl)
theorem LS_tollhouseref12_State_Taken : Lens cS_tollhouseref12_State (cArr 2 (cInt .u64)) 4 (fun s : S_tollhouseref12_State => s.Taken) (fun v (s : S_tollhouseref12_State) => { s with Taken := v }) := Lens.inn (g := gS_tollhouseref12_State) (c := bS_tollhouseref12_State) (get' := fun s : S_tollhouseref12_State => s.Taken) (set' := fun v (s : S_tollhouseref12_State) => { s with Taken := v }) ((Lens.snd _ _).comp ((Lens.snd _ _).comp ((Lens.snd _ _).comp (Lens.fst _ _)))) (fun _ => rfl) (fun _ _ => rfl)
theorem LS_tollhouseref12_State_Conds : Lens cS_tollhouseref12_State (cSlice cS_tollhouseref10_Cond) 6 (fun s : S_tollhouseref12_State => s.Conds) (fun v (s : S_tollhouseref12_State) => { s with Conds := v }) := Lens.inn (g := gS_tollhouseref12_State) (c := bS_tollhouseref12_State) (get' := fun s : S_tollhouseref12_State => s.Conds) (set' := fun v (s : S_tollhouseref12_State) => { s with Conds := v }) ((Lens.snd _ _).comp ((Lens.snd _ _).comp ((Lens.snd _ _).comp (Lens.snd _ _)))) (fun _ => rfl) (fun _ _ => rfl)
structure S_api_State_r4 where
  Channel : Int
  Round : Int
  Moved : (List Int)
  Taken : (List Int)
  Conds : Value
def zS_api_State_r4 : S_api_State_r4 := ⟨0, 0, (List.replicate 2 0), (List.replicate 2 0), (.slice none 0 0)⟩
abbrev gS_api_State_r4 (s : S_api_State_r4) := (s.Channel, s.Round, s.Moved, s.Taken, s.Conds)
abbrev bS_api_State_r4 := (cProd (cInt .u32) (cProd (cInt .u64) (cProd (cArr 2 (cInt .u64)) (cProd (cArr 2 (cInt .u64)) cCell))))
def cS_api_State_r4 : Codec S_api_State_r4 := cMap gS_api_State_r4 bS_api_State_r4
theorem cS_api_State_r4_flat : cS_api_State_r4.Flat := cMap_flat (g := gS_api_State_r4) (c := bS_api_State_r4) (cProd_flat (cInt_flat _) (cProd_flat (cInt_flat _) (cProd_flat (cArr_flat (cInt_flat _)) (cProd_flat (cArr_flat (cInt_flat _)) cCell_flat))))
def zS_api_State_r4_cells : List Value := ([.int .u32 0] ++ ([.int .u64 0] ++ ((repCells [.int .u64 0] 2) ++ ((repCells [.int .u64 0] 2) ++ [.slice none 0 0]))))
theorem zS_api_State_r4_ok : ZeroOf cS_api_State_r4 zS_api_State_r4_cells zS_api_State_r4 := zero_map (g := gS_api_State_r4) (c := bS_api_State_r4) (y := zS_api_State_r4) (zero_prod (zero_int _) (zero_prod (zero_int _) (zero_prod (zero_arr (zero_int _) 2) (zero_prod (zero_arr (zero_int _) 2) zero_cell))))
theorem LS_api_State_r4_Channel : Lens cS_api_State_r4 (cInt .u32) 0 (fun s : S_api_State_r4 => s.Channel) (fun v (s : S_api_State_r4) => { s with Channel := v }) := Lens.inn (g := gS_api_State_r4) (c := bS_api_State_r4) (get' := fun s : S_api_State_r4 => s.Channel) (set' := fun v (s : S_api_State_r4) => { s with Channel := v }) (Lens.fst _ _) (fun _ => rfl) (fun _ _ => rfl)
theorem LS_api_State_r4_Round : Lens cS_api_State_r4 (cInt .u64) 1 (fun s : S_api_State_r4 => s.Round) (fun v (s : S_api_State_r4) => { s with Round := v }) := Lens.inn (g := gS_api_State_r4) (c := bS_api_State_r4) (get' := fun s : S_api_State_r4 => s.Round) (set' := fun v (s : S_api_State_r4) => { s with Round := v }) ((Lens.snd _ _).comp (Lens.fst _ _)) (fun _ => rfl) (fun _ _ => rfl)
theorem LS_api_State_r4_Moved : Lens cS_api_State_r4 (cArr 2 (cInt .u64)) 2 (fun s : S_api_State_r4 => s.Moved) (fun v (s : S_api_State_r4) => { s with Moved := v }) := Lens.inn (g := gS_api_State_r4) (c := bS_api_State_r4) (get' := fun s : S_api_State_r4 => s.Moved) (set' := fun v (s : S_api_State_r4) => { s with Moved := v }) ((Lens.snd _ _).comp ((Lens.snd _ _).comp (Lens.fst _ _))) (fun _ => rfl) (fun _ _ => rfl)
theorem LS_api_State_r4_Taken : Lens cS_api_State_r4 (cArr 2 (cInt .u64)) 4 (fun s : S_api_State_r4 => s.Taken) (fun v (s : S_api_State_r4) => { s with Taken := v }) := Lens.inn (g := gS_api_State_r4) (c := bS_api_State_r4) (get' := fun s : S_api_State_r4 => s.Taken) (set' := fun v (s : S_api_State_r4) => { s with Taken := v }) ((Lens.snd _ _).comp ((Lens.snd _ _).comp ((Lens.snd _ _).comp (Lens.fst _ _)))) (fun _ => rfl) (fun _ _ => rfl)
theorem LS_api_State_r4_Conds : Lens cS_api_State_r4 cCell 6 (fun s : S_api_State_r4 => s.Conds) (fun v (s : S_api_State_r4) => { s with Conds := v }) := Lens.inn (g := gS_api_State_r4) (c := bS_api_State_r4) (get' := fun s : S_api_State_r4 => s.Conds) (set' := fun v (s : S_api_State_r4) => { s with Conds := v }) ((Lens.snd _ _).comp ((Lens.snd _ _).comp ((Lens.snd _ _).comp (Lens.snd _ _)))) (fun _ => rfl) (fun _ _ => rfl)
def mkS_api_State_r4 (p : S_api_State) (v : Value) : S_api_State_r4 := ⟨p.Channel, p.Round, p.Moved, p.Taken, v⟩
def toS_api_State_r4 (x : S_api_State_r4) (xs : (List S_api_Cond)) : S_api_State := ⟨x.Channel, x.Round, x.Moved, x.Taken, xs⟩
theorem convS_api_State_r4 (x : S_api_State_r4) (xs : (List S_api_Cond)) : ∀ D w cs, cS_api_State_r4.enc D w cs x → (cSlice cS_api_Cond).enc D w [x.Conds] xs → cS_api_State.enc D w cs (toS_api_State_r4 x xs) := by
  rintro D w cs ⟨a0, r0, rfl, h0, a1, r1, rfl, h1, a2, r2, rfl, h2, a3, r3, rfl, h3, h4⟩ hs; exact ⟨_, _, rfl, h0, _, _, rfl, h1, _, _, rfl, h2, _, _, rfl, h3, (by rw [h4.1]; exact hs)⟩
structure S_pact_Op where
  Kind : Int
  Amount : Int
  Cond : S_api_Cond
  Id : Int
noncomputable instance : DecidableEq S_pact_Op := Classical.typeDecidableEq _
def zS_pact_Op : S_pact_Op := ⟨0, 0, zS_api_Cond, 0⟩
abbrev gS_pact_Op (s : S_pact_Op) := (s.Kind, s.Amount, s.Cond, s.Id)
abbrev bS_pact_Op := (cProd (cInt .i64) (cProd (cInt .u64) (cProd cS_api_Cond (cInt .u64))))
def cS_pact_Op : Codec S_pact_Op := cMap gS_pact_Op bS_pact_Op
theorem cS_pact_Op_flat : cS_pact_Op.Flat := cMap_flat (g := gS_pact_Op) (c := bS_pact_Op) (cProd_flat (cInt_flat _) (cProd_flat (cInt_flat _) (cProd_flat cS_api_Cond_flat (cInt_flat _))))
def zS_pact_Op_cells : List Value := ([.int .i64 0] ++ ([.int .u64 0] ++ (zS_api_Cond_cells ++ [.int .u64 0])))
theorem zS_pact_Op_ok : ZeroOf cS_pact_Op zS_pact_Op_cells zS_pact_Op := zero_map (g := gS_pact_Op) (c := bS_pact_Op) (y := zS_pact_Op) (zero_prod (zero_int _) (zero_prod (zero_int _) (zero_prod zS_api_Cond_ok (zero_int _))))
theorem LS_pact_Op_Kind : Lens cS_pact_Op (cInt .i64) 0 (fun s : S_pact_Op => s.Kind) (fun v (s : S_pact_Op) => { s with Kind := v }) := Lens.inn (g := gS_pact_Op) (c := bS_pact_Op) (get' := fun s : S_pact_Op => s.Kind) (set' := fun v (s : S_pact_Op) => { s with Kind := v }) (Lens.fst _ _) (fun _ => rfl) (fun _ _ => rfl)
theorem LS_pact_Op_Amount : Lens cS_pact_Op (cInt .u64) 1 (fun s : S_pact_Op => s.Amount) (fun v (s : S_pact_Op) => { s with Amount := v }) := Lens.inn (g := gS_pact_Op) (c := bS_pact_Op) (get' := fun s : S_pact_Op => s.Amount) (set' := fun v (s : S_pact_Op) => { s with Amount := v }) ((Lens.snd _ _).comp (Lens.fst _ _)) (fun _ => rfl) (fun _ _ => rfl)
theorem LS_pact_Op_Cond : Lens cS_pact_Op cS_api_Cond 2 (fun s : S_pact_Op => s.Cond) (fun v (s : S_pact_Op) => { s with Cond := v }) := Lens.inn (g := gS_pact_Op) (c := bS_pact_Op) (get' := fun s : S_pact_Op => s.Cond) (set' := fun v (s : S_pact_Op) => { s with Cond := v }) ((Lens.snd _ _).comp ((Lens.snd _ _).comp (Lens.fst _ _))) (fun _ => rfl) (fun _ _ => rfl)
theorem LS_pact_Op_Id : Lens cS_pact_Op (cInt .u64) 38 (fun s : S_pact_Op => s.Id) (fun v (s : S_pact_Op) => { s with Id := v }) := Lens.inn (g := gS_pact_Op) (c := bS_pact_Op) (get' := fun s : S_pact_Op => s.Id) (set' := fun v (s : S_pact_Op) => { s with Id := v }) ((Lens.snd _ _).comp ((Lens.snd _ _).comp (Lens.snd _ _))) (fun _ => rfl) (fun _ _ => rfl)
structure S_tollhouseref12_Op where
  Kind : Int
  Amount : Int
  Cond : S_tollhouseref10_Cond
  Id : Int
noncomputable instance : DecidableEq S_tollhouseref12_Op := Classical.typeDecidableEq _
def zS_tollhouseref12_Op : S_tollhouseref12_Op := ⟨0, 0, zS_tollhouseref10_Cond, 0⟩
abbrev gS_tollhouseref12_Op (s : S_tollhouseref12_Op) := (s.Kind, s.Amount, s.Cond, s.Id)
abbrev bS_tollhouseref12_Op := (cProd (cInt .i64) (cProd (cInt .u64) (cProd cS_tollhouseref10_Cond (cInt .u64))))
def cS_tollhouseref12_Op : Codec S_tollhouseref12_Op := cMap gS_tollhouseref12_Op bS_tollhouseref12_Op
theorem cS_tollhouseref12_Op_flat : cS_tollhouseref12_Op.Flat := cMap_flat (g := gS_tollhouseref12_Op) (c := bS_tollhouseref12_Op) (cProd_flat (cInt_flat _) (cProd_flat (cInt_flat _) (cProd_flat cS_tollhouseref10_Cond_flat (cInt_flat _))))
def zS_tollhouseref12_Op_cells : List Value := ([.int .i64 0] ++ ([.int .u64 0] ++ (zS_tollhouseref10_Cond_cells ++ [.int .u64 0])))
theorem zS_tollhouseref12_Op_ok : ZeroOf cS_tollhouseref12_Op zS_tollhouseref12_Op_cells zS_tollhouseref12_Op := zero_map (g := gS_tollhouseref12_Op) (c := bS_tollhouseref12_Op) (y := zS_tollhouseref12_Op) (zero_prod (zero_int _) (zero_prod (zero_int _) (zero_prod zS_tollhouseref10_Cond_ok (zero_int _))))
theorem LS_tollhouseref12_Op_Kind : Lens cS_tollhouseref12_Op (cInt .i64) 0 (fun s : S_tollhouseref12_Op => s.Kind) (fun v (s : S_tollhouseref12_Op) => { s with Kind := v }) := Lens.inn (g := gS_tollhouseref12_Op) (c := bS_tollhouseref12_Op) (get' := fun s : S_tollhouseref12_Op => s.Kind) (set' := fun v (s : S_tollhouseref12_Op) => { s with Kind := v }) (Lens.fst _ _) (fun _ => rfl) (fun _ _ => rfl)
theorem LS_tollhouseref12_Op_Amount : Lens cS_tollhouseref12_Op (cInt .u64) 1 (fun s : S_tollhouseref12_Op => s.Amount) (fun v (s : S_tollhouseref12_Op) => { s with Amount := v }) := Lens.inn (g := gS_tollhouseref12_Op) (c := bS_tollhouseref12_Op) (get' := fun s : S_tollhouseref12_Op => s.Amount) (set' := fun v (s : S_tollhouseref12_Op) => { s with Amount := v }) ((Lens.snd _ _).comp (Lens.fst _ _)) (fun _ => rfl) (fun _ _ => rfl)
theorem LS_tollhouseref12_Op_Cond : Lens cS_tollhouseref12_Op cS_tollhouseref10_Cond 2 (fun s : S_tollhouseref12_Op => s.Cond) (fun v (s : S_tollhouseref12_Op) => { s with Cond := v }) := Lens.inn (g := gS_tollhouseref12_Op) (c := bS_tollhouseref12_Op) (get' := fun s : S_tollhouseref12_Op => s.Cond) (set' := fun v (s : S_tollhouseref12_Op) => { s with Cond := v }) ((Lens.snd _ _).comp ((Lens.snd _ _).comp (Lens.fst _ _))) (fun _ => rfl) (fun _ _ => rfl)
theorem LS_tollhouseref12_Op_Id : Lens cS_tollhouseref12_Op (cInt .u64) 38 (fun s : S_tollhouseref12_Op => s.Id) (fun v (s : S_tollhouseref12_Op) => { s with Id := v }) := Lens.inn (g := gS_tollhouseref12_Op) (c := bS_tollhouseref12_Op) (get' := fun s : S_tollhouseref12_Op => s.Id) (set' := fun v (s : S_tollhouseref12_Op) => { s with Id := v }) ((Lens.snd _ _).comp ((Lens.snd _ _).comp (Lens.snd _ _))) (fun _ => rfl) (fun _ _ => rfl)
structure S_tollhouseref12_State_r4 where
  Channel : Int
  Round : Int
  Moved : (List Int)
  Taken : (List Int)
  Conds : Value
def zS_tollhouseref12_State_r4 : S_tollhouseref12_State_r4 := ⟨0, 0, (List.replicate 2 0), (List.replicate 2 0), (.slice none 0 0)⟩
abbrev gS_tollhouseref12_State_r4 (s : S_tollhouseref12_State_r4) := (s.Channel, s.Round, s.Moved, s.Taken, s.Conds)
abbrev bS_tollhouseref12_State_r4 := (cProd (cInt .u32) (cProd (cInt .u64) (cProd (cArr 2 (cInt .u64)) (cProd (cArr 2 (cInt .u64)) cCell))))
def cS_tollhouseref12_State_r4 : Codec S_tollhouseref12_State_r4 := cMap gS_tollhouseref12_State_r4 bS_tollhouseref12_State_r4
theorem cS_tollhouseref12_State_r4_flat : cS_tollhouseref12_State_r4.Flat := cMap_flat (g := gS_tollhouseref12_State_r4) (c := bS_tollhouseref12_State_r4) (cProd_flat (cInt_flat _) (cProd_flat (cInt_flat _) (cProd_flat (cArr_flat (cInt_flat _)) (cProd_flat (cArr_flat (cInt_flat _)) cCell_flat))))
def zS_tollhouseref12_State_r4_cells : List Value := ([.int .u32 0] ++ ([.int .u64 0] ++ ((repCells [.int .u64 0] 2) ++ ((repCells [.int .u64 0] 2) ++ [.slice none 0 0]))))
theorem zS_tollhouseref12_State_r4_ok : ZeroOf cS_tollhouseref12_State_r4 zS_tollhouseref12_State_r4_cells zS_tollhouseref12_State_r4 := zero_map (g := gS_tollhouseref12_State_r4) (c := bS_tollhouseref12_State_r4) (y := zS_tollhouseref12_State_r4) (zero_prod (zero_int _) (zero_prod (zero_int _) (zero_prod (zero_arr (zero_int _) 2) (zero_prod (zero_arr (zero_int _) 2) zero_cell))))
theorem LS_tollhouseref12_State_r4_Channel : Lens cS_tollhouseref12_State_r4 (cInt .u32) 0 (fun s : S_tollhouseref12_State_r4 => s.Channel) (fun v (s : S_tollhouseref12_State_r4) => { s with Channel := v }) := Lens.inn (g := gS_tollhouseref12_State_r4) (c := bS_tollhouseref12_State_r4) (get' := fun s : S_tollhouseref12_State_r4 => s.Channel) (set' := fun v (s : S_tollhouseref12_State_r4) => { s with Channel := v }) (Lens.fst _ _) (fun _ => rfl) (fun _ _ => rfl)
theorem LS_tollhouseref12_State_r4_Round : Lens cS_tollhouseref12_State_r4 (cInt .u64) 1 (fun s : S_tollhouseref12_State_r4 => s.Round) (fun v (s : S_tollhouseref12_State_r4) => { s with Round := v }) := Lens.inn (g := gS_tollhouseref12_State_r4) (c := bS_tollhouseref12_State_r4) (get' := fun s : S_tollhouseref12_State_r4 => s.Round) (set' := fun v (s : S_tollhouseref12_State_r4) => { s with Round := v }) ((Lens.snd _ _).comp (Lens.fst _ _)) (fun _ => rfl) (fun _ _ => rfl)
theorem LS_tollhouseref12_State_r4_Moved : Lens cS_tollhouseref12_State_r4 (cArr 2 (cInt .u64)) 2 (fun s : S_tollhouseref12_State_r4 => s.Moved) (fun v (s : S_tollhouseref12_State_r4) => { s with Moved := v }) := Lens.inn (g := gS_tollhouseref12_State_r4) (c := bS_tollhouseref12_State_r4) (get' := fun s : S_tollhouseref12_State_r4 => s.Moved) (set' := fun v (s : S_tollhouseref12_State_r4) => { s with Moved := v }) ((Lens.snd _ _).comp ((Lens.snd _ _).comp (Lens.fst _ _))) (fun _ => rfl) (fun _ _ => rfl)
theorem LS_tollhouseref12_State_r4_Taken : Lens cS_tollhouseref12_State_r4 (cArr 2 (cInt .u64)) 4 (fun s : S_tollhouseref12_State_r4 => s.Taken) (fun v (s : S_tollhouseref12_State_r4) => { s with Taken := v }) := Lens.inn (g := gS_tollhouseref12_State_r4) (c := bS_tollhouseref12_State_r4) (get' := fun s : S_tollhouseref12_State_r4 => s.Taken) (set' := fun v (s : S_tollhouseref12_State_r4) => { s with Taken := v }) ((Lens.snd _ _).comp ((Lens.snd _ _).comp ((Lens.snd _ _).comp (Lens.fst _ _)))) (fun _ => rfl) (fun _ _ => rfl)
theorem LS_tollhouseref12_State_r4_Conds : Lens cS_tollhouseref12_State_r4 cCell 6 (fun s : S_tollhouseref12_State_r4 => s.Conds) (fun v (s : S_tollhouseref12_State_r4) => { s with Conds := v }) := Lens.inn (g := gS_tollhouseref12_State_r4) (c := bS_tollhouseref12_State_r4) (get' := fun s : S_tollhouseref12_State_r4 => s.Conds) (set' := fun v (s : S_tollhouseref12_State_r4) => { s with Conds := v }) ((Lens.snd _ _).comp ((Lens.snd _ _).comp ((Lens.snd _ _).comp (Lens.snd _ _)))) (fun _ => rfl) (fun _ _ => rfl)
def mkS_tollhouseref12_State_r4 (p : S_tollhouseref12_State) (v : Value) : S_tollhouseref12_State_r4 := ⟨p.Channel, p.Round, p.Moved, p.Taken, v⟩
def toS_tollhouseref12_State_r4 (x : S_tollhouseref12_State_r4) (xs : (List S_tollhouseref10_Cond)) : S_tollhouseref12_State := ⟨x.Channel, x.Round, x.Moved, x.Taken, xs⟩
theorem convS_tollhouseref12_State_r4 (x : S_tollhouseref12_State_r4) (xs : (List S_tollhouseref10_Cond)) : ∀ D w cs, cS_tollhouseref12_State_r4.enc D w cs x → (cSlice cS_tollhouseref10_Cond).enc D w [x.Conds] xs → cS_tollhouseref12_State.enc D w cs (toS_tollhouseref12_State_r4 x xs) := by
  rintro D w cs ⟨a0, r0, rfl, h0, a1, r1, rfl, h1, a2, r2, rfl, h2, a3, r3, rfl, h3, h4⟩ hs; exact ⟨_, _, rfl, h0, _, _, rfl, h1, _, _, rfl, h2, _, _, rfl, h3, (by rw [h4.1]; exact hs)⟩
def tab0 : (List (List UInt8)) := [([112, 97, 115, 115] : List UInt8), ([112, 97, 121] : List UInt8), ([108, 111, 99, 107] : List UInt8), ([100, 111, 110, 101] : List UInt8), ([117, 110, 100, 111] : List UInt8), ([116, 97, 107, 101] : List UInt8)]
def tab0_cells : List Value := [strV ([112, 97, 115, 115] : List UInt8), strV ([112, 97, 121] : List UInt8), strV ([108, 111, 99, 107] : List UInt8), strV ([100, 111, 110, 101] : List UInt8), strV ([117, 110, 100, 111] : List UInt8), strV ([116, 97, 107, 101] : List UInt8)]
set_option maxRecDepth 100000 in
theorem tab0_enc : ∀ D w, (cArr 6 cStr).enc D w tab0_cells tab0 := fun D w => ⟨rfl, ⟨[strV ([112, 97, 115, 115] : List UInt8)], _, rfl, rfl, ⟨[strV ([112, 97, 121] : List UInt8)], _, rfl, rfl, ⟨[strV ([108, 111, 99, 107] : List UInt8)], _, rfl, rfl, ⟨[strV ([100, 111, 110, 101] : List UInt8)], _, rfl, rfl, ⟨[strV ([117, 110, 100, 111] : List UInt8)], _, rfl, rfl, ⟨[strV ([116, 97, 107, 101] : List UInt8)], _, rfl, rfl, rfl⟩⟩⟩⟩⟩⟩⟩
def tab1 : (List S_code_form) := [({ name := ([104, 97, 108, 116] : List UInt8), more := 0, cost := 1 } : S_code_form), ({ name := ([112, 117, 115, 104] : List UInt8), more := 8, cost := 1 } : S_code_form), ({ name := ([108, 111, 97, 100] : List UInt8), more := 1, cost := 1 } : S_code_form), ({ name := ([97, 100, 100] : List UInt8), more := 0, cost := 1 } : S_code_form), ({ name := ([115, 117, 98] : List UInt8), more := 0, cost := 1 } : S_code_form), ({ name := ([109, 117, 108] : List UInt8), more := 0, cost := 3 } : S_code_form), ({ name := ([108, 101, 115, 115] : List UInt8), more := 0, cost := 1 } : S_code_form), ({ name := ([115, 97, 109, 101] : List UInt8), more := 0, cost := 1 } : S_code_form), ({ name := ([110, 111, 116] : List UInt8), more := 0, cost := 1 } : S_code_form), ({ name := ([98, 111, 116, 104] : List UInt8), more := 0, cost := 1 } : S_code_form), ({ name := ([97, 110, 121] : List UInt8), more := 0, cost := 1 } : S_code_form), ({ name := ([106, 117, 109, 112] : List UInt8), more := 2, cost := 1 } : S_code_form), ({ name := ([105, 102] : List UInt8), more := 2, cost := 1 } : S_code_form), ({ name := ([116, 119, 105, 99, 101] : List UInt8), more := 0, cost := 1 } : S_code_form), ({ name := ([115, 119, 97, 112] : List UInt8), more := 0, cost := 1 } : S_code_form), ({ name := ([100, 114, 111, 112] : List UInt8), more := 0, cost := 1 } : S_code_form), ({ name := ([112, 97, 105, 100] : List UInt8), more := 1, cost := 10 } : S_code_form), ({ name := ([110, 111, 119] : List UInt8), more := 0, cost := 1 } : S_code_form)]
def tab1_cells : List Value := [strV ([104, 97, 108, 116] : List UInt8), .int .i64 0, .int .i64 1, strV ([112, 117, 115, 104] : List UInt8), .int .i64 8, .int .i64 1, strV ([108, 111, 97, 100] : List UInt8), .int .i64 1, .int .i64 1, strV ([97, 100, 100] : List UInt8), .int .i64 0, .int .i64 1, strV ([115, 117, 98] : List UInt8), .int .i64 0, .int .i64 1, strV ([109, 117, 108] : List UInt8), .int .i64 0, .int .i64 3, strV ([108, 101, 115, 115] : List UInt8), .int .i64 0, .int .i64 1, strV ([115, 97, 109, 101] : List UInt8), .int .i64 0, .int .i64 1, strV ([110, 111, 116] : List UInt8), .int .i64 0, .int .i64 1, strV ([98, 111, 116, 104] : List UInt8), .int .i64 0, .int .i64 1, strV ([97, 110, 121] : List UInt8), .int .i64 0, .int .i64 1, strV ([106, 117, 109, 112] : List UInt8), .int .i64 2, .int .i64 1, strV ([105, 102] : List UInt8), .int .i64 2, .int .i64 1, strV ([116, 119, 105, 99, 101] : List UInt8), .int .i64 0, .int .i64 1, strV ([115, 119, 97, 112] : List UInt8), .int .i64 0, .int .i64 1, strV ([100, 114, 111, 112] : List UInt8), .int .i64 0, .int .i64 1, strV ([112, 97, 105, 100] : List UInt8), .int .i64 1, .int .i64 10, strV ([110, 111, 119] : List UInt8), .int .i64 0, .int .i64 1]
set_option maxRecDepth 100000 in
theorem tab1_enc : ∀ D w, (cArr 18 cS_code_form).enc D w tab1_cells tab1 := fun D w => ⟨rfl, ⟨[strV ([104, 97, 108, 116] : List UInt8), .int .i64 0, .int .i64 1], _, rfl, ⟨[strV ([104, 97, 108, 116] : List UInt8)], _, rfl, rfl, ⟨[.int .i64 0], _, rfl, rfl, rfl⟩⟩, ⟨[strV ([112, 117, 115, 104] : List UInt8), .int .i64 8, .int .i64 1], _, rfl, ⟨[strV ([112, 117, 115, 104] : List UInt8)], _, rfl, rfl, ⟨[.int .i64 8], _, rfl, rfl, rfl⟩⟩, ⟨[strV ([108, 111, 97, 100] : List UInt8), .int .i64 1, .int .i64 1], _, rfl, ⟨[strV ([108, 111, 97, 100] : List UInt8)], _, rfl, rfl, ⟨[.int .i64 1], _, rfl, rfl, rfl⟩⟩, ⟨[strV ([97, 100, 100] : List UInt8), .int .i64 0, .int .i64 1], _, rfl, ⟨[strV ([97, 100, 100] : List UInt8)], _, rfl, rfl, ⟨[.int .i64 0], _, rfl, rfl, rfl⟩⟩, ⟨[strV ([115, 117, 98] : List UInt8), .int .i64 0, .int .i64 1], _, rfl, ⟨[strV ([115, 117, 98] : List UInt8)], _, rfl, rfl, ⟨[.int .i64 0], _, rfl, rfl, rfl⟩⟩, ⟨[strV ([109, 117, 108] : List UInt8), .int .i64 0, .int .i64 3], _, rfl, ⟨[strV ([109, 117, 108] : List UInt8)], _, rfl, rfl, ⟨[.int .i64 0], _, rfl, rfl, rfl⟩⟩, ⟨[strV ([108, 101, 115, 115] : List UInt8), .int .i64 0, .int .i64 1], _, rfl, ⟨[strV ([108, 101, 115, 115] : List UInt8)], _, rfl, rfl, ⟨[.int .i64 0], _, rfl, rfl, rfl⟩⟩, ⟨[strV ([115, 97, 109, 101] : List UInt8), .int .i64 0, .int .i64 1], _, rfl, ⟨[strV ([115, 97, 109, 101] : List UInt8)], _, rfl, rfl, ⟨[.int .i64 0], _, rfl, rfl, rfl⟩⟩, ⟨[strV ([110, 111, 116] : List UInt8), .int .i64 0, .int .i64 1], _, rfl, ⟨[strV ([110, 111, 116] : List UInt8)], _, rfl, rfl, ⟨[.int .i64 0], _, rfl, rfl, rfl⟩⟩, ⟨[strV ([98, 111, 116, 104] : List UInt8), .int .i64 0, .int .i64 1], _, rfl, ⟨[strV ([98, 111, 116, 104] : List UInt8)], _, rfl, rfl, ⟨[.int .i64 0], _, rfl, rfl, rfl⟩⟩, ⟨[strV ([97, 110, 121] : List UInt8), .int .i64 0, .int .i64 1], _, rfl, ⟨[strV ([97, 110, 121] : List UInt8)], _, rfl, rfl, ⟨[.int .i64 0], _, rfl, rfl, rfl⟩⟩, ⟨[strV ([106, 117, 109, 112] : List UInt8), .int .i64 2, .int .i64 1], _, rfl, ⟨[strV ([106, 117, 109, 112] : List UInt8)], _, rfl, rfl, ⟨[.int .i64 2], _, rfl, rfl, rfl⟩⟩, ⟨[strV ([105, 102] : List UInt8), .int .i64 2, .int .i64 1], _, rfl, ⟨[strV ([105, 102] : List UInt8)], _, rfl, rfl, ⟨[.int .i64 2], _, rfl, rfl, rfl⟩⟩, ⟨[strV ([116, 119, 105, 99, 101] : List UInt8), .int .i64 0, .int .i64 1], _, rfl, ⟨[strV ([116, 119, 105, 99, 101] : List UInt8)], _, rfl, rfl, ⟨[.int .i64 0], _, rfl, rfl, rfl⟩⟩, ⟨[strV ([115, 119, 97, 112] : List UInt8), .int .i64 0, .int .i64 1], _, rfl, ⟨[strV ([115, 119, 97, 112] : List UInt8)], _, rfl, rfl, ⟨[.int .i64 0], _, rfl, rfl, rfl⟩⟩, ⟨[strV ([100, 114, 111, 112] : List UInt8), .int .i64 0, .int .i64 1], _, rfl, ⟨[strV ([100, 114, 111, 112] : List UInt8)], _, rfl, rfl, ⟨[.int .i64 0], _, rfl, rfl, rfl⟩⟩, ⟨[strV ([112, 97, 105, 100] : List UInt8), .int .i64 1, .int .i64 10], _, rfl, ⟨[strV ([112, 97, 105, 100] : List UInt8)], _, rfl, rfl, ⟨[.int .i64 1], _, rfl, rfl, rfl⟩⟩, ⟨[strV ([110, 111, 119] : List UInt8), .int .i64 0, .int .i64 1], _, rfl, ⟨[strV ([110, 111, 119] : List UInt8)], _, rfl, rfl, ⟨[.int .i64 0], _, rfl, rfl, rfl⟩⟩, rfl⟩⟩⟩⟩⟩⟩⟩⟩⟩⟩⟩⟩⟩⟩⟩⟩⟩⟩⟩
def tab2 : (List Int) := [1, 10, 100, 1000, 10000, 100000, 1000000, 10000000, 100000000, 1000000000, 10000000000, 100000000000, 1000000000000, 10000000000000, 100000000000000, 1000000000000000, 10000000000000000, 100000000000000000, 1000000000000000000, 10000000000000000000]
def tab2_cells : List Value := [.int .u64 1, .int .u64 10, .int .u64 100, .int .u64 1000, .int .u64 10000, .int .u64 100000, .int .u64 1000000, .int .u64 10000000, .int .u64 100000000, .int .u64 1000000000, .int .u64 10000000000, .int .u64 100000000000, .int .u64 1000000000000, .int .u64 10000000000000, .int .u64 100000000000000, .int .u64 1000000000000000, .int .u64 10000000000000000, .int .u64 100000000000000000, .int .u64 1000000000000000000, .int .u64 10000000000000000000]
set_option maxRecDepth 100000 in
theorem tab2_enc : ∀ D w, (cArr 20 (cInt .u64)).enc D w tab2_cells tab2 := fun D w => ⟨rfl, ⟨[.int .u64 1], _, rfl, rfl, ⟨[.int .u64 10], _, rfl, rfl, ⟨[.int .u64 100], _, rfl, rfl, ⟨[.int .u64 1000], _, rfl, rfl, ⟨[.int .u64 10000], _, rfl, rfl, ⟨[.int .u64 100000], _, rfl, rfl, ⟨[.int .u64 1000000], _, rfl, rfl, ⟨[.int .u64 10000000], _, rfl, rfl, ⟨[.int .u64 100000000], _, rfl, rfl, ⟨[.int .u64 1000000000], _, rfl, rfl, ⟨[.int .u64 10000000000], _, rfl, rfl, ⟨[.int .u64 100000000000], _, rfl, rfl, ⟨[.int .u64 1000000000000], _, rfl, rfl, ⟨[.int .u64 10000000000000], _, rfl, rfl, ⟨[.int .u64 100000000000000], _, rfl, rfl, ⟨[.int .u64 1000000000000000], _, rfl, rfl, ⟨[.int .u64 10000000000000000], _, rfl, rfl, ⟨[.int .u64 100000000000000000], _, rfl, rfl, ⟨[.int .u64 1000000000000000000], _, rfl, rfl, ⟨[.int .u64 10000000000000000000], _, rfl, rfl, rfl⟩⟩⟩⟩⟩⟩⟩⟩⟩⟩⟩⟩⟩⟩⟩⟩⟩⟩⟩⟩⟩
def tab4 : (List Int) := [0, 1, 28, 2, 29, 14, 24, 3, 30, 22, 20, 15, 25, 17, 4, 8, 31, 27, 13, 23, 21, 19, 16, 7, 26, 12, 18, 6, 11, 5, 10, 9]
def tab4_cells : List Value := [.int .u8 0, .int .u8 1, .int .u8 28, .int .u8 2, .int .u8 29, .int .u8 14, .int .u8 24, .int .u8 3, .int .u8 30, .int .u8 22, .int .u8 20, .int .u8 15, .int .u8 25, .int .u8 17, .int .u8 4, .int .u8 8, .int .u8 31, .int .u8 27, .int .u8 13, .int .u8 23, .int .u8 21, .int .u8 19, .int .u8 16, .int .u8 7, .int .u8 26, .int .u8 12, .int .u8 18, .int .u8 6, .int .u8 11, .int .u8 5, .int .u8 10, .int .u8 9]
set_option maxRecDepth 100000 in
theorem tab4_enc : ∀ D w, (cArr 32 (cInt .u8)).enc D w tab4_cells tab4 := fun D w => ⟨rfl, ⟨[.int .u8 0], _, rfl, rfl, ⟨[.int .u8 1], _, rfl, rfl, ⟨[.int .u8 28], _, rfl, rfl, ⟨[.int .u8 2], _, rfl, rfl, ⟨[.int .u8 29], _, rfl, rfl, ⟨[.int .u8 14], _, rfl, rfl, ⟨[.int .u8 24], _, rfl, rfl, ⟨[.int .u8 3], _, rfl, rfl, ⟨[.int .u8 30], _, rfl, rfl, ⟨[.int .u8 22], _, rfl, rfl, ⟨[.int .u8 20], _, rfl, rfl, ⟨[.int .u8 15], _, rfl, rfl, ⟨[.int .u8 25], _, rfl, rfl, ⟨[.int .u8 17], _, rfl, rfl, ⟨[.int .u8 4], _, rfl, rfl, ⟨[.int .u8 8], _, rfl, rfl, ⟨[.int .u8 31], _, rfl, rfl, ⟨[.int .u8 27], _, rfl, rfl, ⟨[.int .u8 13], _, rfl, rfl, ⟨[.int .u8 23], _, rfl, rfl, ⟨[.int .u8 21], _, rfl, rfl, ⟨[.int .u8 19], _, rfl, rfl, ⟨[.int .u8 16], _, rfl, rfl, ⟨[.int .u8 7], _, rfl, rfl, ⟨[.int .u8 26], _, rfl, rfl, ⟨[.int .u8 12], _, rfl, rfl, ⟨[.int .u8 18], _, rfl, rfl, ⟨[.int .u8 6], _, rfl, rfl, ⟨[.int .u8 11], _, rfl, rfl, ⟨[.int .u8 5], _, rfl, rfl, ⟨[.int .u8 10], _, rfl, rfl, ⟨[.int .u8 9], _, rfl, rfl, rfl⟩⟩⟩⟩⟩⟩⟩⟩⟩⟩⟩⟩⟩⟩⟩⟩⟩⟩⟩⟩⟩⟩⟩⟩⟩⟩⟩⟩⟩⟩⟩⟩⟩
def tab5 : (List Int) := [0, 1, 56, 2, 57, 49, 28, 3, 61, 58, 42, 50, 38, 29, 17, 4, 62, 47, 59, 36, 45, 43, 51, 22, 53, 39, 33, 30, 24, 18, 12, 5, 63, 55, 48, 27, 60, 41, 37, 16, 46, 35, 44, 21, 52, 32, 23, 11, 54, 26, 40, 15, 34, 20, 31, 10, 25, 14, 19, 9, 13, 8, 7, 6]
def tab5_cells : List Value := [.int .u8 0, .int .u8 1, .int .u8 56, .int .u8 2, .int .u8 57, .int .u8 49, .int .u8 28, .int .u8 3, .int .u8 61, .int .u8 58, .int .u8 42, .int .u8 50, .int .u8 38, .int .u8 29, .int .u8 17, .int .u8 4, .int .u8 62, .int .u8 47, .int .u8 59, .int .u8 36, .int .u8 45, .int .u8 43, .int .u8 51, .int .u8 22, .int .u8 53, .int .u8 39, .int .u8 33, .int .u8 30, .int .u8 24, .int .u8 18, .int .u8 12, .int .u8 5, .int .u8 63, .int .u8 55, .int .u8 48, .int .u8 27, .int .u8 60, .int .u8 41, .int .u8 37, .int .u8 16, .int .u8 46, .int .u8 35, .int .u8 44, .int .u8 21, .int .u8 52, .int .u8 32, .int .u8 23, .int .u8 11, .int .u8 54, .int .u8 26, .int .u8 40, .int .u8 15, .int .u8 34, .int .u8 20, .int .u8 31, .int .u8 10, .int .u8 25, .int .u8 14, .int .u8 19, .int .u8 9, .int .u8 13, .int .u8 8, .int .u8 7, .int .u8 6]
set_option maxRecDepth 100000 in
theorem tab5_enc : ∀ D w, (cArr 64 (cInt .u8)).enc D w tab5_cells tab5 := fun D w => ⟨rfl, ⟨[.int .u8 0], _, rfl, rfl, ⟨[.int .u8 1], _, rfl, rfl, ⟨[.int .u8 56], _, rfl, rfl, ⟨[.int .u8 2], _, rfl, rfl, ⟨[.int .u8 57], _, rfl, rfl, ⟨[.int .u8 49], _, rfl, rfl, ⟨[.int .u8 28], _, rfl, rfl, ⟨[.int .u8 3], _, rfl, rfl, ⟨[.int .u8 61], _, rfl, rfl, ⟨[.int .u8 58], _, rfl, rfl, ⟨[.int .u8 42], _, rfl, rfl, ⟨[.int .u8 50], _, rfl, rfl, ⟨[.int .u8 38], _, rfl, rfl, ⟨[.int .u8 29], _, rfl, rfl, ⟨[.int .u8 17], _, rfl, rfl, ⟨[.int .u8 4], _, rfl, rfl, ⟨[.int .u8 62], _, rfl, rfl, ⟨[.int .u8 47], _, rfl, rfl, ⟨[.int .u8 59], _, rfl, rfl, ⟨[.int .u8 36], _, rfl, rfl, ⟨[.int .u8 45], _, rfl, rfl, ⟨[.int .u8 43], _, rfl, rfl, ⟨[.int .u8 51], _, rfl, rfl, ⟨[.int .u8 22], _, rfl, rfl, ⟨[.int .u8 53], _, rfl, rfl, ⟨[.int .u8 39], _, rfl, rfl, ⟨[.int .u8 33], _, rfl, rfl, ⟨[.int .u8 30], _, rfl, rfl, ⟨[.int .u8 24], _, rfl, rfl, ⟨[.int .u8 18], _, rfl, rfl, ⟨[.int .u8 12], _, rfl, rfl, ⟨[.int .u8 5], _, rfl, rfl, ⟨[.int .u8 63], _, rfl, rfl, ⟨[.int .u8 55], _, rfl, rfl, ⟨[.int .u8 48], _, rfl, rfl, ⟨[.int .u8 27], _, rfl, rfl, ⟨[.int .u8 60], _, rfl, rfl, ⟨[.int .u8 41], _, rfl, rfl, ⟨[.int .u8 37], _, rfl, rfl, ⟨[.int .u8 16], _, rfl, rfl, ⟨[.int .u8 46], _, rfl, rfl, ⟨[.int .u8 35], _, rfl, rfl, ⟨[.int .u8 44], _, rfl, rfl, ⟨[.int .u8 21], _, rfl, rfl, ⟨[.int .u8 52], _, rfl, rfl, ⟨[.int .u8 32], _, rfl, rfl, ⟨[.int .u8 23], _, rfl, rfl, ⟨[.int .u8 11], _, rfl, rfl, ⟨[.int .u8 54], _, rfl, rfl, ⟨[.int .u8 26], _, rfl, rfl, ⟨[.int .u8 40], _, rfl, rfl, ⟨[.int .u8 15], _, rfl, rfl, ⟨[.int .u8 34], _, rfl, rfl, ⟨[.int .u8 20], _, rfl, rfl, ⟨[.int .u8 31], _, rfl, rfl, ⟨[.int .u8 10], _, rfl, rfl, ⟨[.int .u8 25], _, rfl, rfl, ⟨[.int .u8 14], _, rfl, rfl, ⟨[.int .u8 19], _, rfl, rfl, ⟨[.int .u8 9], _, rfl, rfl, ⟨[.int .u8 13], _, rfl, rfl, ⟨[.int .u8 8], _, rfl, rfl, ⟨[.int .u8 7], _, rfl, rfl, ⟨[.int .u8 6], _, rfl, rfl, rfl⟩⟩⟩⟩⟩⟩⟩⟩⟩⟩⟩⟩⟩⟩⟩⟩⟩⟩⟩⟩⟩⟩⟩⟩⟩⟩⟩⟩⟩⟩⟩⟩⟩⟩⟩⟩⟩⟩⟩⟩⟩⟩⟩⟩⟩⟩⟩⟩⟩⟩⟩⟩⟩⟩⟩⟩⟩⟩⟩⟩⟩⟩⟩⟩⟩
theorem follows_mixed : Tryd.prog.follows .mixedOrders = true := by kernel_rfl
def strconv_FormatUint (x0 x1 : Int) : Option (List UInt8) := if x1 = 10 ∧ 0 ≤ x0 ∧ x0 < 18446744073709551616 then some (Lib.decDigits x0.toNat) else none
theorem strconv_FormatUint_ok {D : Dirty} {w : World} {v0 v1 : Value} {x0 x1 : Int} {r : List UInt8} (h0 : (cInt .u64).val D w v0 x0) (h1 : (cInt .i64).val D w v1 x1) (hD : ∀ k, D k → k < w.heap.size) (hT2 : tabAt D w 2 tab2_cells) (hr : strconv_FormatUint x0 x1 = some r) : Calls Tryd.prog 67 [v0, v1].toArray w (Ret cStr D w r) := by
  unfold strconv_FormatUint at hr
  obtain ⟨⟨rfl, h2, h3⟩, hr2⟩ := guard_some hr
  cases hr2
  rw [cPlain_val.1 h0, cPlain_val.1 h1]
  have e : x0 = (x0.toNat : Int) := by omega
  have := walk67 x0.toNat (by omega) w (hT2.is rfl (by kernel_rfl))
  rw [← e] at this
  exact this.mono fun _ _ h => ret_grow h
def strconv_Itoa (x0 : Int) : Option (List UInt8) := if -9223372036854775808 ≤ x0 ∧ x0 ≤ 9223372036854775807 then some (Lib.itoa x0) else none
theorem strconv_Itoa_ok {D : Dirty} {w : World} {v0 : Value} {x0 : Int} {r : List UInt8} (h0 : (cInt .i64).val D w v0 x0) (hD : ∀ k, D k → k < w.heap.size) (hT2 : tabAt D w 2 tab2_cells) (hr : strconv_Itoa x0 = some r) : Calls Tryd.prog 40 [v0].toArray w (Ret cStr D w r) := by
  unfold strconv_Itoa at hr
  obtain ⟨⟨h2, h3⟩, hr2⟩ := guard_some hr
  cases hr2
  rw [cPlain_val.1 h0]
  exact (Tryd.strconv_Itoa x0 h2 h3 w (hT2.is rfl (by kernel_rfl))).mono fun _ _ h => ret_grow h

theorem places27 : ∀ w, ((Tryd.prog.fieldsOf 27).mapM fun f => do pure (f.offset, ← sizeOf f.type) : Sem (Array (Nat × Nat))).run Tryd.prog w = .ok #[(0, 1), (1, 1), (2, 2), (4, 2), (6, 1)] w := fun _ => by kernel_rfl
theorem places30 : ∀ w, ((Tryd.prog.fieldsOf 30).mapM fun f => do pure (f.offset, ← sizeOf f.type) : Sem (Array (Nat × Nat))).run Tryd.prog w = .ok #[(0, 1), (1, 1), (2, 1), (3, 32), (35, 1)] w := fun _ => by kernel_rfl
theorem places38 : ∀ w, ((Tryd.prog.fieldsOf 38).mapM fun f => do pure (f.offset, ← sizeOf f.type) : Sem (Array (Nat × Nat))).run Tryd.prog w = .ok #[(0, 1), (1, 1), (2, 2), (4, 2), (6, 1)] w := fun _ => by kernel_rfl
theorem places46 : ∀ w, ((Tryd.prog.fieldsOf 46).mapM fun f => do pure (f.offset, ← sizeOf f.type) : Sem (Array (Nat × Nat))).run Tryd.prog w = .ok #[(0, 1), (1, 1), (2, 1), (3, 32), (35, 1)] w := fun _ => by kernel_rfl
theorem places48 : ∀ w, ((Tryd.prog.fieldsOf 48).mapM fun f => do pure (f.offset, ← sizeOf f.type) : Sem (Array (Nat × Nat))).run Tryd.prog w = .ok #[(0, 1), (1, 1), (2, 36), (38, 1)] w := fun _ => by kernel_rfl
theorem info9 : (Tryd.prog.info? 9).map (fun i => (i.zero, i.size, i.bytes)) = some (some (.string ⟨#[]⟩), cStr.size, 16) := by kernel_rfl
theorem info30 : (Tryd.prog.info? 30).map (fun i => (i.zero, i.size, i.bytes)) = some (some (.agg zS_tollhouseref10_Cond_cells.toArray), cS_tollhouseref10_Cond.size, 64) := by kernel_rfl
theorem info46 : (Tryd.prog.info? 46).map (fun i => (i.zero, i.size, i.bytes)) = some (some (.agg zS_api_Cond_cells.toArray), cS_api_Cond.size, 64) := by kernel_rfl
theorem infoS5 : (Tryd.prog.info? 5).isSome = true := by kernel_rfl
theorem infoS23 : (Tryd.prog.info? 23).isSome = true := by kernel_rfl
theorem eqS_tollhouseref10_Cond : EqOf Tryd.prog 30 3 cS_tollhouseref10_Cond := EqOf.struct (n := 2) Tryd.underlying30 Tryd.stoodInHeld30 rfl (.cons (eq_int Tryd.underlying23) (k := 1) (by decide) LS_tollhouseref10_Cond_Id Tryd.isAgg23 Tryd.sizeOf23 (by decide) (.cons (eq_int Tryd.underlying3) (k := 1) (by decide) LS_tollhouseref10_Cond_By Tryd.isAgg3 Tryd.sizeOf3 (by decide) (.cons (eq_int Tryd.underlying23) (k := 1) (by decide) LS_tollhouseref10_Cond_Amount Tryd.isAgg23 Tryd.sizeOf23 (by decide) (.cons (eq_arr Tryd.underlying28 infoS5 (eq_int Tryd.underlying5) Tryd.isAgg5 Tryd.sizeOf5) (k := 2) (by decide) LS_tollhouseref10_Cond_Hash Tryd.isAgg28 Tryd.sizeOf28 (by decide) (.cons (eq_int Tryd.underlying23) (k := 1) (by decide) LS_tollhouseref10_Cond_Expiry Tryd.isAgg23 Tryd.sizeOf23 (by decide) .nil))))) (fun x y => by cases x; cases y; simp)
/-- strings.Join -/
noncomputable def strings_Join (x0 : (List (List UInt8))) (x1 : (List UInt8)) : Option (List UInt8) :=
  (if decide ((x0.length : Int) = 0) then some ([] : List UInt8) else (if decide ((x0.length : Int) = 1) then (if (0 : Int) ≤ 0 ∧ 0 < (x0.length : Int) then some (x0.getD (0 : Int).toNat []) else none) else (((if decide ((x1.length : Int) > 0) then (if (IntKind.wrap .i64 ((x0.length : Int) - 1)) ≠ 0 then (if decide ((x1.length : Int) ≥ (IntKind.wrap .i64 (Int.tdiv 9223372036854775807 (IntKind.wrap .i64 ((x0.length : Int) - 1))))) then none else some (IntKind.wrap .i64 (0 + (IntKind.wrap .i64 ((x1.length : Int) * (IntKind.wrap .i64 ((x0.length : Int) - 1))))))) else none) else some 0) : Option (Int)).bind fun s99 => ((loopM (fun (s497 : Int × Int) => match s497 with | (s114, s117) => ((if decide (s114 < (x0.length : Int)) then (if (0 : Int) ≤ s114 ∧ s114 < (x0.length : Int) then (if decide (((x0.getD (s114 : Int).toNat []).length : Int) > (IntKind.wrap .i64 (9223372036854775807 - s117))) then none else some (.inl (IntKind.wrap .i64 (s114 + 1), IntKind.wrap .i64 (s117 + ((x0.getD (s114 : Int).toNat []).length : Int))))) else none) else some (.inr s117)) : Option ((Int × Int) ⊕ (Int)))) (0, s99)).bind fun s226 => (if (0 : Int) ≤ s226 ∧ s226 ≤ 281474976710656 then (if (0 : Int) ≤ 0 ∧ 0 < (x0.length : Int) then (if ([] : List UInt8).length + (x0.getD (0 : Int).toNat []).length ≤ 140737488355328 then (if (0 : Int) ≤ 1 ∧ 1 ≤ (x0.length : Int) then ((loopM (fun (s435 : Int × (List UInt8)) => match s435 with | (s278, s282) => ((if decide (s278 < ((x0.drop (1 : Int).toNat).length : Int)) then (if (0 : Int) ≤ s278 ∧ s278 < ((x0.drop (1 : Int).toNat).length : Int) then (if s282.length + x1.length ≤ 140737488355328 then (if (s282 ++ x1).length + ((x0.drop (1 : Int).toNat).getD (s278 : Int).toNat []).length ≤ 140737488355328 then some (.inl (IntKind.wrap .i64 (s278 + 1), (s282 ++ x1) ++ ((x0.drop (1 : Int).toNat).getD (s278 : Int).toNat []))) else none) else none) else none) else some (.inr s282)) : Option ((Int × (List UInt8)) ⊕ ((List UInt8))))) (0, ([] : List UInt8) ++ (x0.getD (0 : Int).toNat []))).bind fun s371 => some s371) else none) else none) else none) else none)))))
set_option maxRecDepth 100000 in
set_option maxHeartbeats 8000000 in
theorem strings_Join_ok {D : Dirty} {w : World} {v0 : Value} {v1 : Value} {x0 : (List (List UInt8))} {x1 : (List UInt8)} {r : (List UInt8)} (h0 : (cSlice cStr).val D w v0 x0) (h1 : cStr.val D w v1 x1) (hD : ∀ k, D k → k < w.heap.size) (hr : strings_Join x0 x1 = some r) :
    Calls Tryd.prog 68 [v0, v1].toArray w (Ret cStr D w r) := by
  refine calls_start (n := 75) Tryd.func68 rfl rfl ?_
  have S := St.start (w := w) (args := [v0, v1].toArray) 75 rfl hD
  replace S := S.arg 0 rfl (val_dirt0 h0)
  replace S := S.arg 1 rfl (val_dirt0 h1)
  unfold strings_Join at hr
  refine wp_seq_k (fun K1 hK1 => ?_)
  refine wp_region_lit ?_
  refine op_assign S rfl (cPlain_mk (f := strV) ([] : List UInt8)) (fun a2 S3 => ?_)
  clear S
  refine wpList_nil ?_
  refine hK1 _ _ ?_
  clear hK1 K1
  refine wp_seq_k (fun K4 hK4 => ?_)
  refine wp_seq_k (fun K5 hK5 => ?_)
  refine wp_region_lit ?_
  refine op_move S3 rfl (S3.at 2 rfl) (fun a6 S7 => ?_)
  clear S3 a2
  refine op_len S7 rfl (S7.at 0 rfl) Tryd.underlying34 (fun a8 S9 => ?_)
  clear S7 a6
  refine wpList_nil ?_
  refine hK5 _ _ ?_
  clear hK5 K5
  refine wp_block ?_
  refine wp_seq_k (fun K10 hK10 => ?_)
  refine wp_region_lit ?_
  refine op_eql S9 rfl (S9.int 0 rfl) rfl (fun a11 S12 => ?_)
  clear S9 a8
  refine op_assign S12 rfl (S12.at 0 rfl) (fun a13 S14 => ?_)
  clear S12 a11
  refine wpList_nil ?_
  refine hK10 _ _ ?_
  clear hK10 K10
  rcases cond_some hr with ⟨b15, hr16⟩ | ⟨b15, hr17⟩
  · clear hr
    refine c_true (S14.bool 0 rfl) b15 ?_
    refine wp_seq_k (fun K18 hK18 => ?_)
    refine wp_region_lit ?_
    have S19 := S14.erase 4
    clear S14
    refine op_assign S19 rfl (cPlain_mk (f := strV) ([] : List UInt8)) (fun a20 S21 => ?_)
    clear S19 a13
    refine wpList_nil ?_
    refine hK18 _ _ ?_
    clear hK18 K18
    refine wp_ret ?_
    cases hr16
    exact ret1 S21 rfl 0 rfl
  · clear hr
    refine c_false (S14.bool 0 rfl) b15 ?_
    refine wp_seq_k (fun K22 hK22 => ?_)
    refine wp_region_lit ?_
    refine op_eql S14 rfl (S14.int 2 rfl) rfl (fun a23 S24 => ?_)
    clear S14 a13
    refine op_assign S24 rfl (S24.at 0 rfl) (fun a25 S26 => ?_)
    clear S24 a23
    refine wpList_nil ?_
    refine hK22 _ _ ?_
    clear hK22 K22
    rcases cond_some hr17 with ⟨b27, hr28⟩ | ⟨b27, hr29⟩
    · clear hr17
      refine c_true (S26.bool 0 rfl) b27 ?_
      refine wp_seq_k (fun K30 hK30 => ?_)
      refine wp_region_lit ?_
      refine op_move S26 rfl (S26.at 8 rfl) (fun a31 S32 => ?_)
      clear S26 a25
      obtain ⟨g33, hr34⟩ := guard_some hr28
      clear hr28
      refine op_indexAddr (z0 := []) S32 rfl (S32.at 0 rfl) rfl g33 Tryd.underlying34 Tryd.sizeOf9 (fun a35 S36 => ?_)
      clear S32 a31
      refine op_loadr S36 rfl (S36.at 0 rfl) Tryd.isAgg9 Tryd.sizeOf9 (fun a37 S38 => ?_)
      clear S36 a35
      have S39 := S38.erase 9
      clear S38
      refine op_assign S39 rfl (S39.at 0 rfl) (fun a40 S41 => ?_)
      clear S39 a37
      refine wpList_nil ?_
      refine hK30 _ _ ?_
      clear hK30 K30
      refine wp_ret ?_
      cases hr34
      exact ret1 S41 rfl 0 rfl
    · clear hr17
      refine c_false (S26.bool 0 rfl) b27 ?_
      refine wp_skip ?_
      refine hK4 _ _ ?_
      clear hK4 K4
      refine wp_seq_k (fun K42 hK42 => ?_)
      refine wp_region_lit ?_
      refine op_assign S26 rfl (cPlain_mk (f := Value.int .i64) 0) (fun a43 S44 => ?_)
      clear S26 a25
      refine wpList_nil ?_
      refine hK42 _ _ ?_
      clear hK42 K42
      refine wp_seq_k (fun K45 hK45 => ?_)
      refine wp_seq_k (fun K46 hK46 => ?_)
      refine wp_region_lit ?_
      refine op_move S44 rfl (S44.at 8 rfl) (fun a47 S48 => ?_)
      clear S44 a43
      refine op_slen S48 rfl Tryd.underlying9 (S48.str 0 rfl) (fun a49 S50 => ?_)
      clear S48 a47
      refine op_gtr S50 rfl (S50.int 0 rfl) rfl (fun a51 S52 => ?_)
      clear S50 a49
      refine wpList_nil ?_
      refine hK46 _ _ ?_
      clear hK46 K46
      refine wp_k (fun K100 hK100 => ?_)
      have X101 : ∀ (s99 : Int) (a103 : Act) (w104 : World), St 75 (fun _ => False) D w a103 w104 [] [⟨5, Int, (cInt .i64), s99⟩, ⟨1, (List UInt8), cStr, x1⟩, ⟨0, (List (List UInt8)), (cSlice cStr), x0⟩] → (((loopM (fun (s497 : Int × Int) => match s497 with | (s114, s117) => ((if decide (s114 < (x0.length : Int)) then (if (0 : Int) ≤ s114 ∧ s114 < (x0.length : Int) then (if decide (((x0.getD (s114 : Int).toNat []).length : Int) > (IntKind.wrap .i64 (9223372036854775807 - s117))) then none else some (.inl (IntKind.wrap .i64 (s114 + 1), IntKind.wrap .i64 (s117 + ((x0.getD (s114 : Int).toNat []).length : Int))))) else none) else some (.inr s117)) : Option ((Int × Int) ⊕ (Int)))) (0, s99)).bind fun s226 => (if (0 : Int) ≤ s226 ∧ s226 ≤ 281474976710656 then (if (0 : Int) ≤ 0 ∧ 0 < (x0.length : Int) then (if ([] : List UInt8).length + (x0.getD (0 : Int).toNat []).length ≤ 140737488355328 then (if (0 : Int) ≤ 1 ∧ 1 ≤ (x0.length : Int) then ((loopM (fun (s435 : Int × (List UInt8)) => match s435 with | (s278, s282) => ((if decide (s278 < ((x0.drop (1 : Int).toNat).length : Int)) then (if (0 : Int) ≤ s278 ∧ s278 < ((x0.drop (1 : Int).toNat).length : Int) then (if s282.length + x1.length ≤ 140737488355328 then (if (s282 ++ x1).length + ((x0.drop (1 : Int).toNat).getD (s278 : Int).toNat []).length ≤ 140737488355328 then some (.inl (IntKind.wrap .i64 (s278 + 1), (s282 ++ x1) ++ ((x0.drop (1 : Int).toNat).getD (s278 : Int).toNat []))) else none) else none) else none) else some (.inr s282)) : Option ((Int × (List UInt8)) ⊕ ((List UInt8))))) (0, ([] : List UInt8) ++ (x0.getD (0 : Int).toNat []))).bind fun s371 => some s371) else none) else none) else none) else none)) : Option ((List UInt8))) = some r → K100 a103 w104 := by
        intro s99 a103 w104 S102 hr105
        refine hK100 _ _ ?_
        clear hK100
        refine hK45 _ _ ?_
        clear hK45 K45
        refine wp_seq_k (fun K106 hK106 => ?_)
        refine wp_seq_k (fun K107 hK107 => ?_)
        refine wp_region_lit ?_
        refine op_move S102 rfl (S102.at 2 rfl) (fun a108 S109 => ?_)
        clear S102 a103
        refine op_len S109 rfl (S109.at 0 rfl) Tryd.underlying34 (fun a110 S111 => ?_)
        clear S109 a108
        refine op_move S111 rfl (cPlain_mk (f := Value.int .i64) 0) (fun a112 S113 => ?_)
        clear S111 a110
        refine wpList_nil ?_
        refine hK107 _ _ ?_
        clear hK107 K107
        refine wp_block ?_
        refine wp_q (fun Q222 hQ222 => ?_)
        have X231 : ∀ (s226 : Int) (a228 : Act) (w229 : World), St 75 (fun _ => False) D w a228 w229 [] [⟨5, Int, (cInt .i64), s226⟩, ⟨1, (List UInt8), cStr, x1⟩, ⟨0, (List (List UInt8)), (cSlice cStr), x0⟩] → ((if (0 : Int) ≤ s226 ∧ s226 ≤ 281474976710656 then (if (0 : Int) ≤ 0 ∧ 0 < (x0.length : Int) then (if ([] : List UInt8).length + (x0.getD (0 : Int).toNat []).length ≤ 140737488355328 then (if (0 : Int) ≤ 1 ∧ 1 ≤ (x0.length : Int) then ((loopM (fun (s435 : Int × (List UInt8)) => match s435 with | (s278, s282) => ((if decide (s278 < ((x0.drop (1 : Int).toNat).length : Int)) then (if (0 : Int) ≤ s278 ∧ s278 < ((x0.drop (1 : Int).toNat).length : Int) then (if s282.length + x1.length ≤ 140737488355328 then (if (s282 ++ x1).length + ((x0.drop (1 : Int).toNat).getD (s278 : Int).toNat []).length ≤ 140737488355328 then some (.inl (IntKind.wrap .i64 (s278 + 1), (s282 ++ x1) ++ ((x0.drop (1 : Int).toNat).getD (s278 : Int).toNat []))) else none) else none) else none) else some (.inr s282)) : Option ((Int × (List UInt8)) ⊕ ((List UInt8))))) (0, ([] : List UInt8) ++ (x0.getD (0 : Int).toNat []))).bind fun s371 => some s371) else none) else none) else none) else none) : Option ((List UInt8))) = some r → Q222 (.exit 1) a228 w229 := by
          intro s226 a228 w229 S227 hr230
          refine hQ222 _ _ _ ?_
          clear hQ222
          refine hK106 _ _ ?_
          clear hK106 K106
          refine wp_seq_k (fun K232 hK232 => ?_)
          refine wp_region_lit ?_
          refine op_bldalloc S227 rfl 5 Tryd.zeroValue170 (fun b233 n234 a235 w236 hn237 hf238 S239 => ?_)
          clear S227 a228 w229
          refine wpList_nil ?_
          refine hK232 _ _ ?_
          clear hK232 K232
          refine wp_seq_k (fun K240 hK240 => ?_)
          refine wp_region_lit ?_
          refine op_move S239 rfl (S239.at 1 rfl) (fun a241 S242 => ?_)
          clear S239 a235
          obtain ⟨g243, hr244⟩ := guard_some hr230
          clear hr230
          refine op_bldcall (l' := ([] : List UInt8)) S242 rfl 0 rfl hn237 Tryd.call75 (fun hb hlt => ?_) (fun n245 a246 w247 hn248 S249 => ?_)
          · have e0 := (S242.raw 1 rfl)
            have e1 := (S242.int 0 rfl)
            obtain ⟨m, hm⟩ : ∃ m : Nat, s226 = m := ⟨(s226 : Int).toNat, by have := g243; omega⟩
            simp only [List.map_cons, List.map_nil, e0, e1, hm]
            refine (Tryd.Builder_Grow_fresh _ _ _ _ (Nat.le_refl _) hf238 hlt (by have := g243; omega)).mono ?_
            rintro e w' ⟨rfl, h1, h2⟩
            exact ⟨⟨_, rfl⟩, .inr h1, h2⟩
          clear S242 hn237 hf238 a241 w236
          refine wpList_nil ?_
          refine hK240 _ _ ?_
          clear hK240 K240
          refine wp_seq_k (fun K250 hK250 => ?_)
          refine wp_region_lit ?_
          refine op_move S249 rfl (S249.at 4 rfl) (fun a251 S252 => ?_)
          clear S249 a246
          obtain ⟨g253, hr254⟩ := guard_some hr244
          clear hr244
          refine op_indexAddr (z0 := []) S252 rfl (S252.at 0 rfl) rfl g253 Tryd.underlying34 Tryd.sizeOf9 (fun a255 S256 => ?_)
          clear S252 a251
          refine op_loadr S256 rfl (S256.at 0 rfl) Tryd.isAgg9 Tryd.sizeOf9 (fun a257 S258 => ?_)
          clear S256 a255
          obtain ⟨g259, hr260⟩ := guard_some hr254
          clear hr254
          refine op_bldcall (l' := ([] : List UInt8) ++ (x0.getD (0 : Int).toNat [])) S258 rfl 0 rfl hn248 Tryd.call76 (fun hb hlt => ?_) (fun n261 a262 w263 hn264 S265 => ?_)
          · have e0 := (S258.raw 4 rfl)
            have e1 := (S258.str 0 rfl)
            simp only [List.map_cons, List.map_nil, e0, e1]
            rw [← str_cat]
            refine (Tryd.Builder_WriteString _ _ _ _ _ hb (by rw [Lib.byteCells_length]; exact g259) hlt).mono ?_
            rintro e w' ⟨rfl, h1, h2⟩
            exact ⟨⟨_, rfl⟩, .inr h1, h2⟩
          clear S258 hn248 a257 w247
          refine wpList_nil ?_
          refine hK250 _ _ ?_
          clear hK250 K250
          refine wp_seq_k (fun K266 hK266 => ?_)
          refine wp_seq_k (fun K267 hK267 => ?_)
          refine wp_region_lit ?_
          refine op_move S265 rfl (S265.at 7 rfl) (fun a268 S269 => ?_)
          clear S265 a262
          obtain ⟨g270, hr271⟩ := guard_some hr260
          clear hr260
          refine op_slicef S269 rfl (S269.at 0 rfl) rfl g270 Tryd.underlying34 Tryd.sizeOf9 (fun a272 S273 => ?_)
          clear S269 a268
          refine op_len S273 rfl (S273.at 0 rfl) Tryd.underlying34 (fun a274 S275 => ?_)
          clear S273 a272
          refine op_move S275 rfl (cPlain_mk (f := Value.int .i64) 0) (fun a276 S277 => ?_)
          clear S275 a274
          refine wpList_nil ?_
          refine hK267 _ _ ?_
          clear hK267 K267
          refine wp_block ?_
          refine wp_q (fun Q367 hQ367 => ?_)
          have X378 : ∀ (s371 : (List UInt8)) (n372 : Nat) (a375 : Act) (w376 : World) (hn373 : w376.heap.size = n372), St 75 (fun _ => False) D w a375 w376 [Res.bld 170 5 b233 n372 s371] [⟨8, Value, cRaw, ptr b233 0⟩] → (some s371 : Option ((List UInt8))) = some r → Q367 (.exit 3) a375 w376 := by
            intro s371 n372 a375 w376 hn373 S374 hr377
            refine hQ367 _ _ _ ?_
            clear hQ367
            refine hK266 _ _ ?_
            clear hK266 K266
            refine wp_seq_k (fun K379 hK379 => ?_)
            refine wp_region_lit ?_
            refine op_bldstr S374 rfl 0 rfl hn373 Tryd.call71 (fun hb hlt => ?_) (fun a380 w381 S382 => ?_)
            · have e0 := (S374.raw 0 rfl)
              simp only [List.map_cons, List.map_nil, e0]
              exact Tryd.Builder_String_any _ _ _ _ hb hlt
            clear S374 hn373 a375 w376
            have S383 := S382.pick [0]
            clear S382
            refine op_assign S383 rfl (S383.at 0 rfl) (fun a384 S385 => ?_)
            clear S383 a380
            refine wpList_nil ?_
            refine hK379 _ _ ?_
            clear hK379 K379
            refine wp_ret ?_
            cases hr377
            exact ret1 S385 rfl 0 rfl
          obtain ⟨t368, hr370, h369⟩ := bind_some hr271
          clear hr271
          have S436 := S277.pick [0, 1, 2, 8, 10]
          clear S277
          refine wp_loopM (fun (s435 : Int × (List UInt8)) a388 w389 => match s435 with | (s278, s282) => ∃ n283 : Nat, ∃ _ : w389.heap.size = n283, St 75 (fun _ => False) D w a388 w389 [Res.bld 170 5 b233 n283 s282] [⟨65, Int, (cInt .i64), s278⟩, ⟨64, Int, (cInt .i64), ((x0.drop (1 : Int).toNat).length : Int)⟩, ⟨63, (List (List UInt8)), (cSlice cStr), x0.drop (1 : Int).toNat⟩, ⟨8, Value, cRaw, ptr b233 0⟩, ⟨1, (List UInt8), cStr, x1⟩]) ?_ (0, ([] : List UInt8) ++ (x0.getD (0 : Int).toNat [])) ?_ hr370
          · intro s435 a388 w389 x386 S437 hr390
            obtain ⟨s278, s282⟩ := s435
            obtain ⟨n283, hn284, S387⟩ := S437
            replace S387 : St 75 (fun _ => False) D w a388 w389 [Res.bld 170 5 b233 n283 s282] [⟨65, Int, (cInt .i64), s278⟩, ⟨64, Int, (cInt .i64), ((x0.drop (1 : Int).toNat).length : Int)⟩, ⟨63, (List (List UInt8)), (cSlice cStr), x0.drop (1 : Int).toNat⟩, ⟨8, Value, cRaw, ptr b233 0⟩, ⟨1, (List UInt8), cStr, x1⟩] := S387
            refine wp_seq_k (fun K391 hK391 => ?_)
            refine wp_region_lit ?_
            refine op_lss S387 rfl (S387.int 0 rfl) (S387.int 1 rfl) (fun a392 S393 => ?_)
            clear S387 a388
            refine wpList_nil ?_
            refine hK391 _ _ ?_
            clear hK391 K391
            refine wp_seq_k (fun K394 hK394 => ?_)
            rcases cond_some hr390 with ⟨b395, hr396⟩ | ⟨b395, hr397⟩
            · clear hr390
              refine c_true (S393.bool 0 rfl) b395 ?_
              refine wp_skip ?_
              refine hK394 _ _ ?_
              clear hK394 K394
              refine wp_seq_k (fun K398 hK398 => ?_)
              refine wp_block ?_
              refine wp_seq_k (fun K399 hK399 => ?_)
              refine wp_region_lit ?_
              obtain ⟨g400, hr401⟩ := guard_some hr396
              clear hr396
              refine op_indexAddr (z0 := []) S393 rfl (S393.at 3 rfl) (S393.int 1 rfl) g400 Tryd.underlying34 Tryd.sizeOf9 (fun a402 S403 => ?_)
              clear S393 a392
              refine op_loadr S403 rfl (S403.at 0 rfl) Tryd.isAgg9 Tryd.sizeOf9 (fun a404 S405 => ?_)
              clear S403 a402
              refine op_assign S405 rfl (S405.at 0 rfl) (fun a406 S407 => ?_)
              clear S405 a404
              refine wpList_nil ?_
              refine hK399 _ _ ?_
              clear hK399 K399
              refine wp_seq_k (fun K408 hK408 => ?_)
              refine wp_region_lit ?_
              refine op_move S407 rfl (S407.at 8 rfl) (fun a409 S410 => ?_)
              clear S407 a406
              obtain ⟨g411, hr412⟩ := guard_some hr401
              clear hr401
              refine op_bldcall (l' := s282 ++ x1) S410 rfl 0 rfl hn284 Tryd.call76 (fun hb hlt => ?_) (fun n413 a414 w415 hn416 S417 => ?_)
              · have e0 := (S410.raw 8 rfl)
                have e1 := (S410.str 0 rfl)
                simp only [List.map_cons, List.map_nil, e0, e1]
                rw [← str_cat]
                refine (Tryd.Builder_WriteString _ _ _ _ _ hb (by rw [Lib.byteCells_length]; exact g411) hlt).mono ?_
                rintro e w' ⟨rfl, h1, h2⟩
                exact ⟨⟨_, rfl⟩, .inr h1, h2⟩
              clear S410 hn284 a409 w389
              refine wpList_nil ?_
              refine hK408 _ _ ?_
              clear hK408 K408
              refine wp_region_lit ?_
              refine op_move S417 rfl (S417.at 1 rfl) (fun a418 S419 => ?_)
              clear S417 a414
              obtain ⟨g420, hr421⟩ := guard_some hr412
              clear hr412
              refine op_bldcall (l' := (s282 ++ x1) ++ ((x0.drop (1 : Int).toNat).getD (s278 : Int).toNat [])) S419 rfl 0 rfl hn416 Tryd.call76 (fun hb hlt => ?_) (fun n422 a423 w424 hn425 S426 => ?_)
              · have e0 := (S419.raw 9 rfl)
                have e1 := (S419.str 0 rfl)
                simp only [List.map_cons, List.map_nil, e0, e1]
                rw [← str_cat]
                refine (Tryd.Builder_WriteString _ _ _ _ _ hb (by rw [Lib.byteCells_length]; exact g420) hlt).mono ?_
                rintro e w' ⟨rfl, h1, h2⟩
                exact ⟨⟨_, rfl⟩, .inr h1, h2⟩
              clear S419 hn416 a418 w415
              refine wpList_nil ?_
              refine hK398 _ _ ?_
              clear hK398 K398
              refine wp_region_lit ?_
              refine op_add S426 rfl (S426.int 6 rfl) rfl (fun a427 S428 => ?_)
              clear S426 a423
              have S429 := S428.erase 7
              clear S428
              refine op_move S429 rfl (S429.at 0 rfl) (fun a430 S431 => ?_)
              clear S429 a427
              refine wpList_nil ?_
              have S432 := S431.pick [0, 8, 9, 10, 11]
              clear S431
              cases hr421
              exact ⟨rfl, n422, hn425, S432⟩
            · clear hr390
              refine c_false (S393.bool 0 rfl) b395 ?_
              refine wp_exit ?_
              have S433 := S393.pick [4]
              clear S393
              cases hr397
              intro h434
              refine ⟨(by intro h; cases h), ?_⟩
              exact X378 s282 n283 _ _ hn284 S433 (by subst h434; exact h369)
          · exact ⟨n261, hn264, S436⟩
        obtain ⟨t223, hr225, h224⟩ := bind_some hr105
        clear hr105
        have S498 := S113.pick [0, 1, 2, 3, 4, 5]
        clear S113
        refine wp_loopM (fun (s497 : Int × Int) a440 w441 => match s497 with | (s114, s117) => St 75 (fun _ => False) D w a440 w441 [] [⟨41, Int, (cInt .i64), s114⟩, ⟨40, Int, (cInt .i64), (x0.length : Int)⟩, ⟨39, (List (List UInt8)), (cSlice cStr), x0⟩, ⟨5, Int, (cInt .i64), s117⟩, ⟨1, (List UInt8), cStr, x1⟩, ⟨0, (List (List UInt8)), (cSlice cStr), x0⟩]) ?_ (0, s99) ?_ hr225
        · intro s497 a440 w441 x438 S499 hr442
          obtain ⟨s114, s117⟩ := s497
          have S439 : St 75 (fun _ => False) D w a440 w441 [] [⟨41, Int, (cInt .i64), s114⟩, ⟨40, Int, (cInt .i64), (x0.length : Int)⟩, ⟨39, (List (List UInt8)), (cSlice cStr), x0⟩, ⟨5, Int, (cInt .i64), s117⟩, ⟨1, (List UInt8), cStr, x1⟩, ⟨0, (List (List UInt8)), (cSlice cStr), x0⟩] := S499
          clear S499
          refine wp_seq_k (fun K443 hK443 => ?_)
          refine wp_region_lit ?_
          refine op_lss S439 rfl (S439.int 0 rfl) (S439.int 1 rfl) (fun a444 S445 => ?_)
          clear S439 a440
          refine wpList_nil ?_
          refine hK443 _ _ ?_
          clear hK443 K443
          refine wp_seq_k (fun K446 hK446 => ?_)
          rcases cond_some hr442 with ⟨b447, hr448⟩ | ⟨b447, hr449⟩
          · clear hr442
            refine c_true (S445.bool 0 rfl) b447 ?_
            refine wp_skip ?_
            refine hK446 _ _ ?_
            clear hK446 K446
            refine wp_seq_k (fun K450 hK450 => ?_)
            refine wp_block ?_
            refine wp_seq_k (fun K451 hK451 => ?_)
            refine wp_region_lit ?_
            obtain ⟨g452, hr453⟩ := guard_some hr448
            clear hr448
            refine op_indexAddr (z0 := []) S445 rfl (S445.at 3 rfl) (S445.int 1 rfl) g452 Tryd.underlying34 Tryd.sizeOf9 (fun a454 S455 => ?_)
            clear S445 a444
            refine op_loadr S455 rfl (S455.at 0 rfl) Tryd.isAgg9 Tryd.sizeOf9 (fun a456 S457 => ?_)
            clear S455 a454
            refine op_assign S457 rfl (S457.at 0 rfl) (fun a458 S459 => ?_)
            clear S457 a456
            refine wpList_nil ?_
            refine hK451 _ _ ?_
            clear hK451 K451
            refine wp_seq_k (fun K460 hK460 => ?_)
            refine wp_seq_k (fun K461 hK461 => ?_)
            refine wp_region_lit ?_
            refine op_move S459 rfl (S459.at 0 rfl) (fun a462 S463 => ?_)
            clear S459 a458
            refine op_slen S463 rfl Tryd.underlying9 (S463.str 0 rfl) (fun a464 S465 => ?_)
            clear S463 a462
            refine op_move S465 rfl (S465.at 9 rfl) (fun a466 S467 => ?_)
            clear S465 a464
            refine op_sub S467 rfl rfl (S467.int 0 rfl) (fun a468 S469 => ?_)
            clear S467 a466
            refine op_gtr S469 rfl (S469.int 2 rfl) (S469.int 0 rfl) (fun a470 S471 => ?_)
            clear S469 a468
            refine wpList_nil ?_
            refine hK461 _ _ ?_
            clear hK461 K461
            rcases cond_some hr453 with ⟨b475, hr476⟩ | ⟨b475, hr477⟩
            · clear hr453
              refine c_true (S471.bool 0 rfl) b475 ?_
              cases hr476
            · clear hr453
              refine c_false (S471.bool 0 rfl) b475 ?_
              refine wp_skip ?_
              refine hK460 _ _ ?_
              clear hK460 K460
              refine wp_region_lit ?_
              refine op_move S471 rfl (S471.at 12 rfl) (fun a478 S479 => ?_)
              clear S471 a470
              refine op_move S479 rfl (S479.at 6 rfl) (fun a480 S481 => ?_)
              clear S479 a478
              refine op_slen S481 rfl Tryd.underlying9 (S481.str 0 rfl) (fun a482 S483 => ?_)
              clear S481 a480
              refine op_add S483 rfl (S483.int 2 rfl) (S483.int 0 rfl) (fun a484 S485 => ?_)
              clear S483 a482
              have S486 := S485.erase 16
              clear S485
              refine op_assign S486 rfl (S486.at 0 rfl) (fun a487 S488 => ?_)
              clear S486 a484
              refine wpList_nil ?_
              refine hK450 _ _ ?_
              clear hK450 K450
              refine wp_region_lit ?_
              refine op_add S488 rfl (S488.int 14 rfl) rfl (fun a489 S490 => ?_)
              clear S488 a487
              have S491 := S490.erase 15
              clear S490
              refine op_move S491 rfl (S491.at 0 rfl) (fun a492 S493 => ?_)
              clear S491 a489
              refine wpList_nil ?_
              have S494 := S493.pick [0, 16, 17, 2, 18, 19]
              clear S493
              cases hr477
              exact ⟨rfl, S494⟩
          · clear hr442
            refine c_false (S445.bool 0 rfl) b447 ?_
            refine wp_exit ?_
            have S495 := S445.pick [4, 5, 6]
            clear S445
            cases hr449
            intro h496
            refine ⟨(by intro h; cases h), ?_⟩
            exact X231 s117 _ _ S495 (by subst h496; exact h224)
        · exact S498
      obtain ⟨t500, hr502, h501⟩ := bind_some hr29
      clear hr29
      rcases cond_some hr502 with ⟨b503, hr504⟩ | ⟨b503, hr505⟩
      · clear hr502
        refine c_true (S52.bool 0 rfl) b503 ?_
        refine wp_seq_k (fun K506 hK506 => ?_)
        refine wp_seq_k (fun K507 hK507 => ?_)
        refine wp_region_lit ?_
        refine op_move S52 rfl (S52.at 11 rfl) (fun a508 S509 => ?_)
        clear S52 a51
        refine op_slen S509 rfl Tryd.underlying9 (S509.str 0 rfl) (fun a510 S511 => ?_)
        clear S509 a508
        refine op_move S511 rfl (S511.at 14 rfl) (fun a512 S513 => ?_)
        clear S511 a510
        refine op_len S513 rfl (S513.at 0 rfl) Tryd.underlying34 (fun a514 S515 => ?_)
        clear S513 a512
        refine op_sub S515 rfl (S515.int 0 rfl) rfl (fun a516 S517 => ?_)
        clear S515 a514
        obtain ⟨g518, hr519⟩ := guard_some hr504
        clear hr504
        refine op_quo S517 rfl rfl (S517.int 0 rfl) g518 (fun a520 S521 => ?_)
        clear S517 a516
        refine op_geq S521 rfl (S521.int 4 rfl) (S521.int 0 rfl) (fun a522 S523 => ?_)
        clear S521 a520
        refine wpList_nil ?_
        refine hK507 _ _ ?_
        clear hK507 K507
        rcases cond_some hr519 with ⟨b527, hr528⟩ | ⟨b527, hr529⟩
        · clear hr519
          refine c_true (S523.bool 0 rfl) b527 ?_
          cases hr528
        · clear hr519
          refine c_false (S523.bool 0 rfl) b527 ?_
          refine wp_skip ?_
          refine hK506 _ _ ?_
          clear hK506 K506
          refine wp_region_lit ?_
          refine op_move S523 rfl (S523.at 10 rfl) (fun a530 S531 => ?_)
          clear S523 a522
          refine op_move S531 rfl (S531.at 19 rfl) (fun a532 S533 => ?_)
          clear S531 a530
          refine op_slen S533 rfl Tryd.underlying9 (S533.str 0 rfl) (fun a534 S535 => ?_)
          clear S533 a532
          refine op_move S535 rfl (S535.at 22 rfl) (fun a536 S537 => ?_)
          clear S535 a534
          refine op_len S537 rfl (S537.at 0 rfl) Tryd.underlying34 (fun a538 S539 => ?_)
          clear S537 a536
          refine op_sub S539 rfl (S539.int 0 rfl) rfl (fun a540 S541 => ?_)
          clear S539 a538
          refine op_mul S541 rfl (S541.int 3 rfl) (S541.int 0 rfl) (fun a542 S543 => ?_)
          clear S541 a540
          refine op_add S543 rfl (S543.int 6 rfl) (S543.int 0 rfl) (fun a544 S545 => ?_)
          clear S543 a542
          have S546 := S545.erase 18
          clear S545
          refine op_assign S546 rfl (S546.at 0 rfl) (fun a547 S548 => ?_)
          clear S546 a544
          refine wpList_nil ?_
          have S549 := S548.pick [0, 26, 27]
          clear S548
          exact X101 (IntKind.wrap .i64 (0 + (IntKind.wrap .i64 ((x1.length : Int) * (IntKind.wrap .i64 ((x0.length : Int) - 1)))))) _ _ S549 (by cases hr529; exact h501)
      · clear hr502
        refine c_false (S52.bool 0 rfl) b503 ?_
        refine wp_skip ?_
        have S550 := S52.pick [3, 11, 12]
        clear S52
        exact X101 0 _ _ S550 (by cases hr505; exact h501)
/-- tollhouse/report.num -/
noncomputable def report_num (x0 : (List Int)) : Option (List UInt8) :=
  ((loopM (fun (s185 : Int × (List (List UInt8))) => match s185 with | (s17, s20) => ((if decide (s17 < (x0.length : Int)) then (if (0 : Int) ≤ s17 ∧ s17 < (x0.length : Int) then ((strconv_FormatUint (x0.getD (s17 : Int).toNat 0) 10).bind fun y159 => (if (s20.length + [y159].length) * 16 ≤ 140737488355328 then some (.inl (IntKind.wrap .i64 (s17 + 1), s20 ++ [y159])) else none)) else none) else some (.inr s20)) : Option ((Int × (List (List UInt8))) ⊕ ((List (List UInt8)))))) (0, ([] : (List (List UInt8))))).bind fun s114 => ((strings_Join s114 ([32] : List UInt8)).bind fun y125 => some y125))
set_option maxRecDepth 100000 in
set_option maxHeartbeats 8000000 in
theorem report_num_ok {D : Dirty} {w : World} {v0 : Value} {x0 : (List Int)} {r : (List UInt8)} (h0 : (cSlice (cInt .u64)).val D w v0 x0) (hD : ∀ k, D k → k < w.heap.size) (hT2 : tabAt D w 2 tab2_cells) (hr : report_num x0 = some r) :
    Calls Tryd.prog 39 [v0].toArray w (Ret cStr D w r) := by
  refine calls_start (n := 20) Tryd.func39 rfl rfl ?_
  have S := St.start (w := w) (args := [v0].toArray) 20 rfl hD
  replace S := S.arg 0 rfl (val_dirt0 h0)
  unfold report_num at hr
  refine wp_seq_k (fun K1 hK1 => ?_)
  refine wp_region_lit ?_
  refine op_assign S rfl (cPlain_mk (f := strV) ([] : List UInt8)) (fun a2 S3 => ?_)
  clear S
  refine wpList_nil ?_
  refine hK1 _ _ ?_
  clear hK1 K1
  refine wp_seq_k (fun K4 hK4 => ?_)
  refine wp_region_lit ?_
  have S5 := S3.newrow cStr 9
  clear S3
  refine op_assign S5 rfl (cPlain_mk (f := id) (.slice none 0 0)) (fun a7 S8 => ?_)
  clear S5 a2
  refine wpList_nil ?_
  refine hK4 _ _ ?_
  clear hK4 K4
  refine wp_seq_k (fun K9 hK9 => ?_)
  refine wp_seq_k (fun K10 hK10 => ?_)
  refine wp_region_lit ?_
  refine op_move S8 rfl (S8.at 2 rfl) (fun a11 S12 => ?_)
  clear S8 a7
  refine op_len S12 rfl (S12.at 0 rfl) Tryd.underlying119 (fun a13 S14 => ?_)
  clear S12 a11
  refine op_move S14 rfl (cPlain_mk (f := Value.int .i64) 0) (fun a15 S16 => ?_)
  clear S14 a13
  refine wpList_nil ?_
  refine hK10 _ _ ?_
  clear hK10 K10
  refine wp_block ?_
  refine wp_q (fun Q110 hQ110 => ?_)
  have X120 : ∀ (s114 : (List (List UInt8))) (v115 : Value) (a117 : Act) (w118 : World), St 20 (fun _ => False) D w a117 w118 [Res.row v115 9 cStr s114] [⟨3, Value, cRaw, v115⟩] → (((strings_Join s114 ([32] : List UInt8)).bind fun y125 => some y125) : Option ((List UInt8))) = some r → Q110 (.exit 0) a117 w118 := by
    intro s114 v115 a117 w118 S116 hr119
    refine hQ110 _ _ _ ?_
    clear hQ110
    refine hK9 _ _ ?_
    clear hK9 K9
    refine wp_seq_k (fun K121 hK121 => ?_)
    refine wp_region_lit ?_
    refine op_move S116 rfl (S116.at 0 rfl) (fun a122 S123 => ?_)
    clear S116 a117
    have S124 := S123.still 0 0 rfl rfl
    clear S123
    obtain ⟨y125, h126, hr127⟩ := bind_some hr119
    clear hr119
    refine op_call S124 rfl Tryd.call68 (strings_Join_ok (S124.at 0 rfl) (cPlain_mk (f := strV) ([32] : List UInt8)) S124.dirty_lt h126) (fun a128 w130 S129 => ?_)
    clear S124 a122 w118
    refine op_assign S129 rfl (S129.at 0 rfl) (fun a131 S132 => ?_)
    clear S129 a128
    refine wpList_nil ?_
    refine hK121 _ _ ?_
    clear hK121 K121
    refine wp_ret ?_
    cases hr127
    exact ret1 S132 rfl 0 rfl
  obtain ⟨t111, hr113, h112⟩ := bind_some hr
  clear hr
  have S186 := S16.pick [0, 1, 2, 3]
  clear S16
  refine wp_loopM (fun (s185 : Int × (List (List UInt8))) a135 w136 => match s185 with | (s17, s20) => ∃ v21 : Value, St 20 (fun _ => False) D w a135 w136 [Res.row v21 9 cStr s20] [⟨8, Int, (cInt .i64), s17⟩, ⟨7, Int, (cInt .i64), (x0.length : Int)⟩, ⟨6, (List Int), (cSlice (cInt .u64)), x0⟩, ⟨3, Value, cRaw, v21⟩]) ?_ (0, ([] : (List (List UInt8)))) ?_ hr113
  · intro s185 a135 w136 x133 S187 hr137
    obtain ⟨s17, s20⟩ := s185
    obtain ⟨v21, S134⟩ := S187
    replace S134 : St 20 (fun _ => False) D w a135 w136 [Res.row v21 9 cStr s20] [⟨8, Int, (cInt .i64), s17⟩, ⟨7, Int, (cInt .i64), (x0.length : Int)⟩, ⟨6, (List Int), (cSlice (cInt .u64)), x0⟩, ⟨3, Value, cRaw, v21⟩] := S134
    refine wp_seq_k (fun K138 hK138 => ?_)
    refine wp_region_lit ?_
    refine op_lss S134 rfl (S134.int 0 rfl) (S134.int 1 rfl) (fun a139 S140 => ?_)
    clear S134 a135
    refine wpList_nil ?_
    refine hK138 _ _ ?_
    clear hK138 K138
    refine wp_seq_k (fun K141 hK141 => ?_)
    rcases cond_some hr137 with ⟨b142, hr143⟩ | ⟨b142, hr144⟩
    · clear hr137
      refine c_true (S140.bool 0 rfl) b142 ?_
      refine wp_skip ?_
      refine hK141 _ _ ?_
      clear hK141 K141
      refine wp_seq_k (fun K145 hK145 => ?_)
      refine wp_block ?_
      refine wp_seq_k (fun K146 hK146 => ?_)
      refine wp_region_lit ?_
      obtain ⟨g147, hr148⟩ := guard_some hr143
      clear hr143
      refine op_indexAddr (z0 := 0) S140 rfl (S140.at 3 rfl) (S140.int 1 rfl) g147 Tryd.underlying119 Tryd.sizeOf23 (fun a149 S150 => ?_)
      clear S140 a139
      refine op_loadr S150 rfl (S150.at 0 rfl) Tryd.isAgg23 Tryd.sizeOf23 (fun a151 S152 => ?_)
      clear S150 a149
      refine op_assign S152 rfl (S152.at 0 rfl) (fun a153 S154 => ?_)
      clear S152 a151
      refine wpList_nil ?_
      refine hK146 _ _ ?_
      clear hK146 K146
      refine wp_region_lit ?_
      refine op_move S154 rfl (S154.at 7 rfl) (fun a155 S156 => ?_)
      clear S154 a153
      refine op_move S156 rfl (S156.at 1 rfl) (fun a157 S158 => ?_)
      clear S156 a155
      obtain ⟨y159, h160, hr161⟩ := bind_some hr148
      clear hr148
      refine op_call S158 rfl Tryd.call67 (strconv_FormatUint_ok (S158.at 0 rfl) (cPlain_mk (f := Value.int .i64) 10) S158.dirty_lt (S158.tab hT2) h160) (fun a162 w164 S163 => ?_)
      clear S158 a157 w136
      refine op_lit S163 rfl cStr_flat Tryd.underlying34 Tryd.sizeOf9 Tryd.zeroValue9 rfl rfl rfl (.cons (S163.at 0 rfl) (.nil _)) (fun a165 w167 S166 => ?_)
      clear S163 a162 w164
      obtain ⟨g168, hr169⟩ := guard_some hr161
      clear hr161
      refine op_append S166 rfl 0 rfl (S166.raw 3 rfl) (S166.at 0 rfl) cStr_flat Tryd.underlying34 info9 rfl rfl rfl g168 (fun v170 a171 w172 S173 => ?_)
      clear S166 a165 w167
      have S174 := S173.erase 12
      clear S173
      refine op_assign S174 rfl (S174.at 0 rfl) (fun a175 S176 => ?_)
      clear S174 a171
      refine wpList_nil ?_
      refine hK145 _ _ ?_
      clear hK145 K145
      refine wp_region_lit ?_
      refine op_add S176 rfl (S176.int 10 rfl) rfl (fun a177 S178 => ?_)
      clear S176 a175
      have S179 := S178.erase 11
      clear S178
      refine op_move S179 rfl (S179.at 0 rfl) (fun a180 S181 => ?_)
      clear S179 a177
      refine wpList_nil ?_
      have S182 := S181.pick [0, 12, 13, 2]
      clear S181
      cases hr169
      exact ⟨rfl, v170, S182⟩
    · clear hr137
      refine c_false (S140.bool 0 rfl) b142 ?_
      refine wp_exit ?_
      have S183 := S140.pick [4]
      clear S140
      cases hr144
      intro h184
      refine ⟨(by intro h; cases h), ?_⟩
      exact X120 s20 v21 _ _ S183 (by subst h184; exact h112)
  · exact ⟨(.slice none 0 0), S186⟩
/-- tollhouse/report.short -/
noncomputable def report_short (x0 : (List Int)) : Option (List UInt8) :=
  ((loopM (fun (s215 : Int × (List UInt8)) => match s215 with | (s23, s26) => ((if decide (s23 < ((x0.take (4 : Int).toNat).length : Int)) then (if (0 : Int) ≤ s23 ∧ s23 < ((x0.take (4 : Int).toNat).length : Int) then (if (0 : Int) ≤ (shrI .u8 ((x0.take (4 : Int).toNat).getD (s23 : Int).toNat 0) 4) ∧ (shrI .u8 ((x0.take (4 : Int).toNat).getD (s23 : Int).toNat 0) 4) < (([48, 49, 50, 51, 52, 53, 54, 55, 56, 57, 97, 98, 99, 100, 101, 102] : List UInt8).length : Int) then (if (0 : Int) ≤ ((([48, 49, 50, 51, 52, 53, 54, 55, 56, 57, 97, 98, 99, 100, 101, 102] : List UInt8).getD ((shrI .u8 ((x0.take (4 : Int).toNat).getD (s23 : Int).toNat 0) 4) : Int).toNat 0).toNat : Int) ∧ ((([48, 49, 50, 51, 52, 53, 54, 55, 56, 57, 97, 98, 99, 100, 101, 102] : List UInt8).getD ((shrI .u8 ((x0.take (4 : Int).toNat).getD (s23 : Int).toNat 0) 4) : Int).toNat 0).toNat : Int) < 256 ∧ s26.length + 1 ≤ 140737488355328 then (if (0 : Int) ≤ (bitAnd .u8 ((x0.take (4 : Int).toNat).getD (s23 : Int).toNat 0) 15) ∧ (bitAnd .u8 ((x0.take (4 : Int).toNat).getD (s23 : Int).toNat 0) 15) < (([48, 49, 50, 51, 52, 53, 54, 55, 56, 57, 97, 98, 99, 100, 101, 102] : List UInt8).length : Int) then (if (0 : Int) ≤ ((([48, 49, 50, 51, 52, 53, 54, 55, 56, 57, 97, 98, 99, 100, 101, 102] : List UInt8).getD ((bitAnd .u8 ((x0.take (4 : Int).toNat).getD (s23 : Int).toNat 0) 15) : Int).toNat 0).toNat : Int) ∧ ((([48, 49, 50, 51, 52, 53, 54, 55, 56, 57, 97, 98, 99, 100, 101, 102] : List UInt8).getD ((bitAnd .u8 ((x0.take (4 : Int).toNat).getD (s23 : Int).toNat 0) 15) : Int).toNat 0).toNat : Int) < 256 ∧ (s26 ++ [UInt8.ofNat (((([48, 49, 50, 51, 52, 53, 54, 55, 56, 57, 97, 98, 99, 100, 101, 102] : List UInt8).getD ((shrI .u8 ((x0.take (4 : Int).toNat).getD (s23 : Int).toNat 0) 4) : Int).toNat 0).toNat : Int) : Int).toNat]).length + 1 ≤ 140737488355328 then some (.inl (IntKind.wrap .i64 (s23 + 1), (s26 ++ [UInt8.ofNat (((([48, 49, 50, 51, 52, 53, 54, 55, 56, 57, 97, 98, 99, 100, 101, 102] : List UInt8).getD ((shrI .u8 ((x0.take (4 : Int).toNat).getD (s23 : Int).toNat 0) 4) : Int).toNat 0).toNat : Int) : Int).toNat]) ++ [UInt8.ofNat (((([48, 49, 50, 51, 52, 53, 54, 55, 56, 57, 97, 98, 99, 100, 101, 102] : List UInt8).getD ((bitAnd .u8 ((x0.take (4 : Int).toNat).getD (s23 : Int).toNat 0) 15) : Int).toNat 0).toNat : Int) : Int).toNat])) else none) else none) else none) else none) else none) else some (.inr s26)) : Option ((Int × (List UInt8)) ⊕ ((List UInt8))))) (0, ([] : List UInt8))).bind fun s139 => some s139)
set_option maxRecDepth 100000 in
set_option maxHeartbeats 8000000 in
theorem report_short_ok {D : Dirty} {w : World} {v0 : Value} {x0 : (List Int)} {r : (List UInt8)} (h0 : (cArr 32 (cInt .u8)).val D w v0 x0) (hD : ∀ k, D k → k < w.heap.size) (hr : report_short x0 = some r) :
    Calls Tryd.prog 41 [v0].toArray w (Ret cStr D w r) := by
  refine calls_start (n := 22) Tryd.func41 rfl rfl ?_
  have S := St.start (w := w) (args := [v0].toArray) 22 rfl hD
  replace S := S.arg 0 rfl (val_dirt0 h0)
  unfold report_short at hr
  refine wp_seq_k (fun K1 hK1 => ?_)
  refine wp_region_lit ?_
  refine op_boxr S rfl (S.at 0 rfl) (cArr_flat (cInt_flat _)) (fun a2 w4 S3 => ?_)
  clear S
  refine op_assign S3 rfl (cPlain_mk (f := strV) ([] : List UInt8)) (fun a5 S6 => ?_)
  clear S3 a2
  refine wpList_nil ?_
  refine hK1 _ _ ?_
  clear hK1 K1
  refine wp_seq_k (fun K7 hK7 => ?_)
  refine wp_region_lit ?_
  refine op_bldalloc S6 rfl 5 Tryd.zeroValue170 (fun b8 n9 a10 w11 hn12 hf13 S14 => ?_)
  clear S6 a5 w4
  refine wpList_nil ?_
  refine hK7 _ _ ?_
  clear hK7 K7
  refine wp_seq_k (fun K15 hK15 => ?_)
  refine wp_seq_k (fun K16 hK16 => ?_)
  refine wp_region_lit ?_
  refine op_slicearrt S14 rfl (S14.at 2 rfl) (by decide) rfl (by decide) Tryd.underlying28 Tryd.sizeOf5 (fun a17 S18 => ?_)
  clear S14 a10
  refine op_len S18 rfl (S18.at 0 rfl) Tryd.underlying54 (fun a19 S20 => ?_)
  clear S18 a17
  refine op_move S20 rfl (cPlain_mk (f := Value.int .i64) 0) (fun a21 S22 => ?_)
  clear S20 a19
  refine wpList_nil ?_
  refine hK16 _ _ ?_
  clear hK16 K16
  refine wp_block ?_
  refine wp_q (fun Q135 hQ135 => ?_)
  have X146 : ∀ (s139 : (List UInt8)) (n140 : Nat) (a143 : Act) (w144 : World) (hn141 : w144.heap.size = n140), St 22 (fun _ => False) D w a143 w144 [Res.bld 170 5 b8 n140 s139] [⟨3, Value, cRaw, ptr b8 0⟩] → (some s139 : Option ((List UInt8))) = some r → Q135 (.exit 0) a143 w144 := by
    intro s139 n140 a143 w144 hn141 S142 hr145
    refine hQ135 _ _ _ ?_
    clear hQ135
    refine hK15 _ _ ?_
    clear hK15 K15
    refine wp_seq_k (fun K147 hK147 => ?_)
    refine wp_region_lit ?_
    refine op_bldstr S142 rfl 0 rfl hn141 Tryd.call71 (fun hb hlt => ?_) (fun a148 w149 S150 => ?_)
    · have e0 := (S142.raw 0 rfl)
      simp only [List.map_cons, List.map_nil, e0]
      exact Tryd.Builder_String_any _ _ _ _ hb hlt
    clear S142 hn141 a143 w144
    have S151 := S150.pick [0]
    clear S150
    refine op_assign S151 rfl (S151.at 0 rfl) (fun a152 S153 => ?_)
    clear S151 a148
    refine wpList_nil ?_
    refine hK147 _ _ ?_
    clear hK147 K147
    refine wp_ret ?_
    cases hr145
    exact ret1 S153 rfl 0 rfl
  obtain ⟨t136, hr138, h137⟩ := bind_some hr
  clear hr
  have S216 := S22.pick [0, 1, 2, 3]
  clear S22
  refine wp_loopM (fun (s215 : Int × (List UInt8)) a156 w157 => match s215 with | (s23, s26) => ∃ n27 : Nat, ∃ _ : w157.heap.size = n27, St 22 (fun _ => False) D w a156 w157 [Res.bld 170 5 b8 n27 s26] [⟨8, Int, (cInt .i64), s23⟩, ⟨7, Int, (cInt .i64), ((x0.take (4 : Int).toNat).length : Int)⟩, ⟨6, (List Int), (cSlice (cInt .u8)), x0.take (4 : Int).toNat⟩, ⟨3, Value, cRaw, ptr b8 0⟩]) ?_ (0, ([] : List UInt8)) ?_ hr138
  · intro s215 a156 w157 x154 S217 hr158
    obtain ⟨s23, s26⟩ := s215
    obtain ⟨n27, hn28, S155⟩ := S217
    replace S155 : St 22 (fun _ => False) D w a156 w157 [Res.bld 170 5 b8 n27 s26] [⟨8, Int, (cInt .i64), s23⟩, ⟨7, Int, (cInt .i64), ((x0.take (4 : Int).toNat).length : Int)⟩, ⟨6, (List Int), (cSlice (cInt .u8)), x0.take (4 : Int).toNat⟩, ⟨3, Value, cRaw, ptr b8 0⟩] := S155
    refine wp_seq_k (fun K159 hK159 => ?_)
    refine wp_region_lit ?_
    refine op_lss S155 rfl (S155.int 0 rfl) (S155.int 1 rfl) (fun a160 S161 => ?_)
    clear S155 a156
    refine wpList_nil ?_
    refine hK159 _ _ ?_
    clear hK159 K159
    refine wp_seq_k (fun K162 hK162 => ?_)
    rcases cond_some hr158 with ⟨b163, hr164⟩ | ⟨b163, hr165⟩
    · clear hr158
      refine c_true (S161.bool 0 rfl) b163 ?_
      refine wp_skip ?_
      refine hK162 _ _ ?_
      clear hK162 K162
      refine wp_seq_k (fun K166 hK166 => ?_)
      refine wp_block ?_
      refine wp_seq_k (fun K167 hK167 => ?_)
      refine wp_region_lit ?_
      obtain ⟨g168, hr169⟩ := guard_some hr164
      clear hr164
      refine op_indexAddr (z0 := 0) S161 rfl (S161.at 3 rfl) (S161.int 1 rfl) g168 Tryd.underlying54 Tryd.sizeOf5 (fun a170 S171 => ?_)
      clear S161 a160
      refine op_loadr S171 rfl (S171.at 0 rfl) Tryd.isAgg5 Tryd.sizeOf5 (fun a172 S173 => ?_)
      clear S171 a170
      refine op_assign S173 rfl (S173.at 0 rfl) (fun a174 S175 => ?_)
      clear S173 a172
      refine wpList_nil ?_
      refine hK167 _ _ ?_
      clear hK167 K167
      refine wp_seq_k (fun K176 hK176 => ?_)
      refine wp_region_lit ?_
      refine op_move S175 rfl (S175.at 0 rfl) (fun a177 S178 => ?_)
      clear S175 a174
      refine op_shr S178 rfl (S178.int 0 rfl) rfl (by decide) (fun a179 S180 => ?_)
      clear S178 a177
      obtain ⟨g181, hr182⟩ := guard_some hr169
      clear hr169
      refine op_sidx S180 rfl Tryd.underlying9 rfl (S180.int 0 rfl) g181 (fun a183 S184 => ?_)
      clear S180 a179
      obtain ⟨g185, hr186⟩ := guard_some hr182
      clear hr182
      refine op_bldcall (l' := s26 ++ [UInt8.ofNat (((([48, 49, 50, 51, 52, 53, 54, 55, 56, 57, 97, 98, 99, 100, 101, 102] : List UInt8).getD ((shrI .u8 ((x0.take (4 : Int).toNat).getD (s23 : Int).toNat 0) 4) : Int).toNat 0).toNat : Int) : Int).toNat]) S184 rfl 0 rfl hn28 Tryd.call70 (fun hb hlt => ?_) (fun n187 a188 w189 hn190 S191 => ?_)
      · have e0 := (S184.raw 10 rfl)
        have e1 := (S184.int 0 rfl)
        simp only [List.map_cons, List.map_nil, e0, e1]
        rw [← byte_cat _ _ ⟨g185.1, g185.2.1⟩]
        refine (Tryd.Builder_WriteByte _ _ _ _ _ hb (by rw [Lib.byteCells_length]; exact g185.2.2) hlt).mono ?_
        rintro e w' ⟨rfl, h1, h2⟩
        exact ⟨⟨_, rfl⟩, .inr h1, h2⟩
      clear S184 hn28 a183 w157
      refine wpList_nil ?_
      refine hK176 _ _ ?_
      clear hK176 K176
      refine wp_region_lit ?_
      refine op_move S191 rfl (S191.at 3 rfl) (fun a192 S193 => ?_)
      clear S191 a188
      refine op_and S193 rfl (S193.int 0 rfl) rfl (fun a194 S195 => ?_)
      clear S193 a192
      obtain ⟨g196, hr197⟩ := guard_some hr186
      clear hr186
      refine op_sidx S195 rfl Tryd.underlying9 rfl (S195.int 0 rfl) g196 (fun a198 S199 => ?_)
      clear S195 a194
      obtain ⟨g200, hr201⟩ := guard_some hr197
      clear hr197
      refine op_bldcall (l' := (s26 ++ [UInt8.ofNat (((([48, 49, 50, 51, 52, 53, 54, 55, 56, 57, 97, 98, 99, 100, 101, 102] : List UInt8).getD ((shrI .u8 ((x0.take (4 : Int).toNat).getD (s23 : Int).toNat 0) 4) : Int).toNat 0).toNat : Int) : Int).toNat]) ++ [UInt8.ofNat (((([48, 49, 50, 51, 52, 53, 54, 55, 56, 57, 97, 98, 99, 100, 101, 102] : List UInt8).getD ((bitAnd .u8 ((x0.take (4 : Int).toNat).getD (s23 : Int).toNat 0) 15) : Int).toNat 0).toNat : Int) : Int).toNat]) S199 rfl 0 rfl hn190 Tryd.call70 (fun hb hlt => ?_) (fun n202 a203 w204 hn205 S206 => ?_)
      · have e0 := (S199.raw 13 rfl)
        have e1 := (S199.int 0 rfl)
        simp only [List.map_cons, List.map_nil, e0, e1]
        rw [← byte_cat _ _ ⟨g200.1, g200.2.1⟩]
        refine (Tryd.Builder_WriteByte _ _ _ _ _ hb (by rw [Lib.byteCells_length]; exact g200.2.2) hlt).mono ?_
        rintro e w' ⟨rfl, h1, h2⟩
        exact ⟨⟨_, rfl⟩, .inr h1, h2⟩
      clear S199 hn190 a198 w189
      refine wpList_nil ?_
      refine hK166 _ _ ?_
      clear hK166 K166
      refine wp_region_lit ?_
      refine op_add S206 rfl (S206.int 10 rfl) rfl (fun a207 S208 => ?_)
      clear S206 a203
      have S209 := S208.erase 11
      clear S208
      refine op_move S209 rfl (S209.at 0 rfl) (fun a210 S211 => ?_)
      clear S209 a207
      refine wpList_nil ?_
      have S212 := S211.pick [0, 12, 13, 14]
      clear S211
      cases hr201
      exact ⟨rfl, n202, hn205, S212⟩
    · clear hr158
      refine c_false (S161.bool 0 rfl) b163 ?_
      refine wp_exit ?_
      have S213 := S161.pick [4]
      clear S161
      cases hr165
      intro h214
      refine ⟨(by intro h; cases h), ?_⟩
      exact X146 s26 n27 _ _ hn28 S213 (by subst h214; exact h137)
  · exact ⟨n9, hn12, S216⟩
/-- tollhouse/report.State -/
noncomputable def report_State (x0 : S_api_State) : Option (List (List UInt8)) :=
  ((report_num [IntKind.wrap .u64 x0.Channel]).bind fun y17 => (if ([99, 104, 97, 110, 110, 101, 108, 32] : List UInt8).length + y17.length ≤ 9223372036854775807 then (if (([99, 104, 97, 110, 110, 101, 108, 32] : List UInt8) ++ y17).length + ([32, 114, 111, 117, 110, 100, 32] : List UInt8).length ≤ 9223372036854775807 then ((report_num [x0.Round]).bind fun y38 => (if ((([99, 104, 97, 110, 110, 101, 108, 32] : List UInt8) ++ y17) ++ ([32, 114, 111, 117, 110, 100, 32] : List UInt8)).length + y38.length ≤ 9223372036854775807 then (if (((([99, 104, 97, 110, 110, 101, 108, 32] : List UInt8) ++ y17) ++ ([32, 114, 111, 117, 110, 100, 32] : List UInt8)) ++ y38).length + ([32, 109, 111, 118, 101, 100, 32] : List UInt8).length ≤ 9223372036854775807 then ((report_num x0.Moved).bind fun y56 => (if ((((([99, 104, 97, 110, 110, 101, 108, 32] : List UInt8) ++ y17) ++ ([32, 114, 111, 117, 110, 100, 32] : List UInt8)) ++ y38) ++ ([32, 109, 111, 118, 101, 100, 32] : List UInt8)).length + y56.length ≤ 9223372036854775807 then (if (((((([99, 104, 97, 110, 110, 101, 108, 32] : List UInt8) ++ y17) ++ ([32, 114, 111, 117, 110, 100, 32] : List UInt8)) ++ y38) ++ ([32, 109, 111, 118, 101, 100, 32] : List UInt8)) ++ y56).length + ([32, 116, 97, 107, 101, 110, 32] : List UInt8).length ≤ 9223372036854775807 then ((report_num x0.Taken).bind fun y74 => (if ((((((([99, 104, 97, 110, 110, 101, 108, 32] : List UInt8) ++ y17) ++ ([32, 114, 111, 117, 110, 100, 32] : List UInt8)) ++ y38) ++ ([32, 109, 111, 118, 101, 100, 32] : List UInt8)) ++ y56) ++ ([32, 116, 97, 107, 101, 110, 32] : List UInt8)).length + y74.length ≤ 9223372036854775807 then ((loopM (fun (s1675 : Int × (List (List UInt8))) => match s1675 with | (s322, s325) => ((if decide (s322 < (x0.Conds.length : Int)) then (if (0 : Int) ≤ s322 ∧ s322 < (x0.Conds.length : Int) then ((report_num [(x0.Conds.getD (s322 : Int).toNat zS_api_Cond).Id]).bind fun y1262 => (if ([112, 97, 121, 109, 101, 110, 116, 32] : List UInt8).length + y1262.length ≤ 9223372036854775807 then (if (([112, 97, 121, 109, 101, 110, 116, 32] : List UInt8) ++ y1262).length + ([32, 98, 121, 32] : List UInt8).length ≤ 9223372036854775807 then ((strconv_Itoa ((x0.Conds.getD (s322 : Int).toNat zS_api_Cond).By)).bind fun y1280 => (if ((([112, 97, 121, 109, 101, 110, 116, 32] : List UInt8) ++ y1262) ++ ([32, 98, 121, 32] : List UInt8)).length + y1280.length ≤ 9223372036854775807 then (if (((([112, 97, 121, 109, 101, 110, 116, 32] : List UInt8) ++ y1262) ++ ([32, 98, 121, 32] : List UInt8)) ++ y1280).length + ([32, 111, 102, 32] : List UInt8).length ≤ 9223372036854775807 then ((report_num [(x0.Conds.getD (s322 : Int).toNat zS_api_Cond).Amount]).bind fun y1301 => (if ((((([112, 97, 121, 109, 101, 110, 116, 32] : List UInt8) ++ y1262) ++ ([32, 98, 121, 32] : List UInt8)) ++ y1280) ++ ([32, 111, 102, 32] : List UInt8)).length + y1301.length ≤ 9223372036854775807 then (if (((((([112, 97, 121, 109, 101, 110, 116, 32] : List UInt8) ++ y1262) ++ ([32, 98, 121, 32] : List UInt8)) ++ y1280) ++ ([32, 111, 102, 32] : List UInt8)) ++ y1301).length + ([32, 102, 111, 114, 32] : List UInt8).length ≤ 9223372036854775807 then ((report_short ((x0.Conds.getD (s322 : Int).toNat zS_api_Cond).Hash)).bind fun y1319 => (if ((((((([112, 97, 121, 109, 101, 110, 116, 32] : List UInt8) ++ y1262) ++ ([32, 98, 121, 32] : List UInt8)) ++ y1280) ++ ([32, 111, 102, 32] : List UInt8)) ++ y1301) ++ ([32, 102, 111, 114, 32] : List UInt8)).length + y1319.length ≤ 9223372036854775807 then (if (((((((([112, 97, 121, 109, 101, 110, 116, 32] : List UInt8) ++ y1262) ++ ([32, 98, 121, 32] : List UInt8)) ++ y1280) ++ ([32, 111, 102, 32] : List UInt8)) ++ y1301) ++ ([32, 102, 111, 114, 32] : List UInt8)) ++ y1319).length + ([32, 117, 112, 32, 116, 111, 32] : List UInt8).length ≤ 9223372036854775807 then ((report_num [(x0.Conds.getD (s322 : Int).toNat zS_api_Cond).Expiry]).bind fun y1340 => (if ((((((((([112, 97, 121, 109, 101, 110, 116, 32] : List UInt8) ++ y1262) ++ ([32, 98, 121, 32] : List UInt8)) ++ y1280) ++ ([32, 111, 102, 32] : List UInt8)) ++ y1301) ++ ([32, 102, 111, 114, 32] : List UInt8)) ++ y1319) ++ ([32, 117, 112, 32, 116, 111, 32] : List UInt8)).length + y1340.length ≤ 9223372036854775807 then (if (s325.length + [((((((((([112, 97, 121, 109, 101, 110, 116, 32] : List UInt8) ++ y1262) ++ ([32, 98, 121, 32] : List UInt8)) ++ y1280) ++ ([32, 111, 102, 32] : List UInt8)) ++ y1301) ++ ([32, 102, 111, 114, 32] : List UInt8)) ++ y1319) ++ ([32, 117, 112, 32, 116, 111, 32] : List UInt8)) ++ y1340].length) * 16 ≤ 140737488355328 then some (.inl (IntKind.wrap .i64 (s322 + 1), s325 ++ [((((((((([112, 97, 121, 109, 101, 110, 116, 32] : List UInt8) ++ y1262) ++ ([32, 98, 121, 32] : List UInt8)) ++ y1280) ++ ([32, 111, 102, 32] : List UInt8)) ++ y1301) ++ ([32, 102, 111, 114, 32] : List UInt8)) ++ y1319) ++ ([32, 117, 112, 32, 116, 111, 32] : List UInt8)) ++ y1340])) else none) else none)) else none) else none)) else none) else none)) else none) else none)) else none) else none)) else none) else some (.inr s325)) : Option ((Int × (List (List UInt8))) ⊕ ((List (List UInt8)))))) (0, [((((((([99, 104, 97, 110, 110, 101, 108, 32] : List UInt8) ++ y17) ++ ([32, 114, 111, 117, 110, 100, 32] : List UInt8)) ++ y38) ++ ([32, 109, 111, 118, 101, 100, 32] : List UInt8)) ++ y56) ++ ([32, 116, 97, 107, 101, 110, 32] : List UInt8)) ++ y74])).bind fun s1213 => some s1213) else none)) else none) else none)) else none) else none)) else none) else none))
set_option maxRecDepth 100000 in
set_option maxHeartbeats 8000000 in
theorem report_State_ok {D : Dirty} {w : World} {v0 : Value} {x0 : S_api_State} {r : (List (List UInt8))} (h0 : cS_api_State.val D w v0 x0) (hD : ∀ k, D k → k < w.heap.size) (hT2 : tabAt D w 2 tab2_cells) (hr : report_State x0 = some r) :
    Calls Tryd.prog 8 [v0].toArray w (Ret (cSlice cStr) D w r) := by
  refine calls_start (n := 68) Tryd.func8 rfl rfl ?_
  have S := St.start (w := w) (args := [v0].toArray) 68 rfl hD
  replace S := S.arg 0 rfl (val_dirt0 h0)
  unfold report_State at hr
  refine wp_seq_k (fun K1 hK1 => ?_)
  refine wp_region_lit ?_
  refine op_boxr S rfl (S.at 0 rfl) cS_api_State_flat (fun a2 w4 S3 => ?_)
  clear S
  refine op_assign S3 rfl (cSlice_nil (c := cStr)) (fun a5 S6 => ?_)
  clear S3 a2
  refine wpList_nil ?_
  refine hK1 _ _ ?_
  clear hK1 K1
  refine wp_seq_k (fun K7 hK7 => ?_)
  obtain ⟨y17, h18, hr19⟩ := bind_some hr
  clear hr
  obtain ⟨g23, hr24⟩ := guard_some hr19
  clear hr19
  obtain ⟨g27, hr28⟩ := guard_some hr24
  clear hr24
  obtain ⟨y38, h39, hr40⟩ := bind_some hr28
  clear hr28
  obtain ⟨g44, hr45⟩ := guard_some hr40
  clear hr40
  obtain ⟨g48, hr49⟩ := guard_some hr45
  clear hr45
  obtain ⟨y56, h57, hr58⟩ := bind_some hr49
  clear hr49
  obtain ⟨g62, hr63⟩ := guard_some hr58
  clear hr58
  obtain ⟨g66, hr67⟩ := guard_some hr63
  clear hr63
  obtain ⟨y74, h75, hr76⟩ := bind_some hr67
  clear hr67
  refine wp_drawn follows_mixed [[], [0], [0, 1], [0, 1, 2], [0, 1, 2, 3], [0, 1, 2, 3, 4], [0, 1, 2, 3, 4, 5], [], [7], [7, 8], [0, 1, 2, 3, 4, 7, 8, 9], [0, 1, 2, 3, 4, 5, 6, 7, 8, 9, 10], [0, 1, 2, 3, 4, 5, 6, 7, 8, 9, 10, 11], [], [13], [0, 1, 2, 3, 4, 7, 8, 9, 10, 13, 14], [0, 1, 2, 3, 4, 5, 6, 7, 8, 9, 10, 11, 12, 13, 14, 15], [0, 1, 2, 3, 4, 5, 6, 7, 8, 9, 10, 11, 12, 13, 14, 15, 16], [], [18], [0, 1, 2, 3, 4, 7, 8, 9, 10, 13, 14, 15, 18, 19], [0, 1, 2, 3, 4, 5, 6, 7, 8, 9, 10, 11, 12, 13, 14, 15, 16, 17, 18, 19, 20], [0, 1, 2, 3, 4, 5, 6, 7, 8, 9, 10, 11, 12, 13, 14, 15, 16, 17, 18, 19, 20, 21], [0, 1, 2, 3, 4, 5, 6, 7, 8, 9, 10, 11, 12, 13, 14, 15, 16, 17, 18, 19, 20, 21, 22]] [none, none, none, none, none, none, none, none, none, none, none, none, none, none, none, none, none, none, none, none, none] 21 rfl rfl 0 rfl (fun i p => List.getD [[⟨6, Int, cRef (cInt .u32), x0.Channel⟩], [⟨7, Int, (cInt .u32), x0.Channel⟩], [⟨8, Int, (cInt .u64), IntKind.wrap .u64 x0.Channel⟩], [⟨9, (List Int), (cSlice (cInt .u64)), [IntKind.wrap .u64 x0.Channel]⟩], [⟨10, (List UInt8), cStr, y17⟩], [⟨11, (List UInt8), cStr, ([99, 104, 97, 110, 110, 101, 108, 32] : List UInt8) ++ y17⟩], [⟨12, (List UInt8), cStr, (([99, 104, 97, 110, 110, 101, 108, 32] : List UInt8) ++ y17) ++ ([32, 114, 111, 117, 110, 100, 32] : List UInt8)⟩], [⟨13, Int, cRef (cInt .u64), x0.Round⟩], [⟨14, Int, (cInt .u64), x0.Round⟩], [⟨15, (List Int), (cSlice (cInt .u64)), [x0.Round]⟩], [⟨16, (List UInt8), cStr, y38⟩], [⟨17, (List UInt8), cStr, ((([99, 104, 97, 110, 110, 101, 108, 32] : List UInt8) ++ y17) ++ ([32, 114, 111, 117, 110, 100, 32] : List UInt8)) ++ y38⟩], [⟨18, (List UInt8), cStr, (((([99, 104, 97, 110, 110, 101, 108, 32] : List UInt8) ++ y17) ++ ([32, 114, 111, 117, 110, 100, 32] : List UInt8)) ++ y38) ++ ([32, 109, 111, 118, 101, 100, 32] : List UInt8)⟩], [⟨19, (List Int), cRef (cArr 2 (cInt .u64)), x0.Moved⟩], [⟨20, (List Int), (cSlice (cInt .u64)), x0.Moved⟩], [⟨21, (List UInt8), cStr, y56⟩], [⟨22, (List UInt8), cStr, ((((([99, 104, 97, 110, 110, 101, 108, 32] : List UInt8) ++ y17) ++ ([32, 114, 111, 117, 110, 100, 32] : List UInt8)) ++ y38) ++ ([32, 109, 111, 118, 101, 100, 32] : List UInt8)) ++ y56⟩], [⟨23, (List UInt8), cStr, (((((([99, 104, 97, 110, 110, 101, 108, 32] : List UInt8) ++ y17) ++ ([32, 114, 111, 117, 110, 100, 32] : List UInt8)) ++ y38) ++ ([32, 109, 111, 118, 101, 100, 32] : List UInt8)) ++ y56) ++ ([32, 116, 97, 107, 101, 110, 32] : List UInt8)⟩], [⟨24, (List Int), cRef (cArr 2 (cInt .u64)), x0.Taken⟩], [⟨25, (List Int), (cSlice (cInt .u64)), x0.Taken⟩], [⟨26, (List UInt8), cStr, y74⟩]] i []) (fun _ _ _ => []) (fun _ => (0, undef)) S6 rfl (fun _ => rfl) (Obs.cons ?_ (Obs.cons ?_ (Obs.cons ?_ (Obs.cons ?_ (Obs.cons ?_ (Obs.cons ?_ (Obs.cons ?_ (Obs.cons ?_ (Obs.cons ?_ (Obs.cons ?_ (Obs.cons ?_ (Obs.cons ?_ (Obs.cons ?_ (Obs.cons ?_ (Obs.cons ?_ (Obs.cons ?_ (Obs.cons ?_ (Obs.cons ?_ (Obs.cons ?_ (Obs.cons ?_ (Obs.cons ?_ Obs.nil))))))))))))))))))))) ?_
  · intro f87 X80 Y81 a83 w84 hX82 S85
    have S86 : St 68 (fun _ => False) D w a83 w84 ([] ++ Y81) ([⟨2, (List (List UInt8)), (cSlice cStr), ([] : (List (List UInt8)))⟩, ⟨1, S_api_State, cRef cS_api_State, x0⟩, ⟨0, S_api_State, cS_api_State, x0⟩] ++ X80) := S85
    clear S85
    refine op_fieldAddrr S86 (okX rfl (hX82 _ rfl)) (S86.at 1 rfl) Tryd.underlying38 rfl Tryd.sizeOf22 rfl LS_api_State_Channel rfl (fun a88 S89 => ?_)
    clear S86 a83
    exact wpList_nil ⟨rfl, (0, undef), S89⟩
  · intro f97 X90 Y91 a93 w94 hX92 S95
    have S96 : St 68 (fun _ => False) D w a93 w94 ([] ++ Y91) ([⟨6, Int, cRef (cInt .u32), x0.Channel⟩, ⟨2, (List (List UInt8)), (cSlice cStr), ([] : (List (List UInt8)))⟩, ⟨1, S_api_State, cRef cS_api_State, x0⟩, ⟨0, S_api_State, cS_api_State, x0⟩] ++ X90) := S95
    clear S95
    refine op_loadr S96 (okX rfl (hX92 _ rfl)) (S96.at 0 rfl) Tryd.isAgg22 Tryd.sizeOf22 (fun a98 S99 => ?_)
    clear S96 a93
    exact wpList_nil ⟨rfl, (0, undef), S99⟩
  · intro f107 X100 Y101 a103 w104 hX102 S105
    have S106 : St 68 (fun _ => False) D w a103 w104 ([] ++ Y101) ([⟨6, Int, cRef (cInt .u32), x0.Channel⟩, ⟨7, Int, (cInt .u32), x0.Channel⟩, ⟨2, (List (List UInt8)), (cSlice cStr), ([] : (List (List UInt8)))⟩, ⟨1, S_api_State, cRef cS_api_State, x0⟩, ⟨0, S_api_State, cS_api_State, x0⟩] ++ X100) := S105
    clear S105
    refine op_conv S106 (okX rfl (hX102 _ rfl)) Tryd.underlying22 Tryd.underlying23 (S106.int 1 rfl) (fun a108 S109 => ?_)
    clear S106 a103
    exact wpList_nil ⟨rfl, (0, undef), S109⟩
  · intro f117 X110 Y111 a113 w114 hX112 S115
    have S116 : St 68 (fun _ => False) D w a113 w114 ([] ++ Y111) ([⟨6, Int, cRef (cInt .u32), x0.Channel⟩, ⟨7, Int, (cInt .u32), x0.Channel⟩, ⟨8, Int, (cInt .u64), IntKind.wrap .u64 x0.Channel⟩, ⟨2, (List (List UInt8)), (cSlice cStr), ([] : (List (List UInt8)))⟩, ⟨1, S_api_State, cRef cS_api_State, x0⟩, ⟨0, S_api_State, cS_api_State, x0⟩] ++ X110) := S115
    clear S115
    refine op_lit S116 (okX rfl (hX112 _ rfl)) (cInt_flat _) Tryd.underlying119 Tryd.sizeOf23 Tryd.zeroValue23 rfl rfl rfl (.cons (S116.at 2 rfl) (.nil _)) (fun a118 w120 S119 => ?_)
    clear S116 a113 w114
    exact wpList_nil ⟨rfl, (0, undef), S119⟩
  · intro f128 X121 Y122 a124 w125 hX123 S126
    have S127 : St 68 (fun _ => False) D w a124 w125 ([] ++ Y122) ([⟨6, Int, cRef (cInt .u32), x0.Channel⟩, ⟨7, Int, (cInt .u32), x0.Channel⟩, ⟨8, Int, (cInt .u64), IntKind.wrap .u64 x0.Channel⟩, ⟨9, (List Int), (cSlice (cInt .u64)), [IntKind.wrap .u64 x0.Channel]⟩, ⟨2, (List (List UInt8)), (cSlice cStr), ([] : (List (List UInt8)))⟩, ⟨1, S_api_State, cRef cS_api_State, x0⟩, ⟨0, S_api_State, cS_api_State, x0⟩] ++ X121) := S126
    clear S126
    refine op_call S127 (okX rfl (hX123 _ rfl)) Tryd.call39 (report_num_ok (S127.at 3 rfl) S127.dirty_lt (S127.tab hT2) h18) (fun a129 w131 S130 => ?_)
    clear S127 a124 w125
    exact wpList_nil ⟨rfl, (0, undef), S130⟩
  · intro f139 X132 Y133 a135 w136 hX134 S137
    have S138 : St 68 (fun _ => False) D w a135 w136 ([] ++ Y133) ([⟨6, Int, cRef (cInt .u32), x0.Channel⟩, ⟨7, Int, (cInt .u32), x0.Channel⟩, ⟨8, Int, (cInt .u64), IntKind.wrap .u64 x0.Channel⟩, ⟨9, (List Int), (cSlice (cInt .u64)), [IntKind.wrap .u64 x0.Channel]⟩, ⟨10, (List UInt8), cStr, y17⟩, ⟨2, (List (List UInt8)), (cSlice cStr), ([] : (List (List UInt8)))⟩, ⟨1, S_api_State, cRef cS_api_State, x0⟩, ⟨0, S_api_State, cS_api_State, x0⟩] ++ X132) := S137
    clear S137
    refine op_cat S138 (okX rfl (hX134 _ rfl)) rfl (S138.str 4 rfl) g23 (fun a140 S141 => ?_)
    clear S138 a135
    exact wpList_nil ⟨rfl, (0, undef), S141⟩
  · intro f149 X142 Y143 a145 w146 hX144 S147
    have S148 : St 68 (fun _ => False) D w a145 w146 ([] ++ Y143) ([⟨6, Int, cRef (cInt .u32), x0.Channel⟩, ⟨7, Int, (cInt .u32), x0.Channel⟩, ⟨8, Int, (cInt .u64), IntKind.wrap .u64 x0.Channel⟩, ⟨9, (List Int), (cSlice (cInt .u64)), [IntKind.wrap .u64 x0.Channel]⟩, ⟨10, (List UInt8), cStr, y17⟩, ⟨11, (List UInt8), cStr, ([99, 104, 97, 110, 110, 101, 108, 32] : List UInt8) ++ y17⟩, ⟨2, (List (List UInt8)), (cSlice cStr), ([] : (List (List UInt8)))⟩, ⟨1, S_api_State, cRef cS_api_State, x0⟩, ⟨0, S_api_State, cS_api_State, x0⟩] ++ X142) := S147
    clear S147
    refine op_cat S148 (okX rfl (hX144 _ rfl)) (S148.str 5 rfl) rfl g27 (fun a150 S151 => ?_)
    clear S148 a145
    exact wpList_nil ⟨rfl, (0, undef), S151⟩
  · intro f159 X152 Y153 a155 w156 hX154 S157
    have S158 : St 68 (fun _ => False) D w a155 w156 ([] ++ Y153) ([⟨2, (List (List UInt8)), (cSlice cStr), ([] : (List (List UInt8)))⟩, ⟨1, S_api_State, cRef cS_api_State, x0⟩, ⟨0, S_api_State, cS_api_State, x0⟩] ++ X152) := S157
    clear S157
    refine op_fieldAddrr S158 (okX rfl (hX154 _ rfl)) (S158.at 1 rfl) Tryd.underlying38 rfl Tryd.sizeOf23 rfl LS_api_State_Round rfl (fun a160 S161 => ?_)
    clear S158 a155
    exact wpList_nil ⟨rfl, (0, undef), S161⟩
  · intro f169 X162 Y163 a165 w166 hX164 S167
    have S168 : St 68 (fun _ => False) D w a165 w166 ([] ++ Y163) ([⟨13, Int, cRef (cInt .u64), x0.Round⟩, ⟨2, (List (List UInt8)), (cSlice cStr), ([] : (List (List UInt8)))⟩, ⟨1, S_api_State, cRef cS_api_State, x0⟩, ⟨0, S_api_State, cS_api_State, x0⟩] ++ X162) := S167
    clear S167
    refine op_loadr S168 (okX rfl (hX164 _ rfl)) (S168.at 0 rfl) Tryd.isAgg23 Tryd.sizeOf23 (fun a170 S171 => ?_)
    clear S168 a165
    exact wpList_nil ⟨rfl, (0, undef), S171⟩
  · intro f179 X172 Y173 a175 w176 hX174 S177
    have S178 : St 68 (fun _ => False) D w a175 w176 ([] ++ Y173) ([⟨13, Int, cRef (cInt .u64), x0.Round⟩, ⟨14, Int, (cInt .u64), x0.Round⟩, ⟨2, (List (List UInt8)), (cSlice cStr), ([] : (List (List UInt8)))⟩, ⟨1, S_api_State, cRef cS_api_State, x0⟩, ⟨0, S_api_State, cS_api_State, x0⟩] ++ X172) := S177
    clear S177
    refine op_lit S178 (okX rfl (hX174 _ rfl)) (cInt_flat _) Tryd.underlying119 Tryd.sizeOf23 Tryd.zeroValue23 rfl rfl rfl (.cons (S178.at 1 rfl) (.nil _)) (fun a180 w182 S181 => ?_)
    clear S178 a175 w176
    exact wpList_nil ⟨rfl, (0, undef), S181⟩
  · intro f190 X183 Y184 a186 w187 hX185 S188
    have S189 : St 68 (fun _ => False) D w a186 w187 ([] ++ Y184) ([⟨6, Int, cRef (cInt .u32), x0.Channel⟩, ⟨7, Int, (cInt .u32), x0.Channel⟩, ⟨8, Int, (cInt .u64), IntKind.wrap .u64 x0.Channel⟩, ⟨9, (List Int), (cSlice (cInt .u64)), [IntKind.wrap .u64 x0.Channel]⟩, ⟨10, (List UInt8), cStr, y17⟩, ⟨13, Int, cRef (cInt .u64), x0.Round⟩, ⟨14, Int, (cInt .u64), x0.Round⟩, ⟨15, (List Int), (cSlice (cInt .u64)), [x0.Round]⟩, ⟨2, (List (List UInt8)), (cSlice cStr), ([] : (List (List UInt8)))⟩, ⟨1, S_api_State, cRef cS_api_State, x0⟩, ⟨0, S_api_State, cS_api_State, x0⟩] ++ X183) := S188
    clear S188
    refine op_call S189 (okX rfl (hX185 _ rfl)) Tryd.call39 (report_num_ok (S189.at 7 rfl) S189.dirty_lt (S189.tab hT2) h39) (fun a191 w193 S192 => ?_)
    clear S189 a186 w187
    exact wpList_nil ⟨rfl, (0, undef), S192⟩
  · intro f201 X194 Y195 a197 w198 hX196 S199
    have S200 : St 68 (fun _ => False) D w a197 w198 ([] ++ Y195) ([⟨6, Int, cRef (cInt .u32), x0.Channel⟩, ⟨7, Int, (cInt .u32), x0.Channel⟩, ⟨8, Int, (cInt .u64), IntKind.wrap .u64 x0.Channel⟩, ⟨9, (List Int), (cSlice (cInt .u64)), [IntKind.wrap .u64 x0.Channel]⟩, ⟨10, (List UInt8), cStr, y17⟩, ⟨11, (List UInt8), cStr, ([99, 104, 97, 110, 110, 101, 108, 32] : List UInt8) ++ y17⟩, ⟨12, (List UInt8), cStr, (([99, 104, 97, 110, 110, 101, 108, 32] : List UInt8) ++ y17) ++ ([32, 114, 111, 117, 110, 100, 32] : List UInt8)⟩, ⟨13, Int, cRef (cInt .u64), x0.Round⟩, ⟨14, Int, (cInt .u64), x0.Round⟩, ⟨15, (List Int), (cSlice (cInt .u64)), [x0.Round]⟩, ⟨16, (List UInt8), cStr, y38⟩, ⟨2, (List (List UInt8)), (cSlice cStr), ([] : (List (List UInt8)))⟩, ⟨1, S_api_State, cRef cS_api_State, x0⟩, ⟨0, S_api_State, cS_api_State, x0⟩] ++ X194) := S199
    clear S199
    refine op_cat S200 (okX rfl (hX196 _ rfl)) (S200.str 6 rfl) (S200.str 10 rfl) g44 (fun a202 S203 => ?_)
    clear S200 a197
    exact wpList_nil ⟨rfl, (0, undef), S203⟩
  · intro f211 X204 Y205 a207 w208 hX206 S209
    have S210 : St 68 (fun _ => False) D w a207 w208 ([] ++ Y205) ([⟨6, Int, cRef (cInt .u32), x0.Channel⟩, ⟨7, Int, (cInt .u32), x0.Channel⟩, ⟨8, Int, (cInt .u64), IntKind.wrap .u64 x0.Channel⟩, ⟨9, (List Int), (cSlice (cInt .u64)), [IntKind.wrap .u64 x0.Channel]⟩, ⟨10, (List UInt8), cStr, y17⟩, ⟨11, (List UInt8), cStr, ([99, 104, 97, 110, 110, 101, 108, 32] : List UInt8) ++ y17⟩, ⟨12, (List UInt8), cStr, (([99, 104, 97, 110, 110, 101, 108, 32] : List UInt8) ++ y17) ++ ([32, 114, 111, 117, 110, 100, 32] : List UInt8)⟩, ⟨13, Int, cRef (cInt .u64), x0.Round⟩, ⟨14, Int, (cInt .u64), x0.Round⟩, ⟨15, (List Int), (cSlice (cInt .u64)), [x0.Round]⟩, ⟨16, (List UInt8), cStr, y38⟩, ⟨17, (List UInt8), cStr, ((([99, 104, 97, 110, 110, 101, 108, 32] : List UInt8) ++ y17) ++ ([32, 114, 111, 117, 110, 100, 32] : List UInt8)) ++ y38⟩, ⟨2, (List (List UInt8)), (cSlice cStr), ([] : (List (List UInt8)))⟩, ⟨1, S_api_State, cRef cS_api_State, x0⟩, ⟨0, S_api_State, cS_api_State, x0⟩] ++ X204) := S209
    clear S209
    refine op_cat S210 (okX rfl (hX206 _ rfl)) (S210.str 11 rfl) rfl g48 (fun a212 S213 => ?_)
    clear S210 a207
    exact wpList_nil ⟨rfl, (0, undef), S213⟩
  · intro f221 X214 Y215 a217 w218 hX216 S219
    have S220 : St 68 (fun _ => False) D w a217 w218 ([] ++ Y215) ([⟨2, (List (List UInt8)), (cSlice cStr), ([] : (List (List UInt8)))⟩, ⟨1, S_api_State, cRef cS_api_State, x0⟩, ⟨0, S_api_State, cS_api_State, x0⟩] ++ X214) := S219
    clear S219
    refine op_fieldAddrr S220 (okX rfl (hX216 _ rfl)) (S220.at 1 rfl) Tryd.underlying38 rfl Tryd.sizeOf24 rfl LS_api_State_Moved rfl (fun a222 S223 => ?_)
    clear S220 a217
    exact wpList_nil ⟨rfl, (0, undef), S223⟩
  · intro f231 X224 Y225 a227 w228 hX226 S229
    have S230 : St 68 (fun _ => False) D w a227 w228 ([] ++ Y225) ([⟨19, (List Int), cRef (cArr 2 (cInt .u64)), x0.Moved⟩, ⟨2, (List (List UInt8)), (cSlice cStr), ([] : (List (List UInt8)))⟩, ⟨1, S_api_State, cRef cS_api_State, x0⟩, ⟨0, S_api_State, cS_api_State, x0⟩] ++ X224) := S229
    clear S229
    refine op_slicearr S230 (okX rfl (hX226 _ rfl)) (S230.at 0 rfl) (by decide) Tryd.underlying24 Tryd.sizeOf23 (fun a232 S233 => ?_)
    clear S230 a227
    exact wpList_nil ⟨rfl, (0, undef), S233⟩
  · intro f241 X234 Y235 a237 w238 hX236 S239
    have S240 : St 68 (fun _ => False) D w a237 w238 ([] ++ Y235) ([⟨6, Int, cRef (cInt .u32), x0.Channel⟩, ⟨7, Int, (cInt .u32), x0.Channel⟩, ⟨8, Int, (cInt .u64), IntKind.wrap .u64 x0.Channel⟩, ⟨9, (List Int), (cSlice (cInt .u64)), [IntKind.wrap .u64 x0.Channel]⟩, ⟨10, (List UInt8), cStr, y17⟩, ⟨13, Int, cRef (cInt .u64), x0.Round⟩, ⟨14, Int, (cInt .u64), x0.Round⟩, ⟨15, (List Int), (cSlice (cInt .u64)), [x0.Round]⟩, ⟨16, (List UInt8), cStr, y38⟩, ⟨19, (List Int), cRef (cArr 2 (cInt .u64)), x0.Moved⟩, ⟨20, (List Int), (cSlice (cInt .u64)), x0.Moved⟩, ⟨2, (List (List UInt8)), (cSlice cStr), ([] : (List (List UInt8)))⟩, ⟨1, S_api_State, cRef cS_api_State, x0⟩, ⟨0, S_api_State, cS_api_State, x0⟩] ++ X234) := S239
    clear S239
    refine op_call S240 (okX rfl (hX236 _ rfl)) Tryd.call39 (report_num_ok (S240.at 10 rfl) S240.dirty_lt (S240.tab hT2) h57) (fun a242 w244 S243 => ?_)
    clear S240 a237 w238
    exact wpList_nil ⟨rfl, (0, undef), S243⟩
  · intro f252 X245 Y246 a248 w249 hX247 S250
    have S251 : St 68 (fun _ => False) D w a248 w249 ([] ++ Y246) ([⟨6, Int, cRef (cInt .u32), x0.Channel⟩, ⟨7, Int, (cInt .u32), x0.Channel⟩, ⟨8, Int, (cInt .u64), IntKind.wrap .u64 x0.Channel⟩, ⟨9, (List Int), (cSlice (cInt .u64)), [IntKind.wrap .u64 x0.Channel]⟩, ⟨10, (List UInt8), cStr, y17⟩, ⟨11, (List UInt8), cStr, ([99, 104, 97, 110, 110, 101, 108, 32] : List UInt8) ++ y17⟩, ⟨12, (List UInt8), cStr, (([99, 104, 97, 110, 110, 101, 108, 32] : List UInt8) ++ y17) ++ ([32, 114, 111, 117, 110, 100, 32] : List UInt8)⟩, ⟨13, Int, cRef (cInt .u64), x0.Round⟩, ⟨14, Int, (cInt .u64), x0.Round⟩, ⟨15, (List Int), (cSlice (cInt .u64)), [x0.Round]⟩, ⟨16, (List UInt8), cStr, y38⟩, ⟨17, (List UInt8), cStr, ((([99, 104, 97, 110, 110, 101, 108, 32] : List UInt8) ++ y17) ++ ([32, 114, 111, 117, 110, 100, 32] : List UInt8)) ++ y38⟩, ⟨18, (List UInt8), cStr, (((([99, 104, 97, 110, 110, 101, 108, 32] : List UInt8) ++ y17) ++ ([32, 114, 111, 117, 110, 100, 32] : List UInt8)) ++ y38) ++ ([32, 109, 111, 118, 101, 100, 32] : List UInt8)⟩, ⟨19, (List Int), cRef (cArr 2 (cInt .u64)), x0.Moved⟩, ⟨20, (List Int), (cSlice (cInt .u64)), x0.Moved⟩, ⟨21, (List UInt8), cStr, y56⟩, ⟨2, (List (List UInt8)), (cSlice cStr), ([] : (List (List UInt8)))⟩, ⟨1, S_api_State, cRef cS_api_State, x0⟩, ⟨0, S_api_State, cS_api_State, x0⟩] ++ X245) := S250
    clear S250
    refine op_cat S251 (okX rfl (hX247 _ rfl)) (S251.str 12 rfl) (S251.str 15 rfl) g62 (fun a253 S254 => ?_)
    clear S251 a248
    exact wpList_nil ⟨rfl, (0, undef), S254⟩
  · intro f262 X255 Y256 a258 w259 hX257 S260
    have S261 : St 68 (fun _ => False) D w a258 w259 ([] ++ Y256) ([⟨6, Int, cRef (cInt .u32), x0.Channel⟩, ⟨7, Int, (cInt .u32), x0.Channel⟩, ⟨8, Int, (cInt .u64), IntKind.wrap .u64 x0.Channel⟩, ⟨9, (List Int), (cSlice (cInt .u64)), [IntKind.wrap .u64 x0.Channel]⟩, ⟨10, (List UInt8), cStr, y17⟩, ⟨11, (List UInt8), cStr, ([99, 104, 97, 110, 110, 101, 108, 32] : List UInt8) ++ y17⟩, ⟨12, (List UInt8), cStr, (([99, 104, 97, 110, 110, 101, 108, 32] : List UInt8) ++ y17) ++ ([32, 114, 111, 117, 110, 100, 32] : List UInt8)⟩, ⟨13, Int, cRef (cInt .u64), x0.Round⟩, ⟨14, Int, (cInt .u64), x0.Round⟩, ⟨15, (List Int), (cSlice (cInt .u64)), [x0.Round]⟩, ⟨16, (List UInt8), cStr, y38⟩, ⟨17, (List UInt8), cStr, ((([99, 104, 97, 110, 110, 101, 108, 32] : List UInt8) ++ y17) ++ ([32, 114, 111, 117, 110, 100, 32] : List UInt8)) ++ y38⟩, ⟨18, (List UInt8), cStr, (((([99, 104, 97, 110, 110, 101, 108, 32] : List UInt8) ++ y17) ++ ([32, 114, 111, 117, 110, 100, 32] : List UInt8)) ++ y38) ++ ([32, 109, 111, 118, 101, 100, 32] : List UInt8)⟩, ⟨19, (List Int), cRef (cArr 2 (cInt .u64)), x0.Moved⟩, ⟨20, (List Int), (cSlice (cInt .u64)), x0.Moved⟩, ⟨21, (List UInt8), cStr, y56⟩, ⟨22, (List UInt8), cStr, ((((([99, 104, 97, 110, 110, 101, 108, 32] : List UInt8) ++ y17) ++ ([32, 114, 111, 117, 110, 100, 32] : List UInt8)) ++ y38) ++ ([32, 109, 111, 118, 101, 100, 32] : List UInt8)) ++ y56⟩, ⟨2, (List (List UInt8)), (cSlice cStr), ([] : (List (List UInt8)))⟩, ⟨1, S_api_State, cRef cS_api_State, x0⟩, ⟨0, S_api_State, cS_api_State, x0⟩] ++ X255) := S260
    clear S260
    refine op_cat S261 (okX rfl (hX257 _ rfl)) (S261.str 16 rfl) rfl g66 (fun a263 S264 => ?_)
    clear S261 a258
    exact wpList_nil ⟨rfl, (0, undef), S264⟩
  · intro f272 X265 Y266 a268 w269 hX267 S270
    have S271 : St 68 (fun _ => False) D w a268 w269 ([] ++ Y266) ([⟨2, (List (List UInt8)), (cSlice cStr), ([] : (List (List UInt8)))⟩, ⟨1, S_api_State, cRef cS_api_State, x0⟩, ⟨0, S_api_State, cS_api_State, x0⟩] ++ X265) := S270
    clear S270
    refine op_fieldAddrr S271 (okX rfl (hX267 _ rfl)) (S271.at 1 rfl) Tryd.underlying38 rfl Tryd.sizeOf24 rfl LS_api_State_Taken rfl (fun a273 S274 => ?_)
    clear S271 a268
    exact wpList_nil ⟨rfl, (0, undef), S274⟩
  · intro f282 X275 Y276 a278 w279 hX277 S280
    have S281 : St 68 (fun _ => False) D w a278 w279 ([] ++ Y276) ([⟨24, (List Int), cRef (cArr 2 (cInt .u64)), x0.Taken⟩, ⟨2, (List (List UInt8)), (cSlice cStr), ([] : (List (List UInt8)))⟩, ⟨1, S_api_State, cRef cS_api_State, x0⟩, ⟨0, S_api_State, cS_api_State, x0⟩] ++ X275) := S280
    clear S280
    refine op_slicearr S281 (okX rfl (hX277 _ rfl)) (S281.at 0 rfl) (by decide) Tryd.underlying24 Tryd.sizeOf23 (fun a283 S284 => ?_)
    clear S281 a278
    exact wpList_nil ⟨rfl, (0, undef), S284⟩
  · intro f292 X285 Y286 a288 w289 hX287 S290
    have S291 : St 68 (fun _ => False) D w a288 w289 ([] ++ Y286) ([⟨6, Int, cRef (cInt .u32), x0.Channel⟩, ⟨7, Int, (cInt .u32), x0.Channel⟩, ⟨8, Int, (cInt .u64), IntKind.wrap .u64 x0.Channel⟩, ⟨9, (List Int), (cSlice (cInt .u64)), [IntKind.wrap .u64 x0.Channel]⟩, ⟨10, (List UInt8), cStr, y17⟩, ⟨13, Int, cRef (cInt .u64), x0.Round⟩, ⟨14, Int, (cInt .u64), x0.Round⟩, ⟨15, (List Int), (cSlice (cInt .u64)), [x0.Round]⟩, ⟨16, (List UInt8), cStr, y38⟩, ⟨19, (List Int), cRef (cArr 2 (cInt .u64)), x0.Moved⟩, ⟨20, (List Int), (cSlice (cInt .u64)), x0.Moved⟩, ⟨21, (List UInt8), cStr, y56⟩, ⟨24, (List Int), cRef (cArr 2 (cInt .u64)), x0.Taken⟩, ⟨25, (List Int), (cSlice (cInt .u64)), x0.Taken⟩, ⟨2, (List (List UInt8)), (cSlice cStr), ([] : (List (List UInt8)))⟩, ⟨1, S_api_State, cRef cS_api_State, x0⟩, ⟨0, S_api_State, cS_api_State, x0⟩] ++ X285) := S290
    clear S290
    refine op_call S291 (okX rfl (hX287 _ rfl)) Tryd.call39 (report_num_ok (S291.at 13 rfl) S291.dirty_lt (S291.tab hT2) h75) (fun a293 w295 S294 => ?_)
    clear S291 a288 w289
    exact wpList_nil ⟨rfl, (0, undef), S294⟩
  · intro f300 a296 w297 _ S298
    have S299 : St 68 (fun _ => False) D w a296 w297 [] [⟨26, (List UInt8), cStr, y74⟩, ⟨25, (List Int), (cSlice (cInt .u64)), x0.Taken⟩, ⟨24, (List Int), cRef (cArr 2 (cInt .u64)), x0.Taken⟩, ⟨23, (List UInt8), cStr, (((((([99, 104, 97, 110, 110, 101, 108, 32] : List UInt8) ++ y17) ++ ([32, 114, 111, 117, 110, 100, 32] : List UInt8)) ++ y38) ++ ([32, 109, 111, 118, 101, 100, 32] : List UInt8)) ++ y56) ++ ([32, 116, 97, 107, 101, 110, 32] : List UInt8)⟩, ⟨22, (List UInt8), cStr, ((((([99, 104, 97, 110, 110, 101, 108, 32] : List UInt8) ++ y17) ++ ([32, 114, 111, 117, 110, 100, 32] : List UInt8)) ++ y38) ++ ([32, 109, 111, 118, 101, 100, 32] : List UInt8)) ++ y56⟩, ⟨21, (List UInt8), cStr, y56⟩, ⟨20, (List Int), (cSlice (cInt .u64)), x0.Moved⟩, ⟨19, (List Int), cRef (cArr 2 (cInt .u64)), x0.Moved⟩, ⟨18, (List UInt8), cStr, (((([99, 104, 97, 110, 110, 101, 108, 32] : List UInt8) ++ y17) ++ ([32, 114, 111, 117, 110, 100, 32] : List UInt8)) ++ y38) ++ ([32, 109, 111, 118, 101, 100, 32] : List UInt8)⟩, ⟨17, (List UInt8), cStr, ((([99, 104, 97, 110, 110, 101, 108, 32] : List UInt8) ++ y17) ++ ([32, 114, 111, 117, 110, 100, 32] : List UInt8)) ++ y38⟩, ⟨16, (List UInt8), cStr, y38⟩, ⟨15, (List Int), (cSlice (cInt .u64)), [x0.Round]⟩, ⟨14, Int, (cInt .u64), x0.Round⟩, ⟨13, Int, cRef (cInt .u64), x0.Round⟩, ⟨12, (List UInt8), cStr, (([99, 104, 97, 110, 110, 101, 108, 32] : List UInt8) ++ y17) ++ ([32, 114, 111, 117, 110, 100, 32] : List UInt8)⟩, ⟨11, (List UInt8), cStr, ([99, 104, 97, 110, 110, 101, 108, 32] : List UInt8) ++ y17⟩, ⟨10, (List UInt8), cStr, y17⟩, ⟨9, (List Int), (cSlice (cInt .u64)), [IntKind.wrap .u64 x0.Channel]⟩, ⟨8, Int, (cInt .u64), IntKind.wrap .u64 x0.Channel⟩, ⟨7, Int, (cInt .u32), x0.Channel⟩, ⟨6, Int, cRef (cInt .u32), x0.Channel⟩, ⟨2, (List (List UInt8)), (cSlice cStr), ([] : (List (List UInt8)))⟩, ⟨1, S_api_State, cRef cS_api_State, x0⟩, ⟨0, S_api_State, cS_api_State, x0⟩] := S298
    clear S298 S6
    obtain ⟨g301, hr302⟩ := guard_some hr76
    clear hr76
    refine op_cat S299 rfl (S299.str 3 rfl) (S299.str 0 rfl) g301 (fun a303 S304 => ?_)
    clear S299 a296
    refine op_litrow S304 rfl cStr_flat Tryd.underlying34 Tryd.sizeOf9 Tryd.zeroValue9 rfl rfl rfl (.cons (S304.at 0 rfl) (.nil _)) (fun v305 a306 w307 S308 => ?_)
    clear S304 a303 w297
    refine op_assign S308 rfl (S308.at 0 rfl) (fun a310 S311 => ?_)
    clear S308 a306
    refine wpList_nil ?_
    refine hK7 _ _ ?_
    clear hK7 K7
    refine wp_seq_k (fun K312 hK312 => ?_)
    refine wp_seq_k (fun K313 hK313 => ?_)
    refine wp_region_lit ?_
    refine op_fieldAddrr S311 rfl (S311.at 25 rfl) Tryd.underlying38 rfl Tryd.sizeOf36 rfl LS_api_State_Conds rfl (fun a314 S315 => ?_)
    clear S311 a310
    refine op_loadr S315 rfl (S315.at 0 rfl) Tryd.isAgg36 Tryd.sizeOf36 (fun a316 S317 => ?_)
    clear S315 a314
    refine op_len S317 rfl (S317.at 0 rfl) Tryd.underlying36 (fun a318 S319 => ?_)
    clear S317 a316
    refine op_move S319 rfl (cPlain_mk (f := Value.int .i64) 0) (fun a320 S321 => ?_)
    clear S319 a318
    refine wpList_nil ?_
    refine hK313 _ _ ?_
    clear hK313 K313
    refine wp_block ?_
    refine wp_q (fun Q1209 hQ1209 => ?_)
    have X1219 : ∀ (s1213 : (List (List UInt8))) (v1214 : Value) (a1216 : Act) (w1217 : World), St 68 (fun _ => False) D w a1216 w1217 [Res.row v1214 9 cStr s1213] [⟨3, Value, cRaw, v1214⟩] → (some s1213 : Option ((List (List UInt8)))) = some r → Q1209 (.exit 0) a1216 w1217 := by
      intro s1213 v1214 a1216 w1217 S1215 hr1218
      refine hQ1209 _ _ _ ?_
      clear hQ1209
      refine hK312 _ _ ?_
      clear hK312 K312
      refine wp_seq_k (fun K1220 hK1220 => ?_)
      refine wp_region_lit ?_
      refine op_move S1215 rfl (S1215.at 0 rfl) (fun a1221 S1222 => ?_)
      clear S1215 a1216
      refine op_assign S1222 rfl (S1222.at 0 rfl) (fun a1223 S1224 => ?_)
      clear S1222 a1221
      refine wpList_nil ?_
      refine hK1220 _ _ ?_
      clear hK1220 K1220
      refine wp_ret ?_
      have S1225 := S1224.still 0 0 rfl rfl
      clear S1224
      cases hr1218
      exact ret1 S1225 rfl 0 rfl
    obtain ⟨t1210, hr1212, h1211⟩ := bind_some hr302
    clear hr302
    have S1676 := S321.pick [0, 1, 2, 4]
    clear S321
    refine wp_loopM (fun (s1675 : Int × (List (List UInt8))) a1228 w1229 => match s1675 with | (s322, s325) => ∃ v326 : Value, St 68 (fun _ => False) D w a1228 w1229 [Res.row v326 9 cStr s325] [⟨32, Int, (cInt .i64), s322⟩, ⟨31, Int, (cInt .i64), (x0.Conds.length : Int)⟩, ⟨30, (List S_api_Cond), (cSlice cS_api_Cond), x0.Conds⟩, ⟨3, Value, cRaw, v326⟩]) ?_ (0, [((((((([99, 104, 97, 110, 110, 101, 108, 32] : List UInt8) ++ y17) ++ ([32, 114, 111, 117, 110, 100, 32] : List UInt8)) ++ y38) ++ ([32, 109, 111, 118, 101, 100, 32] : List UInt8)) ++ y56) ++ ([32, 116, 97, 107, 101, 110, 32] : List UInt8)) ++ y74]) ?_ hr1212
    · intro s1675 a1228 w1229 x1226 S1677 hr1230
      obtain ⟨s322, s325⟩ := s1675
      obtain ⟨v326, S1227⟩ := S1677
      replace S1227 : St 68 (fun _ => False) D w a1228 w1229 [Res.row v326 9 cStr s325] [⟨32, Int, (cInt .i64), s322⟩, ⟨31, Int, (cInt .i64), (x0.Conds.length : Int)⟩, ⟨30, (List S_api_Cond), (cSlice cS_api_Cond), x0.Conds⟩, ⟨3, Value, cRaw, v326⟩] := S1227
      refine wp_seq_k (fun K1231 hK1231 => ?_)
      refine wp_region_lit ?_
      refine op_lss S1227 rfl (S1227.int 0 rfl) (S1227.int 1 rfl) (fun a1232 S1233 => ?_)
      clear S1227 a1228
      refine wpList_nil ?_
      refine hK1231 _ _ ?_
      clear hK1231 K1231
      refine wp_seq_k (fun K1234 hK1234 => ?_)
      rcases cond_some hr1230 with ⟨b1235, hr1236⟩ | ⟨b1235, hr1237⟩
      · clear hr1230
        refine c_true (S1233.bool 0 rfl) b1235 ?_
        refine wp_skip ?_
        refine hK1234 _ _ ?_
        clear hK1234 K1234
        refine wp_seq_k (fun K1238 hK1238 => ?_)
        refine wp_block ?_
        refine wp_seq_k (fun K1239 hK1239 => ?_)
        refine wp_region_lit ?_
        obtain ⟨g1240, hr1241⟩ := guard_some hr1236
        clear hr1236
        refine op_indexAddr (z0 := zS_api_Cond) S1233 rfl (S1233.at 3 rfl) (S1233.int 1 rfl) g1240 Tryd.underlying36 Tryd.sizeOf46 (fun a1242 S1243 => ?_)
        clear S1233 a1232
        refine op_loadr S1243 rfl (S1243.at 0 rfl) Tryd.isAgg46 Tryd.sizeOf46 (fun a1244 S1245 => ?_)
        clear S1243 a1242
        refine op_alloc S1245 rfl Tryd.zeroValue46 zS_api_Cond_ok (fun b1246 a1247 w1248 S1249 => ?_)
        clear S1245 a1244 w1229
        refine op_store S1249 0 rfl (S1249.raw 0 rfl) (S1249.at 1 rfl) (Lens.id _) cS_api_Cond_flat Tryd.sizeOf46 (fun w1250 S1251 => ?_)
        clear S1249 w1248
        have S1252 := S1251.freeze 0 0 rfl rfl
        clear S1251
        refine wpList_nil ?_
        refine hK1239 _ _ ?_
        clear hK1239 K1239
        obtain ⟨y1262, h1263, hr1264⟩ := bind_some hr1241
        clear hr1241
        obtain ⟨g1268, hr1269⟩ := guard_some hr1264
        clear hr1264
        obtain ⟨g1272, hr1273⟩ := guard_some hr1269
        clear hr1269
        obtain ⟨y1280, h1281, hr1282⟩ := bind_some hr1273
        clear hr1273
        obtain ⟨g1286, hr1287⟩ := guard_some hr1282
        clear hr1282
        obtain ⟨g1290, hr1291⟩ := guard_some hr1287
        clear hr1287
        obtain ⟨y1301, h1302, hr1303⟩ := bind_some hr1291
        clear hr1291
        obtain ⟨g1307, hr1308⟩ := guard_some hr1303
        clear hr1303
        obtain ⟨g1311, hr1312⟩ := guard_some hr1308
        clear hr1308
        obtain ⟨y1319, h1320, hr1321⟩ := bind_some hr1312
        clear hr1312
        obtain ⟨g1325, hr1326⟩ := guard_some hr1321
        clear hr1321
        obtain ⟨g1329, hr1330⟩ := guard_some hr1326
        clear hr1326
        obtain ⟨y1340, h1341, hr1342⟩ := bind_some hr1330
        clear hr1330
        obtain ⟨g1346, hr1347⟩ := guard_some hr1342
        clear hr1342
        have hsh1353 := S1252.shape 0 rfl
        refine wp_drawn follows_mixed [[], [], [1], [1, 2], [1, 2, 3], [1, 2, 3, 4], [1, 2, 3, 4, 5], [], [7], [1, 2, 3, 4, 7, 8], [1, 2, 3, 4, 5, 6, 7, 8, 9], [1, 2, 3, 4, 5, 6, 7, 8, 9, 10], [], [12], [12, 13], [1, 2, 3, 4, 7, 8, 9, 12, 13, 14], [1, 2, 3, 4, 5, 6, 7, 8, 9, 10, 11, 12, 13, 14, 15], [1, 2, 3, 4, 5, 6, 7, 8, 9, 10, 11, 12, 13, 14, 15, 16], [], [18], [1, 2, 3, 4, 7, 8, 9, 12, 13, 14, 15, 18, 19], [1, 2, 3, 4, 5, 6, 7, 8, 9, 10, 11, 12, 13, 14, 15, 16, 17, 18, 19, 20], [1, 2, 3, 4, 5, 6, 7, 8, 9, 10, 11, 12, 13, 14, 15, 16, 17, 18, 19, 20, 21], [], [23], [23, 24], [1, 2, 3, 4, 7, 8, 9, 12, 13, 14, 15, 18, 19, 20, 23, 24, 25], [1, 2, 3, 4, 5, 6, 7, 8, 9, 10, 11, 12, 13, 14, 15, 16, 17, 18, 19, 20, 21, 22, 23, 24, 25, 26], [1, 2, 3, 4, 5, 6, 7, 8, 9, 10, 11, 12, 13, 14, 15, 16, 17, 18, 19, 20, 21, 22, 23, 24, 25, 26, 27], [0, 1, 2, 3, 4, 5, 6, 7, 8, 9, 10, 11, 12, 13, 14, 15, 16, 17, 18, 19, 20, 21, 22, 23, 24, 25, 26, 27, 28], [0, 1, 2, 3, 4, 5, 6, 7, 8, 9, 10, 11, 12, 13, 14, 15, 16, 17, 18, 19, 20, 21, 22, 23, 24, 25, 26, 27, 28, 29]] [none, none, none, none, none, none, none, none, none, none, none, none, none, none, none, none, none, none, none, none, none, none, none, none, none, none, none, none, none] 29 rfl rfl 0 rfl (fun i p => List.getD [[⟨36, Value, cRaw, v326⟩], [⟨37, Int, cRef (cInt .u64), (x0.Conds.getD (s322 : Int).toNat zS_api_Cond).Id⟩], [⟨38, Int, (cInt .u64), (x0.Conds.getD (s322 : Int).toNat zS_api_Cond).Id⟩], [⟨39, (List Int), (cSlice (cInt .u64)), [(x0.Conds.getD (s322 : Int).toNat zS_api_Cond).Id]⟩], [⟨40, (List UInt8), cStr, y1262⟩], [⟨41, (List UInt8), cStr, ([112, 97, 121, 109, 101, 110, 116, 32] : List UInt8) ++ y1262⟩], [⟨42, (List UInt8), cStr, (([112, 97, 121, 109, 101, 110, 116, 32] : List UInt8) ++ y1262) ++ ([32, 98, 121, 32] : List UInt8)⟩], [⟨43, Int, cRef (cInt .i64), (x0.Conds.getD (s322 : Int).toNat zS_api_Cond).By⟩], [⟨44, Int, (cInt .i64), (x0.Conds.getD (s322 : Int).toNat zS_api_Cond).By⟩], [⟨45, (List UInt8), cStr, y1280⟩], [⟨46, (List UInt8), cStr, ((([112, 97, 121, 109, 101, 110, 116, 32] : List UInt8) ++ y1262) ++ ([32, 98, 121, 32] : List UInt8)) ++ y1280⟩], [⟨47, (List UInt8), cStr, (((([112, 97, 121, 109, 101, 110, 116, 32] : List UInt8) ++ y1262) ++ ([32, 98, 121, 32] : List UInt8)) ++ y1280) ++ ([32, 111, 102, 32] : List UInt8)⟩], [⟨48, Int, cRef (cInt .u64), (x0.Conds.getD (s322 : Int).toNat zS_api_Cond).Amount⟩], [⟨49, Int, (cInt .u64), (x0.Conds.getD (s322 : Int).toNat zS_api_Cond).Amount⟩], [⟨50, (List Int), (cSlice (cInt .u64)), [(x0.Conds.getD (s322 : Int).toNat zS_api_Cond).Amount]⟩], [⟨51, (List UInt8), cStr, y1301⟩], [⟨52, (List UInt8), cStr, ((((([112, 97, 121, 109, 101, 110, 116, 32] : List UInt8) ++ y1262) ++ ([32, 98, 121, 32] : List UInt8)) ++ y1280) ++ ([32, 111, 102, 32] : List UInt8)) ++ y1301⟩], [⟨53, (List UInt8), cStr, (((((([112, 97, 121, 109, 101, 110, 116, 32] : List UInt8) ++ y1262) ++ ([32, 98, 121, 32] : List UInt8)) ++ y1280) ++ ([32, 111, 102, 32] : List UInt8)) ++ y1301) ++ ([32, 102, 111, 114, 32] : List UInt8)⟩], [⟨54, (List Int), cRef (cArr 32 (cInt .u8)), (x0.Conds.getD (s322 : Int).toNat zS_api_Cond).Hash⟩], [⟨55, (List Int), (cArr 32 (cInt .u8)), (x0.Conds.getD (s322 : Int).toNat zS_api_Cond).Hash⟩], [⟨56, (List UInt8), cStr, y1319⟩], [⟨57, (List UInt8), cStr, ((((((([112, 97, 121, 109, 101, 110, 116, 32] : List UInt8) ++ y1262) ++ ([32, 98, 121, 32] : List UInt8)) ++ y1280) ++ ([32, 111, 102, 32] : List UInt8)) ++ y1301) ++ ([32, 102, 111, 114, 32] : List UInt8)) ++ y1319⟩], [⟨58, (List UInt8), cStr, (((((((([112, 97, 121, 109, 101, 110, 116, 32] : List UInt8) ++ y1262) ++ ([32, 98, 121, 32] : List UInt8)) ++ y1280) ++ ([32, 111, 102, 32] : List UInt8)) ++ y1301) ++ ([32, 102, 111, 114, 32] : List UInt8)) ++ y1319) ++ ([32, 117, 112, 32, 116, 111, 32] : List UInt8)⟩], [⟨59, Int, cRef (cInt .u64), (x0.Conds.getD (s322 : Int).toNat zS_api_Cond).Expiry⟩], [⟨60, Int, (cInt .u64), (x0.Conds.getD (s322 : Int).toNat zS_api_Cond).Expiry⟩], [⟨61, (List Int), (cSlice (cInt .u64)), [(x0.Conds.getD (s322 : Int).toNat zS_api_Cond).Expiry]⟩], [⟨62, (List UInt8), cStr, y1340⟩], [⟨63, (List UInt8), cStr, ((((((((([112, 97, 121, 109, 101, 110, 116, 32] : List UInt8) ++ y1262) ++ ([32, 98, 121, 32] : List UInt8)) ++ y1280) ++ ([32, 111, 102, 32] : List UInt8)) ++ y1301) ++ ([32, 102, 111, 114, 32] : List UInt8)) ++ y1319) ++ ([32, 117, 112, 32, 116, 111, 32] : List UInt8)) ++ y1340⟩], [⟨64, (List (List UInt8)), (cSlice cStr), [((((((((([112, 97, 121, 109, 101, 110, 116, 32] : List UInt8) ++ y1262) ++ ([32, 98, 121, 32] : List UInt8)) ++ y1280) ++ ([32, 111, 102, 32] : List UInt8)) ++ y1301) ++ ([32, 102, 111, 114, 32] : List UInt8)) ++ y1319) ++ ([32, 117, 112, 32, 116, 111, 32] : List UInt8)) ++ y1340]⟩]] i []) (fun _ _ _ => []) (fun _ => (0, undef)) S1252 rfl (fun _ => rfl) (Obs.cons ?_ (Obs.cons ?_ (Obs.cons ?_ (Obs.cons ?_ (Obs.cons ?_ (Obs.cons ?_ (Obs.cons ?_ (Obs.cons ?_ (Obs.cons ?_ (Obs.cons ?_ (Obs.cons ?_ (Obs.cons ?_ (Obs.cons ?_ (Obs.cons ?_ (Obs.cons ?_ (Obs.cons ?_ (Obs.cons ?_ (Obs.cons ?_ (Obs.cons ?_ (Obs.cons ?_ (Obs.cons ?_ (Obs.cons ?_ (Obs.cons ?_ (Obs.cons ?_ (Obs.cons ?_ (Obs.cons ?_ (Obs.cons ?_ (Obs.cons ?_ (Obs.cons ?_ Obs.nil))))))))))))))))))))))))))))) ?_
        · intro f1361 X1354 Y1355 a1357 w1358 hX1356 S1359
          have S1360 : St 68 (fun _ => False) D w a1357 w1358 ([Res.row v326 9 cStr s325] ++ Y1355) ([⟨5, S_api_Cond, cRef cS_api_Cond, x0.Conds.getD (s322 : Int).toNat zS_api_Cond⟩, ⟨35, S_api_Cond, cS_api_Cond, x0.Conds.getD (s322 : Int).toNat zS_api_Cond⟩, ⟨34, S_api_Cond, cRef cS_api_Cond, x0.Conds.getD (s322 : Int).toNat zS_api_Cond⟩, ⟨33, Bool, cBool, decide (s322 < (x0.Conds.length : Int))⟩, ⟨32, Int, (cInt .i64), s322⟩, ⟨31, Int, (cInt .i64), (x0.Conds.length : Int)⟩, ⟨30, (List S_api_Cond), (cSlice cS_api_Cond), x0.Conds⟩, ⟨3, Value, cRaw, v326⟩] ++ X1354) := S1359
          clear S1359
          refine op_move S1360 (okX rfl (hX1356 _ rfl)) (S1360.at 7 rfl) (fun a1362 S1363 => ?_)
          clear S1360 a1357
          exact wpList_nil ⟨rfl, (0, undef), S1363⟩
        · intro f1371 X1364 Y1365 a1367 w1368 hX1366 S1369
          have S1370 : St 68 (fun _ => False) D w a1367 w1368 ([Res.row v326 9 cStr s325] ++ Y1365) ([⟨5, S_api_Cond, cRef cS_api_Cond, x0.Conds.getD (s322 : Int).toNat zS_api_Cond⟩, ⟨35, S_api_Cond, cS_api_Cond, x0.Conds.getD (s322 : Int).toNat zS_api_Cond⟩, ⟨34, S_api_Cond, cRef cS_api_Cond, x0.Conds.getD (s322 : Int).toNat zS_api_Cond⟩, ⟨33, Bool, cBool, decide (s322 < (x0.Conds.length : Int))⟩, ⟨32, Int, (cInt .i64), s322⟩, ⟨31, Int, (cInt .i64), (x0.Conds.length : Int)⟩, ⟨30, (List S_api_Cond), (cSlice cS_api_Cond), x0.Conds⟩, ⟨3, Value, cRaw, v326⟩] ++ X1364) := S1369
          clear S1369
          refine op_fieldAddrr S1370 (okX rfl (hX1366 _ rfl)) (S1370.at 0 rfl) Tryd.underlying46 rfl Tryd.sizeOf23 rfl LS_api_Cond_Id rfl (fun a1372 S1373 => ?_)
          clear S1370 a1367
          exact wpList_nil ⟨rfl, (0, undef), S1373⟩
        · intro f1381 X1374 Y1375 a1377 w1378 hX1376 S1379
          have S1380 : St 68 (fun _ => False) D w a1377 w1378 ([Res.row v326 9 cStr s325] ++ Y1375) ([⟨37, Int, cRef (cInt .u64), (x0.Conds.getD (s322 : Int).toNat zS_api_Cond).Id⟩, ⟨5, S_api_Cond, cRef cS_api_Cond, x0.Conds.getD (s322 : Int).toNat zS_api_Cond⟩, ⟨35, S_api_Cond, cS_api_Cond, x0.Conds.getD (s322 : Int).toNat zS_api_Cond⟩, ⟨34, S_api_Cond, cRef cS_api_Cond, x0.Conds.getD (s322 : Int).toNat zS_api_Cond⟩, ⟨33, Bool, cBool, decide (s322 < (x0.Conds.length : Int))⟩, ⟨32, Int, (cInt .i64), s322⟩, ⟨31, Int, (cInt .i64), (x0.Conds.length : Int)⟩, ⟨30, (List S_api_Cond), (cSlice cS_api_Cond), x0.Conds⟩, ⟨3, Value, cRaw, v326⟩] ++ X1374) := S1379
          clear S1379
          refine op_loadr S1380 (okX rfl (hX1376 _ rfl)) (S1380.at 0 rfl) Tryd.isAgg23 Tryd.sizeOf23 (fun a1382 S1383 => ?_)
          clear S1380 a1377
          exact wpList_nil ⟨rfl, (0, undef), S1383⟩
        · intro f1391 X1384 Y1385 a1387 w1388 hX1386 S1389
          have S1390 : St 68 (fun _ => False) D w a1387 w1388 ([Res.row v326 9 cStr s325] ++ Y1385) ([⟨37, Int, cRef (cInt .u64), (x0.Conds.getD (s322 : Int).toNat zS_api_Cond).Id⟩, ⟨38, Int, (cInt .u64), (x0.Conds.getD (s322 : Int).toNat zS_api_Cond).Id⟩, ⟨5, S_api_Cond, cRef cS_api_Cond, x0.Conds.getD (s322 : Int).toNat zS_api_Cond⟩, ⟨35, S_api_Cond, cS_api_Cond, x0.Conds.getD (s322 : Int).toNat zS_api_Cond⟩, ⟨34, S_api_Cond, cRef cS_api_Cond, x0.Conds.getD (s322 : Int).toNat zS_api_Cond⟩, ⟨33, Bool, cBool, decide (s322 < (x0.Conds.length : Int))⟩, ⟨32, Int, (cInt .i64), s322⟩, ⟨31, Int, (cInt .i64), (x0.Conds.length : Int)⟩, ⟨30, (List S_api_Cond), (cSlice cS_api_Cond), x0.Conds⟩, ⟨3, Value, cRaw, v326⟩] ++ X1384) := S1389
          clear S1389
          refine op_lit S1390 (okX rfl (hX1386 _ rfl)) (cInt_flat _) Tryd.underlying119 Tryd.sizeOf23 Tryd.zeroValue23 rfl rfl rfl (.cons (S1390.at 1 rfl) (.nil _)) (fun a1392 w1394 S1393 => ?_)
          clear S1390 a1387 w1388
          exact wpList_nil ⟨rfl, (0, undef), S1393⟩
        · intro f1402 X1395 Y1396 a1398 w1399 hX1397 S1400
          have S1401 : St 68 (fun _ => False) D w a1398 w1399 ([Res.row v326 9 cStr s325] ++ Y1396) ([⟨37, Int, cRef (cInt .u64), (x0.Conds.getD (s322 : Int).toNat zS_api_Cond).Id⟩, ⟨38, Int, (cInt .u64), (x0.Conds.getD (s322 : Int).toNat zS_api_Cond).Id⟩, ⟨39, (List Int), (cSlice (cInt .u64)), [(x0.Conds.getD (s322 : Int).toNat zS_api_Cond).Id]⟩, ⟨5, S_api_Cond, cRef cS_api_Cond, x0.Conds.getD (s322 : Int).toNat zS_api_Cond⟩, ⟨35, S_api_Cond, cS_api_Cond, x0.Conds.getD (s322 : Int).toNat zS_api_Cond⟩, ⟨34, S_api_Cond, cRef cS_api_Cond, x0.Conds.getD (s322 : Int).toNat zS_api_Cond⟩, ⟨33, Bool, cBool, decide (s322 < (x0.Conds.length : Int))⟩, ⟨32, Int, (cInt .i64), s322⟩, ⟨31, Int, (cInt .i64), (x0.Conds.length : Int)⟩, ⟨30, (List S_api_Cond), (cSlice cS_api_Cond), x0.Conds⟩, ⟨3, Value, cRaw, v326⟩] ++ X1395) := S1400
          clear S1400
          refine op_call S1401 (okX rfl (hX1397 _ rfl)) Tryd.call39 (report_num_ok (S1401.at 2 rfl) S1401.dirty_lt (S1401.tab hT2) h1263) (fun a1403 w1405 S1404 => ?_)
          clear S1401 a1398 w1399
          exact wpList_nil ⟨rfl, (0, undef), S1404⟩
        · intro f1413 X1406 Y1407 a1409 w1410 hX1408 S1411
          have S1412 : St 68 (fun _ => False) D w a1409 w1410 ([Res.row v326 9 cStr s325] ++ Y1407) ([⟨37, Int, cRef (cInt .u64), (x0.Conds.getD (s322 : Int).toNat zS_api_Cond).Id⟩, ⟨38, Int, (cInt .u64), (x0.Conds.getD (s322 : Int).toNat zS_api_Cond).Id⟩, ⟨39, (List Int), (cSlice (cInt .u64)), [(x0.Conds.getD (s322 : Int).toNat zS_api_Cond).Id]⟩, ⟨40, (List UInt8), cStr, y1262⟩, ⟨5, S_api_Cond, cRef cS_api_Cond, x0.Conds.getD (s322 : Int).toNat zS_api_Cond⟩, ⟨35, S_api_Cond, cS_api_Cond, x0.Conds.getD (s322 : Int).toNat zS_api_Cond⟩, ⟨34, S_api_Cond, cRef cS_api_Cond, x0.Conds.getD (s322 : Int).toNat zS_api_Cond⟩, ⟨33, Bool, cBool, decide (s322 < (x0.Conds.length : Int))⟩, ⟨32, Int, (cInt .i64), s322⟩, ⟨31, Int, (cInt .i64), (x0.Conds.length : Int)⟩, ⟨30, (List S_api_Cond), (cSlice cS_api_Cond), x0.Conds⟩, ⟨3, Value, cRaw, v326⟩] ++ X1406) := S1411
          clear S1411
          refine op_cat S1412 (okX rfl (hX1408 _ rfl)) rfl (S1412.str 3 rfl) g1268 (fun a1414 S1415 => ?_)
          clear S1412 a1409
          exact wpList_nil ⟨rfl, (0, undef), S1415⟩
        · intro f1423 X1416 Y1417 a1419 w1420 hX1418 S1421
          have S1422 : St 68 (fun _ => False) D w a1419 w1420 ([Res.row v326 9 cStr s325] ++ Y1417) ([⟨37, Int, cRef (cInt .u64), (x0.Conds.getD (s322 : Int).toNat zS_api_Cond).Id⟩, ⟨38, Int, (cInt .u64), (x0.Conds.getD (s322 : Int).toNat zS_api_Cond).Id⟩, ⟨39, (List Int), (cSlice (cInt .u64)), [(x0.Conds.getD (s322 : Int).toNat zS_api_Cond).Id]⟩, ⟨40, (List UInt8), cStr, y1262⟩, ⟨41, (List UInt8), cStr, ([112, 97, 121, 109, 101, 110, 116, 32] : List UInt8) ++ y1262⟩, ⟨5, S_api_Cond, cRef cS_api_Cond, x0.Conds.getD (s322 : Int).toNat zS_api_Cond⟩, ⟨35, S_api_Cond, cS_api_Cond, x0.Conds.getD (s322 : Int).toNat zS_api_Cond⟩, ⟨34, S_api_Cond, cRef cS_api_Cond, x0.Conds.getD (s322 : Int).toNat zS_api_Cond⟩, ⟨33, Bool, cBool, decide (s322 < (x0.Conds.length : Int))⟩, ⟨32, Int, (cInt .i64), s322⟩, ⟨31, Int, (cInt .i64), (x0.Conds.length : Int)⟩, ⟨30, (List S_api_Cond), (cSlice cS_api_Cond), x0.Conds⟩, ⟨3, Value, cRaw, v326⟩] ++ X1416) := S1421
          clear S1421
          refine op_cat S1422 (okX rfl (hX1418 _ rfl)) (S1422.str 4 rfl) rfl g1272 (fun a1424 S1425 => ?_)
          clear S1422 a1419
          exact wpList_nil ⟨rfl, (0, undef), S1425⟩
        · intro f1433 X1426 Y1427 a1429 w1430 hX1428 S1431
          have S1432 : St 68 (fun _ => False) D w a1429 w1430 ([Res.row v326 9 cStr s325] ++ Y1427) ([⟨5, S_api_Cond, cRef cS_api_Cond, x0.Conds.getD (s322 : Int).toNat zS_api_Cond⟩, ⟨35, S_api_Cond, cS_api_Cond, x0.Conds.getD (s322 : Int).toNat zS_api_Cond⟩, ⟨34, S_api_Cond, cRef cS_api_Cond, x0.Conds.getD (s322 : Int).toNat zS_api_Cond⟩, ⟨33, Bool, cBool, decide (s322 < (x0.Conds.length : Int))⟩, ⟨32, Int, (cInt .i64), s322⟩, ⟨31, Int, (cInt .i64), (x0.Conds.length : Int)⟩, ⟨30, (List S_api_Cond), (cSlice cS_api_Cond), x0.Conds⟩, ⟨3, Value, cRaw, v326⟩] ++ X1426) := S1431
          clear S1431
          refine op_fieldAddrr S1432 (okX rfl (hX1428 _ rfl)) (S1432.at 0 rfl) Tryd.underlying46 rfl Tryd.sizeOf43 rfl LS_api_Cond_By rfl (fun a1434 S1435 => ?_)
          clear S1432 a1429
          exact wpList_nil ⟨rfl, (0, undef), S1435⟩
        · intro f1443 X1436 Y1437 a1439 w1440 hX1438 S1441
          have S1442 : St 68 (fun _ => False) D w a1439 w1440 ([Res.row v326 9 cStr s325] ++ Y1437) ([⟨43, Int, cRef (cInt .i64), (x0.Conds.getD (s322 : Int).toNat zS_api_Cond).By⟩, ⟨5, S_api_Cond, cRef cS_api_Cond, x0.Conds.getD (s322 : Int).toNat zS_api_Cond⟩, ⟨35, S_api_Cond, cS_api_Cond, x0.Conds.getD (s322 : Int).toNat zS_api_Cond⟩, ⟨34, S_api_Cond, cRef cS_api_Cond, x0.Conds.getD (s322 : Int).toNat zS_api_Cond⟩, ⟨33, Bool, cBool, decide (s322 < (x0.Conds.length : Int))⟩, ⟨32, Int, (cInt .i64), s322⟩, ⟨31, Int, (cInt .i64), (x0.Conds.length : Int)⟩, ⟨30, (List S_api_Cond), (cSlice cS_api_Cond), x0.Conds⟩, ⟨3, Value, cRaw, v326⟩] ++ X1436) := S1441
          clear S1441
          refine op_loadr S1442 (okX rfl (hX1438 _ rfl)) (S1442.at 0 rfl) Tryd.isAgg43 Tryd.sizeOf43 (fun a1444 S1445 => ?_)
          clear S1442 a1439
          exact wpList_nil ⟨rfl, (0, undef), S1445⟩
        · intro f1453 X1446 Y1447 a1449 w1450 hX1448 S1451
          have S1452 : St 68 (fun _ => False) D w a1449 w1450 ([Res.row v326 9 cStr s325] ++ Y1447) ([⟨37, Int, cRef (cInt .u64), (x0.Conds.getD (s322 : Int).toNat zS_api_Cond).Id⟩, ⟨38, Int, (cInt .u64), (x0.Conds.getD (s322 : Int).toNat zS_api_Cond).Id⟩, ⟨39, (List Int), (cSlice (cInt .u64)), [(x0.Conds.getD (s322 : Int).toNat zS_api_Cond).Id]⟩, ⟨40, (List UInt8), cStr, y1262⟩, ⟨43, Int, cRef (cInt .i64), (x0.Conds.getD (s322 : Int).toNat zS_api_Cond).By⟩, ⟨44, Int, (cInt .i64), (x0.Conds.getD (s322 : Int).toNat zS_api_Cond).By⟩, ⟨5, S_api_Cond, cRef cS_api_Cond, x0.Conds.getD (s322 : Int).toNat zS_api_Cond⟩, ⟨35, S_api_Cond, cS_api_Cond, x0.Conds.getD (s322 : Int).toNat zS_api_Cond⟩, ⟨34, S_api_Cond, cRef cS_api_Cond, x0.Conds.getD (s322 : Int).toNat zS_api_Cond⟩, ⟨33, Bool, cBool, decide (s322 < (x0.Conds.length : Int))⟩, ⟨32, Int, (cInt .i64), s322⟩, ⟨31, Int, (cInt .i64), (x0.Conds.length : Int)⟩, ⟨30, (List S_api_Cond), (cSlice cS_api_Cond), x0.Conds⟩, ⟨3, Value, cRaw, v326⟩] ++ X1446) := S1451
          clear S1451
          refine op_call S1452 (okX rfl (hX1448 _ rfl)) Tryd.call40 (strconv_Itoa_ok (S1452.at 5 rfl) S1452.dirty_lt (S1452.tab hT2) h1281) (fun a1454 w1456 S1455 => ?_)
          clear S1452 a1449 w1450
          exact wpList_nil ⟨rfl, (0, undef), S1455⟩
        · intro f1464 X1457 Y1458 a1460 w1461 hX1459 S1462
          have S1463 : St 68 (fun _ => False) D w a1460 w1461 ([Res.row v326 9 cStr s325] ++ Y1458) ([⟨37, Int, cRef (cInt .u64), (x0.Conds.getD (s322 : Int).toNat zS_api_Cond).Id⟩, ⟨38, Int, (cInt .u64), (x0.Conds.getD (s322 : Int).toNat zS_api_Cond).Id⟩, ⟨39, (List Int), (cSlice (cInt .u64)), [(x0.Conds.getD (s322 : Int).toNat zS_api_Cond).Id]⟩, ⟨40, (List UInt8), cStr, y1262⟩, ⟨41, (List UInt8), cStr, ([112, 97, 121, 109, 101, 110, 116, 32] : List UInt8) ++ y1262⟩, ⟨42, (List UInt8), cStr, (([112, 97, 121, 109, 101, 110, 116, 32] : List UInt8) ++ y1262) ++ ([32, 98, 121, 32] : List UInt8)⟩, ⟨43, Int, cRef (cInt .i64), (x0.Conds.getD (s322 : Int).toNat zS_api_Cond).By⟩, ⟨44, Int, (cInt .i64), (x0.Conds.getD (s322 : Int).toNat zS_api_Cond).By⟩, ⟨45, (List UInt8), cStr, y1280⟩, ⟨5, S_api_Cond, cRef cS_api_Cond, x0.Conds.getD (s322 : Int).toNat zS_api_Cond⟩, ⟨35, S_api_Cond, cS_api_Cond, x0.Conds.getD (s322 : Int).toNat zS_api_Cond⟩, ⟨34, S_api_Cond, cRef cS_api_Cond, x0.Conds.getD (s322 : Int).toNat zS_api_Cond⟩, ⟨33, Bool, cBool, decide (s322 < (x0.Conds.length : Int))⟩, ⟨32, Int, (cInt .i64), s322⟩, ⟨31, Int, (cInt .i64), (x0.Conds.length : Int)⟩, ⟨30, (List S_api_Cond), (cSlice cS_api_Cond), x0.Conds⟩, ⟨3, Value, cRaw, v326⟩] ++ X1457) := S1462
          clear S1462
          refine op_cat S1463 (okX rfl (hX1459 _ rfl)) (S1463.str 5 rfl) (S1463.str 8 rfl) g1286 (fun a1465 S1466 => ?_)
          clear S1463 a1460
          exact wpList_nil ⟨rfl, (0, undef), S1466⟩
        · intro f1474 X1467 Y1468 a1470 w1471 hX1469 S1472
          have S1473 : St 68 (fun _ => False) D w a1470 w1471 ([Res.row v326 9 cStr s325] ++ Y1468) ([⟨37, Int, cRef (cInt .u64), (x0.Conds.getD (s322 : Int).toNat zS_api_Cond).Id⟩, ⟨38, Int, (cInt .u64), (x0.Conds.getD (s322 : Int).toNat zS_api_Cond).Id⟩, ⟨39, (List Int), (cSlice (cInt .u64)), [(x0.Conds.getD (s322 : Int).toNat zS_api_Cond).Id]⟩, ⟨40, (List UInt8), cStr, y1262⟩, ⟨41, (List UInt8), cStr, ([112, 97, 121, 109, 101, 110, 116, 32] : List UInt8) ++ y1262⟩, ⟨42, (List UInt8), cStr, (([112, 97, 121, 109, 101, 110, 116, 32] : List UInt8) ++ y1262) ++ ([32, 98, 121, 32] : List UInt8)⟩, ⟨43, Int, cRef (cInt .i64), (x0.Conds.getD (s322 : Int).toNat zS_api_Cond).By⟩, ⟨44, Int, (cInt .i64), (x0.Conds.getD (s322 : Int).toNat zS_api_Cond).By⟩, ⟨45, (List UInt8), cStr, y1280⟩, ⟨46, (List UInt8), cStr, ((([112, 97, 121, 109, 101, 110, 116, 32] : List UInt8) ++ y1262) ++ ([32, 98, 121, 32] : List UInt8)) ++ y1280⟩, ⟨5, S_api_Cond, cRef cS_api_Cond, x0.Conds.getD (s322 : Int).toNat zS_api_Cond⟩, ⟨35, S_api_Cond, cS_api_Cond, x0.Conds.getD (s322 : Int).toNat zS_api_Cond⟩, ⟨34, S_api_Cond, cRef cS_api_Cond, x0.Conds.getD (s322 : Int).toNat zS_api_Cond⟩, ⟨33, Bool, cBool, decide (s322 < (x0.Conds.length : Int))⟩, ⟨32, Int, (cInt .i64), s322⟩, ⟨31, Int, (cInt .i64), (x0.Conds.length : Int)⟩, ⟨30, (List S_api_Cond), (cSlice cS_api_Cond), x0.Conds⟩, ⟨3, Value, cRaw, v326⟩] ++ X1467) := S1472
          clear S1472
          refine op_cat S1473 (okX rfl (hX1469 _ rfl)) (S1473.str 9 rfl) rfl g1290 (fun a1475 S1476 => ?_)
          clear S1473 a1470
          exact wpList_nil ⟨rfl, (0, undef), S1476⟩
        · intro f1484 X1477 Y1478 a1480 w1481 hX1479 S1482
          have S1483 : St 68 (fun _ => False) D w a1480 w1481 ([Res.row v326 9 cStr s325] ++ Y1478) ([⟨5, S_api_Cond, cRef cS_api_Cond, x0.Conds.getD (s322 : Int).toNat zS_api_Cond⟩, ⟨35, S_api_Cond, cS_api_Cond, x0.Conds.getD (s322 : Int).toNat zS_api_Cond⟩, ⟨34, S_api_Cond, cRef cS_api_Cond, x0.Conds.getD (s322 : Int).toNat zS_api_Cond⟩, ⟨33, Bool, cBool, decide (s322 < (x0.Conds.length : Int))⟩, ⟨32, Int, (cInt .i64), s322⟩, ⟨31, Int, (cInt .i64), (x0.Conds.length : Int)⟩, ⟨30, (List S_api_Cond), (cSlice cS_api_Cond), x0.Conds⟩, ⟨3, Value, cRaw, v326⟩] ++ X1477) := S1482
          clear S1482
          refine op_fieldAddrr S1483 (okX rfl (hX1479 _ rfl)) (S1483.at 0 rfl) Tryd.underlying46 rfl Tryd.sizeOf23 rfl LS_api_Cond_Amount rfl (fun a1485 S1486 => ?_)
          clear S1483 a1480
          exact wpList_nil ⟨rfl, (0, undef), S1486⟩
        · intro f1494 X1487 Y1488 a1490 w1491 hX1489 S1492
          have S1493 : St 68 (fun _ => False) D w a1490 w1491 ([Res.row v326 9 cStr s325] ++ Y1488) ([⟨48, Int, cRef (cInt .u64), (x0.Conds.getD (s322 : Int).toNat zS_api_Cond).Amount⟩, ⟨5, S_api_Cond, cRef cS_api_Cond, x0.Conds.getD (s322 : Int).toNat zS_api_Cond⟩, ⟨35, S_api_Cond, cS_api_Cond, x0.Conds.getD (s322 : Int).toNat zS_api_Cond⟩, ⟨34, S_api_Cond, cRef cS_api_Cond, x0.Conds.getD (s322 : Int).toNat zS_api_Cond⟩, ⟨33, Bool, cBool, decide (s322 < (x0.Conds.length : Int))⟩, ⟨32, Int, (cInt .i64), s322⟩, ⟨31, Int, (cInt .i64), (x0.Conds.length : Int)⟩, ⟨30, (List S_api_Cond), (cSlice cS_api_Cond), x0.Conds⟩, ⟨3, Value, cRaw, v326⟩] ++ X1487) := S1492
          clear S1492
          refine op_loadr S1493 (okX rfl (hX1489 _ rfl)) (S1493.at 0 rfl) Tryd.isAgg23 Tryd.sizeOf23 (fun a1495 S1496 => ?_)
          clear S1493 a1490
          exact wpList_nil ⟨rfl, (0, undef), S1496⟩
        · intro f1504 X1497 Y1498 a1500 w1501 hX1499 S1502
          have S1503 : St 68 (fun _ => False) D w a1500 w1501 ([Res.row v326 9 cStr s325] ++ Y1498) ([⟨48, Int, cRef (cInt .u64), (x0.Conds.getD (s322 : Int).toNat zS_api_Cond).Amount⟩, ⟨49, Int, (cInt .u64), (x0.Conds.getD (s322 : Int).toNat zS_api_Cond).Amount⟩, ⟨5, S_api_Cond, cRef cS_api_Cond, x0.Conds.getD (s322 : Int).toNat zS_api_Cond⟩, ⟨35, S_api_Cond, cS_api_Cond, x0.Conds.getD (s322 : Int).toNat zS_api_Cond⟩, ⟨34, S_api_Cond, cRef cS_api_Cond, x0.Conds.getD (s322 : Int).toNat zS_api_Cond⟩, ⟨33, Bool, cBool, decide (s322 < (x0.Conds.length : Int))⟩, ⟨32, Int, (cInt .i64), s322⟩, ⟨31, Int, (cInt .i64), (x0.Conds.length : Int)⟩, ⟨30, (List S_api_Cond), (cSlice cS_api_Cond), x0.Conds⟩, ⟨3, Value, cRaw, v326⟩] ++ X1497) := S1502
          clear S1502
          refine op_lit S1503 (okX rfl (hX1499 _ rfl)) (cInt_flat _) Tryd.underlying119 Tryd.sizeOf23 Tryd.zeroValue23 rfl rfl rfl (.cons (S1503.at 1 rfl) (.nil _)) (fun a1505 w1507 S1506 => ?_)
          clear S1503 a1500 w1501
          exact wpList_nil ⟨rfl, (0, undef), S1506⟩
        · intro f1515 X1508 Y1509 a1511 w1512 hX1510 S1513
          have S1514 : St 68 (fun _ => False) D w a1511 w1512 ([Res.row v326 9 cStr s325] ++ Y1509) ([⟨37, Int, cRef (cInt .u64), (x0.Conds.getD (s322 : Int).toNat zS_api_Cond).Id⟩, ⟨38, Int, (cInt .u64), (x0.Conds.getD (s322 : Int).toNat zS_api_Cond).Id⟩, ⟨39, (List Int), (cSlice (cInt .u64)), [(x0.Conds.getD (s322 : Int).toNat zS_api_Cond).Id]⟩, ⟨40, (List UInt8), cStr, y1262⟩, ⟨43, Int, cRef (cInt .i64), (x0.Conds.getD (s322 : Int).toNat zS_api_Cond).By⟩, ⟨44, Int, (cInt .i64), (x0.Conds.getD (s322 : Int).toNat zS_api_Cond).By⟩, ⟨45, (List UInt8), cStr, y1280⟩, ⟨48, Int, cRef (cInt .u64), (x0.Conds.getD (s322 : Int).toNat zS_api_Cond).Amount⟩, ⟨49, Int, (cInt .u64), (x0.Conds.getD (s322 : Int).toNat zS_api_Cond).Amount⟩, ⟨50, (List Int), (cSlice (cInt .u64)), [(x0.Conds.getD (s322 : Int).toNat zS_api_Cond).Amount]⟩, ⟨5, S_api_Cond, cRef cS_api_Cond, x0.Conds.getD (s322 : Int).toNat zS_api_Cond⟩, ⟨35, S_api_Cond, cS_api_Cond, x0.Conds.getD (s322 : Int).toNat zS_api_Cond⟩, ⟨34, S_api_Cond, cRef cS_api_Cond, x0.Conds.getD (s322 : Int).toNat zS_api_Cond⟩, ⟨33, Bool, cBool, decide (s322 < (x0.Conds.length : Int))⟩, ⟨32, Int, (cInt .i64), s322⟩, ⟨31, Int, (cInt .i64), (x0.Conds.length : Int)⟩, ⟨30, (List S_api_Cond), (cSlice cS_api_Cond), x0.Conds⟩, ⟨3, Value, cRaw, v326⟩] ++ X1508) := S1513
          clear S1513
          refine op_call S1514 (okX rfl (hX1510 _ rfl)) Tryd.call39 (report_num_ok (S1514.at 9 rfl) S1514.dirty_lt (S1514.tab hT2) h1302) (fun a1516 w1518 S1517 => ?_)
          clear S1514 a1511 w1512
          exact wpList_nil ⟨rfl, (0, undef), S1517⟩
        · intro f1526 X1519 Y1520 a1522 w1523 hX1521 S1524
          have S1525 : St 68 (fun _ => False) D w a1522 w1523 ([Res.row v326 9 cStr s325] ++ Y1520) ([⟨37, Int, cRef (cInt .u64), (x0.Conds.getD (s322 : Int).toNat zS_api_Cond).Id⟩, ⟨38, Int, (cInt .u64), (x0.Conds.getD (s322 : Int).toNat zS_api_Cond).Id⟩, ⟨39, (List Int), (cSlice (cInt .u64)), [(x0.Conds.getD (s322 : Int).toNat zS_api_Cond).Id]⟩, ⟨40, (List UInt8), cStr, y1262⟩, ⟨41, (List UInt8), cStr, ([112, 97, 121, 109, 101, 110, 116, 32] : List UInt8) ++ y1262⟩, ⟨42, (List UInt8), cStr, (([112, 97, 121, 109, 101, 110, 116, 32] : List UInt8) ++ y1262) ++ ([32, 98, 121, 32] : List UInt8)⟩, ⟨43, Int, cRef (cInt .i64), (x0.Conds.getD (s322 : Int).toNat zS_api_Cond).By⟩, ⟨44, Int, (cInt .i64), (x0.Conds.getD (s322 : Int).toNat zS_api_Cond).By⟩, ⟨45, (List UInt8), cStr, y1280⟩, ⟨46, (List UInt8), cStr, ((([112, 97, 121, 109, 101, 110, 116, 32] : List UInt8) ++ y1262) ++ ([32, 98, 121, 32] : List UInt8)) ++ y1280⟩, ⟨47, (List UInt8), cStr, (((([112, 97, 121, 109, 101, 110, 116, 32] : List UInt8) ++ y1262) ++ ([32, 98, 121, 32] : List UInt8)) ++ y1280) ++ ([32, 111, 102, 32] : List UInt8)⟩, ⟨48, Int, cRef (cInt .u64), (x0.Conds.getD (s322 : Int).toNat zS_api_Cond).Amount⟩, ⟨49, Int, (cInt .u64), (x0.Conds.getD (s322 : Int).toNat zS_api_Cond).Amount⟩, ⟨50, (List Int), (cSlice (cInt .u64)), [(x0.Conds.getD (s322 : Int).toNat zS_api_Cond).Amount]⟩, ⟨51, (List UInt8), cStr, y1301⟩, ⟨5, S_api_Cond, cRef cS_api_Cond, x0.Conds.getD (s322 : Int).toNat zS_api_Cond⟩, ⟨35, S_api_Cond, cS_api_Cond, x0.Conds.getD (s322 : Int).toNat zS_api_Cond⟩, ⟨34, S_api_Cond, cRef cS_api_Cond, x0.Conds.getD (s322 : Int).toNat zS_api_Cond⟩, ⟨33, Bool, cBool, decide (s322 < (x0.Conds.length : Int))⟩, ⟨32, Int, (cInt .i64), s322⟩, ⟨31, Int, (cInt .i64), (x0.Conds.length : Int)⟩, ⟨30, (List S_api_Cond), (cSlice cS_api_Cond), x0.Conds⟩, ⟨3, Value, cRaw, v326⟩] ++ X1519) := S1524
          clear S1524
          refine op_cat S1525 (okX rfl (hX1521 _ rfl)) (S1525.str 10 rfl) (S1525.str 14 rfl) g1307 (fun a1527 S1528 => ?_)
          clear S1525 a1522
          exact wpList_nil ⟨rfl, (0, undef), S1528⟩
        · intro f1536 X1529 Y1530 a1532 w1533 hX1531 S1534
          have S1535 : St 68 (fun _ => False) D w a1532 w1533 ([Res.row v326 9 cStr s325] ++ Y1530) ([⟨37, Int, cRef (cInt .u64), (x0.Conds.getD (s322 : Int).toNat zS_api_Cond).Id⟩, ⟨38, Int, (cInt .u64), (x0.Conds.getD (s322 : Int).toNat zS_api_Cond).Id⟩, ⟨39, (List Int), (cSlice (cInt .u64)), [(x0.Conds.getD (s322 : Int).toNat zS_api_Cond).Id]⟩, ⟨40, (List UInt8), cStr, y1262⟩, ⟨41, (List UInt8), cStr, ([112, 97, 121, 109, 101, 110, 116, 32] : List UInt8) ++ y1262⟩, ⟨42, (List UInt8), cStr, (([112, 97, 121, 109, 101, 110, 116, 32] : List UInt8) ++ y1262) ++ ([32, 98, 121, 32] : List UInt8)⟩, ⟨43, Int, cRef (cInt .i64), (x0.Conds.getD (s322 : Int).toNat zS_api_Cond).By⟩, ⟨44, Int, (cInt .i64), (x0.Conds.getD (s322 : Int).toNat zS_api_Cond).By⟩, ⟨45, (List UInt8), cStr, y1280⟩, ⟨46, (List UInt8), cStr, ((([112, 97, 121, 109, 101, 110, 116, 32] : List UInt8) ++ y1262) ++ ([32, 98, 121, 32] : List UInt8)) ++ y1280⟩, ⟨47, (List UInt8), cStr, (((([112, 97, 121, 109, 101, 110, 116, 32] : List UInt8) ++ y1262) ++ ([32, 98, 121, 32] : List UInt8)) ++ y1280) ++ ([32, 111, 102, 32] : List UInt8)⟩, ⟨48, Int, cRef (cInt .u64), (x0.Conds.getD (s322 : Int).toNat zS_api_Cond).Amount⟩, ⟨49, Int, (cInt .u64), (x0.Conds.getD (s322 : Int).toNat zS_api_Cond).Amount⟩, ⟨50, (List Int), (cSlice (cInt .u64)), [(x0.Conds.getD (s322 : Int).toNat zS_api_Cond).Amount]⟩, ⟨51, (List UInt8), cStr, y1301⟩, ⟨52, (List UInt8), cStr, ((((([112, 97, 121, 109, 101, 110, 116, 32] : List UInt8) ++ y1262) ++ ([32, 98, 121, 32] : List UInt8)) ++ y1280) ++ ([32, 111, 102, 32] : List UInt8)) ++ y1301⟩, ⟨5, S_api_Cond, cRef cS_api_Cond, x0.Conds.getD (s322 : Int).toNat zS_api_Cond⟩, ⟨35, S_api_Cond, cS_api_Cond, x0.Conds.getD (s322 : Int).toNat zS_api_Cond⟩, ⟨34, S_api_Cond, cRef cS_api_Cond, x0.Conds.getD (s322 : Int).toNat zS_api_Cond⟩, ⟨33, Bool, cBool, decide (s322 < (x0.Conds.length : Int))⟩, ⟨32, Int, (cInt .i64), s322⟩, ⟨31, Int, (cInt .i64), (x0.Conds.length : Int)⟩, ⟨30, (List S_api_Cond), (cSlice cS_api_Cond), x0.Conds⟩, ⟨3, Value, cRaw, v326⟩] ++ X1529) := S1534
          clear S1534
          refine op_cat S1535 (okX rfl (hX1531 _ rfl)) (S1535.str 15 rfl) rfl g1311 (fun a1537 S1538 => ?_)
          clear S1535 a1532
          exact wpList_nil ⟨rfl, (0, undef), S1538⟩
        · intro f1546 X1539 Y1540 a1542 w1543 hX1541 S1544
          have S1545 : St 68 (fun _ => False) D w a1542 w1543 ([Res.row v326 9 cStr s325] ++ Y1540) ([⟨5, S_api_Cond, cRef cS_api_Cond, x0.Conds.getD (s322 : Int).toNat zS_api_Cond⟩, ⟨35, S_api_Cond, cS_api_Cond, x0.Conds.getD (s322 : Int).toNat zS_api_Cond⟩, ⟨34, S_api_Cond, cRef cS_api_Cond, x0.Conds.getD (s322 : Int).toNat zS_api_Cond⟩, ⟨33, Bool, cBool, decide (s322 < (x0.Conds.length : Int))⟩, ⟨32, Int, (cInt .i64), s322⟩, ⟨31, Int, (cInt .i64), (x0.Conds.length : Int)⟩, ⟨30, (List S_api_Cond), (cSlice cS_api_Cond), x0.Conds⟩, ⟨3, Value, cRaw, v326⟩] ++ X1539) := S1544
          clear S1544
          refine op_fieldAddrr S1545 (okX rfl (hX1541 _ rfl)) (S1545.at 0 rfl) Tryd.underlying46 rfl Tryd.sizeOf44 rfl LS_api_Cond_Hash rfl (fun a1547 S1548 => ?_)
          clear S1545 a1542
          exact wpList_nil ⟨rfl, (0, undef), S1548⟩
        · intro f1556 X1549 Y1550 a1552 w1553 hX1551 S1554
          have S1555 : St 68 (fun _ => False) D w a1552 w1553 ([Res.row v326 9 cStr s325] ++ Y1550) ([⟨54, (List Int), cRef (cArr 32 (cInt .u8)), (x0.Conds.getD (s322 : Int).toNat zS_api_Cond).Hash⟩, ⟨5, S_api_Cond, cRef cS_api_Cond, x0.Conds.getD (s322 : Int).toNat zS_api_Cond⟩, ⟨35, S_api_Cond, cS_api_Cond, x0.Conds.getD (s322 : Int).toNat zS_api_Cond⟩, ⟨34, S_api_Cond, cRef cS_api_Cond, x0.Conds.getD (s322 : Int).toNat zS_api_Cond⟩, ⟨33, Bool, cBool, decide (s322 < (x0.Conds.length : Int))⟩, ⟨32, Int, (cInt .i64), s322⟩, ⟨31, Int, (cInt .i64), (x0.Conds.length : Int)⟩, ⟨30, (List S_api_Cond), (cSlice cS_api_Cond), x0.Conds⟩, ⟨3, Value, cRaw, v326⟩] ++ X1549) := S1554
          clear S1554
          refine op_loadr S1555 (okX rfl (hX1551 _ rfl)) (S1555.at 0 rfl) Tryd.isAgg44 Tryd.sizeOf44 (fun a1557 S1558 => ?_)
          clear S1555 a1552
          exact wpList_nil ⟨rfl, (0, undef), S1558⟩
        · intro f1566 X1559 Y1560 a1562 w1563 hX1561 S1564
          have S1565 : St 68 (fun _ => False) D w a1562 w1563 ([Res.row v326 9 cStr s325] ++ Y1560) ([⟨37, Int, cRef (cInt .u64), (x0.Conds.getD (s322 : Int).toNat zS_api_Cond).Id⟩, ⟨38, Int, (cInt .u64), (x0.Conds.getD (s322 : Int).toNat zS_api_Cond).Id⟩, ⟨39, (List Int), (cSlice (cInt .u64)), [(x0.Conds.getD (s322 : Int).toNat zS_api_Cond).Id]⟩, ⟨40, (List UInt8), cStr, y1262⟩, ⟨43, Int, cRef (cInt .i64), (x0.Conds.getD (s322 : Int).toNat zS_api_Cond).By⟩, ⟨44, Int, (cInt .i64), (x0.Conds.getD (s322 : Int).toNat zS_api_Cond).By⟩, ⟨45, (List UInt8), cStr, y1280⟩, ⟨48, Int, cRef (cInt .u64), (x0.Conds.getD (s322 : Int).toNat zS_api_Cond).Amount⟩, ⟨49, Int, (cInt .u64), (x0.Conds.getD (s322 : Int).toNat zS_api_Cond).Amount⟩, ⟨50, (List Int), (cSlice (cInt .u64)), [(x0.Conds.getD (s322 : Int).toNat zS_api_Cond).Amount]⟩, ⟨51, (List UInt8), cStr, y1301⟩, ⟨54, (List Int), cRef (cArr 32 (cInt .u8)), (x0.Conds.getD (s322 : Int).toNat zS_api_Cond).Hash⟩, ⟨55, (List Int), (cArr 32 (cInt .u8)), (x0.Conds.getD (s322 : Int).toNat zS_api_Cond).Hash⟩, ⟨5, S_api_Cond, cRef cS_api_Cond, x0.Conds.getD (s322 : Int).toNat zS_api_Cond⟩, ⟨35, S_api_Cond, cS_api_Cond, x0.Conds.getD (s322 : Int).toNat zS_api_Cond⟩, ⟨34, S_api_Cond, cRef cS_api_Cond, x0.Conds.getD (s322 : Int).toNat zS_api_Cond⟩, ⟨33, Bool, cBool, decide (s322 < (x0.Conds.length : Int))⟩, ⟨32, Int, (cInt .i64), s322⟩, ⟨31, Int, (cInt .i64), (x0.Conds.length : Int)⟩, ⟨30, (List S_api_Cond), (cSlice cS_api_Cond), x0.Conds⟩, ⟨3, Value, cRaw, v326⟩] ++ X1559) := S1564
          clear S1564
          refine op_call S1565 (okX rfl (hX1561 _ rfl)) Tryd.call41 (report_short_ok (S1565.at 12 rfl) S1565.dirty_lt h1320) (fun a1567 w1569 S1568 => ?_)
          clear S1565 a1562 w1563
          exact wpList_nil ⟨rfl, (0, undef), S1568⟩
        · intro f1577 X1570 Y1571 a1573 w1574 hX1572 S1575
          have S1576 : St 68 (fun _ => False) D w a1573 w1574 ([Res.row v326 9 cStr s325] ++ Y1571) ([⟨37, Int, cRef (cInt .u64), (x0.Conds.getD (s322 : Int).toNat zS_api_Cond).Id⟩, ⟨38, Int, (cInt .u64), (x0.Conds.getD (s322 : Int).toNat zS_api_Cond).Id⟩, ⟨39, (List Int), (cSlice (cInt .u64)), [(x0.Conds.getD (s322 : Int).toNat zS_api_Cond).Id]⟩, ⟨40, (List UInt8), cStr, y1262⟩, ⟨41, (List UInt8), cStr, ([112, 97, 121, 109, 101, 110, 116, 32] : List UInt8) ++ y1262⟩, ⟨42, (List UInt8), cStr, (([112, 97, 121, 109, 101, 110, 116, 32] : List UInt8) ++ y1262) ++ ([32, 98, 121, 32] : List UInt8)⟩, ⟨43, Int, cRef (cInt .i64), (x0.Conds.getD (s322 : Int).toNat zS_api_Cond).By⟩, ⟨44, Int, (cInt .i64), (x0.Conds.getD (s322 : Int).toNat zS_api_Cond).By⟩, ⟨45, (List UInt8), cStr, y1280⟩, ⟨46, (List UInt8), cStr, ((([112, 97, 121, 109, 101, 110, 116, 32] : List UInt8) ++ y1262) ++ ([32, 98, 121, 32] : List UInt8)) ++ y1280⟩, ⟨47, (List UInt8), cStr, (((([112, 97, 121, 109, 101, 110, 116, 32] : List UInt8) ++ y1262) ++ ([32, 98, 121, 32] : List UInt8)) ++ y1280) ++ ([32, 111, 102, 32] : List UInt8)⟩, ⟨48, Int, cRef (cInt .u64), (x0.Conds.getD (s322 : Int).toNat zS_api_Cond).Amount⟩, ⟨49, Int, (cInt .u64), (x0.Conds.getD (s322 : Int).toNat zS_api_Cond).Amount⟩, ⟨50, (List Int), (cSlice (cInt .u64)), [(x0.Conds.getD (s322 : Int).toNat zS_api_Cond).Amount]⟩, ⟨51, (List UInt8), cStr, y1301⟩, ⟨52, (List UInt8), cStr, ((((([112, 97, 121, 109, 101, 110, 116, 32] : List UInt8) ++ y1262) ++ ([32, 98, 121, 32] : List UInt8)) ++ y1280) ++ ([32, 111, 102, 32] : List UInt8)) ++ y1301⟩, ⟨53, (List UInt8), cStr, (((((([112, 97, 121, 109, 101, 110, 116, 32] : List UInt8) ++ y1262) ++ ([32, 98, 121, 32] : List UInt8)) ++ y1280) ++ ([32, 111, 102, 32] : List UInt8)) ++ y1301) ++ ([32, 102, 111, 114, 32] : List UInt8)⟩, ⟨54, (List Int), cRef (cArr 32 (cInt .u8)), (x0.Conds.getD (s322 : Int).toNat zS_api_Cond).Hash⟩, ⟨55, (List Int), (cArr 32 (cInt .u8)), (x0.Conds.getD (s322 : Int).toNat zS_api_Cond).Hash⟩, ⟨56, (List UInt8), cStr, y1319⟩, ⟨5, S_api_Cond, cRef cS_api_Cond, x0.Conds.getD (s322 : Int).toNat zS_api_Cond⟩, ⟨35, S_api_Cond, cS_api_Cond, x0.Conds.getD (s322 : Int).toNat zS_api_Cond⟩, ⟨34, S_api_Cond, cRef cS_api_Cond, x0.Conds.getD (s322 : Int).toNat zS_api_Cond⟩, ⟨33, Bool, cBool, decide (s322 < (x0.Conds.length : Int))⟩, ⟨32, Int, (cInt .i64), s322⟩, ⟨31, Int, (cInt .i64), (x0.Conds.length : Int)⟩, ⟨30, (List S_api_Cond), (cSlice cS_api_Cond), x0.Conds⟩, ⟨3, Value, cRaw, v326⟩] ++ X1570) := S1575
          clear S1575
          refine op_cat S1576 (okX rfl (hX1572 _ rfl)) (S1576.str 16 rfl) (S1576.str 19 rfl) g1325 (fun a1578 S1579 => ?_)
          clear S1576 a1573
          exact wpList_nil ⟨rfl, (0, undef), S1579⟩
        · intro f1587 X1580 Y1581 a1583 w1584 hX1582 S1585
          have S1586 : St 68 (fun _ => False) D w a1583 w1584 ([Res.row v326 9 cStr s325] ++ Y1581) ([⟨37, Int, cRef (cInt .u64), (x0.Conds.getD (s322 : Int).toNat zS_api_Cond).Id⟩, ⟨38, Int, (cInt .u64), (x0.Conds.getD (s322 : Int).toNat zS_api_Cond).Id⟩, ⟨39, (List Int), (cSlice (cInt .u64)), [(x0.Conds.getD (s322 : Int).toNat zS_api_Cond).Id]⟩, ⟨40, (List UInt8), cStr, y1262⟩, ⟨41, (List UInt8), cStr, ([112, 97, 121, 109, 101, 110, 116, 32] : List UInt8) ++ y1262⟩, ⟨42, (List UInt8), cStr, (([112, 97, 121, 109, 101, 110, 116, 32] : List UInt8) ++ y1262) ++ ([32, 98, 121, 32] : List UInt8)⟩, ⟨43, Int, cRef (cInt .i64), (x0.Conds.getD (s322 : Int).toNat zS_api_Cond).By⟩, ⟨44, Int, (cInt .i64), (x0.Conds.getD (s322 : Int).toNat zS_api_Cond).By⟩, ⟨45, (List UInt8), cStr, y1280⟩, ⟨46, (List UInt8), cStr, ((([112, 97, 121, 109, 101, 110, 116, 32] : List UInt8) ++ y1262) ++ ([32, 98, 121, 32] : List UInt8)) ++ y1280⟩, ⟨47, (List UInt8), cStr, (((([112, 97, 121, 109, 101, 110, 116, 32] : List UInt8) ++ y1262) ++ ([32, 98, 121, 32] : List UInt8)) ++ y1280) ++ ([32, 111, 102, 32] : List UInt8)⟩, ⟨48, Int, cRef (cInt .u64), (x0.Conds.getD (s322 : Int).toNat zS_api_Cond).Amount⟩, ⟨49, Int, (cInt .u64), (x0.Conds.getD (s322 : Int).toNat zS_api_Cond).Amount⟩, ⟨50, (List Int), (cSlice (cInt .u64)), [(x0.Conds.getD (s322 : Int).toNat zS_api_Cond).Amount]⟩, ⟨51, (List UInt8), cStr, y1301⟩, ⟨52, (List UInt8), cStr, ((((([112, 97, 121, 109, 101, 110, 116, 32] : List UInt8) ++ y1262) ++ ([32, 98, 121, 32] : List UInt8)) ++ y1280) ++ ([32, 111, 102, 32] : List UInt8)) ++ y1301⟩, ⟨53, (List UInt8), cStr, (((((([112, 97, 121, 109, 101, 110, 116, 32] : List UInt8) ++ y1262) ++ ([32, 98, 121, 32] : List UInt8)) ++ y1280) ++ ([32, 111, 102, 32] : List UInt8)) ++ y1301) ++ ([32, 102, 111, 114, 32] : List UInt8)⟩, ⟨54, (List Int), cRef (cArr 32 (cInt .u8)), (x0.Conds.getD (s322 : Int).toNat zS_api_Cond).Hash⟩, ⟨55, (List Int), (cArr 32 (cInt .u8)), (x0.Conds.getD (s322 : Int).toNat zS_api_Cond).Hash⟩, ⟨56, (List UInt8), cStr, y1319⟩, ⟨57, (List UInt8), cStr, ((((((([112, 97, 121, 109, 101, 110, 116, 32] : List UInt8) ++ y1262) ++ ([32, 98, 121, 32] : List UInt8)) ++ y1280) ++ ([32, 111, 102, 32] : List UInt8)) ++ y1301) ++ ([32, 102, 111, 114, 32] : List UInt8)) ++ y1319⟩, ⟨5, S_api_Cond, cRef cS_api_Cond, x0.Conds.getD (s322 : Int).toNat zS_api_Cond⟩, ⟨35, S_api_Cond, cS_api_Cond, x0.Conds.getD (s322 : Int).toNat zS_api_Cond⟩, ⟨34, S_api_Cond, cRef cS_api_Cond, x0.Conds.getD (s322 : Int).toNat zS_api_Cond⟩, ⟨33, Bool, cBool, decide (s322 < (x0.Conds.length : Int))⟩, ⟨32, Int, (cInt .i64), s322⟩, ⟨31, Int, (cInt .i64), (x0.Conds.length : Int)⟩, ⟨30, (List S_api_Cond), (cSlice cS_api_Cond), x0.Conds⟩, ⟨3, Value, cRaw, v326⟩] ++ X1580) := S1585
          clear S1585
          refine op_cat S1586 (okX rfl (hX1582 _ rfl)) (S1586.str 20 rfl) rfl g1329 (fun a1588 S1589 => ?_)
          clear S1586 a1583
          exact wpList_nil ⟨rfl, (0, undef), S1589⟩
        · intro f1597 X1590 Y1591 a1593 w1594 hX1592 S1595
          have S1596 : St 68 (fun _ => False) D w a1593 w1594 ([Res.row v326 9 cStr s325] ++ Y1591) ([⟨5, S_api_Cond, cRef cS_api_Cond, x0.Conds.getD (s322 : Int).toNat zS_api_Cond⟩, ⟨35, S_api_Cond, cS_api_Cond, x0.Conds.getD (s322 : Int).toNat zS_api_Cond⟩, ⟨34, S_api_Cond, cRef cS_api_Cond, x0.Conds.getD (s322 : Int).toNat zS_api_Cond⟩, ⟨33, Bool, cBool, decide (s322 < (x0.Conds.length : Int))⟩, ⟨32, Int, (cInt .i64), s322⟩, ⟨31, Int, (cInt .i64), (x0.Conds.length : Int)⟩, ⟨30, (List S_api_Cond), (cSlice cS_api_Cond), x0.Conds⟩, ⟨3, Value, cRaw, v326⟩] ++ X1590) := S1595
          clear S1595
          refine op_fieldAddrr S1596 (okX rfl (hX1592 _ rfl)) (S1596.at 0 rfl) Tryd.underlying46 rfl Tryd.sizeOf23 rfl LS_api_Cond_Expiry rfl (fun a1598 S1599 => ?_)
          clear S1596 a1593
          exact wpList_nil ⟨rfl, (0, undef), S1599⟩
        · intro f1607 X1600 Y1601 a1603 w1604 hX1602 S1605
          have S1606 : St 68 (fun _ => False) D w a1603 w1604 ([Res.row v326 9 cStr s325] ++ Y1601) ([⟨59, Int, cRef (cInt .u64), (x0.Conds.getD (s322 : Int).toNat zS_api_Cond).Expiry⟩, ⟨5, S_api_Cond, cRef cS_api_Cond, x0.Conds.getD (s322 : Int).toNat zS_api_Cond⟩, ⟨35, S_api_Cond, cS_api_Cond, x0.Conds.getD (s322 : Int).toNat zS_api_Cond⟩, ⟨34, S_api_Cond, cRef cS_api_Cond, x0.Conds.getD (s322 : Int).toNat zS_api_Cond⟩, ⟨33, Bool, cBool, decide (s322 < (x0.Conds.length : Int))⟩, ⟨32, Int, (cInt .i64), s322⟩, ⟨31, Int, (cInt .i64), (x0.Conds.length : Int)⟩, ⟨30, (List S_api_Cond), (cSlice cS_api_Cond), x0.Conds⟩, ⟨3, Value, cRaw, v326⟩] ++ X1600) := S1605
          clear S1605
          refine op_loadr S1606 (okX rfl (hX1602 _ rfl)) (S1606.at 0 rfl) Tryd.isAgg23 Tryd.sizeOf23 (fun a1608 S1609 => ?_)
          clear S1606 a1603
          exact wpList_nil ⟨rfl, (0, undef), S1609⟩
        · intro f1617 X1610 Y1611 a1613 w1614 hX1612 S1615
          have S1616 : St 68 (fun _ => False) D w a1613 w1614 ([Res.row v326 9 cStr s325] ++ Y1611) ([⟨59, Int, cRef (cInt .u64), (x0.Conds.getD (s322 : Int).toNat zS_api_Cond).Expiry⟩, ⟨60, Int, (cInt .u64), (x0.Conds.getD (s322 : Int).toNat zS_api_Cond).Expiry⟩, ⟨5, S_api_Cond, cRef cS_api_Cond, x0.Conds.getD (s322 : Int).toNat zS_api_Cond⟩, ⟨35, S_api_Cond, cS_api_Cond, x0.Conds.getD (s322 : Int).toNat zS_api_Cond⟩, ⟨34, S_api_Cond, cRef cS_api_Cond, x0.Conds.getD (s322 : Int).toNat zS_api_Cond⟩, ⟨33, Bool, cBool, decide (s322 < (x0.Conds.length : Int))⟩, ⟨32, Int, (cInt .i64), s322⟩, ⟨31, Int, (cInt .i64), (x0.Conds.length : Int)⟩, ⟨30, (List S_api_Cond), (cSlice cS_api_Cond), x0.Conds⟩, ⟨3, Value, cRaw, v326⟩] ++ X1610) := S1615
          clear S1615
          refine op_lit S1616 (okX rfl (hX1612 _ rfl)) (cInt_flat _) Tryd.underlying119 Tryd.sizeOf23 Tryd.zeroValue23 rfl rfl rfl (.cons (S1616.at 1 rfl) (.nil _)) (fun a1618 w1620 S1619 => ?_)
          clear S1616 a1613 w1614
          exact wpList_nil ⟨rfl, (0, undef), S1619⟩
        · intro f1628 X1621 Y1622 a1624 w1625 hX1623 S1626
          have S1627 : St 68 (fun _ => False) D w a1624 w1625 ([Res.row v326 9 cStr s325] ++ Y1622) ([⟨37, Int, cRef (cInt .u64), (x0.Conds.getD (s322 : Int).toNat zS_api_Cond).Id⟩, ⟨38, Int, (cInt .u64), (x0.Conds.getD (s322 : Int).toNat zS_api_Cond).Id⟩, ⟨39, (List Int), (cSlice (cInt .u64)), [(x0.Conds.getD (s322 : Int).toNat zS_api_Cond).Id]⟩, ⟨40, (List UInt8), cStr, y1262⟩, ⟨43, Int, cRef (cInt .i64), (x0.Conds.getD (s322 : Int).toNat zS_api_Cond).By⟩, ⟨44, Int, (cInt .i64), (x0.Conds.getD (s322 : Int).toNat zS_api_Cond).By⟩, ⟨45, (List UInt8), cStr, y1280⟩, ⟨48, Int, cRef (cInt .u64), (x0.Conds.getD (s322 : Int).toNat zS_api_Cond).Amount⟩, ⟨49, Int, (cInt .u64), (x0.Conds.getD (s322 : Int).toNat zS_api_Cond).Amount⟩, ⟨50, (List Int), (cSlice (cInt .u64)), [(x0.Conds.getD (s322 : Int).toNat zS_api_Cond).Amount]⟩, ⟨51, (List UInt8), cStr, y1301⟩, ⟨54, (List Int), cRef (cArr 32 (cInt .u8)), (x0.Conds.getD (s322 : Int).toNat zS_api_Cond).Hash⟩, ⟨55, (List Int), (cArr 32 (cInt .u8)), (x0.Conds.getD (s322 : Int).toNat zS_api_Cond).Hash⟩, ⟨56, (List UInt8), cStr, y1319⟩, ⟨59, Int, cRef (cInt .u64), (x0.Conds.getD (s322 : Int).toNat zS_api_Cond).Expiry⟩, ⟨60, Int, (cInt .u64), (x0.Conds.getD (s322 : Int).toNat zS_api_Cond).Expiry⟩, ⟨61, (List Int), (cSlice (cInt .u64)), [(x0.Conds.getD (s322 : Int).toNat zS_api_Cond).Expiry]⟩, ⟨5, S_api_Cond, cRef cS_api_Cond, x0.Conds.getD (s322 : Int).toNat zS_api_Cond⟩, ⟨35, S_api_Cond, cS_api_Cond, x0.Conds.getD (s322 : Int).toNat zS_api_Cond⟩, ⟨34, S_api_Cond, cRef cS_api_Cond, x0.Conds.getD (s322 : Int).toNat zS_api_Cond⟩, ⟨33, Bool, cBool, decide (s322 < (x0.Conds.length : Int))⟩, ⟨32, Int, (cInt .i64), s322⟩, ⟨31, Int, (cInt .i64), (x0.Conds.length : Int)⟩, ⟨30, (List S_api_Cond), (cSlice cS_api_Cond), x0.Conds⟩, ⟨3, Value, cRaw, v326⟩] ++ X1621) := S1626
          clear S1626
          refine op_call S1627 (okX rfl (hX1623 _ rfl)) Tryd.call39 (report_num_ok (S1627.at 16 rfl) S1627.dirty_lt (S1627.tab hT2) h1341) (fun a1629 w1631 S1630 => ?_)
          clear S1627 a1624 w1625
          exact wpList_nil ⟨rfl, (0, undef), S1630⟩
        · intro f1639 X1632 Y1633 a1635 w1636 hX1634 S1637
          have S1638 : St 68 (fun _ => False) D w a1635 w1636 ([Res.row v326 9 cStr s325] ++ Y1633) ([⟨37, Int, cRef (cInt .u64), (x0.Conds.getD (s322 : Int).toNat zS_api_Cond).Id⟩, ⟨38, Int, (cInt .u64), (x0.Conds.getD (s322 : Int).toNat zS_api_Cond).Id⟩, ⟨39, (List Int), (cSlice (cInt .u64)), [(x0.Conds.getD (s322 : Int).toNat zS_api_Cond).Id]⟩, ⟨40, (List UInt8), cStr, y1262⟩, ⟨41, (List UInt8), cStr, ([112, 97, 121, 109, 101, 110, 116, 32] : List UInt8) ++ y1262⟩, ⟨42, (List UInt8), cStr, (([112, 97, 121, 109, 101, 110, 116, 32] : List UInt8) ++ y1262) ++ ([32, 98, 121, 32] : List UInt8)⟩, ⟨43, Int, cRef (cInt .i64), (x0.Conds.getD (s322 : Int).toNat zS_api_Cond).By⟩, ⟨44, Int, (cInt .i64), (x0.Conds.getD (s322 : Int).toNat zS_api_Cond).By⟩, ⟨45, (List UInt8), cStr, y1280⟩, ⟨46, (List UInt8), cStr, ((([112, 97, 121, 109, 101, 110, 116, 32] : List UInt8) ++ y1262) ++ ([32, 98, 121, 32] : List UInt8)) ++ y1280⟩, ⟨47, (List UInt8), cStr, (((([112, 97, 121, 109, 101, 110, 116, 32] : List UInt8) ++ y1262) ++ ([32, 98, 121, 32] : List UInt8)) ++ y1280) ++ ([32, 111, 102, 32] : List UInt8)⟩, ⟨48, Int, cRef (cInt .u64), (x0.Conds.getD (s322 : Int).toNat zS_api_Cond).Amount⟩, ⟨49, Int, (cInt .u64), (x0.Conds.getD (s322 : Int).toNat zS_api_Cond).Amount⟩, ⟨50, (List Int), (cSlice (cInt .u64)), [(x0.Conds.getD (s322 : Int).toNat zS_api_Cond).Amount]⟩, ⟨51, (List UInt8), cStr, y1301⟩, ⟨52, (List UInt8), cStr, ((((([112, 97, 121, 109, 101, 110, 116, 32] : List UInt8) ++ y1262) ++ ([32, 98, 121, 32] : List UInt8)) ++ y1280) ++ ([32, 111, 102, 32] : List UInt8)) ++ y1301⟩, ⟨53, (List UInt8), cStr, (((((([112, 97, 121, 109, 101, 110, 116, 32] : List UInt8) ++ y1262) ++ ([32, 98, 121, 32] : List UInt8)) ++ y1280) ++ ([32, 111, 102, 32] : List UInt8)) ++ y1301) ++ ([32, 102, 111, 114, 32] : List UInt8)⟩, ⟨54, (List Int), cRef (cArr 32 (cInt .u8)), (x0.Conds.getD (s322 : Int).toNat zS_api_Cond).Hash⟩, ⟨55, (List Int), (cArr 32 (cInt .u8)), (x0.Conds.getD (s322 : Int).toNat zS_api_Cond).Hash⟩, ⟨56, (List UInt8), cStr, y1319⟩, ⟨57, (List UInt8), cStr, ((((((([112, 97, 121, 109, 101, 110, 116, 32] : List UInt8) ++ y1262) ++ ([32, 98, 121, 32] : List UInt8)) ++ y1280) ++ ([32, 111, 102, 32] : List UInt8)) ++ y1301) ++ ([32, 102, 111, 114, 32] : List UInt8)) ++ y1319⟩, ⟨58, (List UInt8), cStr, (((((((([112, 97, 121, 109, 101, 110, 116, 32] : List UInt8) ++ y1262) ++ ([32, 98, 121, 32] : List UInt8)) ++ y1280) ++ ([32, 111, 102, 32] : List UInt8)) ++ y1301) ++ ([32, 102, 111, 114, 32] : List UInt8)) ++ y1319) ++ ([32, 117, 112, 32, 116, 111, 32] : List UInt8)⟩, ⟨59, Int, cRef (cInt .u64), (x0.Conds.getD (s322 : Int).toNat zS_api_Cond).Expiry⟩, ⟨60, Int, (cInt .u64), (x0.Conds.getD (s322 : Int).toNat zS_api_Cond).Expiry⟩, ⟨61, (List Int), (cSlice (cInt .u64)), [(x0.Conds.getD (s322 : Int).toNat zS_api_Cond).Expiry]⟩, ⟨62, (List UInt8), cStr, y1340⟩, ⟨5, S_api_Cond, cRef cS_api_Cond, x0.Conds.getD (s322 : Int).toNat zS_api_Cond⟩, ⟨35, S_api_Cond, cS_api_Cond, x0.Conds.getD (s322 : Int).toNat zS_api_Cond⟩, ⟨34, S_api_Cond, cRef cS_api_Cond, x0.Conds.getD (s322 : Int).toNat zS_api_Cond⟩, ⟨33, Bool, cBool, decide (s322 < (x0.Conds.length : Int))⟩, ⟨32, Int, (cInt .i64), s322⟩, ⟨31, Int, (cInt .i64), (x0.Conds.length : Int)⟩, ⟨30, (List S_api_Cond), (cSlice cS_api_Cond), x0.Conds⟩, ⟨3, Value, cRaw, v326⟩] ++ X1632) := S1637
          clear S1637
          refine op_cat S1638 (okX rfl (hX1634 _ rfl)) (S1638.str 21 rfl) (S1638.str 25 rfl) g1346 (fun a1640 S1641 => ?_)
          clear S1638 a1635
          exact wpList_nil ⟨rfl, (0, undef), S1641⟩
        · intro f1649 X1642 Y1643 a1645 w1646 hX1644 S1647
          have S1648 : St 68 (fun _ => False) D w a1645 w1646 ([Res.row v326 9 cStr s325] ++ Y1643) ([⟨37, Int, cRef (cInt .u64), (x0.Conds.getD (s322 : Int).toNat zS_api_Cond).Id⟩, ⟨38, Int, (cInt .u64), (x0.Conds.getD (s322 : Int).toNat zS_api_Cond).Id⟩, ⟨39, (List Int), (cSlice (cInt .u64)), [(x0.Conds.getD (s322 : Int).toNat zS_api_Cond).Id]⟩, ⟨40, (List UInt8), cStr, y1262⟩, ⟨41, (List UInt8), cStr, ([112, 97, 121, 109, 101, 110, 116, 32] : List UInt8) ++ y1262⟩, ⟨42, (List UInt8), cStr, (([112, 97, 121, 109, 101, 110, 116, 32] : List UInt8) ++ y1262) ++ ([32, 98, 121, 32] : List UInt8)⟩, ⟨43, Int, cRef (cInt .i64), (x0.Conds.getD (s322 : Int).toNat zS_api_Cond).By⟩, ⟨44, Int, (cInt .i64), (x0.Conds.getD (s322 : Int).toNat zS_api_Cond).By⟩, ⟨45, (List UInt8), cStr, y1280⟩, ⟨46, (List UInt8), cStr, ((([112, 97, 121, 109, 101, 110, 116, 32] : List UInt8) ++ y1262) ++ ([32, 98, 121, 32] : List UInt8)) ++ y1280⟩, ⟨47, (List UInt8), cStr, (((([112, 97, 121, 109, 101, 110, 116, 32] : List UInt8) ++ y1262) ++ ([32, 98, 121, 32] : List UInt8)) ++ y1280) ++ ([32, 111, 102, 32] : List UInt8)⟩, ⟨48, Int, cRef (cInt .u64), (x0.Conds.getD (s322 : Int).toNat zS_api_Cond).Amount⟩, ⟨49, Int, (cInt .u64), (x0.Conds.getD (s322 : Int).toNat zS_api_Cond).Amount⟩, ⟨50, (List Int), (cSlice (cInt .u64)), [(x0.Conds.getD (s322 : Int).toNat zS_api_Cond).Amount]⟩, ⟨51, (List UInt8), cStr, y1301⟩, ⟨52, (List UInt8), cStr, ((((([112, 97, 121, 109, 101, 110, 116, 32] : List UInt8) ++ y1262) ++ ([32, 98, 121, 32] : List UInt8)) ++ y1280) ++ ([32, 111, 102, 32] : List UInt8)) ++ y1301⟩, ⟨53, (List UInt8), cStr, (((((([112, 97, 121, 109, 101, 110, 116, 32] : List UInt8) ++ y1262) ++ ([32, 98, 121, 32] : List UInt8)) ++ y1280) ++ ([32, 111, 102, 32] : List UInt8)) ++ y1301) ++ ([32, 102, 111, 114, 32] : List UInt8)⟩, ⟨54, (List Int), cRef (cArr 32 (cInt .u8)), (x0.Conds.getD (s322 : Int).toNat zS_api_Cond).Hash⟩, ⟨55, (List Int), (cArr 32 (cInt .u8)), (x0.Conds.getD (s322 : Int).toNat zS_api_Cond).Hash⟩, ⟨56, (List UInt8), cStr, y1319⟩, ⟨57, (List UInt8), cStr, ((((((([112, 97, 121, 109, 101, 110, 116, 32] : List UInt8) ++ y1262) ++ ([32, 98, 121, 32] : List UInt8)) ++ y1280) ++ ([32, 111, 102, 32] : List UInt8)) ++ y1301) ++ ([32, 102, 111, 114, 32] : List UInt8)) ++ y1319⟩, ⟨58, (List UInt8), cStr, (((((((([112, 97, 121, 109, 101, 110, 116, 32] : List UInt8) ++ y1262) ++ ([32, 98, 121, 32] : List UInt8)) ++ y1280) ++ ([32, 111, 102, 32] : List UInt8)) ++ y1301) ++ ([32, 102, 111, 114, 32] : List UInt8)) ++ y1319) ++ ([32, 117, 112, 32, 116, 111, 32] : List UInt8)⟩, ⟨59, Int, cRef (cInt .u64), (x0.Conds.getD (s322 : Int).toNat zS_api_Cond).Expiry⟩, ⟨60, Int, (cInt .u64), (x0.Conds.getD (s322 : Int).toNat zS_api_Cond).Expiry⟩, ⟨61, (List Int), (cSlice (cInt .u64)), [(x0.Conds.getD (s322 : Int).toNat zS_api_Cond).Expiry]⟩, ⟨62, (List UInt8), cStr, y1340⟩, ⟨63, (List UInt8), cStr, ((((((((([112, 97, 121, 109, 101, 110, 116, 32] : List UInt8) ++ y1262) ++ ([32, 98, 121, 32] : List UInt8)) ++ y1280) ++ ([32, 111, 102, 32] : List UInt8)) ++ y1301) ++ ([32, 102, 111, 114, 32] : List UInt8)) ++ y1319) ++ ([32, 117, 112, 32, 116, 111, 32] : List UInt8)) ++ y1340⟩, ⟨5, S_api_Cond, cRef cS_api_Cond, x0.Conds.getD (s322 : Int).toNat zS_api_Cond⟩, ⟨35, S_api_Cond, cS_api_Cond, x0.Conds.getD (s322 : Int).toNat zS_api_Cond⟩, ⟨34, S_api_Cond, cRef cS_api_Cond, x0.Conds.getD (s322 : Int).toNat zS_api_Cond⟩, ⟨33, Bool, cBool, decide (s322 < (x0.Conds.length : Int))⟩, ⟨32, Int, (cInt .i64), s322⟩, ⟨31, Int, (cInt .i64), (x0.Conds.length : Int)⟩, ⟨30, (List S_api_Cond), (cSlice cS_api_Cond), x0.Conds⟩, ⟨3, Value, cRaw, v326⟩] ++ X1642) := S1647
          clear S1647
          refine op_lit S1648 (okX rfl (hX1644 _ rfl)) cStr_flat Tryd.underlying34 Tryd.sizeOf9 Tryd.zeroValue9 rfl rfl rfl (.cons (S1648.at 26 rfl) (.nil _)) (fun a1650 w1652 S1651 => ?_)
          clear S1648 a1645 w1646
          exact wpList_nil ⟨rfl, (0, undef), S1651⟩
        · intro f1657 a1653 w1654 _ S1655
          have S1656 : St 68 (fun _ => False) D w a1653 w1654 [Res.row v326 9 cStr s325] [⟨64, (List (List UInt8)), (cSlice cStr), [((((((((([112, 97, 121, 109, 101, 110, 116, 32] : List UInt8) ++ y1262) ++ ([32, 98, 121, 32] : List UInt8)) ++ y1280) ++ ([32, 111, 102, 32] : List UInt8)) ++ y1301) ++ ([32, 102, 111, 114, 32] : List UInt8)) ++ y1319) ++ ([32, 117, 112, 32, 116, 111, 32] : List UInt8)) ++ y1340]⟩, ⟨63, (List UInt8), cStr, ((((((((([112, 97, 121, 109, 101, 110, 116, 32] : List UInt8) ++ y1262) ++ ([32, 98, 121, 32] : List UInt8)) ++ y1280) ++ ([32, 111, 102, 32] : List UInt8)) ++ y1301) ++ ([32, 102, 111, 114, 32] : List UInt8)) ++ y1319) ++ ([32, 117, 112, 32, 116, 111, 32] : List UInt8)) ++ y1340⟩, ⟨62, (List UInt8), cStr, y1340⟩, ⟨61, (List Int), (cSlice (cInt .u64)), [(x0.Conds.getD (s322 : Int).toNat zS_api_Cond).Expiry]⟩, ⟨60, Int, (cInt .u64), (x0.Conds.getD (s322 : Int).toNat zS_api_Cond).Expiry⟩, ⟨59, Int, cRef (cInt .u64), (x0.Conds.getD (s322 : Int).toNat zS_api_Cond).Expiry⟩, ⟨58, (List UInt8), cStr, (((((((([112, 97, 121, 109, 101, 110, 116, 32] : List UInt8) ++ y1262) ++ ([32, 98, 121, 32] : List UInt8)) ++ y1280) ++ ([32, 111, 102, 32] : List UInt8)) ++ y1301) ++ ([32, 102, 111, 114, 32] : List UInt8)) ++ y1319) ++ ([32, 117, 112, 32, 116, 111, 32] : List UInt8)⟩, ⟨57, (List UInt8), cStr, ((((((([112, 97, 121, 109, 101, 110, 116, 32] : List UInt8) ++ y1262) ++ ([32, 98, 121, 32] : List UInt8)) ++ y1280) ++ ([32, 111, 102, 32] : List UInt8)) ++ y1301) ++ ([32, 102, 111, 114, 32] : List UInt8)) ++ y1319⟩, ⟨56, (List UInt8), cStr, y1319⟩, ⟨55, (List Int), (cArr 32 (cInt .u8)), (x0.Conds.getD (s322 : Int).toNat zS_api_Cond).Hash⟩, ⟨54, (List Int), cRef (cArr 32 (cInt .u8)), (x0.Conds.getD (s322 : Int).toNat zS_api_Cond).Hash⟩, ⟨53, (List UInt8), cStr, (((((([112, 97, 121, 109, 101, 110, 116, 32] : List UInt8) ++ y1262) ++ ([32, 98, 121, 32] : List UInt8)) ++ y1280) ++ ([32, 111, 102, 32] : List UInt8)) ++ y1301) ++ ([32, 102, 111, 114, 32] : List UInt8)⟩, ⟨52, (List UInt8), cStr, ((((([112, 97, 121, 109, 101, 110, 116, 32] : List UInt8) ++ y1262) ++ ([32, 98, 121, 32] : List UInt8)) ++ y1280) ++ ([32, 111, 102, 32] : List UInt8)) ++ y1301⟩, ⟨51, (List UInt8), cStr, y1301⟩, ⟨50, (List Int), (cSlice (cInt .u64)), [(x0.Conds.getD (s322 : Int).toNat zS_api_Cond).Amount]⟩, ⟨49, Int, (cInt .u64), (x0.Conds.getD (s322 : Int).toNat zS_api_Cond).Amount⟩, ⟨48, Int, cRef (cInt .u64), (x0.Conds.getD (s322 : Int).toNat zS_api_Cond).Amount⟩, ⟨47, (List UInt8), cStr, (((([112, 97, 121, 109, 101, 110, 116, 32] : List UInt8) ++ y1262) ++ ([32, 98, 121, 32] : List UInt8)) ++ y1280) ++ ([32, 111, 102, 32] : List UInt8)⟩, ⟨46, (List UInt8), cStr, ((([112, 97, 121, 109, 101, 110, 116, 32] : List UInt8) ++ y1262) ++ ([32, 98, 121, 32] : List UInt8)) ++ y1280⟩, ⟨45, (List UInt8), cStr, y1280⟩, ⟨44, Int, (cInt .i64), (x0.Conds.getD (s322 : Int).toNat zS_api_Cond).By⟩, ⟨43, Int, cRef (cInt .i64), (x0.Conds.getD (s322 : Int).toNat zS_api_Cond).By⟩, ⟨42, (List UInt8), cStr, (([112, 97, 121, 109, 101, 110, 116, 32] : List UInt8) ++ y1262) ++ ([32, 98, 121, 32] : List UInt8)⟩, ⟨41, (List UInt8), cStr, ([112, 97, 121, 109, 101, 110, 116, 32] : List UInt8) ++ y1262⟩, ⟨40, (List UInt8), cStr, y1262⟩, ⟨39, (List Int), (cSlice (cInt .u64)), [(x0.Conds.getD (s322 : Int).toNat zS_api_Cond).Id]⟩, ⟨38, Int, (cInt .u64), (x0.Conds.getD (s322 : Int).toNat zS_api_Cond).Id⟩, ⟨37, Int, cRef (cInt .u64), (x0.Conds.getD (s322 : Int).toNat zS_api_Cond).Id⟩, ⟨36, Value, cRaw, v326⟩, ⟨5, S_api_Cond, cRef cS_api_Cond, x0.Conds.getD (s322 : Int).toNat zS_api_Cond⟩, ⟨35, S_api_Cond, cS_api_Cond, x0.Conds.getD (s322 : Int).toNat zS_api_Cond⟩, ⟨34, S_api_Cond, cRef cS_api_Cond, x0.Conds.getD (s322 : Int).toNat zS_api_Cond⟩, ⟨33, Bool, cBool, decide (s322 < (x0.Conds.length : Int))⟩, ⟨32, Int, (cInt .i64), s322⟩, ⟨31, Int, (cInt .i64), (x0.Conds.length : Int)⟩, ⟨30, (List S_api_Cond), (cSlice cS_api_Cond), x0.Conds⟩, ⟨3, Value, cRaw, v326⟩] := S1655
          clear S1655 S1252
          obtain ⟨g1658, hr1659⟩ := guard_some hr1347
          clear hr1347
          refine op_append S1656 rfl 0 rfl (S1656.raw 28 rfl) (S1656.at 0 rfl) cStr_flat Tryd.underlying34 info9 rfl rfl rfl g1658 (fun v1660 a1661 w1662 S1663 => ?_)
          clear S1656 a1653 w1654
          have S1664 := S1663.erase 37
          clear S1663
          refine op_assign S1664 rfl (S1664.at 0 rfl) (fun a1665 S1666 => ?_)
          clear S1664 a1661
          refine wpList_nil ?_
          refine hK1238 _ _ ?_
          clear hK1238 K1238
          refine wp_region_lit ?_
          refine op_add S1666 rfl (S1666.int 35 rfl) rfl (fun a1667 S1668 => ?_)
          clear S1666 a1665
          have S1669 := S1668.erase 36
          clear S1668
          refine op_move S1669 rfl (S1669.at 0 rfl) (fun a1670 S1671 => ?_)
          clear S1669 a1667
          refine wpList_nil ?_
          have S1672 := S1671.pick [0, 37, 38, 2]
          clear S1671
          cases hr1659
          exact ⟨rfl, v1660, S1672⟩
      · clear hr1230
        refine c_false (S1233.bool 0 rfl) b1235 ?_
        refine wp_exit ?_
        have S1673 := S1233.pick [4]
        clear S1233
        cases hr1237
        intro h1674
        refine ⟨(by intro h; cases h), ?_⟩
        exact X1219 s325 v326 _ _ S1673 (by subst h1674; exact h1211)
    · exact ⟨v305, S1676⟩
/-- tollhouse/tollhouselaw31.same -/
noncomputable def tollhouselaw31_same (x0 : (List (List UInt8))) (x1 : (List (List UInt8))) : Option Bool :=
  (if !decide ((x0.length : Int) = (x1.length : Int)) then some false else ((loopM (fun (s31 : Int) => ((if decide (s31 < (x0.length : Int)) then (if (0 : Int) ≤ s31 ∧ s31 < (x0.length : Int) then (if (0 : Int) ≤ s31 ∧ s31 < (x1.length : Int) then (if !decide ((x0.getD (s31 : Int).toNat []) = (x1.getD (s31 : Int).toNat [])) then some (.inr (.inl false)) else some (.inl (IntKind.wrap .i64 (s31 + 1)))) else none) else none) else some (.inr (.inr ()))) : Option ((Int) ⊕ ((Bool) ⊕ (Unit))))) 0).bind fun | (.inl z) => some z | (.inr _) => some true))
set_option maxRecDepth 100000 in
set_option maxHeartbeats 8000000 in
theorem tollhouselaw31_same_ok {D : Dirty} {w : World} {v0 : Value} {v1 : Value} {x0 : (List (List UInt8))} {x1 : (List (List UInt8))} {r : Bool} (h0 : (cSlice cStr).val D w v0 x0) (h1 : (cSlice cStr).val D w v1 x1) (hD : ∀ k, D k → k < w.heap.size) (hr : tollhouselaw31_same x0 x1 = some r) :
    Calls Tryd.prog 10 [v0, v1].toArray w (Ret cBool D w r) := by
  refine calls_start (n := 26) Tryd.func10 rfl rfl ?_
  have S := St.start (w := w) (args := [v0, v1].toArray) 26 rfl hD
  replace S := S.arg 0 rfl (val_dirt0 h0)
  replace S := S.arg 1 rfl (val_dirt0 h1)
  unfold tollhouselaw31_same at hr
  refine wp_seq_k (fun K1 hK1 => ?_)
  refine wp_region_lit ?_
  refine op_assign S rfl (cPlain_mk (f := Value.bool) false) (fun a2 S3 => ?_)
  clear S
  refine wpList_nil ?_
  refine hK1 _ _ ?_
  clear hK1 K1
  refine wp_seq_k (fun K4 hK4 => ?_)
  refine wp_seq_k (fun K5 hK5 => ?_)
  refine wp_region_lit ?_
  refine op_move S3 rfl (S3.at 2 rfl) (fun a6 S7 => ?_)
  clear S3 a2
  refine op_len S7 rfl (S7.at 0 rfl) Tryd.underlying34 (fun a8 S9 => ?_)
  clear S7 a6
  refine op_move S9 rfl (S9.at 3 rfl) (fun a10 S11 => ?_)
  clear S9 a8
  refine op_len S11 rfl (S11.at 0 rfl) Tryd.underlying34 (fun a12 S13 => ?_)
  clear S11 a10
  refine op_neq S13 rfl (S13.int 2 rfl) (S13.int 0 rfl) (fun a14 S15 => ?_)
  clear S13 a12
  refine wpList_nil ?_
  refine hK5 _ _ ?_
  clear hK5 K5
  rcases cond_some hr with ⟨b16, hr17⟩ | ⟨b16, hr18⟩
  · clear hr
    refine c_true (S15.bool 0 rfl) b16 ?_
    refine wp_seq_k (fun K19 hK19 => ?_)
    refine wp_region_lit ?_
    have S20 := S15.erase 5
    clear S15
    refine op_assign S20 rfl (cPlain_mk (f := Value.bool) false) (fun a21 S22 => ?_)
    clear S20 a14
    refine wpList_nil ?_
    refine hK19 _ _ ?_
    clear hK19 K19
    refine wp_ret ?_
    cases hr17
    exact ret1 S22 rfl 0 rfl
  · clear hr
    refine c_false (S15.bool 0 rfl) b16 ?_
    refine wp_skip ?_
    refine hK4 _ _ ?_
    clear hK4 K4
    refine wp_seq_k (fun K23 hK23 => ?_)
    refine wp_seq_k (fun K24 hK24 => ?_)
    refine wp_region_lit ?_
    refine op_move S15 rfl (S15.at 7 rfl) (fun a25 S26 => ?_)
    clear S15 a14
    refine op_len S26 rfl (S26.at 0 rfl) Tryd.underlying34 (fun a27 S28 => ?_)
    clear S26 a25
    refine op_move S28 rfl (cPlain_mk (f := Value.int .i64) 0) (fun a29 S30 => ?_)
    clear S28 a27
    refine wpList_nil ?_
    refine hK24 _ _ ?_
    clear hK24 K24
    refine wp_block ?_
    refine wp_q (fun Q299 hQ299 => ?_)
    have X307 : ∀ (a304 : Act) (w305 : World), St 26 (fun _ => False) D w a304 w305 [] [] → (some true : Option (Bool)) = some r → Q299 (.exit 0) a304 w305 := by
      intro a304 w305 S303 hr306
      refine hQ299 _ _ _ ?_
      clear hQ299
      refine hK23 _ _ ?_
      clear hK23 K23
      refine wp_seq_k (fun K308 hK308 => ?_)
      refine wp_region_lit ?_
      refine op_assign S303 rfl (cPlain_mk (f := Value.bool) true) (fun a309 S310 => ?_)
      clear S303 a304
      refine wpList_nil ?_
      refine hK308 _ _ ?_
      clear hK308 K308
      refine wp_ret ?_
      cases hr306
      exact ret1 S310 rfl 0 rfl
    obtain ⟨t300, hr302, h301⟩ := bind_some hr18
    clear hr18
    have S454 := S30.pick [0, 1, 9, 10]
    clear S30
    refine wp_loopM (fun (s31 : Int) a313 w314 => St 26 (fun _ => False) D w a313 w314 [] [⟨13, Int, (cInt .i64), s31⟩, ⟨12, Int, (cInt .i64), (x0.length : Int)⟩, ⟨1, (List (List UInt8)), (cSlice cStr), x1⟩, ⟨0, (List (List UInt8)), (cSlice cStr), x0⟩]) ?_ 0 ?_ hr302
    · intro s453 a313 w314 x311 S455 hr315
      obtain ⟨s31, rfl⟩ : ∃ z, z = s453 := ⟨_, rfl⟩
      have S312 : St 26 (fun _ => False) D w a313 w314 [] [⟨13, Int, (cInt .i64), s31⟩, ⟨12, Int, (cInt .i64), (x0.length : Int)⟩, ⟨1, (List (List UInt8)), (cSlice cStr), x1⟩, ⟨0, (List (List UInt8)), (cSlice cStr), x0⟩] := S455
      clear S455
      refine wp_seq_k (fun K316 hK316 => ?_)
      refine wp_region_lit ?_
      refine op_lss S312 rfl (S312.int 0 rfl) (S312.int 1 rfl) (fun a317 S318 => ?_)
      clear S312 a313
      refine wpList_nil ?_
      refine hK316 _ _ ?_
      clear hK316 K316
      refine wp_seq_k (fun K319 hK319 => ?_)
      rcases cond_some hr315 with ⟨b320, hr321⟩ | ⟨b320, hr322⟩
      · clear hr315
        refine c_true (S318.bool 0 rfl) b320 ?_
        refine wp_skip ?_
        refine hK319 _ _ ?_
        clear hK319 K319
        refine wp_seq_k (fun K323 hK323 => ?_)
        refine wp_block ?_
        refine wp_seq_k (fun K324 hK324 => ?_)
        refine wp_region_lit ?_
        refine op_move S318 rfl (S318.at 1 rfl) (fun a325 S326 => ?_)
        clear S318 a317
        refine op_assign S326 rfl (S326.at 0 rfl) (fun a327 S328 => ?_)
        clear S326 a325
        refine wpList_nil ?_
        refine hK324 _ _ ?_
        clear hK324 K324
        refine wp_seq_k (fun K329 hK329 => ?_)
        obtain ⟨g334, hr335⟩ := guard_some hr321
        clear hr321
        obtain ⟨g344, hr345⟩ := guard_some hr335
        clear hr335
        refine wp_drawn follows_mixed [[], [], [0, 1], [0, 1, 2], [], [], [4, 5], [4, 5, 6], [0, 1, 2, 3, 4, 5, 6, 7]] [none, none, none, none, none, none, none, none] 8 rfl rfl 0 rfl (fun i p => List.getD [[⟨16, (List (List UInt8)), (cSlice cStr), x0⟩], [⟨17, Int, (cInt .i64), s31⟩], [⟨18, (List UInt8), cRef cStr, x0.getD (s31 : Int).toNat []⟩], [⟨19, (List UInt8), cStr, x0.getD (s31 : Int).toNat []⟩], [⟨20, (List (List UInt8)), (cSlice cStr), x1⟩], [⟨21, Int, (cInt .i64), s31⟩], [⟨22, (List UInt8), cRef cStr, x1.getD (s31 : Int).toNat []⟩], [⟨23, (List UInt8), cStr, x1.getD (s31 : Int).toNat []⟩]] i []) (fun _ _ _ => []) (fun _ => (0, undef)) S328 rfl (fun _ => rfl) (Obs.cons ?_ (Obs.cons ?_ (Obs.cons ?_ (Obs.cons ?_ (Obs.cons ?_ (Obs.cons ?_ (Obs.cons ?_ (Obs.cons ?_ Obs.nil)))))))) ?_
        · intro f357 X350 Y351 a353 w354 hX352 S355
          have S356 : St 26 (fun _ => False) D w a353 w354 ([] ++ Y351) ([⟨5, Int, (cInt .i64), s31⟩, ⟨15, Int, (cInt .i64), s31⟩, ⟨14, Bool, cBool, decide (s31 < (x0.length : Int))⟩, ⟨13, Int, (cInt .i64), s31⟩, ⟨12, Int, (cInt .i64), (x0.length : Int)⟩, ⟨1, (List (List UInt8)), (cSlice cStr), x1⟩, ⟨0, (List (List UInt8)), (cSlice cStr), x0⟩] ++ X350) := S355
          clear S355
          refine op_move S356 (okX rfl (hX352 _ rfl)) (S356.at 6 rfl) (fun a358 S359 => ?_)
          clear S356 a353
          exact wpList_nil ⟨rfl, (0, undef), S359⟩
        · intro f367 X360 Y361 a363 w364 hX362 S365
          have S366 : St 26 (fun _ => False) D w a363 w364 ([] ++ Y361) ([⟨5, Int, (cInt .i64), s31⟩, ⟨15, Int, (cInt .i64), s31⟩, ⟨14, Bool, cBool, decide (s31 < (x0.length : Int))⟩, ⟨13, Int, (cInt .i64), s31⟩, ⟨12, Int, (cInt .i64), (x0.length : Int)⟩, ⟨1, (List (List UInt8)), (cSlice cStr), x1⟩, ⟨0, (List (List UInt8)), (cSlice cStr), x0⟩] ++ X360) := S365
          clear S365
          refine op_move S366 (okX rfl (hX362 _ rfl)) (S366.at 0 rfl) (fun a368 S369 => ?_)
          clear S366 a363
          exact wpList_nil ⟨rfl, (0, undef), S369⟩
        · intro f377 X370 Y371 a373 w374 hX372 S375
          have S376 : St 26 (fun _ => False) D w a373 w374 ([] ++ Y371) ([⟨16, (List (List UInt8)), (cSlice cStr), x0⟩, ⟨17, Int, (cInt .i64), s31⟩, ⟨5, Int, (cInt .i64), s31⟩, ⟨15, Int, (cInt .i64), s31⟩, ⟨14, Bool, cBool, decide (s31 < (x0.length : Int))⟩, ⟨13, Int, (cInt .i64), s31⟩, ⟨12, Int, (cInt .i64), (x0.length : Int)⟩, ⟨1, (List (List UInt8)), (cSlice cStr), x1⟩, ⟨0, (List (List UInt8)), (cSlice cStr), x0⟩] ++ X370) := S375
          clear S375
          refine op_indexAddr (z0 := []) S376 (okX rfl (hX372 _ rfl)) (S376.at 0 rfl) (S376.int 1 rfl) g334 Tryd.underlying34 Tryd.sizeOf9 (fun a378 S379 => ?_)
          clear S376 a373
          exact wpList_nil ⟨rfl, (0, undef), S379⟩
        · intro f387 X380 Y381 a383 w384 hX382 S385
          have S386 : St 26 (fun _ => False) D w a383 w384 ([] ++ Y381) ([⟨16, (List (List UInt8)), (cSlice cStr), x0⟩, ⟨17, Int, (cInt .i64), s31⟩, ⟨18, (List UInt8), cRef cStr, x0.getD (s31 : Int).toNat []⟩, ⟨5, Int, (cInt .i64), s31⟩, ⟨15, Int, (cInt .i64), s31⟩, ⟨14, Bool, cBool, decide (s31 < (x0.length : Int))⟩, ⟨13, Int, (cInt .i64), s31⟩, ⟨12, Int, (cInt .i64), (x0.length : Int)⟩, ⟨1, (List (List UInt8)), (cSlice cStr), x1⟩, ⟨0, (List (List UInt8)), (cSlice cStr), x0⟩] ++ X380) := S385
          clear S385
          refine op_loadr S386 (okX rfl (hX382 _ rfl)) (S386.at 2 rfl) Tryd.isAgg9 Tryd.sizeOf9 (fun a388 S389 => ?_)
          clear S386 a383
          exact wpList_nil ⟨rfl, (0, undef), S389⟩
        · intro f397 X390 Y391 a393 w394 hX392 S395
          have S396 : St 26 (fun _ => False) D w a393 w394 ([] ++ Y391) ([⟨5, Int, (cInt .i64), s31⟩, ⟨15, Int, (cInt .i64), s31⟩, ⟨14, Bool, cBool, decide (s31 < (x0.length : Int))⟩, ⟨13, Int, (cInt .i64), s31⟩, ⟨12, Int, (cInt .i64), (x0.length : Int)⟩, ⟨1, (List (List UInt8)), (cSlice cStr), x1⟩, ⟨0, (List (List UInt8)), (cSlice cStr), x0⟩] ++ X390) := S395
          clear S395
          refine op_move S396 (okX rfl (hX392 _ rfl)) (S396.at 5 rfl) (fun a398 S399 => ?_)
          clear S396 a393
          exact wpList_nil ⟨rfl, (0, undef), S399⟩
        · intro f407 X400 Y401 a403 w404 hX402 S405
          have S406 : St 26 (fun _ => False) D w a403 w404 ([] ++ Y401) ([⟨5, Int, (cInt .i64), s31⟩, ⟨15, Int, (cInt .i64), s31⟩, ⟨14, Bool, cBool, decide (s31 < (x0.length : Int))⟩, ⟨13, Int, (cInt .i64), s31⟩, ⟨12, Int, (cInt .i64), (x0.length : Int)⟩, ⟨1, (List (List UInt8)), (cSlice cStr), x1⟩, ⟨0, (List (List UInt8)), (cSlice cStr), x0⟩] ++ X400) := S405
          clear S405
          refine op_move S406 (okX rfl (hX402 _ rfl)) (S406.at 0 rfl) (fun a408 S409 => ?_)
          clear S406 a403
          exact wpList_nil ⟨rfl, (0, undef), S409⟩
        · intro f417 X410 Y411 a413 w414 hX412 S415
          have S416 : St 26 (fun _ => False) D w a413 w414 ([] ++ Y411) ([⟨20, (List (List UInt8)), (cSlice cStr), x1⟩, ⟨21, Int, (cInt .i64), s31⟩, ⟨5, Int, (cInt .i64), s31⟩, ⟨15, Int, (cInt .i64), s31⟩, ⟨14, Bool, cBool, decide (s31 < (x0.length : Int))⟩, ⟨13, Int, (cInt .i64), s31⟩, ⟨12, Int, (cInt .i64), (x0.length : Int)⟩, ⟨1, (List (List UInt8)), (cSlice cStr), x1⟩, ⟨0, (List (List UInt8)), (cSlice cStr), x0⟩] ++ X410) := S415
          clear S415
          refine op_indexAddr (z0 := []) S416 (okX rfl (hX412 _ rfl)) (S416.at 0 rfl) (S416.int 1 rfl) g344 Tryd.underlying34 Tryd.sizeOf9 (fun a418 S419 => ?_)
          clear S416 a413
          exact wpList_nil ⟨rfl, (0, undef), S419⟩
        · intro f427 X420 Y421 a423 w424 hX422 S425
          have S426 : St 26 (fun _ => False) D w a423 w424 ([] ++ Y421) ([⟨20, (List (List UInt8)), (cSlice cStr), x1⟩, ⟨21, Int, (cInt .i64), s31⟩, ⟨22, (List UInt8), cRef cStr, x1.getD (s31 : Int).toNat []⟩, ⟨5, Int, (cInt .i64), s31⟩, ⟨15, Int, (cInt .i64), s31⟩, ⟨14, Bool, cBool, decide (s31 < (x0.length : Int))⟩, ⟨13, Int, (cInt .i64), s31⟩, ⟨12, Int, (cInt .i64), (x0.length : Int)⟩, ⟨1, (List (List UInt8)), (cSlice cStr), x1⟩, ⟨0, (List (List UInt8)), (cSlice cStr), x0⟩] ++ X420) := S425
          clear S425
          refine op_loadr S426 (okX rfl (hX422 _ rfl)) (S426.at 2 rfl) Tryd.isAgg9 Tryd.sizeOf9 (fun a428 S429 => ?_)
          clear S426 a423
          exact wpList_nil ⟨rfl, (0, undef), S429⟩
        · intro f434 a430 w431 _ S432
          have S433 : St 26 (fun _ => False) D w a430 w431 [] [⟨23, (List UInt8), cStr, x1.getD (s31 : Int).toNat []⟩, ⟨22, (List UInt8), cRef cStr, x1.getD (s31 : Int).toNat []⟩, ⟨21, Int, (cInt .i64), s31⟩, ⟨20, (List (List UInt8)), (cSlice cStr), x1⟩, ⟨19, (List UInt8), cStr, x0.getD (s31 : Int).toNat []⟩, ⟨18, (List UInt8), cRef cStr, x0.getD (s31 : Int).toNat []⟩, ⟨17, Int, (cInt .i64), s31⟩, ⟨16, (List (List UInt8)), (cSlice cStr), x0⟩, ⟨5, Int, (cInt .i64), s31⟩, ⟨15, Int, (cInt .i64), s31⟩, ⟨14, Bool, cBool, decide (s31 < (x0.length : Int))⟩, ⟨13, Int, (cInt .i64), s31⟩, ⟨12, Int, (cInt .i64), (x0.length : Int)⟩, ⟨1, (List (List UInt8)), (cSlice cStr), x1⟩, ⟨0, (List (List UInt8)), (cSlice cStr), x0⟩] := S432
          clear S432 S328
          refine op_sne S433 rfl (S433.str 4 rfl) (S433.str 0 rfl) (fun a435 S436 => ?_)
          clear S433 a430
          refine wpList_nil ?_
          refine hK329 _ _ ?_
          clear hK329 K329
          rcases cond_some hr345 with ⟨b437, hr438⟩ | ⟨b437, hr439⟩
          · clear hr345
            refine c_true (S436.bool 0 rfl) b437 ?_
            refine wp_seq_k (fun K440 hK440 => ?_)
            refine wp_region_lit ?_
            refine op_assign S436 rfl (cPlain_mk (f := Value.bool) false) (fun a441 S442 => ?_)
            clear S436 a435
            refine wpList_nil ?_
            refine hK440 _ _ ?_
            clear hK440 K440
            refine wp_ret ?_
            cases hr438
            intro h443
            refine ⟨(by intro h; cases h), ?_⟩
            refine hQ299 _ _ _ ?_
            have hr444 : (some false : Option (Bool)) = some r := by subst h443; exact h301
            cases hr444
            exact ret1 S442 rfl 0 rfl
          · clear hr345
            refine c_false (S436.bool 0 rfl) b437 ?_
            refine wp_skip ?_
            refine hK323 _ _ ?_
            clear hK323 K323
            refine wp_region_lit ?_
            refine op_add S436 rfl (S436.int 12 rfl) rfl (fun a445 S446 => ?_)
            clear S436 a435
            have S447 := S446.erase 13
            clear S446
            refine op_move S447 rfl (S447.at 0 rfl) (fun a448 S449 => ?_)
            clear S447 a445
            refine wpList_nil ?_
            have S450 := S449.pick [0, 14, 15, 16]
            clear S449
            cases hr439
            exact ⟨rfl, S450⟩
      · clear hr315
        refine c_false (S318.bool 0 rfl) b320 ?_
        refine wp_exit ?_
        have S451 := S318.pick []
        clear S318
        cases hr322
        intro h452
        refine ⟨(by intro h; cases h), ?_⟩
        exact X307  _ _ S451 (by subst h452; exact h301)
    · exact S454
/-- tollhouse/pact.New -/
noncomputable def pact_New (x0 : Int) : Option S_api_State :=
  some ({ zS_api_State with Channel := x0 } : S_api_State)
set_option maxRecDepth 100000 in
set_option maxHeartbeats 8000000 in
theorem pact_New_ok {D : Dirty} {w : World} {v0 : Value} {x0 : Int} {r : S_api_State} (h0 : (cInt .u32).val D w v0 x0) (hD : ∀ k, D k → k < w.heap.size) (hr : pact_New x0 = some r) :
    Calls Tryd.prog 38 [v0].toArray w (Ret cS_api_State D w r) := by
  refine calls_start (n := 5) Tryd.func38 rfl rfl ?_
  have S := St.start (w := w) (args := [v0].toArray) 5 rfl hD
  replace S := S.arg 0 rfl (val_dirt0 h0)
  unfold pact_New at hr
  refine wp_seq_k (fun K1 hK1 => ?_)
  refine wp_region_lit ?_
  refine op_alloc S rfl Tryd.zeroValue38 zS_api_State_ok (fun b2 a3 w4 S5 => ?_)
  clear S
  refine wpList_nil ?_
  refine hK1 _ _ ?_
  clear hK1 K1
  refine wp_seq_k (fun K6 hK6 => ?_)
  refine wp_region_lit ?_
  refine op_move S5 rfl (S5.at 1 rfl) (fun a7 S8 => ?_)
  clear S5 a3
  refine op_build (y := ({ zS_api_State with Channel := x0 } : S_api_State)) S8 rfl rfl Tryd.underlying38 Tryd.zeroValue38 zS_api_State_ok places38 (.cons (S8.at 0 rfl) (cInt_flat _) LS_api_State_Channel rfl .nil) (fun a9 S10 => ?_)
  clear S8 a7
  refine op_store S10 0 rfl (S10.raw 2 rfl) (S10.at 0 rfl) (Lens.id _) cS_api_State_flat Tryd.sizeOf38 (fun w11 S12 => ?_)
  clear S10 w4
  refine wpList_nil ?_
  refine hK6 _ _ ?_
  clear hK6 K6
  refine wp_ret ?_
  cases hr
  exact retc S12 rfl (cellv S12 2 0 rfl rfl Tryd.isAgg38 Tryd.sizeOf38)  
/-- tollhouse/tollhouselaw31.awake -/
noncomputable def tollhouselaw31_awake : Option Bool :=
  ((pact_New 3).bind fun y5 => ((report_State y5).bind fun y11 => ((tollhouselaw31_same y11 [([99, 104, 97, 110, 110, 101, 108, 32, 51, 32, 114, 111, 117, 110, 100, 32, 48, 32, 109, 111, 118, 101, 100, 32, 48, 32, 48, 32, 116, 97, 107, 101, 110, 32, 48, 32, 48] : List UInt8)]).bind fun y20 => some y20)))
set_option maxRecDepth 100000 in
set_option maxHeartbeats 8000000 in
theorem tollhouselaw31_awake_ok {D : Dirty} {w : World} {r : Bool} (hD : ∀ k, D k → k < w.heap.size) (hT2 : tabAt D w 2 tab2_cells) (hr : tollhouselaw31_awake = some r) :
    Calls Tryd.prog 7 [].toArray w (Ret cBool D w r) := by
  refine calls_start (n := 5) Tryd.func7 rfl rfl ?_
  have S := St.start (w := w) (args := [].toArray) 5 rfl hD
  unfold tollhouselaw31_awake at hr
  refine wp_seq_k (fun K1 hK1 => ?_)
  refine wp_region_lit ?_
  refine op_assign S rfl (cPlain_mk (f := Value.bool) false) (fun a2 S3 => ?_)
  clear S
  refine wpList_nil ?_
  refine hK1 _ _ ?_
  clear hK1 K1
  refine wp_seq_k (fun K4 hK4 => ?_)
  refine wp_region_lit ?_
  obtain ⟨y5, h6, hr7⟩ := bind_some hr
  clear hr
  refine op_call S3 rfl Tryd.call38 (pact_New_ok (cPlain_mk (f := Value.int .u32) 3) S3.dirty_lt h6) (fun a8 w10 S9 => ?_)
  clear S3 a2
  obtain ⟨y11, h12, hr13⟩ := bind_some hr7
  clear hr7
  refine op_call S9 rfl Tryd.call8 (report_State_ok (S9.at 0 rfl) S9.dirty_lt (S9.tab hT2) h12) (fun a14 w16 S15 => ?_)
  clear S9 a8 w10
  refine op_lit S15 rfl cStr_flat Tryd.underlying34 Tryd.sizeOf9 Tryd.zeroValue9 rfl rfl rfl (.cons (cPlain_mk (f := strV) ([99, 104, 97, 110, 110, 101, 108, 32, 51, 32, 114, 111, 117, 110, 100, 32, 48, 32, 109, 111, 118, 101, 100, 32, 48, 32, 48, 32, 116, 97, 107, 101, 110, 32, 48, 32, 48] : List UInt8)) (.nil _)) (fun a17 w19 S18 => ?_)
  clear S15 a14 w16
  obtain ⟨y20, h21, hr22⟩ := bind_some hr13
  clear hr13
  refine op_call S18 rfl Tryd.call10 (tollhouselaw31_same_ok (S18.at 1 rfl) (S18.at 0 rfl) S18.dirty_lt h21) (fun a23 w25 S24 => ?_)
  clear S18 a17 w19
  have S26 := S24.erase 4
  clear S24
  refine op_assign S26 rfl (S26.at 0 rfl) (fun a27 S28 => ?_)
  clear S26 a23
  refine wpList_nil ?_
  refine hK4 _ _ ?_
  clear hK4 K4
  refine wp_ret ?_
  cases hr22
  exact ret1 S28 rfl 0 rfl
/-- tollhouse/tollhouselaw10.To -/
noncomputable def tollhouselaw10_To (x0 : S_tollhouseref10_Cond) : Option S_api_Cond :=
  some ({ Id := x0.Id, By := x0.By, Amount := x0.Amount, Hash := x0.Hash, Expiry := x0.Expiry } : S_api_Cond)
set_option maxRecDepth 100000 in
set_option maxHeartbeats 8000000 in
theorem tollhouselaw10_To_ok {D : Dirty} {w : World} {v0 : Value} {x0 : S_tollhouseref10_Cond} {r : S_api_Cond} (h0 : cS_tollhouseref10_Cond.val D w v0 x0) (hD : ∀ k, D k → k < w.heap.size) (hr : tollhouselaw10_To x0 = some r) :
    Calls Tryd.prog 42 [v0].toArray w (Ret cS_api_Cond D w r) := by
  refine calls_start (n := 14) Tryd.func42 rfl rfl ?_
  have S := St.start (w := w) (args := [v0].toArray) 14 rfl hD
  replace S := S.arg 0 rfl (val_dirt0 h0)
  unfold tollhouselaw10_To at hr
  refine wp_seq_k (fun K1 hK1 => ?_)
  refine wp_region_lit ?_
  refine op_boxr S rfl (S.at 0 rfl) cS_tollhouseref10_Cond_flat (fun a2 w4 S3 => ?_)
  clear S
  refine op_alloc S3 rfl Tryd.zeroValue46 zS_api_Cond_ok (fun b5 a6 w7 S8 => ?_)
  clear S3 a2 w4
  refine wpList_nil ?_
  refine hK1 _ _ ?_
  clear hK1 K1
  refine wp_seq_k (fun K9 hK9 => ?_)
  refine wp_region_lit ?_
  refine op_fieldAddrr S8 rfl (S8.at 1 rfl) Tryd.underlying30 rfl Tryd.sizeOf23 rfl LS_tollhouseref10_Cond_Id rfl (fun a10 S11 => ?_)
  clear S8 a6
  refine op_loadr S11 rfl (S11.at 0 rfl) Tryd.isAgg23 Tryd.sizeOf23 (fun a12 S13 => ?_)
  clear S11 a10
  refine op_fieldAddrr S13 rfl (S13.at 3 rfl) Tryd.underlying30 rfl Tryd.sizeOf3 rfl LS_tollhouseref10_Cond_By rfl (fun a14 S15 => ?_)
  clear S13 a12
  refine op_loadr S15 rfl (S15.at 0 rfl) Tryd.isAgg3 Tryd.sizeOf3 (fun a16 S17 => ?_)
  clear S15 a14
  refine op_fieldAddrr S17 rfl (S17.at 5 rfl) Tryd.underlying30 rfl Tryd.sizeOf23 rfl LS_tollhouseref10_Cond_Amount rfl (fun a18 S19 => ?_)
  clear S17 a16
  refine op_loadr S19 rfl (S19.at 0 rfl) Tryd.isAgg23 Tryd.sizeOf23 (fun a20 S21 => ?_)
  clear S19 a18
  refine op_fieldAddrr S21 rfl (S21.at 7 rfl) Tryd.underlying30 rfl Tryd.sizeOf28 rfl LS_tollhouseref10_Cond_Hash rfl (fun a22 S23 => ?_)
  clear S21 a20
  refine op_loadr S23 rfl (S23.at 0 rfl) Tryd.isAgg28 Tryd.sizeOf28 (fun a24 S25 => ?_)
  clear S23 a22
  refine op_fieldAddrr S25 rfl (S25.at 9 rfl) Tryd.underlying30 rfl Tryd.sizeOf23 rfl LS_tollhouseref10_Cond_Expiry rfl (fun a26 S27 => ?_)
  clear S25 a24
  refine op_loadr S27 rfl (S27.at 0 rfl) Tryd.isAgg23 Tryd.sizeOf23 (fun a28 S29 => ?_)
  clear S27 a26
  refine op_build (y := ({ Id := x0.Id, By := x0.By, Amount := x0.Amount, Hash := x0.Hash, Expiry := x0.Expiry } : S_api_Cond)) S29 rfl rfl Tryd.underlying46 Tryd.zeroValue46 zS_api_Cond_ok places46 (.cons (S29.at 8 rfl) (cInt_flat _) LS_api_Cond_Id rfl (.cons (S29.at 6 rfl) (cInt_flat _) LS_api_Cond_By rfl (.cons (S29.at 4 rfl) (cInt_flat _) LS_api_Cond_Amount rfl (.cons (S29.at 2 rfl) (cArr_flat (cInt_flat _)) LS_api_Cond_Hash rfl (.cons (S29.at 0 rfl) (cInt_flat _) LS_api_Cond_Expiry rfl .nil))))) (fun a30 S31 => ?_)
  clear S29 a28
  refine op_store S31 0 rfl (S31.raw 11 rfl) (S31.at 0 rfl) (Lens.id _) cS_api_Cond_flat Tryd.sizeOf46 (fun w32 S33 => ?_)
  clear S31 w7
  refine wpList_nil ?_
  refine hK9 _ _ ?_
  clear hK9 K9
  refine wp_ret ?_
  cases hr
  exact retc S33 rfl (cellv S33 11 0 rfl rfl Tryd.isAgg46 Tryd.sizeOf46)  
/-- tollhouse/tollhouselaw12.To -/
noncomputable def tollhouselaw12_To (x0 : S_tollhouseref12_State) : Option S_api_State :=
  ((loopM (fun (s408 : Int × (List S_api_Cond)) => match s408 with | (s46, s49) => ((if decide (s46 < (x0.Conds.length : Int)) then (if (0 : Int) ≤ s46 ∧ s46 < (x0.Conds.length : Int) then ((tollhouselaw10_To (x0.Conds.getD (s46 : Int).toNat zS_tollhouseref10_Cond)).bind fun y323 => (if (s49.length + [y323].length) * 64 ≤ 140737488355328 then some (.inl (IntKind.wrap .i64 (s46 + 1), s49 ++ [y323])) else none)) else none) else some (.inr s49)) : Option ((Int × (List S_api_Cond)) ⊕ ((List S_api_Cond))))) (0, ([] : (List S_api_Cond)))).bind fun s277 => some ({ ({ zS_api_State with Channel := x0.Channel, Round := x0.Round, Moved := x0.Moved, Taken := x0.Taken } : S_api_State) with Conds := s277 }))
set_option maxRecDepth 100000 in
set_option maxHeartbeats 8000000 in
theorem tollhouselaw12_To_ok {D : Dirty} {w : World} {v0 : Value} {x0 : S_tollhouseref12_State} {r : S_api_State} (h0 : cS_tollhouseref12_State.val D w v0 x0) (hD : ∀ k, D k → k < w.heap.size) (hr : tollhouselaw12_To x0 = some r) :
    Calls Tryd.prog 9 [v0].toArray w (Ret cS_api_State D w r) := by
  refine calls_start (n := 31) Tryd.func9 rfl rfl ?_
  have S := St.start (w := w) (args := [v0].toArray) 31 rfl hD
  replace S := S.arg 0 rfl (val_dirt0 h0)
  unfold tollhouselaw12_To at hr
  refine wp_seq_k (fun K1 hK1 => ?_)
  refine wp_region_lit ?_
  refine op_boxr S rfl (S.at 0 rfl) cS_tollhouseref12_State_flat (fun a2 w4 S3 => ?_)
  clear S
  refine op_alloc S3 rfl Tryd.zeroValue38 zS_api_State_ok (fun b5 a6 w7 S8 => ?_)
  clear S3 a2 w4
  refine wpList_nil ?_
  refine hK1 _ _ ?_
  clear hK1 K1
  refine wp_seq_k (fun K9 hK9 => ?_)
  refine wp_region_lit ?_
  refine op_fieldAddrr S8 rfl (S8.at 1 rfl) Tryd.underlying27 rfl Tryd.sizeOf22 rfl LS_tollhouseref12_State_Channel rfl (fun a10 S11 => ?_)
  clear S8 a6
  refine op_loadr S11 rfl (S11.at 0 rfl) Tryd.isAgg22 Tryd.sizeOf22 (fun a12 S13 => ?_)
  clear S11 a10
  refine op_fieldAddrr S13 rfl (S13.at 3 rfl) Tryd.underlying27 rfl Tryd.sizeOf23 rfl LS_tollhouseref12_State_Round rfl (fun a14 S15 => ?_)
  clear S13 a12
  refine op_loadr S15 rfl (S15.at 0 rfl) Tryd.isAgg23 Tryd.sizeOf23 (fun a16 S17 => ?_)
  clear S15 a14
  refine op_fieldAddrr S17 rfl (S17.at 5 rfl) Tryd.underlying27 rfl Tryd.sizeOf24 rfl LS_tollhouseref12_State_Moved rfl (fun a18 S19 => ?_)
  clear S17 a16
  refine op_loadr S19 rfl (S19.at 0 rfl) Tryd.isAgg24 Tryd.sizeOf24 (fun a20 S21 => ?_)
  clear S19 a18
  refine op_fieldAddrr S21 rfl (S21.at 7 rfl) Tryd.underlying27 rfl Tryd.sizeOf24 rfl LS_tollhouseref12_State_Taken rfl (fun a22 S23 => ?_)
  clear S21 a20
  refine op_loadr S23 rfl (S23.at 0 rfl) Tryd.isAgg24 Tryd.sizeOf24 (fun a24 S25 => ?_)
  clear S23 a22
  refine op_build (y := mkS_api_State_r4 ({ zS_api_State with Channel := x0.Channel, Round := x0.Round, Moved := x0.Moved, Taken := x0.Taken } : S_api_State) (.slice none 0 0)) S25 rfl rfl Tryd.underlying38 Tryd.zeroValue38 zS_api_State_r4_ok places38 (.cons (S25.at 6 rfl) (cInt_flat _) LS_api_State_r4_Channel rfl (.cons (S25.at 4 rfl) (cInt_flat _) LS_api_State_r4_Round rfl (.cons (S25.at 2 rfl) (cArr_flat (cInt_flat _)) LS_api_State_r4_Moved rfl (.cons (S25.at 0 rfl) (cArr_flat (cInt_flat _)) LS_api_State_r4_Taken rfl .nil)))) (fun a26 S27 => ?_)
  clear S25 a24
  refine op_alloc S27 rfl Tryd.zeroValue38 zS_api_State_r4_ok (fun b28 a29 w30 S31 => ?_)
  clear S27 a26 w7
  have S32 := S31.newrow cS_api_Cond 46
  clear S31
  refine op_store S32 1 rfl (S32.raw 0 rfl) (S32.at 1 rfl) (Lens.id _) cS_api_State_r4_flat Tryd.sizeOf38 (fun w34 S35 => ?_)
  clear S32 w30
  refine wpList_nil ?_
  refine hK9 _ _ ?_
  clear hK9 K9
  refine wp_seq_k (fun K36 hK36 => ?_)
  refine wp_seq_k (fun K37 hK37 => ?_)
  refine wp_region_lit ?_
  refine op_fieldAddrr S35 rfl (S35.at 11 rfl) Tryd.underlying27 rfl Tryd.sizeOf25 rfl LS_tollhouseref12_State_Conds rfl (fun a38 S39 => ?_)
  clear S35 a29
  refine op_loadr S39 rfl (S39.at 0 rfl) Tryd.isAgg25 Tryd.sizeOf25 (fun a40 S41 => ?_)
  clear S39 a38
  refine op_len S41 rfl (S41.at 0 rfl) Tryd.underlying25 (fun a42 S43 => ?_)
  clear S41 a40
  refine op_move S43 rfl (cPlain_mk (f := Value.int .i64) 0) (fun a44 S45 => ?_)
  clear S43 a42
  refine wpList_nil ?_
  refine hK37 _ _ ?_
  clear hK37 K37
  refine wp_block ?_
  refine wp_q (fun Q273 hQ273 => ?_)
  have X283 : ∀ (s277 : (List S_api_Cond)) (v278 : Value) (a280 : Act) (w281 : World), St 31 (fun _ => False) D w a280 w281 [Res.row v278 46 cS_api_Cond s277, Res.box b28 38 cS_api_State_r4 (mkS_api_State_r4 ({ zS_api_State with Channel := x0.Channel, Round := x0.Round, Moved := x0.Moved, Taken := x0.Taken } : S_api_State) v278), Res.box b5 38 cS_api_State zS_api_State] [⟨3, Value, cRaw, ptr b28 0⟩, ⟨2, Value, cRaw, ptr b5 0⟩] → (some ({ ({ zS_api_State with Channel := x0.Channel, Round := x0.Round, Moved := x0.Moved, Taken := x0.Taken } : S_api_State) with Conds := s277 }) : Option (S_api_State)) = some r → Q273 (.exit 0) a280 w281 := by
    intro s277 v278 a280 w281 S279 hr282
    refine hQ273 _ _ _ ?_
    clear hQ273
    refine hK36 _ _ ?_
    clear hK36 K36
    refine wp_seq_k (fun K284 hK284 => ?_)
    refine wp_region_lit ?_
    have S285 := S279.settle 0 0 rfl rfl (convS_api_State_r4 (mkS_api_State_r4 ({ zS_api_State with Channel := x0.Channel, Round := x0.Round, Moved := x0.Moved, Taken := x0.Taken } : S_api_State) v278) s277)
    clear S279
    refine op_load S285 rfl 0 rfl (S285.raw 0 rfl) (Lens.id _) Tryd.isAgg38 Tryd.sizeOf38 (u := { ({ zS_api_State with Channel := x0.Channel, Round := x0.Round, Moved := x0.Moved, Taken := x0.Taken } : S_api_State) with Conds := s277 }) rfl (fun a286 S287 => ?_)
    clear S285 a280
    refine op_store S287 1 rfl (S287.raw 2 rfl) (S287.at 0 rfl) (Lens.id _) cS_api_State_flat Tryd.sizeOf38 (fun w288 S289 => ?_)
    clear S287 w281
    refine wpList_nil ?_
    refine hK284 _ _ ?_
    clear hK284 K284
    refine wp_ret ?_
    cases hr282
    exact retc S289 rfl (cellv S289 2 1 rfl rfl Tryd.isAgg38 Tryd.sizeOf38)  
  obtain ⟨t274, hr276, h275⟩ := bind_some hr
  clear hr
  have S409 := S45.pick [0, 1, 2, 4, 14]
  clear S45
  refine wp_loopM (fun (s408 : Int × (List S_api_Cond)) a292 w293 => match s408 with | (s46, s49) => ∃ v50 : Value, St 31 (fun _ => False) D w a292 w293 [Res.row v50 46 cS_api_Cond s49, Res.box b28 38 cS_api_State_r4 (mkS_api_State_r4 ({ zS_api_State with Channel := x0.Channel, Round := x0.Round, Moved := x0.Moved, Taken := x0.Taken } : S_api_State) v50), Res.box b5 38 cS_api_State zS_api_State] [⟨18, Int, (cInt .i64), s46⟩, ⟨17, Int, (cInt .i64), (x0.Conds.length : Int)⟩, ⟨16, (List S_tollhouseref10_Cond), (cSlice cS_tollhouseref10_Cond), x0.Conds⟩, ⟨3, Value, cRaw, ptr b28 0⟩, ⟨2, Value, cRaw, ptr b5 0⟩]) ?_ (0, ([] : (List S_api_Cond))) ?_ hr276
  · intro s408 a292 w293 x290 S410 hr294
    obtain ⟨s46, s49⟩ := s408
    obtain ⟨v50, S291⟩ := S410
    replace S291 : St 31 (fun _ => False) D w a292 w293 [Res.row v50 46 cS_api_Cond s49, Res.box b28 38 cS_api_State_r4 (mkS_api_State_r4 ({ zS_api_State with Channel := x0.Channel, Round := x0.Round, Moved := x0.Moved, Taken := x0.Taken } : S_api_State) v50), Res.box b5 38 cS_api_State zS_api_State] [⟨18, Int, (cInt .i64), s46⟩, ⟨17, Int, (cInt .i64), (x0.Conds.length : Int)⟩, ⟨16, (List S_tollhouseref10_Cond), (cSlice cS_tollhouseref10_Cond), x0.Conds⟩, ⟨3, Value, cRaw, ptr b28 0⟩, ⟨2, Value, cRaw, ptr b5 0⟩] := S291
    refine wp_seq_k (fun K295 hK295 => ?_)
    refine wp_region_lit ?_
    refine op_lss S291 rfl (S291.int 0 rfl) (S291.int 1 rfl) (fun a296 S297 => ?_)
    clear S291 a292
    refine wpList_nil ?_
    refine hK295 _ _ ?_
    clear hK295 K295
    refine wp_seq_k (fun K298 hK298 => ?_)
    rcases cond_some hr294 with ⟨b299, hr300⟩ | ⟨b299, hr301⟩
    · clear hr294
      refine c_true (S297.bool 0 rfl) b299 ?_
      refine wp_skip ?_
      refine hK298 _ _ ?_
      clear hK298 K298
      refine wp_seq_k (fun K302 hK302 => ?_)
      refine wp_block ?_
      refine wp_seq_k (fun K303 hK303 => ?_)
      refine wp_region_lit ?_
      obtain ⟨g304, hr305⟩ := guard_some hr300
      clear hr300
      refine op_indexAddr (z0 := zS_tollhouseref10_Cond) S297 rfl (S297.at 3 rfl) (S297.int 1 rfl) g304 Tryd.underlying25 Tryd.sizeOf30 (fun a306 S307 => ?_)
      clear S297 a296
      refine op_loadr S307 rfl (S307.at 0 rfl) Tryd.isAgg30 Tryd.sizeOf30 (fun a308 S309 => ?_)
      clear S307 a306
      refine op_alloc S309 rfl Tryd.zeroValue30 zS_tollhouseref10_Cond_ok (fun b310 a311 w312 S313 => ?_)
      clear S309 a308 w293
      refine op_store S313 0 rfl (S313.raw 0 rfl) (S313.at 1 rfl) (Lens.id _) cS_tollhouseref10_Cond_flat Tryd.sizeOf30 (fun w314 S315 => ?_)
      clear S313 w312
      have S316 := S315.freeze 0 0 rfl rfl
      clear S315
      refine wpList_nil ?_
      refine hK303 _ _ ?_
      clear hK303 K303
      obtain ⟨y323, h324, hr325⟩ := bind_some hr305
      clear hr305
      have hsh332 := S316.shape 0 rfl
      refine wp_drawn follows_mixed [[], [0], [], [2], [2, 3], [0, 1, 2, 3, 4], [0, 1, 2, 3, 4, 5], [0, 1, 2, 3, 4, 5, 6]] [none, none, none, none, none] 5 rfl rfl 0 rfl (fun i p => List.getD [[⟨22, Value, cRaw, ptr b28 6⟩], [⟨23, Value, cRaw, v50⟩], [⟨24, S_tollhouseref10_Cond, cS_tollhouseref10_Cond, x0.Conds.getD (s46 : Int).toNat zS_tollhouseref10_Cond⟩], [⟨25, S_api_Cond, cS_api_Cond, y323⟩], [⟨26, (List S_api_Cond), (cSlice cS_api_Cond), [y323]⟩]] i []) (fun _ _ _ => []) (fun _ => (0, undef)) S316 rfl (fun _ => rfl) (Obs.cons ?_ (Obs.cons ?_ (Obs.cons ?_ (Obs.cons ?_ (Obs.cons ?_ Obs.nil))))) ?_
      · intro f340 X333 Y334 a336 w337 hX335 S338
        have S339 : St 31 (fun _ => False) D w a336 w337 ([Res.row v50 46 cS_api_Cond s49, Res.box b28 38 cS_api_State_r4 (mkS_api_State_r4 ({ zS_api_State with Channel := x0.Channel, Round := x0.Round, Moved := x0.Moved, Taken := x0.Taken } : S_api_State) v50), Res.box b5 38 cS_api_State zS_api_State] ++ Y334) ([⟨5, S_tollhouseref10_Cond, cRef cS_tollhouseref10_Cond, x0.Conds.getD (s46 : Int).toNat zS_tollhouseref10_Cond⟩, ⟨21, S_tollhouseref10_Cond, cS_tollhouseref10_Cond, x0.Conds.getD (s46 : Int).toNat zS_tollhouseref10_Cond⟩, ⟨20, S_tollhouseref10_Cond, cRef cS_tollhouseref10_Cond, x0.Conds.getD (s46 : Int).toNat zS_tollhouseref10_Cond⟩, ⟨19, Bool, cBool, decide (s46 < (x0.Conds.length : Int))⟩, ⟨18, Int, (cInt .i64), s46⟩, ⟨17, Int, (cInt .i64), (x0.Conds.length : Int)⟩, ⟨16, (List S_tollhouseref10_Cond), (cSlice cS_tollhouseref10_Cond), x0.Conds⟩, ⟨3, Value, cRaw, ptr b28 0⟩, ⟨2, Value, cRaw, ptr b5 0⟩] ++ X333) := S338
        clear S338
        refine op_fieldAddr (o' := 6) S339 (okX rfl (hX335 _ rfl)) (S339.raw 7 rfl) Tryd.underlying38 rfl Tryd.sizeOf36 rfl rfl (fun a341 S342 => ?_)
        clear S339 a336
        exact wpList_nil ⟨rfl, (0, undef), S342⟩
      · intro f350 X343 Y344 a346 w347 hX345 S348
        have S349 : St 31 (fun _ => False) D w a346 w347 ([Res.row v50 46 cS_api_Cond s49, Res.box b28 38 cS_api_State_r4 (mkS_api_State_r4 ({ zS_api_State with Channel := x0.Channel, Round := x0.Round, Moved := x0.Moved, Taken := x0.Taken } : S_api_State) v50), Res.box b5 38 cS_api_State zS_api_State] ++ Y344) ([⟨22, Value, cRaw, ptr b28 6⟩, ⟨5, S_tollhouseref10_Cond, cRef cS_tollhouseref10_Cond, x0.Conds.getD (s46 : Int).toNat zS_tollhouseref10_Cond⟩, ⟨21, S_tollhouseref10_Cond, cS_tollhouseref10_Cond, x0.Conds.getD (s46 : Int).toNat zS_tollhouseref10_Cond⟩, ⟨20, S_tollhouseref10_Cond, cRef cS_tollhouseref10_Cond, x0.Conds.getD (s46 : Int).toNat zS_tollhouseref10_Cond⟩, ⟨19, Bool, cBool, decide (s46 < (x0.Conds.length : Int))⟩, ⟨18, Int, (cInt .i64), s46⟩, ⟨17, Int, (cInt .i64), (x0.Conds.length : Int)⟩, ⟨16, (List S_tollhouseref10_Cond), (cSlice cS_tollhouseref10_Cond), x0.Conds⟩, ⟨3, Value, cRaw, ptr b28 0⟩, ⟨2, Value, cRaw, ptr b5 0⟩] ++ X343) := S348
        clear S348
        refine op_loadcell S349 (okX rfl (hX345 _ rfl)) 1 rfl (S349.raw 0 rfl) LS_api_State_r4_Conds Tryd.isAgg36 Tryd.sizeOf36 (u := v50) rfl (fun a351 S352 => ?_)
        clear S349 a346
        exact wpList_nil ⟨rfl, (0, undef), S352⟩
      · intro f360 X353 Y354 a356 w357 hX355 S358
        have S359 : St 31 (fun _ => False) D w a356 w357 ([Res.row v50 46 cS_api_Cond s49, Res.box b28 38 cS_api_State_r4 (mkS_api_State_r4 ({ zS_api_State with Channel := x0.Channel, Round := x0.Round, Moved := x0.Moved, Taken := x0.Taken } : S_api_State) v50), Res.box b5 38 cS_api_State zS_api_State] ++ Y354) ([⟨5, S_tollhouseref10_Cond, cRef cS_tollhouseref10_Cond, x0.Conds.getD (s46 : Int).toNat zS_tollhouseref10_Cond⟩, ⟨21, S_tollhouseref10_Cond, cS_tollhouseref10_Cond, x0.Conds.getD (s46 : Int).toNat zS_tollhouseref10_Cond⟩, ⟨20, S_tollhouseref10_Cond, cRef cS_tollhouseref10_Cond, x0.Conds.getD (s46 : Int).toNat zS_tollhouseref10_Cond⟩, ⟨19, Bool, cBool, decide (s46 < (x0.Conds.length : Int))⟩, ⟨18, Int, (cInt .i64), s46⟩, ⟨17, Int, (cInt .i64), (x0.Conds.length : Int)⟩, ⟨16, (List S_tollhouseref10_Cond), (cSlice cS_tollhouseref10_Cond), x0.Conds⟩, ⟨3, Value, cRaw, ptr b28 0⟩, ⟨2, Value, cRaw, ptr b5 0⟩] ++ X353) := S358
        clear S358
        refine op_loadr S359 (okX rfl (hX355 _ rfl)) (S359.at 0 rfl) Tryd.isAgg30 Tryd.sizeOf30 (fun a361 S362 => ?_)
        clear S359 a356
        exact wpList_nil ⟨rfl, (0, undef), S362⟩
      · intro f370 X363 Y364 a366 w367 hX365 S368
        have S369 : St 31 (fun _ => False) D w a366 w367 ([Res.row v50 46 cS_api_Cond s49, Res.box b28 38 cS_api_State_r4 (mkS_api_State_r4 ({ zS_api_State with Channel := x0.Channel, Round := x0.Round, Moved := x0.Moved, Taken := x0.Taken } : S_api_State) v50), Res.box b5 38 cS_api_State zS_api_State] ++ Y364) ([⟨24, S_tollhouseref10_Cond, cS_tollhouseref10_Cond, x0.Conds.getD (s46 : Int).toNat zS_tollhouseref10_Cond⟩, ⟨5, S_tollhouseref10_Cond, cRef cS_tollhouseref10_Cond, x0.Conds.getD (s46 : Int).toNat zS_tollhouseref10_Cond⟩, ⟨21, S_tollhouseref10_Cond, cS_tollhouseref10_Cond, x0.Conds.getD (s46 : Int).toNat zS_tollhouseref10_Cond⟩, ⟨20, S_tollhouseref10_Cond, cRef cS_tollhouseref10_Cond, x0.Conds.getD (s46 : Int).toNat zS_tollhouseref10_Cond⟩, ⟨19, Bool, cBool, decide (s46 < (x0.Conds.length : Int))⟩, ⟨18, Int, (cInt .i64), s46⟩, ⟨17, Int, (cInt .i64), (x0.Conds.length : Int)⟩, ⟨16, (List S_tollhouseref10_Cond), (cSlice cS_tollhouseref10_Cond), x0.Conds⟩, ⟨3, Value, cRaw, ptr b28 0⟩, ⟨2, Value, cRaw, ptr b5 0⟩] ++ X363) := S368
        clear S368
        refine op_call S369 (okX rfl (hX365 _ rfl)) Tryd.call42 (tollhouselaw10_To_ok (S369.at 0 rfl) S369.dirty_lt h324) (fun a371 w373 S372 => ?_)
        clear S369 a366 w367
        exact wpList_nil ⟨rfl, (0, undef), S372⟩
      · intro f381 X374 Y375 a377 w378 hX376 S379
        have S380 : St 31 (fun _ => False) D w a377 w378 ([Res.row v50 46 cS_api_Cond s49, Res.box b28 38 cS_api_State_r4 (mkS_api_State_r4 ({ zS_api_State with Channel := x0.Channel, Round := x0.Round, Moved := x0.Moved, Taken := x0.Taken } : S_api_State) v50), Res.box b5 38 cS_api_State zS_api_State] ++ Y375) ([⟨24, S_tollhouseref10_Cond, cS_tollhouseref10_Cond, x0.Conds.getD (s46 : Int).toNat zS_tollhouseref10_Cond⟩, ⟨25, S_api_Cond, cS_api_Cond, y323⟩, ⟨5, S_tollhouseref10_Cond, cRef cS_tollhouseref10_Cond, x0.Conds.getD (s46 : Int).toNat zS_tollhouseref10_Cond⟩, ⟨21, S_tollhouseref10_Cond, cS_tollhouseref10_Cond, x0.Conds.getD (s46 : Int).toNat zS_tollhouseref10_Cond⟩, ⟨20, S_tollhouseref10_Cond, cRef cS_tollhouseref10_Cond, x0.Conds.getD (s46 : Int).toNat zS_tollhouseref10_Cond⟩, ⟨19, Bool, cBool, decide (s46 < (x0.Conds.length : Int))⟩, ⟨18, Int, (cInt .i64), s46⟩, ⟨17, Int, (cInt .i64), (x0.Conds.length : Int)⟩, ⟨16, (List S_tollhouseref10_Cond), (cSlice cS_tollhouseref10_Cond), x0.Conds⟩, ⟨3, Value, cRaw, ptr b28 0⟩, ⟨2, Value, cRaw, ptr b5 0⟩] ++ X374) := S379
        clear S379
        refine op_lit S380 (okX rfl (hX376 _ rfl)) cS_api_Cond_flat Tryd.underlying36 Tryd.sizeOf46 Tryd.zeroValue46 rfl rfl rfl (.cons (S380.at 1 rfl) (.nil _)) (fun a382 w384 S383 => ?_)
        clear S380 a377 w378
        exact wpList_nil ⟨rfl, (0, undef), S383⟩
      · intro f389 a385 w386 _ S387
        have S388 : St 31 (fun _ => False) D w a385 w386 [Res.row v50 46 cS_api_Cond s49, Res.box b28 38 cS_api_State_r4 (mkS_api_State_r4 ({ zS_api_State with Channel := x0.Channel, Round := x0.Round, Moved := x0.Moved, Taken := x0.Taken } : S_api_State) v50), Res.box b5 38 cS_api_State zS_api_State] [⟨26, (List S_api_Cond), (cSlice cS_api_Cond), [y323]⟩, ⟨25, S_api_Cond, cS_api_Cond, y323⟩, ⟨24, S_tollhouseref10_Cond, cS_tollhouseref10_Cond, x0.Conds.getD (s46 : Int).toNat zS_tollhouseref10_Cond⟩, ⟨23, Value, cRaw, v50⟩, ⟨22, Value, cRaw, ptr b28 6⟩, ⟨5, S_tollhouseref10_Cond, cRef cS_tollhouseref10_Cond, x0.Conds.getD (s46 : Int).toNat zS_tollhouseref10_Cond⟩, ⟨21, S_tollhouseref10_Cond, cS_tollhouseref10_Cond, x0.Conds.getD (s46 : Int).toNat zS_tollhouseref10_Cond⟩, ⟨20, S_tollhouseref10_Cond, cRef cS_tollhouseref10_Cond, x0.Conds.getD (s46 : Int).toNat zS_tollhouseref10_Cond⟩, ⟨19, Bool, cBool, decide (s46 < (x0.Conds.length : Int))⟩, ⟨18, Int, (cInt .i64), s46⟩, ⟨17, Int, (cInt .i64), (x0.Conds.length : Int)⟩, ⟨16, (List S_tollhouseref10_Cond), (cSlice cS_tollhouseref10_Cond), x0.Conds⟩, ⟨3, Value, cRaw, ptr b28 0⟩, ⟨2, Value, cRaw, ptr b5 0⟩] := S387
        clear S387 S316
        obtain ⟨g390, hr391⟩ := guard_some hr325
        clear hr325
        refine op_append S388 rfl 0 rfl (S388.raw 3 rfl) (S388.at 0 rfl) cS_api_Cond_flat Tryd.underlying36 info46 rfl rfl rfl g390 (fun v392 a393 w394 S395 => ?_)
        clear S388 a385 w386
        refine op_fieldAddr (o' := 6) S395 rfl (S395.raw 13 rfl) Tryd.underlying38 rfl Tryd.sizeOf36 rfl rfl (fun a396 S397 => ?_)
        clear S395 a393
        refine op_store S397 1 rfl (S397.raw 0 rfl) (rowcell S397 0 rfl (S397.raw 1 rfl)) LS_api_State_r4_Conds cCell_flat Tryd.sizeOf36 (fun w398 S399 => ?_)
        clear S397 w394
        refine wpList_nil ?_
        refine hK302 _ _ ?_
        clear hK302 K302
        refine wp_region_lit ?_
        refine op_add S399 rfl (S399.int 11 rfl) rfl (fun a400 S401 => ?_)
        clear S399 a396
        have S402 := S401.erase 12
        clear S401
        refine op_move S402 rfl (S402.at 0 rfl) (fun a403 S404 => ?_)
        clear S402 a400
        refine wpList_nil ?_
        have S405 := S404.pick [0, 13, 14, 15, 16]
        clear S404
        cases hr391
        exact ⟨rfl, v392, S405⟩
    · clear hr294
      refine c_false (S297.bool 0 rfl) b299 ?_
      refine wp_exit ?_
      have S406 := S297.pick [4, 5]
      clear S297
      cases hr301
      intro h407
      refine ⟨(by intro h; cases h), ?_⟩
      exact X283 s49 v50 _ _ S406 (by subst h407; exact h275)
  · exact ⟨(.slice none 0 0), S409⟩
/-- tollhouse/tollhouseref11.Decimal -/
noncomputable def tollhouseref11_Decimal (x0 : Int) : Option (List UInt8) :=
  ((loopM (fun (s166 : (List UInt8) × Int) => match s166 with | (s8, s9) => ((if decide (s9 > 9) then (if (bytesOf [IntKind.wrap .u8 (IntKind.wrap .u64 (48 + (Int.tmod s9 10)))]).length + s8.length ≤ 9223372036854775807 then some (.inl ((bytesOf [IntKind.wrap .u8 (IntKind.wrap .u64 (48 + (Int.tmod s9 10)))]) ++ s8, IntKind.wrap .u64 (Int.tdiv s9 10))) else none) else some (.inr (s8, s9))) : Option (((List UInt8) × Int) ⊕ ((List UInt8) × Int)))) (([] : List UInt8), x0)).bind fun (s92, s93) => (if (bytesOf [IntKind.wrap .u8 (IntKind.wrap .u64 (48 + s93))]).length + s92.length ≤ 9223372036854775807 then some ((bytesOf [IntKind.wrap .u8 (IntKind.wrap .u64 (48 + s93))]) ++ s92) else none))
set_option maxRecDepth 100000 in
set_option maxHeartbeats 8000000 in
theorem tollhouseref11_Decimal_ok {D : Dirty} {w : World} {v0 : Value} {x0 : Int} {r : (List UInt8)} (h0 : (cInt .u64).val D w v0 x0) (hD : ∀ k, D k → k < w.heap.size) (hr : tollhouseref11_Decimal x0 = some r) :
    Calls Tryd.prog 72 [v0].toArray w (Ret cStr D w r) := by
  refine calls_start (n := 23) Tryd.func72 rfl rfl ?_
  have S := St.start (w := w) (args := [v0].toArray) 23 rfl hD
  replace S := S.arg 0 rfl (val_dirt0 h0)
  unfold tollhouseref11_Decimal at hr
  refine wp_seq_k (fun K1 hK1 => ?_)
  refine wp_region_lit ?_
  refine op_assign S rfl (cPlain_mk (f := strV) ([] : List UInt8)) (fun a2 S3 => ?_)
  clear S
  refine wpList_nil ?_
  refine hK1 _ _ ?_
  clear hK1 K1
  refine wp_seq_k (fun K4 hK4 => ?_)
  refine wp_region_lit ?_
  refine op_assign S3 rfl (cPlain_mk (f := strV) ([] : List UInt8)) (fun a5 S6 => ?_)
  clear S3 a2
  refine wpList_nil ?_
  refine hK4 _ _ ?_
  clear hK4 K4
  refine wp_seq_k (fun K7 hK7 => ?_)
  refine wp_block ?_
  refine wp_q (fun Q88 hQ88 => ?_)
  have X98 : ∀ (s92 : (List UInt8)) (s93 : Int) (a95 : Act) (w96 : World), St 23 (fun _ => False) D w a95 w96 [] [⟨3, (List UInt8), cStr, s92⟩, ⟨0, Int, (cInt .u64), s93⟩] → ((if (bytesOf [IntKind.wrap .u8 (IntKind.wrap .u64 (48 + s93))]).length + s92.length ≤ 9223372036854775807 then some ((bytesOf [IntKind.wrap .u8 (IntKind.wrap .u64 (48 + s93))]) ++ s92) else none) : Option ((List UInt8))) = some r → Q88 (.exit 0) a95 w96 := by
    intro s92 s93 a95 w96 S94 hr97
    refine hQ88 _ _ _ ?_
    clear hQ88
    refine hK7 _ _ ?_
    clear hK7 K7
    refine wp_seq_k (fun K99 hK99 => ?_)
    refine wp_region_lit ?_
    refine op_move S94 rfl (S94.at 1 rfl) (fun a100 S101 => ?_)
    clear S94 a95
    refine op_add S101 rfl rfl (S101.int 0 rfl) (fun a102 S103 => ?_)
    clear S101 a100
    refine op_conv S103 rfl Tryd.underlying23 Tryd.underlying5 (S103.int 0 rfl) (fun a104 S105 => ?_)
    clear S103 a102
    refine op_lit S105 rfl (cInt_flat _) Tryd.underlying54 Tryd.sizeOf5 Tryd.zeroValue5 rfl rfl rfl (.cons (S105.at 0 rfl) (.nil _)) (fun a106 w108 S107 => ?_)
    clear S105 a104 w96
    refine op_bstr S107 rfl Tryd.underlying54 Tryd.underlying5 Tryd.underlying9 (S107.at 0 rfl) (fun a109 S110 => ?_)
    clear S107 a106
    refine op_move S110 rfl (S110.at 5 rfl) (fun a111 S112 => ?_)
    clear S110 a109
    obtain ⟨g113, hr114⟩ := guard_some hr97
    clear hr97
    refine op_cat S112 rfl (S112.str 1 rfl) (S112.str 0 rfl) g113 (fun a115 S116 => ?_)
    clear S112 a111
    refine op_assign S116 rfl (S116.at 0 rfl) (fun a117 S118 => ?_)
    clear S116 a115
    refine wpList_nil ?_
    refine hK99 _ _ ?_
    clear hK99 K99
    refine wp_ret ?_
    cases hr114
    exact ret1 S118 rfl 0 rfl
  obtain ⟨t89, hr91, h90⟩ := bind_some hr
  clear hr
  have S167 := S6.pick [0, 2]
  clear S6
  refine wp_loopM (fun (s166 : (List UInt8) × Int) a121 w122 => match s166 with | (s8, s9) => St 23 (fun _ => False) D w a121 w122 [] [⟨3, (List UInt8), cStr, s8⟩, ⟨0, Int, (cInt .u64), s9⟩]) ?_ (([] : List UInt8), x0) ?_ hr91
  · intro s166 a121 w122 x119 S168 hr123
    obtain ⟨s8, s9⟩ := s166
    have S120 : St 23 (fun _ => False) D w a121 w122 [] [⟨3, (List UInt8), cStr, s8⟩, ⟨0, Int, (cInt .u64), s9⟩] := S168
    clear S168
    refine wp_seq_k (fun K124 hK124 => ?_)
    refine wp_seq_k (fun K125 hK125 => ?_)
    refine wp_region_lit ?_
    refine op_move S120 rfl (S120.at 1 rfl) (fun a126 S127 => ?_)
    clear S120 a121
    refine op_gtr S127 rfl (S127.int 0 rfl) rfl (fun a128 S129 => ?_)
    clear S127 a126
    refine wpList_nil ?_
    refine hK125 _ _ ?_
    clear hK125 K125
    rcases cond_some hr123 with ⟨b130, hr131⟩ | ⟨b130, hr132⟩
    · clear hr123
      refine c_true (S129.bool 0 rfl) b130 ?_
      refine wp_skip ?_
      refine hK124 _ _ ?_
      clear hK124 K124
      refine wp_block ?_
      refine wp_seq_k (fun K133 hK133 => ?_)
      refine wp_region_lit ?_
      refine op_move S129 rfl (S129.at 3 rfl) (fun a134 S135 => ?_)
      clear S129 a128
      refine op_rem S135 rfl (S135.int 0 rfl) rfl (by decide) (fun a136 S137 => ?_)
      clear S135 a134
      refine op_add S137 rfl rfl (S137.int 0 rfl) (fun a138 S139 => ?_)
      clear S137 a136
      refine op_conv S139 rfl Tryd.underlying23 Tryd.underlying5 (S139.int 0 rfl) (fun a140 S141 => ?_)
      clear S139 a138
      refine op_lit S141 rfl (cInt_flat _) Tryd.underlying54 Tryd.sizeOf5 Tryd.zeroValue5 rfl rfl rfl (.cons (S141.at 0 rfl) (.nil _)) (fun a142 w144 S143 => ?_)
      clear S141 a140 w122
      refine op_bstr S143 rfl Tryd.underlying54 Tryd.underlying5 Tryd.underlying9 (S143.at 0 rfl) (fun a145 S146 => ?_)
      clear S143 a142
      refine op_move S146 rfl (S146.at 8 rfl) (fun a147 S148 => ?_)
      clear S146 a145
      obtain ⟨g149, hr150⟩ := guard_some hr131
      clear hr131
      refine op_cat S148 rfl (S148.str 1 rfl) (S148.str 0 rfl) g149 (fun a151 S152 => ?_)
      clear S148 a147
      have S153 := S152.erase 10
      clear S152
      refine op_assign S153 rfl (S153.at 0 rfl) (fun a154 S155 => ?_)
      clear S153 a151
      refine wpList_nil ?_
      refine hK133 _ _ ?_
      clear hK133 K133
      refine wp_region_lit ?_
      refine op_move S155 rfl (S155.at 11 rfl) (fun a156 S157 => ?_)
      clear S155 a154
      refine op_quo S157 rfl (S157.int 0 rfl) rfl (by decide) (fun a158 S159 => ?_)
      clear S157 a156
      have S160 := S159.erase 13
      clear S159
      refine op_assign S160 rfl (S160.at 0 rfl) (fun a161 S162 => ?_)
      clear S160 a158
      refine wpList_nil ?_
      have S163 := S162.pick [3, 0]
      clear S162
      cases hr150
      exact ⟨rfl, S163⟩
    · clear hr123
      refine c_false (S129.bool 0 rfl) b130 ?_
      refine wp_exit ?_
      have S164 := S129.pick [2, 3]
      clear S129
      cases hr132
      intro h165
      refine ⟨(by intro h; cases h), ?_⟩
      exact X98 s8 s9 _ _ S164 (by subst h165; exact h90)
  · exact S167
/-- tollhouse/tollhouseref31.Num -/
noncomputable def tollhouseref31_Num (x0 : Int) : Option (List UInt8) :=
  ((tollhouseref11_Decimal x0).bind fun y7 => some y7)
set_option maxRecDepth 100000 in
set_option maxHeartbeats 8000000 in
theorem tollhouseref31_Num_ok {D : Dirty} {w : World} {v0 : Value} {x0 : Int} {r : (List UInt8)} (h0 : (cInt .u64).val D w v0 x0) (hD : ∀ k, D k → k < w.heap.size) (hr : tollhouseref31_Num x0 = some r) :
    Calls Tryd.prog 43 [v0].toArray w (Ret cStr D w r) := by
  refine calls_start (n := 5) Tryd.func43 rfl rfl ?_
  have S := St.start (w := w) (args := [v0].toArray) 5 rfl hD
  replace S := S.arg 0 rfl (val_dirt0 h0)
  unfold tollhouseref31_Num at hr
  refine wp_seq_k (fun K1 hK1 => ?_)
  refine wp_region_lit ?_
  refine op_assign S rfl (cPlain_mk (f := strV) ([] : List UInt8)) (fun a2 S3 => ?_)
  clear S
  refine wpList_nil ?_
  refine hK1 _ _ ?_
  clear hK1 K1
  refine wp_seq_k (fun K4 hK4 => ?_)
  refine wp_region_lit ?_
  refine op_move S3 rfl (S3.at 1 rfl) (fun a5 S6 => ?_)
  clear S3 a2
  obtain ⟨y7, h8, hr9⟩ := bind_some hr
  clear hr
  refine op_call S6 rfl Tryd.call72 (tollhouseref11_Decimal_ok (S6.at 0 rfl) S6.dirty_lt h8) (fun a10 w12 S11 => ?_)
  clear S6 a5
  have S13 := S11.erase 2
  clear S11
  refine op_assign S13 rfl (S13.at 0 rfl) (fun a14 S15 => ?_)
  clear S13 a10
  refine wpList_nil ?_
  refine hK4 _ _ ?_
  clear hK4 K4
  refine wp_ret ?_
  cases hr9
  exact ret1 S15 rfl 0 rfl
end Go.Proofs.X
