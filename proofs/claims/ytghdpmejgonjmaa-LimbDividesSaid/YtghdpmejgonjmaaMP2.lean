/- Printed functions: each says what the typed machine says of the program -/
import Derived.Test.YtghdpmejgonjmaaMP1
import Derived.KernelRfl

set_option linter.unusedVariables false
set_option maxRecDepth 100000
namespace Go.Proofs.Ytghdpmejgonjmaa.Am
open Go
noncomputable section

/-! shunt/limb.Exact -/
def blimb_Exact (k : Nat) (a0 : Bool) (a1 : List Int) (b0 : Bool) (b1 : List Int) : Option (Bool × List Int × Int) :=
  Option.bind (Flimb_QuoRem k a0 a1 b0 b1) fun r7 =>
  if ((r7.2.2.2.2 != (0 : Int)) = true) then
    (some (false, [], r7.2.2.2.2))
  else
  if (((((List.length r7.2.2.2.1) : Nat) : Int) != (0 : Int)) = true) then
    (some (false, [], (12 : Int)))
  else
  (some (r7.1, r7.2.1, (0 : Int)))
def Flimb_Exact : Nat → Bool → List Int → Bool → List Int → Option (Bool × List Int × Int)
  | 0, _, _, _, _ => none
  | k + 1, a0, a1, b0, b1 => blimb_Exact k a0 a1 b0 b1
def shlimb_Exact : FS := { vs := [.g [.lf .bool, .lf (.sl (.int .u32))], .g [.lf .bool, .lf (.sl (.int .u32))]], bs := [] }
def rslimb_Exact : List FS := [{ vs := [.g [.lf .bool, .lf (.sl (.int .u32))], .a (.lf (.int .i64))], bs := [] }]
def Ilimb_Exact (k : Nat) : Inst := ⟨16, shlimb_Exact, rslimb_Exact, fun x => Flimb_Exact k x.1 x.2.1 x.2.2.1 x.2.2.2⟩
theorem allimb_Exact (k : Nat) : AllI (call cf k) [Ilimb_QuoRem k] := And.intro (oklimb_QuoRem k) (True.intro)
theorem anlimb_Exact (k : Nat) : LAll (LOk (R := DS FS.D rslimb_Exact) (fun b _ σ K => LOt Ty (kps 16) 0 b σ K []) cf (call cf k) (cf.keep 16) Try.f16.ntmps k shlimb_Exact.bs.length) 0 (bd Try.f16) :=
  And.intro (True.intro) (And.intro (True.intro) (And.intro (And.intro (True.intro) (And.intro (And.intro (True.intro) (True.intro)) (True.intro))) (And.intro (And.intro (True.intro) (And.intro (And.intro (True.intro) (True.intro)) (True.intro))) (And.intro (True.intro) (True.intro)))))
theorem stlimb_Exact (k : Nat) (x : shlimb_Exact.D) : Flimb_Exact (k + 1) x.1 x.2.1 x.2.2.1 x.2.2.2 = body2 cf (fun f a b K => COt f a b K [Ilimb_QuoRem k]) (fun b _ σ K => LOt Ty (kps 16) 0 b σ K []) 16 Try.f16.ntmps Try.f16.results.toList (bd Try.f16) (shlimb_Exact.enc x).1 (shlimb_Exact.enc x).2 (putS FS.dec rslimb_Exact) := by kernel_rfl
theorem oklimb_Exact : ∀ k, InstOk (call cf k) (Ilimb_Exact k)
  | 0 => fun x y e => absurd (show (none : Option _) = some y from e) (by simp)
  | k + 1 => inst_ok (c := cf) (k := k) (f := 16) (fn := Try.f16) (body := bd Try.f16) (sh := shlimb_Exact) (os := rslimb_Exact) rfl Try.func16 rfl ⟨rfl, Nat.le_of_ble_eq_true rfl⟩ (COt_ok (allimb_Exact k)) (anlimb_Exact k) (fun x => Flimb_Exact (k + 1) x.1 x.2.1 x.2.2.1 x.2.2.2) (stlimb_Exact k)

/-! shunt/shuntref01.plus -/
def Lshuntref01_plus_0s (k : Nat) (rec : List Int → List Int → Nat → Int → Int → List Int → Option (Nat × List Int)) (a : List Int) (b : List Int) (d : Nat) (carry : Int) (i : Int) (ds : List Int) : Option (Nat × List Int) :=
  if ((decide (i < (((List.length a) : Nat) : Int))) = false) then
    if ((decide (i < (((List.length b) : Nat) : Int))) = false) then
      if ((decide (carry > (0 : Int))) = true) then
        if ((decide (i < (((List.length a) : Nat) : Int))) = true) then
          if ((0 : Int) ≤ i) then
            Option.bind (a)[(Int.toNat i)]? fun x =>
            if ((decide (i < (((List.length b) : Nat) : Int))) = true) then
              if ((0 : Int) ≤ i) then
                Option.bind (b)[(Int.toNat i)]? fun x1 =>
                if (d ≤ (List.length ds)) then
                  if (((d + (List.length (List.take 1 ((Int.tmod (IntKind.wrap .i64 ((IntKind.wrap .i64 (carry + x)) + x1)) (65536 : Int)) :: [])))) * 8) ≤ 140737488355328) then
                    rec a b (d + (List.length (List.take 1 ((Int.tmod (IntKind.wrap .i64 ((IntKind.wrap .i64 (carry + x)) + x1)) (65536 : Int)) :: [])))) (IntKind.wrap .i64 (Int.tdiv (IntKind.wrap .i64 ((IntKind.wrap .i64 (carry + x)) + x1)) (65536 : Int))) (IntKind.wrap .i64 (i + (1 : Int))) ((List.take d ds) ++ (List.take 1 ((Int.tmod (IntKind.wrap .i64 ((IntKind.wrap .i64 (carry + x)) + x1)) (65536 : Int)) :: [])))
                  else
                  none
                else
                none
              else
              none
            else
            if (d ≤ (List.length ds)) then
              if (((d + (List.length (List.take 1 ((Int.tmod (IntKind.wrap .i64 (carry + x)) (65536 : Int)) :: [])))) * 8) ≤ 140737488355328) then
                rec a b (d + (List.length (List.take 1 ((Int.tmod (IntKind.wrap .i64 (carry + x)) (65536 : Int)) :: [])))) (IntKind.wrap .i64 (Int.tdiv (IntKind.wrap .i64 (carry + x)) (65536 : Int))) (IntKind.wrap .i64 (i + (1 : Int))) ((List.take d ds) ++ (List.take 1 ((Int.tmod (IntKind.wrap .i64 (carry + x)) (65536 : Int)) :: [])))
              else
              none
            else
            none
          else
          none
        else
        if ((decide (i < (((List.length b) : Nat) : Int))) = true) then
          if ((0 : Int) ≤ i) then
            Option.bind (b)[(Int.toNat i)]? fun x =>
            if (d ≤ (List.length ds)) then
              if (((d + (List.length (List.take 1 ((Int.tmod (IntKind.wrap .i64 (carry + x)) (65536 : Int)) :: [])))) * 8) ≤ 140737488355328) then
                rec a b (d + (List.length (List.take 1 ((Int.tmod (IntKind.wrap .i64 (carry + x)) (65536 : Int)) :: [])))) (IntKind.wrap .i64 (Int.tdiv (IntKind.wrap .i64 (carry + x)) (65536 : Int))) (IntKind.wrap .i64 (i + (1 : Int))) ((List.take d ds) ++ (List.take 1 ((Int.tmod (IntKind.wrap .i64 (carry + x)) (65536 : Int)) :: [])))
              else
              none
            else
            none
          else
          none
        else
        if (d ≤ (List.length ds)) then
          if (((d + (List.length (List.take 1 ((Int.tmod carry (65536 : Int)) :: [])))) * 8) ≤ 140737488355328) then
            rec a b (d + (List.length (List.take 1 ((Int.tmod carry (65536 : Int)) :: [])))) (IntKind.wrap .i64 (Int.tdiv carry (65536 : Int))) (IntKind.wrap .i64 (i + (1 : Int))) ((List.take d ds) ++ (List.take 1 ((Int.tmod carry (65536 : Int)) :: [])))
          else
          none
        else
        none
      else
      (some (d, ds))
    else
    if ((decide (i < (((List.length a) : Nat) : Int))) = true) then
      if ((0 : Int) ≤ i) then
        Option.bind (a)[(Int.toNat i)]? fun x =>
        if ((decide (i < (((List.length b) : Nat) : Int))) = true) then
          if ((0 : Int) ≤ i) then
            Option.bind (b)[(Int.toNat i)]? fun x1 =>
            if (d ≤ (List.length ds)) then
              if (((d + (List.length (List.take 1 ((Int.tmod (IntKind.wrap .i64 ((IntKind.wrap .i64 (carry + x)) + x1)) (65536 : Int)) :: [])))) * 8) ≤ 140737488355328) then
                rec a b (d + (List.length (List.take 1 ((Int.tmod (IntKind.wrap .i64 ((IntKind.wrap .i64 (carry + x)) + x1)) (65536 : Int)) :: [])))) (IntKind.wrap .i64 (Int.tdiv (IntKind.wrap .i64 ((IntKind.wrap .i64 (carry + x)) + x1)) (65536 : Int))) (IntKind.wrap .i64 (i + (1 : Int))) ((List.take d ds) ++ (List.take 1 ((Int.tmod (IntKind.wrap .i64 ((IntKind.wrap .i64 (carry + x)) + x1)) (65536 : Int)) :: [])))
              else
              none
            else
            none
          else
          none
        else
        if (d ≤ (List.length ds)) then
          if (((d + (List.length (List.take 1 ((Int.tmod (IntKind.wrap .i64 (carry + x)) (65536 : Int)) :: [])))) * 8) ≤ 140737488355328) then
            rec a b (d + (List.length (List.take 1 ((Int.tmod (IntKind.wrap .i64 (carry + x)) (65536 : Int)) :: [])))) (IntKind.wrap .i64 (Int.tdiv (IntKind.wrap .i64 (carry + x)) (65536 : Int))) (IntKind.wrap .i64 (i + (1 : Int))) ((List.take d ds) ++ (List.take 1 ((Int.tmod (IntKind.wrap .i64 (carry + x)) (65536 : Int)) :: [])))
          else
          none
        else
        none
      else
      none
    else
    if ((decide (i < (((List.length b) : Nat) : Int))) = true) then
      if ((0 : Int) ≤ i) then
        Option.bind (b)[(Int.toNat i)]? fun x =>
        if (d ≤ (List.length ds)) then
          if (((d + (List.length (List.take 1 ((Int.tmod (IntKind.wrap .i64 (carry + x)) (65536 : Int)) :: [])))) * 8) ≤ 140737488355328) then
            rec a b (d + (List.length (List.take 1 ((Int.tmod (IntKind.wrap .i64 (carry + x)) (65536 : Int)) :: [])))) (IntKind.wrap .i64 (Int.tdiv (IntKind.wrap .i64 (carry + x)) (65536 : Int))) (IntKind.wrap .i64 (i + (1 : Int))) ((List.take d ds) ++ (List.take 1 ((Int.tmod (IntKind.wrap .i64 (carry + x)) (65536 : Int)) :: [])))
          else
          none
        else
        none
      else
      none
    else
    if (d ≤ (List.length ds)) then
      if (((d + (List.length (List.take 1 ((Int.tmod carry (65536 : Int)) :: [])))) * 8) ≤ 140737488355328) then
        rec a b (d + (List.length (List.take 1 ((Int.tmod carry (65536 : Int)) :: [])))) (IntKind.wrap .i64 (Int.tdiv carry (65536 : Int))) (IntKind.wrap .i64 (i + (1 : Int))) ((List.take d ds) ++ (List.take 1 ((Int.tmod carry (65536 : Int)) :: [])))
      else
      none
    else
    none
  else
  if ((decide (i < (((List.length a) : Nat) : Int))) = true) then
    if ((0 : Int) ≤ i) then
      Option.bind (a)[(Int.toNat i)]? fun x =>
      if ((decide (i < (((List.length b) : Nat) : Int))) = true) then
        if ((0 : Int) ≤ i) then
          Option.bind (b)[(Int.toNat i)]? fun x1 =>
          if (d ≤ (List.length ds)) then
            if (((d + (List.length (List.take 1 ((Int.tmod (IntKind.wrap .i64 ((IntKind.wrap .i64 (carry + x)) + x1)) (65536 : Int)) :: [])))) * 8) ≤ 140737488355328) then
              rec a b (d + (List.length (List.take 1 ((Int.tmod (IntKind.wrap .i64 ((IntKind.wrap .i64 (carry + x)) + x1)) (65536 : Int)) :: [])))) (IntKind.wrap .i64 (Int.tdiv (IntKind.wrap .i64 ((IntKind.wrap .i64 (carry + x)) + x1)) (65536 : Int))) (IntKind.wrap .i64 (i + (1 : Int))) ((List.take d ds) ++ (List.take 1 ((Int.tmod (IntKind.wrap .i64 ((IntKind.wrap .i64 (carry + x)) + x1)) (65536 : Int)) :: [])))
            else
            none
          else
          none
        else
        none
      else
      if (d ≤ (List.length ds)) then
        if (((d + (List.length (List.take 1 ((Int.tmod (IntKind.wrap .i64 (carry + x)) (65536 : Int)) :: [])))) * 8) ≤ 140737488355328) then
          rec a b (d + (List.length (List.take 1 ((Int.tmod (IntKind.wrap .i64 (carry + x)) (65536 : Int)) :: [])))) (IntKind.wrap .i64 (Int.tdiv (IntKind.wrap .i64 (carry + x)) (65536 : Int))) (IntKind.wrap .i64 (i + (1 : Int))) ((List.take d ds) ++ (List.take 1 ((Int.tmod (IntKind.wrap .i64 (carry + x)) (65536 : Int)) :: [])))
        else
        none
      else
      none
    else
    none
  else
  if ((decide (i < (((List.length b) : Nat) : Int))) = true) then
    if ((0 : Int) ≤ i) then
      Option.bind (b)[(Int.toNat i)]? fun x =>
      if (d ≤ (List.length ds)) then
        if (((d + (List.length (List.take 1 ((Int.tmod (IntKind.wrap .i64 (carry + x)) (65536 : Int)) :: [])))) * 8) ≤ 140737488355328) then
          rec a b (d + (List.length (List.take 1 ((Int.tmod (IntKind.wrap .i64 (carry + x)) (65536 : Int)) :: [])))) (IntKind.wrap .i64 (Int.tdiv (IntKind.wrap .i64 (carry + x)) (65536 : Int))) (IntKind.wrap .i64 (i + (1 : Int))) ((List.take d ds) ++ (List.take 1 ((Int.tmod (IntKind.wrap .i64 (carry + x)) (65536 : Int)) :: [])))
        else
        none
      else
      none
    else
    none
  else
  if (d ≤ (List.length ds)) then
    if (((d + (List.length (List.take 1 ((Int.tmod carry (65536 : Int)) :: [])))) * 8) ≤ 140737488355328) then
      rec a b (d + (List.length (List.take 1 ((Int.tmod carry (65536 : Int)) :: [])))) (IntKind.wrap .i64 (Int.tdiv carry (65536 : Int))) (IntKind.wrap .i64 (i + (1 : Int))) ((List.take d ds) ++ (List.take 1 ((Int.tmod carry (65536 : Int)) :: [])))
    else
    none
  else
  none
def Lshuntref01_plus_0 (k n : Nat) : List Int → List Int → Nat → Int → Int → List Int → Option (Nat × List Int) := Nat.rec (fun _ _ _ _ _ _ => none) (fun _ r => Lshuntref01_plus_0s k r) n
def bshuntref01_plus (k : Nat) (a : List Int) (b : List Int) : Option (List Int) :=
  Option.bind (Lshuntref01_plus_0 k k a b 0 (0 : Int) (0 : Int) []) fun r12 =>
  Option.bind (Fshuntref01_trim_mfi k r12.1 r12.2) fun r13 =>
  if ((0 + r13.1) ≤ (List.length r13.2)) then
    (some (List.take r13.1 r13.2))
  else
  none
def Fshuntref01_plus : Nat → List Int → List Int → Option (List Int)
  | 0, _, _ => none
  | k + 1, a, b => bshuntref01_plus k a b
def shshuntref01_plus : FS := { vs := [.a (.lf (.sl (.int .i64))), .a (.lf (.sl (.int .i64)))], bs := [] }
def rsshuntref01_plus : List FS := [{ vs := [.a (.lf (.sl (.int .i64)))], bs := [] }]
def Ishuntref01_plus (k : Nat) : Inst := ⟨76, shshuntref01_plus, rsshuntref01_plus, fun x => Fshuntref01_plus k x.1 x.2⟩
theorem alshuntref01_plus (k : Nat) : AllI (call cf k) [Ishuntref01_trim_mfi k] := And.intro (okshuntref01_trim_mfi k) (True.intro)
def hsshuntref01_plus_0 : List SS := [{ fr := [(0, .a (.lf (.sl (.int .i64)))), (1, .a (.lf (.sl (.int .i64)))), (5, .a (.smz 0)), (6, .a (.lf (.int .i64))), (7, .a (.lf (.int .i64)))], mem := [(0, some (.arr (.int .i64) 1 3 false))], nx := 1 }]
def osshuntref01_plus_0 : List OS := [⟨some 0, { fr := [(5, .a (.smz 0))], mem := [(0, some (.arr (.int .i64) 1 3 false))], nx := 1 }⟩]
def LIshuntref01_plus_0 (k : Nat) : LInst := ⟨0, hsshuntref01_plus_0, osshuntref01_plus_0, fun x => Lshuntref01_plus_0 k k x.1 x.2.1 x.2.2.1 x.2.2.2.1 x.2.2.2.2.1 x.2.2.2.2.2⟩
theorem anshuntref01_plus_0 (k : Nat) : LAll (LOk (R := DS OS.D osshuntref01_plus_0) (fun b _ σ K => LOt Ty (kps 76) 0 b σ K []) cf (call cf k) (kps 76) Try.f76.ntmps k 0) 0 (lb Try.f76 0) :=
  And.intro (And.intro (True.intro) (And.intro (True.intro) (True.intro))) (And.intro (And.intro (True.intro) (And.intro (And.intro (True.intro) (And.intro (True.intro) (True.intro))) (And.intro (And.intro (True.intro) (And.intro (True.intro) (True.intro))) (And.intro (True.intro) (True.intro))))) (True.intro))
theorem stshuntref01_plus_0 (k n : Nat) (x : DS SS.D hsshuntref01_plus_0) : Lshuntref01_plus_0 k (n + 1) x.1 x.2.1 x.2.2.1 x.2.2.2.1 x.2.2.2.2.1 x.2.2.2.2.2 = encSK SS.enc (fun σ => run2 cf (fun f a b K => COt f a b K [Ishuntref01_trim_mfi k]) (fun b _ σ K => LOt Ty (kps 76) 0 b σ K []) Try.f76.ntmps 0 (lb Try.f76 0) σ (nextK Ty (kps 76 0) 0 hsshuntref01_plus_0 osshuntref01_plus_0 fun x => Lshuntref01_plus_0 k n x.1 x.2.1 x.2.2.1 x.2.2.2.1 x.2.2.2.2.1 x.2.2.2.2.2)) hsshuntref01_plus_0 x := by kernel_rfl
theorem loshuntref01_plus_0 (k : Nat) : LIOk cf (call cf k) (kps 76) Try.f76.ntmps k 0 0 (lb Try.f76 0) (LIshuntref01_plus_0 k) :=
  loop_ok (c := cf) (callF := call cf k) (kp := kps 76) (nt := Try.f76.ntmps) (k := k) (p := 0) (b := 0) (x0 := lb Try.f76 0) (hs := hsshuntref01_plus_0) (os := osshuntref01_plus_0) (COt_ok (alshuntref01_plus k)) (anshuntref01_plus_0 k) (fun n x => Lshuntref01_plus_0 k n x.1 x.2.1 x.2.2.1 x.2.2.2.1 x.2.2.2.2.1 x.2.2.2.2.2) (fun _ => rfl) (stshuntref01_plus_0 k)
theorem anshuntref01_plus (k : Nat) : LAll (LOk (R := DS FS.D rsshuntref01_plus) (fun b _ σ K => LOt Ty (kps 76) 0 b σ K [LIshuntref01_plus_0 k]) cf (call cf k) (cf.keep 76) Try.f76.ntmps k shshuntref01_plus.bs.length) 0 (bd Try.f76) :=
  And.intro (True.intro) (And.intro (True.intro) (And.intro (True.intro) (And.intro (And.intro (True.intro) (LOt_ok (c := cf) (callF := call cf k) (kp := kps 76) (nt := Try.f76.ntmps) (k := k) (p := 0) (b := 0) (x0 := lb Try.f76 0) (l := [LIshuntref01_plus_0 k]) (And.intro (fun _ => loshuntref01_plus_0 k) (True.intro)))) (And.intro (True.intro) (True.intro)))))
theorem stshuntref01_plus (k : Nat) (x : shshuntref01_plus.D) : Fshuntref01_plus (k + 1) x.1 x.2 = body2 cf (fun f a b K => COt f a b K [Ishuntref01_trim_mfi k]) (fun b _ σ K => LOt Ty (kps 76) 0 b σ K [LIshuntref01_plus_0 k]) 76 Try.f76.ntmps Try.f76.results.toList (bd Try.f76) (shshuntref01_plus.enc x).1 (shshuntref01_plus.enc x).2 (putS FS.dec rsshuntref01_plus) := by kernel_rfl
theorem okshuntref01_plus : ∀ k, InstOk (call cf k) (Ishuntref01_plus k)
  | 0 => fun x y e => absurd (show (none : Option _) = some y from e) (by simp)
  | k + 1 => inst_ok (c := cf) (k := k) (f := 76) (fn := Try.f76) (body := bd Try.f76) (sh := shshuntref01_plus) (os := rsshuntref01_plus) rfl Try.func76 rfl ⟨rfl, Nat.le_of_ble_eq_true rfl⟩ (COt_ok (alshuntref01_plus k)) (anshuntref01_plus k) (fun x => Fshuntref01_plus (k + 1) x.1 x.2) (stshuntref01_plus k)

/-! shunt/shuntref01.Plus -/
def bshuntref01_Plus (k : Nat) (a0 : Bool) (a1 : List Int) (b0 : Bool) (b1 : List Int) : Option (Bool × List Int) :=
  if ((a0 == b0) = true) then
    Option.bind (Fshuntref01_plus k a1 b1) fun r12 =>
    if (a0 = true) then
      (some ((decide ((((List.length r12) : Nat) : Int) > (0 : Int))), r12))
    else
    (some (false, r12))
  else
  Option.bind (Fshuntref01_mags k a1 b1) fun r12 =>
  if ((decide (r12 ≥ (0 : Int))) = true) then
    Option.bind (Fshuntref01_minus k a1 b1) fun r13 =>
    if (a0 = true) then
      (some ((decide ((((List.length r13) : Nat) : Int) > (0 : Int))), r13))
    else
    (some (false, r13))
  else
  Option.bind (Fshuntref01_minus k b1 a1) fun r13 =>
  (some (b0, r13))
def Fshuntref01_Plus : Nat → Bool → List Int → Bool → List Int → Option (Bool × List Int)
  | 0, _, _, _, _ => none
  | k + 1, a0, a1, b0, b1 => bshuntref01_Plus k a0 a1 b0 b1
def shshuntref01_Plus : FS := { vs := [.g [.lf .bool, .lf (.sl (.int .i64))], .g [.lf .bool, .lf (.sl (.int .i64))]], bs := [] }
def rsshuntref01_Plus : List FS := [{ vs := [.g [.lf .bool, .lf (.sl (.int .i64))]], bs := [] }]
def Ishuntref01_Plus (k : Nat) : Inst := ⟨45, shshuntref01_Plus, rsshuntref01_Plus, fun x => Fshuntref01_Plus k x.1 x.2.1 x.2.2.1 x.2.2.2⟩
theorem alshuntref01_Plus (k : Nat) : AllI (call cf k) [Ishuntref01_plus k, Ishuntref01_mags k, Ishuntref01_minus k] := And.intro (okshuntref01_plus k) (And.intro (okshuntref01_mags k) (And.intro (okshuntref01_minus k) (True.intro)))
theorem anshuntref01_Plus (k : Nat) : LAll (LOk (R := DS FS.D rsshuntref01_Plus) (fun b _ σ K => LOt Ty (kps 45) 0 b σ K []) cf (call cf k) (cf.keep 45) Try.f45.ntmps k shshuntref01_Plus.bs.length) 0 (bd Try.f45) :=
  And.intro (True.intro) (And.intro (And.intro (True.intro) (And.intro (And.intro (True.intro) (And.intro (True.intro) (True.intro))) (True.intro))) (And.intro (And.intro (True.intro) (And.intro (And.intro (True.intro) (And.intro (True.intro) (True.intro))) (True.intro))) (And.intro (True.intro) (True.intro))))
theorem stshuntref01_Plus (k : Nat) (x : shshuntref01_Plus.D) : Fshuntref01_Plus (k + 1) x.1 x.2.1 x.2.2.1 x.2.2.2 = body2 cf (fun f a b K => COt f a b K [Ishuntref01_plus k, Ishuntref01_mags k, Ishuntref01_minus k]) (fun b _ σ K => LOt Ty (kps 45) 0 b σ K []) 45 Try.f45.ntmps Try.f45.results.toList (bd Try.f45) (shshuntref01_Plus.enc x).1 (shshuntref01_Plus.enc x).2 (putS FS.dec rsshuntref01_Plus) := by kernel_rfl
theorem okshuntref01_Plus : ∀ k, InstOk (call cf k) (Ishuntref01_Plus k)
  | 0 => fun x y e => absurd (show (none : Option _) = some y from e) (by simp)
  | k + 1 => inst_ok (c := cf) (k := k) (f := 45) (fn := Try.f45) (body := bd Try.f45) (sh := shshuntref01_Plus) (os := rsshuntref01_Plus) rfl Try.func45 rfl ⟨rfl, Nat.le_of_ble_eq_true rfl⟩ (COt_ok (alshuntref01_Plus k)) (anshuntref01_Plus k) (fun x => Fshuntref01_Plus (k + 1) x.1 x.2.1 x.2.2.1 x.2.2.2) (stshuntref01_Plus k)

/-! shunt/shuntref01.Length -/
def bshuntref01_Length (k : Nat) (a0 : Bool) (a1 : List Int) : Option (Int) :=
  (some (IntKind.wrap .i64 (Int.tdiv (IntKind.wrap .i64 ((((List.length a1) : Nat) : Int) + (1 : Int))) (2 : Int))))
def Fshuntref01_Length : Nat → Bool → List Int → Option (Int)
  | 0, _, _ => none
  | k + 1, a0, a1 => bshuntref01_Length k a0 a1
def shshuntref01_Length : FS := { vs := [.g [.lf .bool, .lf (.sl (.int .i64))]], bs := [] }
def rsshuntref01_Length : List FS := [{ vs := [.a (.lf (.int .i64))], bs := [] }]
def Ishuntref01_Length (k : Nat) : Inst := ⟨75, shshuntref01_Length, rsshuntref01_Length, fun x => Fshuntref01_Length k x.1 x.2⟩
theorem alshuntref01_Length (k : Nat) : AllI (call cf k) [] := True.intro
theorem anshuntref01_Length (k : Nat) : LAll (LOk (R := DS FS.D rsshuntref01_Length) (fun b _ σ K => LOt Ty (kps 75) 0 b σ K []) cf (call cf k) (cf.keep 75) Try.f75.ntmps k shshuntref01_Length.bs.length) 0 (bd Try.f75) :=
  And.intro (True.intro) (And.intro (True.intro) (True.intro))
theorem stshuntref01_Length (k : Nat) (x : shshuntref01_Length.D) : Fshuntref01_Length (k + 1) x.1 x.2 = body2 cf (fun f a b K => COt f a b K []) (fun b _ σ K => LOt Ty (kps 75) 0 b σ K []) 75 Try.f75.ntmps Try.f75.results.toList (bd Try.f75) (shshuntref01_Length.enc x).1 (shshuntref01_Length.enc x).2 (putS FS.dec rsshuntref01_Length) := by kernel_rfl
theorem okshuntref01_Length : ∀ k, InstOk (call cf k) (Ishuntref01_Length k)
  | 0 => fun x y e => absurd (show (none : Option _) = some y from e) (by simp)
  | k + 1 => inst_ok (c := cf) (k := k) (f := 75) (fn := Try.f75) (body := bd Try.f75) (sh := shshuntref01_Length) (os := rsshuntref01_Length) rfl Try.func75 rfl ⟨rfl, Nat.le_of_ble_eq_true rfl⟩ (COt_ok (alshuntref01_Length k)) (anshuntref01_Length k) (fun x => Fshuntref01_Length (k + 1) x.1 x.2) (stshuntref01_Length k)

/-! shunt/shuntref01.told -/
def bshuntref01_told (k : Nat) (a0 : Bool) (a1 : List Int) : Option (Bool × List Int × Int) :=
  Option.bind (Fshuntref01_Length k a0 a1) fun r13 =>
  if ((decide (r13 > (72 : Int))) = true) then
    (some (false, [], (13 : Int)))
  else
  Option.bind (Fshuntref01_Give k a0 a1) fun r14 =>
  (some (r14.1, r14.2, (0 : Int)))
def Fshuntref01_told : Nat → Bool → List Int → Option (Bool × List Int × Int)
  | 0, _, _ => none
  | k + 1, a0, a1 => bshuntref01_told k a0 a1
def shshuntref01_told : FS := { vs := [.g [.lf .bool, .lf (.sl (.int .i64))]], bs := [] }
def rsshuntref01_told : List FS := [{ vs := [.g [.lf .bool, .lf (.sl (.int .u32))], .a (.lf (.int .i64))], bs := [] }]
def Ishuntref01_told (k : Nat) : Inst := ⟨44, shshuntref01_told, rsshuntref01_told, fun x => Fshuntref01_told k x.1 x.2⟩
theorem alshuntref01_told (k : Nat) : AllI (call cf k) [Ishuntref01_Length k, Ishuntref01_Give k] := And.intro (okshuntref01_Length k) (And.intro (okshuntref01_Give k) (True.intro))
theorem anshuntref01_told (k : Nat) : LAll (LOk (R := DS FS.D rsshuntref01_told) (fun b _ σ K => LOt Ty (kps 44) 0 b σ K []) cf (call cf k) (cf.keep 44) Try.f44.ntmps k shshuntref01_told.bs.length) 0 (bd Try.f44) :=
  And.intro (True.intro) (And.intro (And.intro (True.intro) (And.intro (And.intro (True.intro) (True.intro)) (True.intro))) (And.intro (True.intro) (True.intro)))
theorem stshuntref01_told (k : Nat) (x : shshuntref01_told.D) : Fshuntref01_told (k + 1) x.1 x.2 = body2 cf (fun f a b K => COt f a b K [Ishuntref01_Length k, Ishuntref01_Give k]) (fun b _ σ K => LOt Ty (kps 44) 0 b σ K []) 44 Try.f44.ntmps Try.f44.results.toList (bd Try.f44) (shshuntref01_told.enc x).1 (shshuntref01_told.enc x).2 (putS FS.dec rsshuntref01_told) := by kernel_rfl
theorem okshuntref01_told : ∀ k, InstOk (call cf k) (Ishuntref01_told k)
  | 0 => fun x y e => absurd (show (none : Option _) = some y from e) (by simp)
  | k + 1 => inst_ok (c := cf) (k := k) (f := 44) (fn := Try.f44) (body := bd Try.f44) (sh := shshuntref01_told) (os := rsshuntref01_told) rfl Try.func44 rfl ⟨rfl, Nat.le_of_ble_eq_true rfl⟩ (COt_ok (alshuntref01_told k)) (anshuntref01_told k) (fun x => Fshuntref01_told (k + 1) x.1 x.2) (stshuntref01_told k)

/-! shunt/shuntref01.Minus -/
def bshuntref01_Minus (k : Nat) (a0 : Bool) (a1 : List Int) : Option (Bool × List Int) :=
  if (((((List.length a1) : Nat) : Int) == (0 : Int)) = true) then
    (some (false, []))
  else
  (some ((!a0), a1))
def Fshuntref01_Minus : Nat → Bool → List Int → Option (Bool × List Int)
  | 0, _, _ => none
  | k + 1, a0, a1 => bshuntref01_Minus k a0 a1
def shshuntref01_Minus : FS := { vs := [.g [.lf .bool, .lf (.sl (.int .i64))]], bs := [] }
def rsshuntref01_Minus : List FS := [{ vs := [.g [.lf .bool, .lf (.sl (.int .i64))]], bs := [] }]
def Ishuntref01_Minus (k : Nat) : Inst := ⟨78, shshuntref01_Minus, rsshuntref01_Minus, fun x => Fshuntref01_Minus k x.1 x.2⟩
theorem alshuntref01_Minus (k : Nat) : AllI (call cf k) [] := True.intro
theorem anshuntref01_Minus (k : Nat) : LAll (LOk (R := DS FS.D rsshuntref01_Minus) (fun b _ σ K => LOt Ty (kps 78) 0 b σ K []) cf (call cf k) (cf.keep 78) Try.f78.ntmps k shshuntref01_Minus.bs.length) 0 (bd Try.f78) :=
  And.intro (True.intro) (And.intro (And.intro (True.intro) (And.intro (And.intro (True.intro) (True.intro)) (True.intro))) (And.intro (True.intro) (True.intro)))
theorem stshuntref01_Minus (k : Nat) (x : shshuntref01_Minus.D) : Fshuntref01_Minus (k + 1) x.1 x.2 = body2 cf (fun f a b K => COt f a b K []) (fun b _ σ K => LOt Ty (kps 78) 0 b σ K []) 78 Try.f78.ntmps Try.f78.results.toList (bd Try.f78) (shshuntref01_Minus.enc x).1 (shshuntref01_Minus.enc x).2 (putS FS.dec rsshuntref01_Minus) := by kernel_rfl
theorem okshuntref01_Minus : ∀ k, InstOk (call cf k) (Ishuntref01_Minus k)
  | 0 => fun x y e => absurd (show (none : Option _) = some y from e) (by simp)
  | k + 1 => inst_ok (c := cf) (k := k) (f := 78) (fn := Try.f78) (body := bd Try.f78) (sh := shshuntref01_Minus) (os := rsshuntref01_Minus) rfl Try.func78 rfl ⟨rfl, Nat.le_of_ble_eq_true rfl⟩ (COt_ok (alshuntref01_Minus k)) (anshuntref01_Minus k) (fun x => Fshuntref01_Minus (k + 1) x.1 x.2) (stshuntref01_Minus k)

/-! shunt/shuntref01.Less -/
def bshuntref01_Less (k : Nat) (a0 : Bool) (a1 : List Int) (b0 : Bool) (b1 : List Int) : Option (Bool × List Int) :=
  Option.bind (Fshuntref01_Minus k b0 b1) fun r12 =>
  Option.bind (Fshuntref01_Plus k a0 a1 r12.1 r12.2) fun r13 =>
  (some (r13.1, r13.2))
def Fshuntref01_Less : Nat → Bool → List Int → Bool → List Int → Option (Bool × List Int)
  | 0, _, _, _, _ => none
  | k + 1, a0, a1, b0, b1 => bshuntref01_Less k a0 a1 b0 b1
def shshuntref01_Less : FS := { vs := [.g [.lf .bool, .lf (.sl (.int .i64))], .g [.lf .bool, .lf (.sl (.int .i64))]], bs := [] }
def rsshuntref01_Less : List FS := [{ vs := [.g [.lf .bool, .lf (.sl (.int .i64))]], bs := [] }]
def Ishuntref01_Less (k : Nat) : Inst := ⟨46, shshuntref01_Less, rsshuntref01_Less, fun x => Fshuntref01_Less k x.1 x.2.1 x.2.2.1 x.2.2.2⟩
theorem alshuntref01_Less (k : Nat) : AllI (call cf k) [Ishuntref01_Minus k, Ishuntref01_Plus k] := And.intro (okshuntref01_Minus k) (And.intro (okshuntref01_Plus k) (True.intro))
theorem anshuntref01_Less (k : Nat) : LAll (LOk (R := DS FS.D rsshuntref01_Less) (fun b _ σ K => LOt Ty (kps 46) 0 b σ K []) cf (call cf k) (cf.keep 46) Try.f46.ntmps k shshuntref01_Less.bs.length) 0 (bd Try.f46) :=
  And.intro (True.intro) (And.intro (True.intro) (True.intro))
theorem stshuntref01_Less (k : Nat) (x : shshuntref01_Less.D) : Fshuntref01_Less (k + 1) x.1 x.2.1 x.2.2.1 x.2.2.2 = body2 cf (fun f a b K => COt f a b K [Ishuntref01_Minus k, Ishuntref01_Plus k]) (fun b _ σ K => LOt Ty (kps 46) 0 b σ K []) 46 Try.f46.ntmps Try.f46.results.toList (bd Try.f46) (shshuntref01_Less.enc x).1 (shshuntref01_Less.enc x).2 (putS FS.dec rsshuntref01_Less) := by kernel_rfl
theorem okshuntref01_Less : ∀ k, InstOk (call cf k) (Ishuntref01_Less k)
  | 0 => fun x y e => absurd (show (none : Option _) = some y from e) (by simp)
  | k + 1 => inst_ok (c := cf) (k := k) (f := 46) (fn := Try.f46) (body := bd Try.f46) (sh := shshuntref01_Less) (os := rsshuntref01_Less) rfl Try.func46 rfl ⟨rfl, Nat.le_of_ble_eq_true rfl⟩ (COt_ok (alshuntref01_Less k)) (anshuntref01_Less k) (fun x => Fshuntref01_Less (k + 1) x.1 x.2.1 x.2.2.1 x.2.2.2) (stshuntref01_Less k)

/-! shunt/shuntref01.Abs -/
def bshuntref01_Abs (k : Nat) (a0 : Bool) (a1 : List Int) : Option (Bool × List Int) :=
  (some (false, a1))
def Fshuntref01_Abs : Nat → Bool → List Int → Option (Bool × List Int)
  | 0, _, _ => none
  | k + 1, a0, a1 => bshuntref01_Abs k a0 a1
def shshuntref01_Abs : FS := { vs := [.g [.lf .bool, .lf (.sl (.int .i64))]], bs := [] }
def rsshuntref01_Abs : List FS := [{ vs := [.g [.lf .bool, .lf (.sl (.int .i64))]], bs := [] }]
def Ishuntref01_Abs (k : Nat) : Inst := ⟨79, shshuntref01_Abs, rsshuntref01_Abs, fun x => Fshuntref01_Abs k x.1 x.2⟩
theorem alshuntref01_Abs (k : Nat) : AllI (call cf k) [] := True.intro
theorem anshuntref01_Abs (k : Nat) : LAll (LOk (R := DS FS.D rsshuntref01_Abs) (fun b _ σ K => LOt Ty (kps 79) 0 b σ K []) cf (call cf k) (cf.keep 79) Try.f79.ntmps k shshuntref01_Abs.bs.length) 0 (bd Try.f79) :=
  And.intro (True.intro) (And.intro (True.intro) (True.intro))
theorem stshuntref01_Abs (k : Nat) (x : shshuntref01_Abs.D) : Fshuntref01_Abs (k + 1) x.1 x.2 = body2 cf (fun f a b K => COt f a b K []) (fun b _ σ K => LOt Ty (kps 79) 0 b σ K []) 79 Try.f79.ntmps Try.f79.results.toList (bd Try.f79) (shshuntref01_Abs.enc x).1 (shshuntref01_Abs.enc x).2 (putS FS.dec rsshuntref01_Abs) := by kernel_rfl
theorem okshuntref01_Abs : ∀ k, InstOk (call cf k) (Ishuntref01_Abs k)
  | 0 => fun x y e => absurd (show (none : Option _) = some y from e) (by simp)
  | k + 1 => inst_ok (c := cf) (k := k) (f := 79) (fn := Try.f79) (body := bd Try.f79) (sh := shshuntref01_Abs) (os := rsshuntref01_Abs) rfl Try.func79 rfl ⟨rfl, Nat.le_of_ble_eq_true rfl⟩ (COt_ok (alshuntref01_Abs k)) (anshuntref01_Abs k) (fun x => Fshuntref01_Abs (k + 1) x.1 x.2) (stshuntref01_Abs k)

/-! shunt/shuntref01.Common -/
def Lshuntref01_Common_0s (k : Nat) (rec : Bool → List Int → Bool → List Int → Bool → Nat → List Int → Option (Bool × List Int × Bool × List Int × Bool × Nat × List Int)) (a0 : Bool) (a1 : List Int) (b0 : Bool) (b1 : List Int) (x0 : Bool) (x1 : Nat) (m : List Int) : Option (Bool × List Int × Bool × List Int × Bool × Nat × List Int) :=
  if ((decide ((((List.length b1) : Nat) : Int) > (0 : Int))) = true) then
    Option.bind (Fshuntref01_Divide k a0 a1 b0 b1) fun r14 =>
    rec b0 b1 r14.2.2.1 r14.2.2.2 x0 x1 m
  else
  (some (a0, a1, b0, b1, x0, x1, m))
def Lshuntref01_Common_0 (k n : Nat) : Bool → List Int → Bool → List Int → Bool → Nat → List Int → Option (Bool × List Int × Bool × List Int × Bool × Nat × List Int) := Nat.rec (fun _ _ _ _ _ _ _ => none) (fun _ r => Lshuntref01_Common_0s k r) n
def bshuntref01_Common (k : Nat) (a0 : Bool) (a1 : List Int) (b0 : Bool) (b1 : List Int) : Option (Bool × List Int) :=
  Option.bind (Fshuntref01_Abs k a0 a1) fun r12 =>
  Option.bind (Fshuntref01_Abs k b0 b1) fun r13 =>
  Option.bind (Lshuntref01_Common_0 k k r12.1 r12.2 r13.1 r13.2 false 0 []) fun r14 =>
  (some (r14.1, r14.2.1))
def Fshuntref01_Common : Nat → Bool → List Int → Bool → List Int → Option (Bool × List Int)
  | 0, _, _, _, _ => none
  | k + 1, a0, a1, b0, b1 => bshuntref01_Common k a0 a1 b0 b1
def shshuntref01_Common : FS := { vs := [.g [.lf .bool, .lf (.sl (.int .i64))], .g [.lf .bool, .lf (.sl (.int .i64))]], bs := [] }
def rsshuntref01_Common : List FS := [{ vs := [.g [.lf .bool, .lf (.sl (.int .i64))]], bs := [] }]
def Ishuntref01_Common (k : Nat) : Inst := ⟨48, shshuntref01_Common, rsshuntref01_Common, fun x => Fshuntref01_Common k x.1 x.2.1 x.2.2.1 x.2.2.2⟩
theorem alshuntref01_Common (k : Nat) : AllI (call cf k) [Ishuntref01_Abs k, Ishuntref01_Divide k] := And.intro (okshuntref01_Abs k) (And.intro (okshuntref01_Divide k) (True.intro))
def hsshuntref01_Common_0 : List SS := [{ fr := [(2, .a (.ptr 0 0 0)), (3, .a (.ptr 1 0 0)), (4, .a (.ptr 2 0 0))], mem := [(0, some (.raw [[.lf .bool, .lf (.sl (.int .i64))]] 2 50 true false)), (1, some (.raw [[.lf .bool, .lf (.sl (.int .i64))]] 2 50 true false)), (2, some (.raw [[.lf .bool, .smz 3]] 2 50 false false)), (3, some (.arr (.int .i64) 1 3 false))], nx := 4 }]
def osshuntref01_Common_0 : List OS := [⟨some 0, { fr := [(2, .a (.ptr 0 0 0)), (4, .a (.ptr 2 0 0))], mem := [(0, some (.raw [[.lf .bool, .lf (.sl (.int .i64))]] 2 50 true false)), (1, some (.raw [[.lf .bool, .lf (.sl (.int .i64))]] 2 50 true false)), (2, some (.raw [[.lf .bool, .smz 3]] 2 50 false false)), (3, some (.arr (.int .i64) 1 3 false))], nx := 4 }⟩]
def LIshuntref01_Common_0 (k : Nat) : LInst := ⟨0, hsshuntref01_Common_0, osshuntref01_Common_0, fun x => Lshuntref01_Common_0 k k x.1 x.2.1 x.2.2.1 x.2.2.2.1 x.2.2.2.2.1 x.2.2.2.2.2.1 x.2.2.2.2.2.2⟩
theorem anshuntref01_Common_0 (k : Nat) : LAll (LOk (R := DS OS.D osshuntref01_Common_0) (fun b _ σ K => LOt Ty (kps 48) 0 b σ K []) cf (call cf k) (kps 48) Try.f48.ntmps k 0) 0 (lb Try.f48 0) :=
  And.intro (And.intro (True.intro) (And.intro (True.intro) (True.intro))) (And.intro (True.intro) (True.intro))
theorem stshuntref01_Common_0 (k n : Nat) (x : DS SS.D hsshuntref01_Common_0) : Lshuntref01_Common_0 k (n + 1) x.1 x.2.1 x.2.2.1 x.2.2.2.1 x.2.2.2.2.1 x.2.2.2.2.2.1 x.2.2.2.2.2.2 = encSK SS.enc (fun σ => run2 cf (fun f a b K => COt f a b K [Ishuntref01_Abs k, Ishuntref01_Divide k]) (fun b _ σ K => LOt Ty (kps 48) 0 b σ K []) Try.f48.ntmps 0 (lb Try.f48 0) σ (nextK Ty (kps 48 0) 0 hsshuntref01_Common_0 osshuntref01_Common_0 fun x => Lshuntref01_Common_0 k n x.1 x.2.1 x.2.2.1 x.2.2.2.1 x.2.2.2.2.1 x.2.2.2.2.2.1 x.2.2.2.2.2.2)) hsshuntref01_Common_0 x := by kernel_rfl
theorem loshuntref01_Common_0 (k : Nat) : LIOk cf (call cf k) (kps 48) Try.f48.ntmps k 0 0 (lb Try.f48 0) (LIshuntref01_Common_0 k) :=
  loop_ok (c := cf) (callF := call cf k) (kp := kps 48) (nt := Try.f48.ntmps) (k := k) (p := 0) (b := 0) (x0 := lb Try.f48 0) (hs := hsshuntref01_Common_0) (os := osshuntref01_Common_0) (COt_ok (alshuntref01_Common k)) (anshuntref01_Common_0 k) (fun n x => Lshuntref01_Common_0 k n x.1 x.2.1 x.2.2.1 x.2.2.2.1 x.2.2.2.2.1 x.2.2.2.2.2.1 x.2.2.2.2.2.2) (fun _ => rfl) (stshuntref01_Common_0 k)
theorem anshuntref01_Common (k : Nat) : LAll (LOk (R := DS FS.D rsshuntref01_Common) (fun b _ σ K => LOt Ty (kps 48) 0 b σ K [LIshuntref01_Common_0 k]) cf (call cf k) (cf.keep 48) Try.f48.ntmps k shshuntref01_Common.bs.length) 0 (bd Try.f48) :=
  And.intro (True.intro) (And.intro (True.intro) (And.intro (LOt_ok (c := cf) (callF := call cf k) (kp := kps 48) (nt := Try.f48.ntmps) (k := k) (p := 0) (b := 0) (x0 := lb Try.f48 0) (l := [LIshuntref01_Common_0 k]) (And.intro (fun _ => loshuntref01_Common_0 k) (True.intro))) (And.intro (True.intro) (True.intro))))
theorem stshuntref01_Common (k : Nat) (x : shshuntref01_Common.D) : Fshuntref01_Common (k + 1) x.1 x.2.1 x.2.2.1 x.2.2.2 = body2 cf (fun f a b K => COt f a b K [Ishuntref01_Abs k, Ishuntref01_Divide k]) (fun b _ σ K => LOt Ty (kps 48) 0 b σ K [LIshuntref01_Common_0 k]) 48 Try.f48.ntmps Try.f48.results.toList (bd Try.f48) (shshuntref01_Common.enc x).1 (shshuntref01_Common.enc x).2 (putS FS.dec rsshuntref01_Common) := by kernel_rfl
theorem okshuntref01_Common : ∀ k, InstOk (call cf k) (Ishuntref01_Common k)
  | 0 => fun x y e => absurd (show (none : Option _) = some y from e) (by simp)
  | k + 1 => inst_ok (c := cf) (k := k) (f := 48) (fn := Try.f48) (body := bd Try.f48) (sh := shshuntref01_Common) (os := rsshuntref01_Common) rfl Try.func48 rfl ⟨rfl, Nat.le_of_ble_eq_true rfl⟩ (COt_ok (alshuntref01_Common k)) (anshuntref01_Common k) (fun x => Fshuntref01_Common (k + 1) x.1 x.2.1 x.2.2.1 x.2.2.2) (stshuntref01_Common k)

/-! shunt/shuntref01.Sign -/
def bshuntref01_Sign (k : Nat) (a0 : Bool) (a1 : List Int) : Option (Int) :=
  if (((((List.length a1) : Nat) : Int) == (0 : Int)) = true) then
    (some (0 : Int))
  else
  if (a0 = true) then
    (some (-(1 : Int)))
  else
  (some (1 : Int))
def Fshuntref01_Sign : Nat → Bool → List Int → Option (Int)
  | 0, _, _ => none
  | k + 1, a0, a1 => bshuntref01_Sign k a0 a1
def shshuntref01_Sign : FS := { vs := [.g [.lf .bool, .lf (.sl (.int .i64))]], bs := [] }
def rsshuntref01_Sign : List FS := [{ vs := [.a (.lf (.int .i64))], bs := [] }]
def Ishuntref01_Sign (k : Nat) : Inst := ⟨49, shshuntref01_Sign, rsshuntref01_Sign, fun x => Fshuntref01_Sign k x.1 x.2⟩
theorem alshuntref01_Sign (k : Nat) : AllI (call cf k) [] := True.intro
theorem anshuntref01_Sign (k : Nat) : LAll (LOk (R := DS FS.D rsshuntref01_Sign) (fun b _ σ K => LOt Ty (kps 49) 0 b σ K []) cf (call cf k) (cf.keep 49) Try.f49.ntmps k shshuntref01_Sign.bs.length) 0 (bd Try.f49) :=
  And.intro (True.intro) (And.intro (And.intro (True.intro) (And.intro (And.intro (True.intro) (True.intro)) (True.intro))) (And.intro (And.intro (True.intro) (And.intro (And.intro (True.intro) (True.intro)) (True.intro))) (And.intro (True.intro) (True.intro))))
theorem stshuntref01_Sign (k : Nat) (x : shshuntref01_Sign.D) : Fshuntref01_Sign (k + 1) x.1 x.2 = body2 cf (fun f a b K => COt f a b K []) (fun b _ σ K => LOt Ty (kps 49) 0 b σ K []) 49 Try.f49.ntmps Try.f49.results.toList (bd Try.f49) (shshuntref01_Sign.enc x).1 (shshuntref01_Sign.enc x).2 (putS FS.dec rsshuntref01_Sign) := by kernel_rfl
theorem okshuntref01_Sign : ∀ k, InstOk (call cf k) (Ishuntref01_Sign k)
  | 0 => fun x y e => absurd (show (none : Option _) = some y from e) (by simp)
  | k + 1 => inst_ok (c := cf) (k := k) (f := 49) (fn := Try.f49) (body := bd Try.f49) (sh := shshuntref01_Sign) (os := rsshuntref01_Sign) rfl Try.func49 rfl ⟨rfl, Nat.le_of_ble_eq_true rfl⟩ (COt_ok (alshuntref01_Sign k)) (anshuntref01_Sign k) (fun x => Fshuntref01_Sign (k + 1) x.1 x.2) (stshuntref01_Sign k)

/-! shunt/shuntref01.Two -/
def bshuntref01_Two (k : Nat) (op : Int) (a0 : Bool) (a1 : List Int) (b0 : Bool) (b1 : List Int) : Option (Bool × List Int × Int) :=
  Option.bind (Fshuntref01_Right k a0 a1) fun r8 =>
  if ((!r8) = false) then
    Option.bind (Fshuntref01_Right k b0 b1) fun r9 =>
    if ((!r9) = true) then
      (some (false, [], (10 : Int)))
    else
    Option.bind (Fshuntref01_Take k a0 a1) fun r10 =>
    Option.bind (Fshuntref01_Take k b0 b1) fun r11 =>
    if ((op == (43 : Int)) = true) then
      Option.bind (Fshuntref01_Plus k r10.1 r10.2 r11.1 r11.2) fun r12 =>
      Option.bind (Fshuntref01_told k r12.1 r12.2) fun r13 =>
      (some (r13.1, r13.2.1, r13.2.2))
    else
    if ((op == (45 : Int)) = true) then
      Option.bind (Fshuntref01_Less k r10.1 r10.2 r11.1 r11.2) fun r12 =>
      Option.bind (Fshuntref01_told k r12.1 r12.2) fun r13 =>
      (some (r13.1, r13.2.1, r13.2.2))
    else
    if ((op == (42 : Int)) = true) then
      Option.bind (Fshuntref01_Times k r10.1 r10.2 r11.1 r11.2) fun r12 =>
      Option.bind (Fshuntref01_told k r12.1 r12.2) fun r13 =>
      (some (r13.1, r13.2.1, r13.2.2))
    else
    if ((op == (103 : Int)) = true) then
      Option.bind (Fshuntref01_Common k r10.1 r10.2 r11.1 r11.2) fun r12 =>
      Option.bind (Fshuntref01_told k r12.1 r12.2) fun r13 =>
      (some (r13.1, r13.2.1, r13.2.2))
    else
    Option.bind (Fshuntref01_Sign k r11.1 r11.2) fun r12 =>
    if ((r12 == (0 : Int)) = true) then
      (some (false, [], (11 : Int)))
    else
    Option.bind (Fshuntref01_Divide k r10.1 r10.2 r11.1 r11.2) fun r13 =>
    Option.bind (Fshuntref01_Sign k r13.2.2.1 r13.2.2.2) fun r14 =>
    if ((r14 != (0 : Int)) = true) then
      (some (false, [], (12 : Int)))
    else
    Option.bind (Fshuntref01_told k r13.1 r13.2.1) fun r15 =>
    (some (r15.1, r15.2.1, r15.2.2))
  else
  (some (false, [], (10 : Int)))
def Fshuntref01_Two : Nat → Int → Bool → List Int → Bool → List Int → Option (Bool × List Int × Int)
  | 0, _, _, _, _, _ => none
  | k + 1, op, a0, a1, b0, b1 => bshuntref01_Two k op a0 a1 b0 b1
def shshuntref01_Two : FS := { vs := [.a (.lf (.int .u8)), .g [.lf .bool, .lf (.sl (.int .u32))], .g [.lf .bool, .lf (.sl (.int .u32))]], bs := [] }
def rsshuntref01_Two : List FS := [{ vs := [.g [.lf .bool, .lf (.sl (.int .u32))], .a (.lf (.int .i64))], bs := [] }]
def Ishuntref01_Two (k : Nat) : Inst := ⟨17, shshuntref01_Two, rsshuntref01_Two, fun x => Fshuntref01_Two k x.1 x.2.1 x.2.2.1 x.2.2.2.1 x.2.2.2.2⟩
theorem alshuntref01_Two (k : Nat) : AllI (call cf k) [Ishuntref01_Right k, Ishuntref01_Take k, Ishuntref01_Plus k, Ishuntref01_told k, Ishuntref01_Less k, Ishuntref01_Times k, Ishuntref01_Common k, Ishuntref01_Sign k, Ishuntref01_Divide k] := And.intro (okshuntref01_Right k) (And.intro (okshuntref01_Take k) (And.intro (okshuntref01_Plus k) (And.intro (okshuntref01_told k) (And.intro (okshuntref01_Less k) (And.intro (okshuntref01_Times k) (And.intro (okshuntref01_Common k) (And.intro (okshuntref01_Sign k) (And.intro (okshuntref01_Divide k) (True.intro)))))))))
theorem anshuntref01_Two (k : Nat) : LAll (LOk (R := DS FS.D rsshuntref01_Two) (fun b _ σ K => LOt Ty (kps 17) 0 b σ K []) cf (call cf k) (cf.keep 17) Try.f17.ntmps k shshuntref01_Two.bs.length) 0 (bd Try.f17) :=
  And.intro (True.intro) (And.intro (And.intro (True.intro) (And.intro (And.intro (True.intro) (True.intro)) (True.intro))) (And.intro (True.intro) (And.intro (And.intro (True.intro) (And.intro (True.intro) (And.intro (And.intro (True.intro) (True.intro)) (And.intro (True.intro) (And.intro (And.intro (True.intro) (True.intro)) (And.intro (True.intro) (And.intro (And.intro (True.intro) (True.intro)) (And.intro (True.intro) (And.intro (And.intro (True.intro) (True.intro)) (True.intro)))))))))) (And.intro (And.intro (True.intro) (And.intro (And.intro (True.intro) (True.intro)) (True.intro))) (And.intro (True.intro) (And.intro (And.intro (True.intro) (And.intro (And.intro (True.intro) (True.intro)) (True.intro))) (And.intro (True.intro) (True.intro))))))))
theorem stshuntref01_Two (k : Nat) (x : shshuntref01_Two.D) : Fshuntref01_Two (k + 1) x.1 x.2.1 x.2.2.1 x.2.2.2.1 x.2.2.2.2 = body2 cf (fun f a b K => COt f a b K [Ishuntref01_Right k, Ishuntref01_Take k, Ishuntref01_Plus k, Ishuntref01_told k, Ishuntref01_Less k, Ishuntref01_Times k, Ishuntref01_Common k, Ishuntref01_Sign k, Ishuntref01_Divide k]) (fun b _ σ K => LOt Ty (kps 17) 0 b σ K []) 17 Try.f17.ntmps Try.f17.results.toList (bd Try.f17) (shshuntref01_Two.enc x).1 (shshuntref01_Two.enc x).2 (putS FS.dec rsshuntref01_Two) := by kernel_rfl
theorem okshuntref01_Two : ∀ k, InstOk (call cf k) (Ishuntref01_Two k)
  | 0 => fun x y e => absurd (show (none : Option _) = some y from e) (by simp)
  | k + 1 => inst_ok (c := cf) (k := k) (f := 17) (fn := Try.f17) (body := bd Try.f17) (sh := shshuntref01_Two) (os := rsshuntref01_Two) rfl Try.func17 rfl ⟨rfl, Nat.le_of_ble_eq_true rfl⟩ (COt_ok (alshuntref01_Two k)) (anshuntref01_Two k) (fun x => Fshuntref01_Two (k + 1) x.1 x.2.1 x.2.2.1 x.2.2.2.1 x.2.2.2.2) (stshuntref01_Two k)

/-! shunt/big.Gcd -/
def Lbig_Gcd_ddu_0s (k : Nat) (rec : List Int → List Int → Bool → List Int → Bool → List Int → Option (List Int × Bool × List Int × Bool × List Int)) (a : List Int) (b : List Int) (m0 : Bool) (m1 : List Int) (m01 : Bool) (m11 : List Int) : Option (List Int × Bool × List Int × Bool × List Int) :=
  if ((decide ((((List.length b) : Nat) : Int) > (0 : Int))) = true) then
    Option.bind (Fbig_divide k a b) fun r12 =>
    if (((0 + (List.length r12.2)) * 4) ≤ 140737488355328) then
      if ((0 + (0 + (List.length r12.2))) ≤ (List.length ((List.take 0 []) ++ r12.2))) then
        Option.bind (Fbig_trim k (List.take (0 + (List.length r12.2)) ((List.take 0 []) ++ r12.2))) fun r13 =>
        rec b r13 m0 m1 m01 m11
      else
      none
    else
    none
  else
  (some (a, m0, m1, m01, m11))
def Lbig_Gcd_ddu_0 (k n : Nat) : List Int → List Int → Bool → List Int → Bool → List Int → Option (List Int × Bool × List Int × Bool × List Int) := Nat.rec (fun _ _ _ _ _ _ => none) (fun _ r => Lbig_Gcd_ddu_0s k r) n
def bbig_Gcd_ddu (k : Nat) (x0 : Bool) (x1 : List Int) (y0 : Bool) (y1 : List Int) : Option (Bool × List Int × Bool × List Int × Bool × List Int) :=
  Option.bind (Lbig_Gcd_ddu_0 k k x1 y1 x0 x1 y0 y1) fun r12 =>
  Option.bind (Fbig_Int_set_cvg k false r12.1 false) fun r13 =>
  (some (r12.2.1, r12.2.2.1, r12.2.2.2.1, r12.2.2.2.2, r13.1, r13.2))
def Fbig_Gcd_ddu : Nat → Bool → List Int → Bool → List Int → Option (Bool × List Int × Bool × List Int × Bool × List Int)
  | 0, _, _, _, _ => none
  | k + 1, x0, x1, y0, y1 => bbig_Gcd_ddu k x0 x1 y0 y1
def shbig_Gcd_ddu : FS := { vs := [.a (.ptr 0 0 0), .a (.ptr 1 0 0)], bs := [.raw [[.lf .bool, .lf (.sl (.int .u32))]] 2 69 true false, .raw [[.lf .bool, .lf (.sl (.int .u32))]] 2 69 true false] }
def rsbig_Gcd_ddu : List FS := [{ vs := [.a (.ptr 2 0 0)], bs := [.raw [[.lf .bool, .lf (.sl (.int .u32))]] 2 69 true false, .raw [[.lf .bool, .lf (.sl (.int .u32))]] 2 69 true false, .raw [[.lf .bool, .lf (.sl (.int .u32))]] 2 69 true false] }]
def Ibig_Gcd_ddu (k : Nat) : Inst := ⟨50, shbig_Gcd_ddu, rsbig_Gcd_ddu, fun x => Fbig_Gcd_ddu k x.1 x.2.1 x.2.2.1 x.2.2.2⟩
theorem albig_Gcd_ddu (k : Nat) : AllI (call cf k) [Ibig_divide k, Ibig_trim k, Ibig_Int_set_cvg k] := And.intro (okbig_divide k) (And.intro (okbig_trim k) (And.intro (okbig_Int_set_cvg k) (True.intro)))
def hsbig_Gcd_ddu_0 : List SS := [{ fr := [(5, .a (.lf (.sl (.int .u32)))), (6, .a (.lf (.sl (.int .u32))))], mem := [(0, some (.raw [[.lf .bool, .lf (.sl (.int .u32))]] 2 69 true false)), (1, some (.raw [[.lf .bool, .lf (.sl (.int .u32))]] 2 69 true false))], nx := 2 }]
def osbig_Gcd_ddu_0 : List OS := [⟨some 0, { fr := [(5, .a (.lf (.sl (.int .u32))))], mem := [(0, some (.raw [[.lf .bool, .lf (.sl (.int .u32))]] 2 69 true false)), (1, some (.raw [[.lf .bool, .lf (.sl (.int .u32))]] 2 69 true false))], nx := 2 }⟩]
def LIbig_Gcd_ddu_0 (k : Nat) : LInst := ⟨0, hsbig_Gcd_ddu_0, osbig_Gcd_ddu_0, fun x => Lbig_Gcd_ddu_0 k k x.1 x.2.1 x.2.2.1 x.2.2.2.1 x.2.2.2.2.1 x.2.2.2.2.2⟩
theorem anbig_Gcd_ddu_0 (k : Nat) : LAll (LOk (R := DS OS.D osbig_Gcd_ddu_0) (fun b _ σ K => LOt Ty (kps 50) 2 b σ K []) cf (call cf k) (kps 50) Try.f50.ntmps k 2) 0 (lb Try.f50 0) :=
  And.intro (And.intro (True.intro) (And.intro (True.intro) (True.intro))) (And.intro (True.intro) (True.intro))
theorem stbig_Gcd_ddu_0 (k n : Nat) (x : DS SS.D hsbig_Gcd_ddu_0) : Lbig_Gcd_ddu_0 k (n + 1) x.1 x.2.1 x.2.2.1 x.2.2.2.1 x.2.2.2.2.1 x.2.2.2.2.2 = encSK SS.enc (fun σ => run2 cf (fun f a b K => COt f a b K [Ibig_divide k, Ibig_trim k, Ibig_Int_set_cvg k]) (fun b _ σ K => LOt Ty (kps 50) 2 b σ K []) Try.f50.ntmps 0 (lb Try.f50 0) σ (nextK Ty (kps 50 0) 2 hsbig_Gcd_ddu_0 osbig_Gcd_ddu_0 fun x => Lbig_Gcd_ddu_0 k n x.1 x.2.1 x.2.2.1 x.2.2.2.1 x.2.2.2.2.1 x.2.2.2.2.2)) hsbig_Gcd_ddu_0 x := by kernel_rfl
theorem lobig_Gcd_ddu_0 (k : Nat) : LIOk cf (call cf k) (kps 50) Try.f50.ntmps k 2 0 (lb Try.f50 0) (LIbig_Gcd_ddu_0 k) :=
  loop_ok (c := cf) (callF := call cf k) (kp := kps 50) (nt := Try.f50.ntmps) (k := k) (p := 2) (b := 0) (x0 := lb Try.f50 0) (hs := hsbig_Gcd_ddu_0) (os := osbig_Gcd_ddu_0) (COt_ok (albig_Gcd_ddu k)) (anbig_Gcd_ddu_0 k) (fun n x => Lbig_Gcd_ddu_0 k n x.1 x.2.1 x.2.2.1 x.2.2.2.1 x.2.2.2.2.1 x.2.2.2.2.2) (fun _ => rfl) (stbig_Gcd_ddu_0 k)
theorem anbig_Gcd_ddu (k : Nat) : LAll (LOk (R := DS FS.D rsbig_Gcd_ddu) (fun b _ σ K => LOt Ty (kps 50) 2 b σ K [LIbig_Gcd_ddu_0 k]) cf (call cf k) (cf.keep 50) Try.f50.ntmps k shbig_Gcd_ddu.bs.length) 0 (bd Try.f50) :=
  And.intro (True.intro) (And.intro (True.intro) (And.intro (LOt_ok (c := cf) (callF := call cf k) (kp := kps 50) (nt := Try.f50.ntmps) (k := k) (p := 2) (b := 0) (x0 := lb Try.f50 0) (l := [LIbig_Gcd_ddu_0 k]) (And.intro (fun _ => lobig_Gcd_ddu_0 k) (True.intro))) (And.intro (True.intro) (True.intro))))
theorem stbig_Gcd_ddu (k : Nat) (x : shbig_Gcd_ddu.D) : Fbig_Gcd_ddu (k + 1) x.1 x.2.1 x.2.2.1 x.2.2.2 = body2 cf (fun f a b K => COt f a b K [Ibig_divide k, Ibig_trim k, Ibig_Int_set_cvg k]) (fun b _ σ K => LOt Ty (kps 50) 2 b σ K [LIbig_Gcd_ddu_0 k]) 50 Try.f50.ntmps Try.f50.results.toList (bd Try.f50) (shbig_Gcd_ddu.enc x).1 (shbig_Gcd_ddu.enc x).2 (putS FS.dec rsbig_Gcd_ddu) := by kernel_rfl
theorem okbig_Gcd_ddu : ∀ k, InstOk (call cf k) (Ibig_Gcd_ddu k)
  | 0 => fun x y e => absurd (show (none : Option _) = some y from e) (by simp)
  | k + 1 => inst_ok (c := cf) (k := k) (f := 50) (fn := Try.f50) (body := bd Try.f50) (sh := shbig_Gcd_ddu) (os := rsbig_Gcd_ddu) rfl Try.func50 rfl ⟨rfl, Nat.le_of_ble_eq_true rfl⟩ (COt_ok (albig_Gcd_ddu k)) (anbig_Gcd_ddu k) (fun x => Fbig_Gcd_ddu (k + 1) x.1 x.2.1 x.2.2.1 x.2.2.2) (stbig_Gcd_ddu k)

/-! shunt/limb.Gcd -/
def blimb_Gcd (k : Nat) (a0 : Bool) (a1 : List Int) (b0 : Bool) (b1 : List Int) : Option (Bool × List Int × Int) :=
  Option.bind (Flimb_both k a0 a1 b0 b1) fun r9 =>
  if ((r9 != (0 : Int)) = true) then
    (some (false, [], r9))
  else
  Option.bind (Fwide_Take k a0 a1) fun r10 =>
  Option.bind (Fwide_Take k b0 b1) fun r11 =>
  Option.bind (Fbig_Gcd_ddu k r10.1 r10.2 r11.1 r11.2) fun r12 =>
  Option.bind (Fwide_Give_awf k r12.2.2.2.2.1 r12.2.2.2.2.2) fun r13 =>
  if ((0 + r13.2.1) ≤ (List.length r13.2.2.2.2)) then
    (some (r13.1, (List.take r13.2.1 r13.2.2.2.2), (0 : Int)))
  else
  none
def Flimb_Gcd : Nat → Bool → List Int → Bool → List Int → Option (Bool × List Int × Int)
  | 0, _, _, _, _ => none
  | k + 1, a0, a1, b0, b1 => blimb_Gcd k a0 a1 b0 b1
def shlimb_Gcd : FS := { vs := [.g [.lf .bool, .lf (.sl (.int .u32))], .g [.lf .bool, .lf (.sl (.int .u32))]], bs := [] }
def rslimb_Gcd : List FS := [{ vs := [.g [.lf .bool, .lf (.sl (.int .u32))], .a (.lf (.int .i64))], bs := [] }]
def Ilimb_Gcd (k : Nat) : Inst := ⟨18, shlimb_Gcd, rslimb_Gcd, fun x => Flimb_Gcd k x.1 x.2.1 x.2.2.1 x.2.2.2⟩
theorem allimb_Gcd (k : Nat) : AllI (call cf k) [Ilimb_both k, Iwide_Take k, Ibig_Gcd_ddu k, Iwide_Give_awf k] := And.intro (oklimb_both k) (And.intro (okwide_Take k) (And.intro (okbig_Gcd_ddu k) (And.intro (okwide_Give_awf k) (True.intro))))
theorem anlimb_Gcd (k : Nat) : LAll (LOk (R := DS FS.D rslimb_Gcd) (fun b _ σ K => LOt Ty (kps 18) 0 b σ K []) cf (call cf k) (cf.keep 18) Try.f18.ntmps k shlimb_Gcd.bs.length) 0 (bd Try.f18) :=
  And.intro (True.intro) (And.intro (And.intro (True.intro) (And.intro (True.intro) (And.intro (And.intro (True.intro) (True.intro)) (True.intro)))) (And.intro (True.intro) (True.intro)))
theorem stlimb_Gcd (k : Nat) (x : shlimb_Gcd.D) : Flimb_Gcd (k + 1) x.1 x.2.1 x.2.2.1 x.2.2.2 = body2 cf (fun f a b K => COt f a b K [Ilimb_both k, Iwide_Take k, Ibig_Gcd_ddu k, Iwide_Give_awf k]) (fun b _ σ K => LOt Ty (kps 18) 0 b σ K []) 18 Try.f18.ntmps Try.f18.results.toList (bd Try.f18) (shlimb_Gcd.enc x).1 (shlimb_Gcd.enc x).2 (putS FS.dec rslimb_Gcd) := by kernel_rfl
theorem oklimb_Gcd : ∀ k, InstOk (call cf k) (Ilimb_Gcd k)
  | 0 => fun x y e => absurd (show (none : Option _) = some y from e) (by simp)
  | k + 1 => inst_ok (c := cf) (k := k) (f := 18) (fn := Try.f18) (body := bd Try.f18) (sh := shlimb_Gcd) (os := rslimb_Gcd) rfl Try.func18 rfl ⟨rfl, Nat.le_of_ble_eq_true rfl⟩ (COt_ok (allimb_Gcd k)) (anlimb_Gcd k) (fun x => Flimb_Gcd (k + 1) x.1 x.2.1 x.2.2.1 x.2.2.2) (stlimb_Gcd k)

/-! shunt/shuntlaw01.whole -/
def bshuntlaw01_whole_aoq (k : Nat) (in0 : Bool) (in1 : Nat) (a0 : Bool) (a1 : List Int) (m : List Int) : Option (Bool × List Int) :=
  if ((0 + in1) ≤ (List.length m)) then
    Option.bind (Fshuntlaw01_same k in0 (List.take in1 m) a0 a1) fun r15 =>
    if (r15 = true) then
      if (((0 : Int) ≤ (0 : Int)) ∧ (((0 : Int) ≤ (IntKind.wrap .i64 ((((List.length a1) : Nat) : Int) + (1 : Int)))) ∧ (((0 + (Int.toNat (IntKind.wrap .i64 ((((List.length a1) : Nat) : Int) + (1 : Int))))) ≤ (List.length m)) ∧ (((0 : Int) < (IntKind.wrap .i64 ((((List.length a1) : Nat) : Int) + (1 : Int)))) ∨ (true = true))))) then
        if (((0 : Int) ≤ (((List.length a1) : Nat) : Int)) ∧ ((((List.length a1) : Nat) : Int) < (((Int.toNat (IntKind.wrap .i64 ((((List.length a1) : Nat) : Int) + (1 : Int)))) : Nat) : Int))) then
          Option.bind (m)[(0 + (Int.toNat (((List.length a1) : Nat) : Int)))]? fun x =>
          (some ((x == (11259375 : Int)), m))
        else
        none
      else
      none
    else
    (some (false, m))
  else
  none
def Fshuntlaw01_whole_aoq : Nat → Bool → Nat → Bool → List Int → List Int → Option (Bool × List Int)
  | 0, _, _, _, _, _ => none
  | k + 1, in0, in1, a0, a1, m => bshuntlaw01_whole_aoq k in0 in1 a0 a1 m
def shshuntlaw01_whole_aoq : FS := { vs := [.g [.lf .bool, .smz 0], .g [.lf .bool, .lf (.sl (.int .u32))]], bs := [.arr (.int .u32) 1 64 true] }
def rsshuntlaw01_whole_aoq : List FS := [{ vs := [.a (.lf .bool)], bs := [.arr (.int .u32) 1 64 true] }]
def Ishuntlaw01_whole_aoq (k : Nat) : Inst := ⟨20, shshuntlaw01_whole_aoq, rsshuntlaw01_whole_aoq, fun x => Fshuntlaw01_whole_aoq k x.1 x.2.1 x.2.2.1 x.2.2.2.1 x.2.2.2.2⟩
theorem alshuntlaw01_whole_aoq (k : Nat) : AllI (call cf k) [Ishuntlaw01_same k] := And.intro (okshuntlaw01_same k) (True.intro)
theorem anshuntlaw01_whole_aoq (k : Nat) : LAll (LOk (R := DS FS.D rsshuntlaw01_whole_aoq) (fun b _ σ K => LOt Ty (kps 20) 1 b σ K []) cf (call cf k) (cf.keep 20) Try.f20.ntmps k shshuntlaw01_whole_aoq.bs.length) 0 (bd Try.f20) :=
  And.intro (True.intro) (And.intro (True.intro) (True.intro))
theorem stshuntlaw01_whole_aoq (k : Nat) (x : shshuntlaw01_whole_aoq.D) : Fshuntlaw01_whole_aoq (k + 1) x.1 x.2.1 x.2.2.1 x.2.2.2.1 x.2.2.2.2 = body2 cf (fun f a b K => COt f a b K [Ishuntlaw01_same k]) (fun b _ σ K => LOt Ty (kps 20) 1 b σ K []) 20 Try.f20.ntmps Try.f20.results.toList (bd Try.f20) (shshuntlaw01_whole_aoq.enc x).1 (shshuntlaw01_whole_aoq.enc x).2 (putS FS.dec rsshuntlaw01_whole_aoq) := by kernel_rfl
theorem okshuntlaw01_whole_aoq : ∀ k, InstOk (call cf k) (Ishuntlaw01_whole_aoq k)
  | 0 => fun x y e => absurd (show (none : Option _) = some y from e) (by simp)
  | k + 1 => inst_ok (c := cf) (k := k) (f := 20) (fn := Try.f20) (body := bd Try.f20) (sh := shshuntlaw01_whole_aoq) (os := rsshuntlaw01_whole_aoq) rfl Try.func20 rfl ⟨rfl, Nat.le_of_ble_eq_true rfl⟩ (COt_ok (alshuntlaw01_whole_aoq k)) (anshuntlaw01_whole_aoq k) (fun x => Fshuntlaw01_whole_aoq (k + 1) x.1 x.2.1 x.2.2.1 x.2.2.2.1 x.2.2.2.2) (stshuntlaw01_whole_aoq k)

/-! shunt/shuntlaw01.LimbParts -/
def bshuntlaw01_LimbParts (k : Nat) (a0 : Bool) (a1 : List Int) (b0 : Bool) (b1 : List Int) : Option (Bool) :=
  Option.bind (Fshuntlaw01_awake k) fun r =>
  if ((!r) = true) then
    (some false)
  else
  Option.bind (Fshuntlaw01_long k a0 a1) fun r1 =>
  if (r1 = false) then
    Option.bind (Fshuntlaw01_long k b0 b1) fun r2 =>
    if (r2 = true) then
      (some true)
    else
    Option.bind (Fshuntlaw01_lent k a0 a1) fun r3 =>
    Option.bind (Fshuntlaw01_lent k b0 b1) fun r4 =>
    if ((0 + r3.2.1) ≤ (List.length r3.2.2)) then
      if ((0 + r4.2.1) ≤ (List.length r4.2.2)) then
        Option.bind (Flimb_QuoRem k r3.1 (List.take r3.2.1 r3.2.2) r4.1 (List.take r4.2.1 r4.2.2)) fun r5 =>
        Option.bind (Fshuntref01_QuoRem k a0 a1 b0 b1) fun r6 =>
        if ((0 + r3.2.1) ≤ (List.length r3.2.2)) then
          if ((0 + r4.2.1) ≤ (List.length r4.2.2)) then
            Option.bind (Flimb_Exact k r3.1 (List.take r3.2.1 r3.2.2) r4.1 (List.take r4.2.1 r4.2.2)) fun r7 =>
            Option.bind (Fshuntref01_Two k (47 : Int) a0 a1 b0 b1) fun r8 =>
            if ((0 + r3.2.1) ≤ (List.length r3.2.2)) then
              if ((0 + r4.2.1) ≤ (List.length r4.2.2)) then
                Option.bind (Flimb_Gcd k r3.1 (List.take r3.2.1 r3.2.2) r4.1 (List.take r4.2.1 r4.2.2)) fun r9 =>
                Option.bind (Fshuntref01_Two k (103 : Int) a0 a1 b0 b1) fun r10 =>
                Option.bind (Fshuntlaw01_same k r5.1 r5.2.1 r6.1 r6.2.1) fun r11 =>
                if (r11 = true) then
                  Option.bind (Fshuntlaw01_same k r5.2.2.1 r5.2.2.2.1 r6.2.2.1 r6.2.2.2.1) fun r12 =>
                  if (r12 = true) then
                    if ((r5.2.2.2.2 == r6.2.2.2.2) = true) then
                      Option.bind (Fshuntlaw01_same k r7.1 r7.2.1 r8.1 r8.2.1) fun r13 =>
                      if (r13 = true) then
                        if ((r7.2.2 == r8.2.2) = true) then
                          Option.bind (Fshuntlaw01_same k r9.1 r9.2.1 r10.1 r10.2.1) fun r14 =>
                          if (r14 = true) then
                            if ((r9.2.2 == r10.2.2) = true) then
                              Option.bind (Fshuntlaw01_whole_aoq k r3.1 r3.2.1 a0 a1 r3.2.2) fun r15 =>
                              if (r15.1 = true) then
                                Option.bind (Fshuntlaw01_whole_aoq k r4.1 r4.2.1 b0 b1 r4.2.2) fun r16 =>
                                (some r16.1)
                              else
                              (some false)
                            else
                            (some false)
                          else
                          (some false)
                        else
                        (some false)
                      else
                      (some false)
                    else
                    (some false)
                  else
                  (some false)
                else
                (some false)
              else
              none
            else
            none
          else
          none
        else
        none
      else
      none
    else
    none
  else
  (some true)
def Fshuntlaw01_LimbParts : Nat → Bool → List Int → Bool → List Int → Option (Bool)
  | 0, _, _, _, _ => none
  | k + 1, a0, a1, b0, b1 => bshuntlaw01_LimbParts k a0 a1 b0 b1
def shshuntlaw01_LimbParts : FS := { vs := [.g [.lf .bool, .lf (.sl (.int .u32))], .g [.lf .bool, .lf (.sl (.int .u32))]], bs := [] }
def rsshuntlaw01_LimbParts : List FS := [{ vs := [.a (.lf .bool)], bs := [] }]
def Ishuntlaw01_LimbParts (k : Nat) : Inst := ⟨3, shshuntlaw01_LimbParts, rsshuntlaw01_LimbParts, fun x => Fshuntlaw01_LimbParts k x.1 x.2.1 x.2.2.1 x.2.2.2⟩
theorem alshuntlaw01_LimbParts (k : Nat) : AllI (call cf k) [Ishuntlaw01_awake k, Ishuntlaw01_long k, Ishuntlaw01_lent k, Ilimb_QuoRem k, Ishuntref01_QuoRem k, Ilimb_Exact k, Ishuntref01_Two k, Ilimb_Gcd k, Ishuntlaw01_same k, Ishuntlaw01_whole_aoq k] := And.intro (okshuntlaw01_awake k) (And.intro (okshuntlaw01_long k) (And.intro (okshuntlaw01_lent k) (And.intro (oklimb_QuoRem k) (And.intro (okshuntref01_QuoRem k) (And.intro (oklimb_Exact k) (And.intro (okshuntref01_Two k) (And.intro (oklimb_Gcd k) (And.intro (okshuntlaw01_same k) (And.intro (okshuntlaw01_whole_aoq k) (True.intro))))))))))
theorem anshuntlaw01_LimbParts (k : Nat) : LAll (LOk (R := DS FS.D rsshuntlaw01_LimbParts) (fun b _ σ K => LOt Ty (kps 3) 0 b σ K []) cf (call cf k) (cf.keep 3) Try.f3.ntmps k shshuntlaw01_LimbParts.bs.length) 0 (bd Try.f3) :=
  And.intro (True.intro) (And.intro (And.intro (True.intro) (And.intro (And.intro (True.intro) (True.intro)) (True.intro))) (And.intro (And.intro (True.intro) (And.intro (And.intro (True.intro) (True.intro)) (True.intro))) (And.intro (True.intro) (And.intro (True.intro) (And.intro (True.intro) (And.intro (True.intro) (And.intro (True.intro) (And.intro (True.intro) (And.intro (True.intro) (And.intro (True.intro) (True.intro)))))))))))
theorem stshuntlaw01_LimbParts (k : Nat) (x : shshuntlaw01_LimbParts.D) : Fshuntlaw01_LimbParts (k + 1) x.1 x.2.1 x.2.2.1 x.2.2.2 = body2 cf (fun f a b K => COt f a b K [Ishuntlaw01_awake k, Ishuntlaw01_long k, Ishuntlaw01_lent k, Ilimb_QuoRem k, Ishuntref01_QuoRem k, Ilimb_Exact k, Ishuntref01_Two k, Ilimb_Gcd k, Ishuntlaw01_same k, Ishuntlaw01_whole_aoq k]) (fun b _ σ K => LOt Ty (kps 3) 0 b σ K []) 3 Try.f3.ntmps Try.f3.results.toList (bd Try.f3) (shshuntlaw01_LimbParts.enc x).1 (shshuntlaw01_LimbParts.enc x).2 (putS FS.dec rsshuntlaw01_LimbParts) := by kernel_rfl
theorem okshuntlaw01_LimbParts : ∀ k, InstOk (call cf k) (Ishuntlaw01_LimbParts k)
  | 0 => fun x y e => absurd (show (none : Option _) = some y from e) (by simp)
  | k + 1 => inst_ok (c := cf) (k := k) (f := 3) (fn := Try.f3) (body := bd Try.f3) (sh := shshuntlaw01_LimbParts) (os := rsshuntlaw01_LimbParts) rfl Try.func3 rfl ⟨rfl, Nat.le_of_ble_eq_true rfl⟩ (COt_ok (alshuntlaw01_LimbParts k)) (anshuntlaw01_LimbParts k) (fun x => Fshuntlaw01_LimbParts (k + 1) x.1 x.2.1 x.2.2.1 x.2.2.2) (stshuntlaw01_LimbParts k)

/-! (*shunt/big.Int).Int64 -/
def Lbig_Int_Int64_awf_0s (k : Nat) (rec : Int → Int → Bool → List Int → Option (Int × Bool × List Int)) (u : Int) (i : Int) (z0 : Bool) (z1 : List Int) : Option (Int × Bool × List Int) :=
  if ((decide (i ≥ (0 : Int))) = true) then
    if ((0 : Int) ≤ i) then
      Option.bind (z1)[(Int.toNat i)]? fun x =>
      rec (IntKind.wrap .u64 (((BitVec.toNat ((BitVec.ofInt 64 (IntKind.wrap .u64 (u * (4294967296 : Int)))) ||| (BitVec.ofInt 64 (IntKind.wrap .u64 x)))) : Nat) : Int)) (IntKind.wrap .i64 (i - (1 : Int))) z0 z1
    else
    none
  else
  (some (u, z0, z1))
def Lbig_Int_Int64_awf_0 (k n : Nat) : Int → Int → Bool → List Int → Option (Int × Bool × List Int) := Nat.rec (fun _ _ _ _ => none) (fun _ r => Lbig_Int_Int64_awf_0s k r) n
def bbig_Int_Int64_awf (k : Nat) (z0 : Bool) (z1 : List Int) : Option (Int × Bool × Bool × List Int) :=
  if ((decide ((((List.length z1) : Nat) : Int) > (2 : Int))) = true) then
    (some ((0 : Int), false, z0, z1))
  else
  Option.bind (Lbig_Int_Int64_awf_0 k k (0 : Int) (IntKind.wrap .i64 ((((List.length z1) : Nat) : Int) - (1 : Int))) z0 z1) fun r6 =>
  if (r6.2.1 = true) then
    (some ((IntKind.wrap .i64 ((0 : Int) - (IntKind.wrap .i64 r6.1))), (decide (r6.1 ≤ (9223372036854775808 : Int))), r6.2.1, r6.2.2))
  else
  (some ((IntKind.wrap .i64 r6.1), (decide (r6.1 < (9223372036854775808 : Int))), r6.2.1, r6.2.2))
def Fbig_Int_Int64_awf : Nat → Bool → List Int → Option (Int × Bool × Bool × List Int)
  | 0, _, _ => none
  | k + 1, z0, z1 => bbig_Int_Int64_awf k z0 z1
def shbig_Int_Int64_awf : FS := { vs := [.a (.ptr 0 0 0)], bs := [.raw [[.lf .bool, .lf (.sl (.int .u32))]] 2 69 true false] }
def rsbig_Int_Int64_awf : List FS := [{ vs := [.a (.lf (.int .i64)), .a (.lf .bool)], bs := [.raw [[.lf .bool, .lf (.sl (.int .u32))]] 2 69 true false] }]
def Ibig_Int_Int64_awf (k : Nat) : Inst := ⟨52, shbig_Int_Int64_awf, rsbig_Int_Int64_awf, fun x => Fbig_Int_Int64_awf k x.1 x.2⟩
theorem albig_Int_Int64_awf (k : Nat) : AllI (call cf k) [] := True.intro
def hsbig_Int_Int64_awf_0 : List SS := [{ fr := [(0, .a (.ptr 0 0 0)), (4, .a (.lf (.int .u64))), (5, .a (.lf (.int .i64)))], mem := [(0, some (.raw [[.lf .bool, .lf (.sl (.int .u32))]] 2 69 true false))], nx := 1 }]
def osbig_Int_Int64_awf_0 : List OS := [⟨some 0, { fr := [(0, .a (.ptr 0 0 0)), (4, .a (.lf (.int .u64)))], mem := [(0, some (.raw [[.lf .bool, .lf (.sl (.int .u32))]] 2 69 true false))], nx := 1 }⟩]
def LIbig_Int_Int64_awf_0 (k : Nat) : LInst := ⟨0, hsbig_Int_Int64_awf_0, osbig_Int_Int64_awf_0, fun x => Lbig_Int_Int64_awf_0 k k x.1 x.2.1 x.2.2.1 x.2.2.2⟩
theorem anbig_Int_Int64_awf_0 (k : Nat) : LAll (LOk (R := DS OS.D osbig_Int_Int64_awf_0) (fun b _ σ K => LOt Ty (kps 52) 1 b σ K []) cf (call cf k) (kps 52) Try.f52.ntmps k 1) 0 (lb Try.f52 0) :=
  And.intro (And.intro (True.intro) (And.intro (True.intro) (True.intro))) (And.intro (True.intro) (True.intro))
theorem stbig_Int_Int64_awf_0 (k n : Nat) (x : DS SS.D hsbig_Int_Int64_awf_0) : Lbig_Int_Int64_awf_0 k (n + 1) x.1 x.2.1 x.2.2.1 x.2.2.2 = encSK SS.enc (fun σ => run2 cf (fun f a b K => COt f a b K []) (fun b _ σ K => LOt Ty (kps 52) 1 b σ K []) Try.f52.ntmps 0 (lb Try.f52 0) σ (nextK Ty (kps 52 0) 1 hsbig_Int_Int64_awf_0 osbig_Int_Int64_awf_0 fun x => Lbig_Int_Int64_awf_0 k n x.1 x.2.1 x.2.2.1 x.2.2.2)) hsbig_Int_Int64_awf_0 x := by kernel_rfl
theorem lobig_Int_Int64_awf_0 (k : Nat) : LIOk cf (call cf k) (kps 52) Try.f52.ntmps k 1 0 (lb Try.f52 0) (LIbig_Int_Int64_awf_0 k) :=
  loop_ok (c := cf) (callF := call cf k) (kp := kps 52) (nt := Try.f52.ntmps) (k := k) (p := 1) (b := 0) (x0 := lb Try.f52 0) (hs := hsbig_Int_Int64_awf_0) (os := osbig_Int_Int64_awf_0) (COt_ok (albig_Int_Int64_awf k)) (anbig_Int_Int64_awf_0 k) (fun n x => Lbig_Int_Int64_awf_0 k n x.1 x.2.1 x.2.2.1 x.2.2.2) (fun _ => rfl) (stbig_Int_Int64_awf_0 k)
theorem anbig_Int_Int64_awf (k : Nat) : LAll (LOk (R := DS FS.D rsbig_Int_Int64_awf) (fun b _ σ K => LOt Ty (kps 52) 1 b σ K [LIbig_Int_Int64_awf_0 k]) cf (call cf k) (cf.keep 52) Try.f52.ntmps k shbig_Int_Int64_awf.bs.length) 0 (bd Try.f52) :=
  And.intro (True.intro) (And.intro (And.intro (True.intro) (And.intro (And.intro (True.intro) (True.intro)) (True.intro))) (And.intro (True.intro) (And.intro (And.intro (True.intro) (LOt_ok (c := cf) (callF := call cf k) (kp := kps 52) (nt := Try.f52.ntmps) (k := k) (p := 1) (b := 0) (x0 := lb Try.f52 0) (l := [LIbig_Int_Int64_awf_0 k]) (And.intro (fun _ => lobig_Int_Int64_awf_0 k) (True.intro)))) (And.intro (And.intro (True.intro) (And.intro (And.intro (True.intro) (True.intro)) (True.intro))) (And.intro (True.intro) (True.intro))))))
theorem stbig_Int_Int64_awf (k : Nat) (x : shbig_Int_Int64_awf.D) : Fbig_Int_Int64_awf (k + 1) x.1 x.2 = body2 cf (fun f a b K => COt f a b K []) (fun b _ σ K => LOt Ty (kps 52) 1 b σ K [LIbig_Int_Int64_awf_0 k]) 52 Try.f52.ntmps Try.f52.results.toList (bd Try.f52) (shbig_Int_Int64_awf.enc x).1 (shbig_Int_Int64_awf.enc x).2 (putS FS.dec rsbig_Int_Int64_awf) := by kernel_rfl
theorem okbig_Int_Int64_awf : ∀ k, InstOk (call cf k) (Ibig_Int_Int64_awf k)
  | 0 => fun x y e => absurd (show (none : Option _) = some y from e) (by simp)
  | k + 1 => inst_ok (c := cf) (k := k) (f := 52) (fn := Try.f52) (body := bd Try.f52) (sh := shbig_Int_Int64_awf) (os := rsbig_Int_Int64_awf) rfl Try.func52 rfl ⟨rfl, Nat.le_of_ble_eq_true rfl⟩ (COt_ok (albig_Int_Int64_awf k)) (anbig_Int_Int64_awf k) (fun x => Fbig_Int_Int64_awf (k + 1) x.1 x.2) (stbig_Int_Int64_awf k)

/-! shunt/limb.Int64 -/
def blimb_Int64 (k : Nat) (a0 : Bool) (a1 : List Int) : Option (Int × Int) :=
  Option.bind (Flimb_Check k a0 a1) fun r4 =>
  if ((r4 != (0 : Int)) = true) then
    (some ((0 : Int), r4))
  else
  Option.bind (Fwide_Take k a0 a1) fun r5 =>
  Option.bind (Fbig_Int_Int64_awf k r5.1 r5.2) fun r6 =>
  if ((!r6.2.1) = true) then
    (some ((0 : Int), (4 : Int)))
  else
  (some (r6.1, (0 : Int)))
def Flimb_Int64 : Nat → Bool → List Int → Option (Int × Int)
  | 0, _, _ => none
  | k + 1, a0, a1 => blimb_Int64 k a0 a1
def shlimb_Int64 : FS := { vs := [.g [.lf .bool, .lf (.sl (.int .u32))]], bs := [] }
def rslimb_Int64 : List FS := [{ vs := [.a (.lf (.int .i64)), .a (.lf (.int .i64))], bs := [] }]
def Ilimb_Int64 (k : Nat) : Inst := ⟨22, shlimb_Int64, rslimb_Int64, fun x => Flimb_Int64 k x.1 x.2⟩
theorem allimb_Int64 (k : Nat) : AllI (call cf k) [Ilimb_Check k, Iwide_Take k, Ibig_Int_Int64_awf k] := And.intro (oklimb_Check k) (And.intro (okwide_Take k) (And.intro (okbig_Int_Int64_awf k) (True.intro)))
theorem anlimb_Int64 (k : Nat) : LAll (LOk (R := DS FS.D rslimb_Int64) (fun b _ σ K => LOt Ty (kps 22) 0 b σ K []) cf (call cf k) (cf.keep 22) Try.f22.ntmps k shlimb_Int64.bs.length) 0 (bd Try.f22) :=
  And.intro (True.intro) (And.intro (And.intro (True.intro) (And.intro (True.intro) (And.intro (And.intro (True.intro) (True.intro)) (True.intro)))) (And.intro (True.intro) (And.intro (And.intro (True.intro) (And.intro (And.intro (True.intro) (True.intro)) (True.intro))) (And.intro (True.intro) (True.intro)))))
theorem stlimb_Int64 (k : Nat) (x : shlimb_Int64.D) : Flimb_Int64 (k + 1) x.1 x.2 = body2 cf (fun f a b K => COt f a b K [Ilimb_Check k, Iwide_Take k, Ibig_Int_Int64_awf k]) (fun b _ σ K => LOt Ty (kps 22) 0 b σ K []) 22 Try.f22.ntmps Try.f22.results.toList (bd Try.f22) (shlimb_Int64.enc x).1 (shlimb_Int64.enc x).2 (putS FS.dec rslimb_Int64) := by kernel_rfl
theorem oklimb_Int64 : ∀ k, InstOk (call cf k) (Ilimb_Int64 k)
  | 0 => fun x y e => absurd (show (none : Option _) = some y from e) (by simp)
  | k + 1 => inst_ok (c := cf) (k := k) (f := 22) (fn := Try.f22) (body := bd Try.f22) (sh := shlimb_Int64) (os := rslimb_Int64) rfl Try.func22 rfl ⟨rfl, Nat.le_of_ble_eq_true rfl⟩ (COt_ok (allimb_Int64 k)) (anlimb_Int64 k) (fun x => Flimb_Int64 (k + 1) x.1 x.2) (stlimb_Int64 k)

/-! shunt/shuntref01.Wide -/
def Lshuntref01_Wide_0s (k : Nat) (rec : Int → Bool → Nat → Bool → Nat → List Int → List Int → Option (Bool × Nat × Bool × Nat × List Int × List Int)) (u : Int) (x0 : Bool) (x1 : Nat) (a0 : Bool) (a1 : Nat) (m : List Int) (m1 : List Int) : Option (Bool × Nat × Bool × Nat × List Int × List Int) :=
  if ((decide (u > (0 : Int))) = true) then
    if (a1 ≤ (List.length m1)) then
      if (((a1 + (List.length (List.take 1 ((IntKind.wrap .i64 (Int.tmod u (65536 : Int))) :: [])))) * 8) ≤ 140737488355328) then
        rec (IntKind.wrap .u64 (Int.tdiv u (65536 : Int))) x0 x1 a0 (a1 + (List.length (List.take 1 ((IntKind.wrap .i64 (Int.tmod u (65536 : Int))) :: [])))) m ((List.take a1 m1) ++ (List.take 1 ((IntKind.wrap .i64 (Int.tmod u (65536 : Int))) :: [])))
      else
      none
    else
    none
  else
  (some (x0, x1, a0, a1, m, m1))
def Lshuntref01_Wide_0 (k n : Nat) : Int → Bool → Nat → Bool → Nat → List Int → List Int → Option (Bool × Nat × Bool × Nat × List Int × List Int) := Nat.rec (fun _ _ _ _ _ _ _ => none) (fun _ r => Lshuntref01_Wide_0s k r) n
def bshuntref01_Wide (k : Nat) (v : Int) : Option (Bool × List Int) :=
  if ((decide (v < (0 : Int))) = true) then
    Option.bind (Lshuntref01_Wide_0 k k (IntKind.wrap .u64 ((0 : Int) - (IntKind.wrap .u64 v))) false 0 true 0 [] []) fun r7 =>
    if ((0 + r7.2.2.2.1) ≤ (List.length r7.2.2.2.2.2)) then
      (some (r7.2.2.1, (List.take r7.2.2.2.1 r7.2.2.2.2.2)))
    else
    none
  else
  Option.bind (Lshuntref01_Wide_0 k k (IntKind.wrap .u64 v) false 0 false 0 [] []) fun r7 =>
  if ((0 + r7.2.2.2.1) ≤ (List.length r7.2.2.2.2.2)) then
    (some (r7.2.2.1, (List.take r7.2.2.2.1 r7.2.2.2.2.2)))
  else
  none
def Fshuntref01_Wide : Nat → Int → Option (Bool × List Int)
  | 0, _ => none
  | k + 1, v => bshuntref01_Wide k v
def shshuntref01_Wide : FS := { vs := [.a (.lf (.int .i64))], bs := [] }
def rsshuntref01_Wide : List FS := [{ vs := [.g [.lf .bool, .lf (.sl (.int .i64))]], bs := [] }]
def Ishuntref01_Wide (k : Nat) : Inst := ⟨28, shshuntref01_Wide, rsshuntref01_Wide, fun x => Fshuntref01_Wide k x⟩
theorem alshuntref01_Wide (k : Nat) : AllI (call cf k) [] := True.intro
def hsshuntref01_Wide_0 : List SS := [{ fr := [(2, .a (.ptr 0 0 0)), (3, .a (.ptr 1 0 0)), (4, .a (.lf (.int .u64)))], mem := [(0, some (.raw [[.lf .bool, .smz 2]] 2 50 false false)), (1, some (.raw [[.lf .bool, .smz 3]] 2 50 false false)), (2, some (.arr (.int .i64) 1 3 false)), (3, some (.arr (.int .i64) 1 3 false))], nx := 4 }]
def osshuntref01_Wide_0 : List OS := [⟨some 0, { fr := [(2, .a (.ptr 0 0 0)), (3, .a (.ptr 1 0 0))], mem := [(0, some (.raw [[.lf .bool, .smz 2]] 2 50 false false)), (1, some (.raw [[.lf .bool, .smz 3]] 2 50 false false)), (2, some (.arr (.int .i64) 1 3 false)), (3, some (.arr (.int .i64) 1 3 false))], nx := 4 }⟩]
def LIshuntref01_Wide_0 (k : Nat) : LInst := ⟨0, hsshuntref01_Wide_0, osshuntref01_Wide_0, fun x => Lshuntref01_Wide_0 k k x.1 x.2.1 x.2.2.1 x.2.2.2.1 x.2.2.2.2.1 x.2.2.2.2.2.1 x.2.2.2.2.2.2⟩
theorem anshuntref01_Wide_0 (k : Nat) : LAll (LOk (R := DS OS.D osshuntref01_Wide_0) (fun b _ σ K => LOt Ty (kps 28) 0 b σ K []) cf (call cf k) (kps 28) Try.f28.ntmps k 0) 0 (lb Try.f28 0) :=
  And.intro (And.intro (True.intro) (And.intro (True.intro) (True.intro))) (And.intro (True.intro) (True.intro))
theorem stshuntref01_Wide_0 (k n : Nat) (x : DS SS.D hsshuntref01_Wide_0) : Lshuntref01_Wide_0 k (n + 1) x.1 x.2.1 x.2.2.1 x.2.2.2.1 x.2.2.2.2.1 x.2.2.2.2.2.1 x.2.2.2.2.2.2 = encSK SS.enc (fun σ => run2 cf (fun f a b K => COt f a b K []) (fun b _ σ K => LOt Ty (kps 28) 0 b σ K []) Try.f28.ntmps 0 (lb Try.f28 0) σ (nextK Ty (kps 28 0) 0 hsshuntref01_Wide_0 osshuntref01_Wide_0 fun x => Lshuntref01_Wide_0 k n x.1 x.2.1 x.2.2.1 x.2.2.2.1 x.2.2.2.2.1 x.2.2.2.2.2.1 x.2.2.2.2.2.2)) hsshuntref01_Wide_0 x := by kernel_rfl
theorem loshuntref01_Wide_0 (k : Nat) : LIOk cf (call cf k) (kps 28) Try.f28.ntmps k 0 0 (lb Try.f28 0) (LIshuntref01_Wide_0 k) :=
  loop_ok (c := cf) (callF := call cf k) (kp := kps 28) (nt := Try.f28.ntmps) (k := k) (p := 0) (b := 0) (x0 := lb Try.f28 0) (hs := hsshuntref01_Wide_0) (os := osshuntref01_Wide_0) (COt_ok (alshuntref01_Wide k)) (anshuntref01_Wide_0 k) (fun n x => Lshuntref01_Wide_0 k n x.1 x.2.1 x.2.2.1 x.2.2.2.1 x.2.2.2.2.1 x.2.2.2.2.2.1 x.2.2.2.2.2.2) (fun _ => rfl) (stshuntref01_Wide_0 k)
theorem anshuntref01_Wide (k : Nat) : LAll (LOk (R := DS FS.D rsshuntref01_Wide) (fun b _ σ K => LOt Ty (kps 28) 0 b σ K [LIshuntref01_Wide_0 k]) cf (call cf k) (cf.keep 28) Try.f28.ntmps k shshuntref01_Wide.bs.length) 0 (bd Try.f28) :=
  And.intro (True.intro) (And.intro (True.intro) (And.intro (True.intro) (And.intro (And.intro (True.intro) (And.intro (And.intro (True.intro) (True.intro)) (True.intro))) (And.intro (LOt_ok (c := cf) (callF := call cf k) (kp := kps 28) (nt := Try.f28.ntmps) (k := k) (p := 0) (b := 0) (x0 := lb Try.f28 0) (l := [LIshuntref01_Wide_0 k]) (And.intro (fun _ => loshuntref01_Wide_0 k) (True.intro))) (And.intro (True.intro) (True.intro))))))
theorem stshuntref01_Wide (k : Nat) (x : shshuntref01_Wide.D) : Fshuntref01_Wide (k + 1) x = body2 cf (fun f a b K => COt f a b K []) (fun b _ σ K => LOt Ty (kps 28) 0 b σ K [LIshuntref01_Wide_0 k]) 28 Try.f28.ntmps Try.f28.results.toList (bd Try.f28) (shshuntref01_Wide.enc x).1 (shshuntref01_Wide.enc x).2 (putS FS.dec rsshuntref01_Wide) := by kernel_rfl
theorem okshuntref01_Wide : ∀ k, InstOk (call cf k) (Ishuntref01_Wide k)
  | 0 => fun x y e => absurd (show (none : Option _) = some y from e) (by simp)
  | k + 1 => inst_ok (c := cf) (k := k) (f := 28) (fn := Try.f28) (body := bd Try.f28) (sh := shshuntref01_Wide) (os := rsshuntref01_Wide) rfl Try.func28 rfl ⟨rfl, Nat.le_of_ble_eq_true rfl⟩ (COt_ok (alshuntref01_Wide k)) (anshuntref01_Wide k) (fun x => Fshuntref01_Wide (k + 1) x) (stshuntref01_Wide k)

/-! shunt/shuntref01.Held -/
def bshuntref01_Held (k : Nat) (a0 : Bool) (a1 : List Int) (b0 : Bool) (b1 : List Int) : Option (Int) :=
  Option.bind (Fshuntref01_Less k a0 a1 b0 b1) fun r8 =>
  Option.bind (Fshuntref01_Sign k r8.1 r8.2) fun r9 =>
  (some r9)
def Fshuntref01_Held : Nat → Bool → List Int → Bool → List Int → Option (Int)
  | 0, _, _, _, _ => none
  | k + 1, a0, a1, b0, b1 => bshuntref01_Held k a0 a1 b0 b1
def shshuntref01_Held : FS := { vs := [.g [.lf .bool, .lf (.sl (.int .i64))], .g [.lf .bool, .lf (.sl (.int .i64))]], bs := [] }
def rsshuntref01_Held : List FS := [{ vs := [.a (.lf (.int .i64))], bs := [] }]
def Ishuntref01_Held (k : Nat) : Inst := ⟨65, shshuntref01_Held, rsshuntref01_Held, fun x => Fshuntref01_Held k x.1 x.2.1 x.2.2.1 x.2.2.2⟩
theorem alshuntref01_Held (k : Nat) : AllI (call cf k) [Ishuntref01_Less k, Ishuntref01_Sign k] := And.intro (okshuntref01_Less k) (And.intro (okshuntref01_Sign k) (True.intro))
theorem anshuntref01_Held (k : Nat) : LAll (LOk (R := DS FS.D rsshuntref01_Held) (fun b _ σ K => LOt Ty (kps 65) 0 b σ K []) cf (call cf k) (cf.keep 65) Try.f65.ntmps k shshuntref01_Held.bs.length) 0 (bd Try.f65) :=
  And.intro (True.intro) (And.intro (True.intro) (True.intro))
theorem stshuntref01_Held (k : Nat) (x : shshuntref01_Held.D) : Fshuntref01_Held (k + 1) x.1 x.2.1 x.2.2.1 x.2.2.2 = body2 cf (fun f a b K => COt f a b K [Ishuntref01_Less k, Ishuntref01_Sign k]) (fun b _ σ K => LOt Ty (kps 65) 0 b σ K []) 65 Try.f65.ntmps Try.f65.results.toList (bd Try.f65) (shshuntref01_Held.enc x).1 (shshuntref01_Held.enc x).2 (putS FS.dec rsshuntref01_Held) := by kernel_rfl
theorem okshuntref01_Held : ∀ k, InstOk (call cf k) (Ishuntref01_Held k)
  | 0 => fun x y e => absurd (show (none : Option _) = some y from e) (by simp)
  | k + 1 => inst_ok (c := cf) (k := k) (f := 65) (fn := Try.f65) (body := bd Try.f65) (sh := shshuntref01_Held) (os := rsshuntref01_Held) rfl Try.func65 rfl ⟨rfl, Nat.le_of_ble_eq_true rfl⟩ (COt_ok (alshuntref01_Held k)) (anshuntref01_Held k) (fun x => Fshuntref01_Held (k + 1) x.1 x.2.1 x.2.2.1 x.2.2.2) (stshuntref01_Held k)

/-! shunt/shuntref01.Whole -/
def Lshuntref01_Whole_0s (k : Nat) (rec : Int → Int → Bool → List Int → Option (Int × Bool × List Int)) (u : Int) (i : Int) (a0 : Bool) (a1 : List Int) : Option (Int × Bool × List Int) :=
  if ((decide (i ≥ (0 : Int))) = true) then
    if ((0 : Int) ≤ i) then
      Option.bind (a1)[(Int.toNat i)]? fun x =>
      rec (IntKind.wrap .u64 ((IntKind.wrap .u64 (u * (65536 : Int))) + (IntKind.wrap .u64 x))) (IntKind.wrap .i64 (i - (1 : Int))) a0 a1
    else
    none
  else
  (some (u, a0, a1))
def Lshuntref01_Whole_0 (k n : Nat) : Int → Int → Bool → List Int → Option (Int × Bool × List Int) := Nat.rec (fun _ _ _ _ => none) (fun _ r => Lshuntref01_Whole_0s k r) n
def bshuntref01_Whole (k : Nat) (a0 : Bool) (a1 : List Int) : Option (Int × Bool) :=
  Option.bind (Fshuntref01_Wide k (-(9223372036854775808 : Int))) fun r7 =>
  Option.bind (Fshuntref01_Held k a0 a1 r7.1 r7.2) fun r8 =>
  if ((decide (r8 < (0 : Int))) = false) then
    Option.bind (Fshuntref01_Wide k (9223372036854775807 : Int)) fun r9 =>
    Option.bind (Fshuntref01_Held k a0 a1 r9.1 r9.2) fun r10 =>
    if ((decide (r10 > (0 : Int))) = true) then
      (some ((0 : Int), false))
    else
    Option.bind (Lshuntref01_Whole_0 k k (0 : Int) (IntKind.wrap .i64 ((((List.length a1) : Nat) : Int) - (1 : Int))) a0 a1) fun r11 =>
    if (r11.2.1 = true) then
      (some ((IntKind.wrap .i64 (IntKind.wrap .u64 ((0 : Int) - r11.1))), true))
    else
    (some ((IntKind.wrap .i64 r11.1), true))
  else
  (some ((0 : Int), false))
def Fshuntref01_Whole : Nat → Bool → List Int → Option (Int × Bool)
  | 0, _, _ => none
  | k + 1, a0, a1 => bshuntref01_Whole k a0 a1
def shshuntref01_Whole : FS := { vs := [.g [.lf .bool, .lf (.sl (.int .i64))]], bs := [] }
def rsshuntref01_Whole : List FS := [{ vs := [.a (.lf (.int .i64)), .a (.lf .bool)], bs := [] }]
def Ishuntref01_Whole (k : Nat) : Inst := ⟨53, shshuntref01_Whole, rsshuntref01_Whole, fun x => Fshuntref01_Whole k x.1 x.2⟩
theorem alshuntref01_Whole (k : Nat) : AllI (call cf k) [Ishuntref01_Wide k, Ishuntref01_Held k] := And.intro (okshuntref01_Wide k) (And.intro (okshuntref01_Held k) (True.intro))
def hsshuntref01_Whole_0 : List SS := [{ fr := [(1, .a (.ptr 0 0 0)), (4, .a (.lf (.int .u64))), (5, .a (.lf (.int .i64)))], mem := [(0, some (.raw [[.lf .bool, .lf (.sl (.int .i64))]] 2 50 true false))], nx := 1 }]
def osshuntref01_Whole_0 : List OS := [⟨some 0, { fr := [(1, .a (.ptr 0 0 0)), (4, .a (.lf (.int .u64)))], mem := [(0, some (.raw [[.lf .bool, .lf (.sl (.int .i64))]] 2 50 true false))], nx := 1 }⟩]
def LIshuntref01_Whole_0 (k : Nat) : LInst := ⟨0, hsshuntref01_Whole_0, osshuntref01_Whole_0, fun x => Lshuntref01_Whole_0 k k x.1 x.2.1 x.2.2.1 x.2.2.2⟩
theorem anshuntref01_Whole_0 (k : Nat) : LAll (LOk (R := DS OS.D osshuntref01_Whole_0) (fun b _ σ K => LOt Ty (kps 53) 0 b σ K []) cf (call cf k) (kps 53) Try.f53.ntmps k 0) 0 (lb Try.f53 0) :=
  And.intro (And.intro (True.intro) (And.intro (True.intro) (True.intro))) (And.intro (True.intro) (True.intro))
theorem stshuntref01_Whole_0 (k n : Nat) (x : DS SS.D hsshuntref01_Whole_0) : Lshuntref01_Whole_0 k (n + 1) x.1 x.2.1 x.2.2.1 x.2.2.2 = encSK SS.enc (fun σ => run2 cf (fun f a b K => COt f a b K [Ishuntref01_Wide k, Ishuntref01_Held k]) (fun b _ σ K => LOt Ty (kps 53) 0 b σ K []) Try.f53.ntmps 0 (lb Try.f53 0) σ (nextK Ty (kps 53 0) 0 hsshuntref01_Whole_0 osshuntref01_Whole_0 fun x => Lshuntref01_Whole_0 k n x.1 x.2.1 x.2.2.1 x.2.2.2)) hsshuntref01_Whole_0 x := by kernel_rfl
theorem loshuntref01_Whole_0 (k : Nat) : LIOk cf (call cf k) (kps 53) Try.f53.ntmps k 0 0 (lb Try.f53 0) (LIshuntref01_Whole_0 k) :=
  loop_ok (c := cf) (callF := call cf k) (kp := kps 53) (nt := Try.f53.ntmps) (k := k) (p := 0) (b := 0) (x0 := lb Try.f53 0) (hs := hsshuntref01_Whole_0) (os := osshuntref01_Whole_0) (COt_ok (alshuntref01_Whole k)) (anshuntref01_Whole_0 k) (fun n x => Lshuntref01_Whole_0 k n x.1 x.2.1 x.2.2.1 x.2.2.2) (fun _ => rfl) (stshuntref01_Whole_0 k)
theorem anshuntref01_Whole (k : Nat) : LAll (LOk (R := DS FS.D rsshuntref01_Whole) (fun b _ σ K => LOt Ty (kps 53) 0 b σ K [LIshuntref01_Whole_0 k]) cf (call cf k) (cf.keep 53) Try.f53.ntmps k shshuntref01_Whole.bs.length) 0 (bd Try.f53) :=
  And.intro (True.intro) (And.intro (And.intro (True.intro) (And.intro (And.intro (True.intro) (True.intro)) (True.intro))) (And.intro (True.intro) (And.intro (And.intro (True.intro) (LOt_ok (c := cf) (callF := call cf k) (kp := kps 53) (nt := Try.f53.ntmps) (k := k) (p := 0) (b := 0) (x0 := lb Try.f53 0) (l := [LIshuntref01_Whole_0 k]) (And.intro (fun _ => loshuntref01_Whole_0 k) (True.intro)))) (And.intro (And.intro (True.intro) (And.intro (True.intro) (True.intro))) (And.intro (True.intro) (True.intro))))))
theorem stshuntref01_Whole (k : Nat) (x : shshuntref01_Whole.D) : Fshuntref01_Whole (k + 1) x.1 x.2 = body2 cf (fun f a b K => COt f a b K [Ishuntref01_Wide k, Ishuntref01_Held k]) (fun b _ σ K => LOt Ty (kps 53) 0 b σ K [LIshuntref01_Whole_0 k]) 53 Try.f53.ntmps Try.f53.results.toList (bd Try.f53) (shshuntref01_Whole.enc x).1 (shshuntref01_Whole.enc x).2 (putS FS.dec rsshuntref01_Whole) := by kernel_rfl
theorem okshuntref01_Whole : ∀ k, InstOk (call cf k) (Ishuntref01_Whole k)
  | 0 => fun x y e => absurd (show (none : Option _) = some y from e) (by simp)
  | k + 1 => inst_ok (c := cf) (k := k) (f := 53) (fn := Try.f53) (body := bd Try.f53) (sh := shshuntref01_Whole) (os := rsshuntref01_Whole) rfl Try.func53 rfl ⟨rfl, Nat.le_of_ble_eq_true rfl⟩ (COt_ok (alshuntref01_Whole k)) (anshuntref01_Whole k) (fun x => Fshuntref01_Whole (k + 1) x.1 x.2) (stshuntref01_Whole k)

/-! shunt/shuntref01.Int64 -/
def bshuntref01_Int64 (k : Nat) (a0 : Bool) (a1 : List Int) : Option (Int × Int) :=
  Option.bind (Fshuntref01_Right k a0 a1) fun r5 =>
  if ((!r5) = true) then
    (some ((0 : Int), (10 : Int)))
  else
  Option.bind (Fshuntref01_Take k a0 a1) fun r6 =>
  Option.bind (Fshuntref01_Whole k r6.1 r6.2) fun r7 =>
  if ((!r7.2) = true) then
    (some ((0 : Int), (4 : Int)))
  else
  (some (r7.1, (0 : Int)))
def Fshuntref01_Int64 : Nat → Bool → List Int → Option (Int × Int)
  | 0, _, _ => none
  | k + 1, a0, a1 => bshuntref01_Int64 k a0 a1
def shshuntref01_Int64 : FS := { vs := [.g [.lf .bool, .lf (.sl (.int .u32))]], bs := [] }
def rsshuntref01_Int64 : List FS := [{ vs := [.a (.lf (.int .i64)), .a (.lf (.int .i64))], bs := [] }]
def Ishuntref01_Int64 (k : Nat) : Inst := ⟨23, shshuntref01_Int64, rsshuntref01_Int64, fun x => Fshuntref01_Int64 k x.1 x.2⟩
theorem alshuntref01_Int64 (k : Nat) : AllI (call cf k) [Ishuntref01_Right k, Ishuntref01_Take k, Ishuntref01_Whole k] := And.intro (okshuntref01_Right k) (And.intro (okshuntref01_Take k) (And.intro (okshuntref01_Whole k) (True.intro)))
theorem anshuntref01_Int64 (k : Nat) : LAll (LOk (R := DS FS.D rsshuntref01_Int64) (fun b _ σ K => LOt Ty (kps 23) 0 b σ K []) cf (call cf k) (cf.keep 23) Try.f23.ntmps k shshuntref01_Int64.bs.length) 0 (bd Try.f23) :=
  And.intro (True.intro) (And.intro (And.intro (True.intro) (And.intro (And.intro (True.intro) (True.intro)) (True.intro))) (And.intro (True.intro) (And.intro (And.intro (True.intro) (And.intro (And.intro (True.intro) (True.intro)) (True.intro))) (And.intro (True.intro) (True.intro)))))
theorem stshuntref01_Int64 (k : Nat) (x : shshuntref01_Int64.D) : Fshuntref01_Int64 (k + 1) x.1 x.2 = body2 cf (fun f a b K => COt f a b K [Ishuntref01_Right k, Ishuntref01_Take k, Ishuntref01_Whole k]) (fun b _ σ K => LOt Ty (kps 23) 0 b σ K []) 23 Try.f23.ntmps Try.f23.results.toList (bd Try.f23) (shshuntref01_Int64.enc x).1 (shshuntref01_Int64.enc x).2 (putS FS.dec rsshuntref01_Int64) := by kernel_rfl
theorem okshuntref01_Int64 : ∀ k, InstOk (call cf k) (Ishuntref01_Int64 k)
  | 0 => fun x y e => absurd (show (none : Option _) = some y from e) (by simp)
  | k + 1 => inst_ok (c := cf) (k := k) (f := 23) (fn := Try.f23) (body := bd Try.f23) (sh := shshuntref01_Int64) (os := rsshuntref01_Int64) rfl Try.func23 rfl ⟨rfl, Nat.le_of_ble_eq_true rfl⟩ (COt_ok (alshuntref01_Int64 k)) (anshuntref01_Int64 k) (fun x => Fshuntref01_Int64 (k + 1) x.1 x.2) (stshuntref01_Int64 k)

/-! shunt/shuntref01.Digits -/
def Lshuntref01_Digits_2s (k : Nat) (rec : ByteArray → Nat → Int → Int → Bool → List Int → List Int → Option (ByteArray × Nat × Int × Bool × List Int × List Int)) (s : ByteArray) (d : Nat) (rest : Int) (i : Int) (a0 : Bool) (a1 : List Int) (ds : List Int) : Option (ByteArray × Nat × Int × Bool × List Int × List Int) :=
  if ((decide (i ≥ (0 : Int))) = true) then
    if (((0 : Int) ≤ i) ∧ (i < ((d : Nat) : Int))) then
      Option.bind (ds)[(0 + (Int.toNat i))]? fun x =>
      if (((0 : Int) ≤ i) ∧ (i < ((d : Nat) : Int))) then
        Option.bind (ds)[(0 + (Int.toNat i))]? fun x1 =>
        rec s d (Int.tmod (IntKind.wrap .i64 ((IntKind.wrap .i64 (rest * (65536 : Int))) + x)) (10 : Int)) (IntKind.wrap .i64 (i - (1 : Int))) a0 a1 (List.set ds (0 + (Int.toNat i)) (IntKind.wrap .i64 (Int.tdiv (IntKind.wrap .i64 ((IntKind.wrap .i64 (rest * (65536 : Int))) + x)) (10 : Int))))
      else
      none
    else
    none
  else
  (some (s, d, rest, a0, a1, ds))
def Lshuntref01_Digits_2 (k n : Nat) : ByteArray → Nat → Int → Int → Bool → List Int → List Int → Option (ByteArray × Nat × Int × Bool × List Int × List Int) := Nat.rec (fun _ _ _ _ _ _ _ => none) (fun _ r => Lshuntref01_Digits_2s k r) n
def Lshuntref01_Digits_0s (k : Nat) (rec : ByteArray → Nat → Bool → List Int → List Int → Option (ByteArray × Bool × List Int × List Int)) (s : ByteArray) (d : Nat) (a0 : Bool) (a1 : List Int) (ds : List Int) : Option (ByteArray × Bool × List Int × List Int) :=
  if ((decide (((d : Nat) : Int) > (0 : Int))) = true) then
    Option.bind (Lshuntref01_Digits_2 k k s d (0 : Int) (IntKind.wrap .i64 (((d : Nat) : Int) - (1 : Int))) a0 a1 ds) fun r10 =>
    Option.bind (Fshuntref01_trim_mfi k r10.2.1 r10.2.2.2.2.2) fun r11 =>
    if (((((ByteArray.size (ByteArray.mk (List.toArray (List.map (fun n => n.toNat.toUInt8) (List.take 1 ((IntKind.wrap .u8 (IntKind.wrap .i64 ((48 : Int) + r10.2.2.1))) :: [])))))) + (ByteArray.size r10.1)) : Nat) : Int) > (9223372036854775807 : Int)) then
      none
    else
    rec ((ByteArray.mk (List.toArray (List.map (fun n => n.toNat.toUInt8) (List.take 1 ((IntKind.wrap .u8 (IntKind.wrap .i64 ((48 : Int) + r10.2.2.1))) :: []))))) ++ r10.1) r11.1 r10.2.2.2.1 r10.2.2.2.2.1 r11.2
  else
  (some (s, a0, a1, ds))
def Lshuntref01_Digits_0 (k n : Nat) : ByteArray → Nat → Bool → List Int → List Int → Option (ByteArray × Bool × List Int × List Int) := Nat.rec (fun _ _ _ _ _ => none) (fun _ r => Lshuntref01_Digits_0s k r) n
def bshuntref01_Digits (k : Nat) (a0 : Bool) (a1 : List Int) : Option (ByteArray) :=
  Option.bind (Fshuntref01_Sign k a0 a1) fun r9 =>
  if ((r9 == (0 : Int)) = true) then
    (some (ByteArray.mk (List.toArray (48 :: []))))
  else
  if (((0 + (List.length a1)) * 8) ≤ 140737488355328) then
    Option.bind (Lshuntref01_Digits_0 k k (ByteArray.mk (List.toArray [])) (0 + (List.length a1)) a0 a1 ((List.take 0 []) ++ a1)) fun r10 =>
    if (r10.2.1 = true) then
      if ((((1 + (ByteArray.size r10.1)) : Nat) : Int) > (9223372036854775807 : Int)) then
        none
      else
      (some ((ByteArray.mk (List.toArray (45 :: []))) ++ r10.1))
    else
    (some r10.1)
  else
  none
def Fshuntref01_Digits : Nat → Bool → List Int → Option (ByteArray)
  | 0, _, _ => none
  | k + 1, a0, a1 => bshuntref01_Digits k a0 a1
def shshuntref01_Digits : FS := { vs := [.g [.lf .bool, .lf (.sl (.int .i64))]], bs := [] }
def rsshuntref01_Digits : List FS := [{ vs := [.a (.lf .str)], bs := [] }]
def Ishuntref01_Digits (k : Nat) : Inst := ⟨55, shshuntref01_Digits, rsshuntref01_Digits, fun x => Fshuntref01_Digits k x.1 x.2⟩
theorem alshuntref01_Digits (k : Nat) : AllI (call cf k) [Ishuntref01_Sign k, Ishuntref01_trim_mfi k] := And.intro (okshuntref01_Sign k) (And.intro (okshuntref01_trim_mfi k) (True.intro))
def hsshuntref01_Digits_2 : List SS := [{ fr := [(1, .a (.ptr 0 0 0)), (3, .a (.lf .str)), (4, .a (.smz 1)), (5, .a (.lf (.int .i64))), (6, .a (.lf (.int .i64)))], mem := [(0, some (.raw [[.lf .bool, .lf (.sl (.int .i64))]] 2 50 true false)), (1, some (.arr (.int .i64) 1 3 false))], nx := 2 }]
def osshuntref01_Digits_2 : List OS := [⟨some 2, { fr := [(1, .a (.ptr 0 0 0)), (3, .a (.lf .str)), (4, .a (.smz 1)), (5, .a (.lf (.int .i64)))], mem := [(0, some (.raw [[.lf .bool, .lf (.sl (.int .i64))]] 2 50 true false)), (1, some (.arr (.int .i64) 1 3 false))], nx := 2 }⟩]
def LIshuntref01_Digits_2 (k : Nat) : LInst := ⟨2, hsshuntref01_Digits_2, osshuntref01_Digits_2, fun x => Lshuntref01_Digits_2 k k x.1 x.2.1 x.2.2.1 x.2.2.2.1 x.2.2.2.2.1 x.2.2.2.2.2.1 x.2.2.2.2.2.2⟩
theorem anshuntref01_Digits_2 (k : Nat) : LAll (LOk (R := DS OS.D osshuntref01_Digits_2) (fun b _ σ K => LOt Ty (kps 55) 0 b σ K []) cf (call cf k) (kps 55) Try.f55.ntmps k 0) 2 (lb Try.f55 1) :=
  And.intro (And.intro (True.intro) (And.intro (True.intro) (True.intro))) (And.intro (And.intro (True.intro) (And.intro (True.intro) (True.intro))) (True.intro))
theorem stshuntref01_Digits_2 (k n : Nat) (x : DS SS.D hsshuntref01_Digits_2) : Lshuntref01_Digits_2 k (n + 1) x.1 x.2.1 x.2.2.1 x.2.2.2.1 x.2.2.2.2.1 x.2.2.2.2.2.1 x.2.2.2.2.2.2 = encSK SS.enc (fun σ => run2 cf (fun f a b K => COt f a b K [Ishuntref01_Sign k, Ishuntref01_trim_mfi k]) (fun b _ σ K => LOt Ty (kps 55) 0 b σ K []) Try.f55.ntmps 2 (lb Try.f55 1) σ (nextK Ty (kps 55 2) 0 hsshuntref01_Digits_2 osshuntref01_Digits_2 fun x => Lshuntref01_Digits_2 k n x.1 x.2.1 x.2.2.1 x.2.2.2.1 x.2.2.2.2.1 x.2.2.2.2.2.1 x.2.2.2.2.2.2)) hsshuntref01_Digits_2 x := by kernel_rfl
theorem loshuntref01_Digits_2 (k : Nat) : LIOk cf (call cf k) (kps 55) Try.f55.ntmps k 0 2 (lb Try.f55 1) (LIshuntref01_Digits_2 k) :=
  loop_ok (c := cf) (callF := call cf k) (kp := kps 55) (nt := Try.f55.ntmps) (k := k) (p := 0) (b := 2) (x0 := lb Try.f55 1) (hs := hsshuntref01_Digits_2) (os := osshuntref01_Digits_2) (COt_ok (alshuntref01_Digits k)) (anshuntref01_Digits_2 k) (fun n x => Lshuntref01_Digits_2 k n x.1 x.2.1 x.2.2.1 x.2.2.2.1 x.2.2.2.2.1 x.2.2.2.2.2.1 x.2.2.2.2.2.2) (fun _ => rfl) (stshuntref01_Digits_2 k)
def hsshuntref01_Digits_0 : List SS := [{ fr := [(1, .a (.ptr 0 0 0)), (3, .a (.lf .str)), (4, .a (.smz 1))], mem := [(0, some (.raw [[.lf .bool, .lf (.sl (.int .i64))]] 2 50 true false)), (1, some (.arr (.int .i64) 1 3 false))], nx := 2 }]
def osshuntref01_Digits_0 : List OS := [⟨some 0, { fr := [(1, .a (.ptr 0 0 0)), (3, .a (.lf .str))], mem := [(0, some (.raw [[.lf .bool, .lf (.sl (.int .i64))]] 2 50 true false)), (1, some (.arr (.int .i64) 1 3 false))], nx := 2 }⟩]
def LIshuntref01_Digits_0 (k : Nat) : LInst := ⟨0, hsshuntref01_Digits_0, osshuntref01_Digits_0, fun x => Lshuntref01_Digits_0 k k x.1 x.2.1 x.2.2.1 x.2.2.2.1 x.2.2.2.2⟩
theorem anshuntref01_Digits_0 (k : Nat) : LAll (LOk (R := DS OS.D osshuntref01_Digits_0) (fun b _ σ K => LOt Ty (kps 55) 0 b σ K [LIshuntref01_Digits_2 k]) cf (call cf k) (kps 55) Try.f55.ntmps k 0) 0 (lb Try.f55 0) :=
  And.intro (And.intro (True.intro) (And.intro (True.intro) (True.intro))) (And.intro (True.intro) (And.intro (And.intro (True.intro) (LOt_ok (c := cf) (callF := call cf k) (kp := kps 55) (nt := Try.f55.ntmps) (k := k) (p := 0) (b := 2) (x0 := lb Try.f55 1) (l := [LIshuntref01_Digits_2 k]) (And.intro (fun _ => loshuntref01_Digits_2 k) (True.intro)))) (And.intro (True.intro) (True.intro))))
theorem stshuntref01_Digits_0 (k n : Nat) (x : DS SS.D hsshuntref01_Digits_0) : Lshuntref01_Digits_0 k (n + 1) x.1 x.2.1 x.2.2.1 x.2.2.2.1 x.2.2.2.2 = encSK SS.enc (fun σ => run2 cf (fun f a b K => COt f a b K [Ishuntref01_Sign k, Ishuntref01_trim_mfi k]) (fun b _ σ K => LOt Ty (kps 55) 0 b σ K [LIshuntref01_Digits_2 k]) Try.f55.ntmps 0 (lb Try.f55 0) σ (nextK Ty (kps 55 0) 0 hsshuntref01_Digits_0 osshuntref01_Digits_0 fun x => Lshuntref01_Digits_0 k n x.1 x.2.1 x.2.2.1 x.2.2.2.1 x.2.2.2.2)) hsshuntref01_Digits_0 x := by kernel_rfl
theorem loshuntref01_Digits_0 (k : Nat) : LIOk cf (call cf k) (kps 55) Try.f55.ntmps k 0 0 (lb Try.f55 0) (LIshuntref01_Digits_0 k) :=
  loop_ok (c := cf) (callF := call cf k) (kp := kps 55) (nt := Try.f55.ntmps) (k := k) (p := 0) (b := 0) (x0 := lb Try.f55 0) (hs := hsshuntref01_Digits_0) (os := osshuntref01_Digits_0) (COt_ok (alshuntref01_Digits k)) (anshuntref01_Digits_0 k) (fun n x => Lshuntref01_Digits_0 k n x.1 x.2.1 x.2.2.1 x.2.2.2.1 x.2.2.2.2) (fun _ => rfl) (stshuntref01_Digits_0 k)
theorem anshuntref01_Digits (k : Nat) : LAll (LOk (R := DS FS.D rsshuntref01_Digits) (fun b _ σ K => LOt Ty (kps 55) 0 b σ K [LIshuntref01_Digits_2 k, LIshuntref01_Digits_0 k]) cf (call cf k) (cf.keep 55) Try.f55.ntmps k shshuntref01_Digits.bs.length) 0 (bd Try.f55) :=
  And.intro (True.intro) (And.intro (And.intro (True.intro) (And.intro (And.intro (True.intro) (True.intro)) (True.intro))) (And.intro (True.intro) (And.intro (True.intro) (And.intro (LOt_ok (c := cf) (callF := call cf k) (kp := kps 55) (nt := Try.f55.ntmps) (k := k) (p := 0) (b := 0) (x0 := lb Try.f55 0) (l := [LIshuntref01_Digits_2 k, LIshuntref01_Digits_0 k]) (And.intro (fun h => absurd (show (2 : Nat) = 0 from h) (by decide)) (And.intro (fun _ => loshuntref01_Digits_0 k) (True.intro)))) (And.intro (And.intro (True.intro) (And.intro (And.intro (True.intro) (True.intro)) (True.intro))) (And.intro (True.intro) (True.intro)))))))
theorem stshuntref01_Digits (k : Nat) (x : shshuntref01_Digits.D) : Fshuntref01_Digits (k + 1) x.1 x.2 = body2 cf (fun f a b K => COt f a b K [Ishuntref01_Sign k, Ishuntref01_trim_mfi k]) (fun b _ σ K => LOt Ty (kps 55) 0 b σ K [LIshuntref01_Digits_2 k, LIshuntref01_Digits_0 k]) 55 Try.f55.ntmps Try.f55.results.toList (bd Try.f55) (shshuntref01_Digits.enc x).1 (shshuntref01_Digits.enc x).2 (putS FS.dec rsshuntref01_Digits) := by kernel_rfl
theorem okshuntref01_Digits : ∀ k, InstOk (call cf k) (Ishuntref01_Digits k)
  | 0 => fun x y e => absurd (show (none : Option _) = some y from e) (by simp)
  | k + 1 => inst_ok (c := cf) (k := k) (f := 55) (fn := Try.f55) (body := bd Try.f55) (sh := shshuntref01_Digits) (os := rsshuntref01_Digits) rfl Try.func55 rfl ⟨rfl, Nat.le_of_ble_eq_true rfl⟩ (COt_ok (alshuntref01_Digits k)) (anshuntref01_Digits k) (fun x => Fshuntref01_Digits (k + 1) x.1 x.2) (stshuntref01_Digits k)

/-! shunt/shuntref01.Text -/
def bshuntref01_Text (k : Nat) (a0 : Bool) (a1 : List Int) : Option (ByteArray × Int) :=
  Option.bind (Fshuntref01_Right k a0 a1) fun r7 =>
  if ((!r7) = true) then
    (some ((ByteArray.mk (List.toArray [])), (10 : Int)))
  else
  Option.bind (Fshuntref01_Take k a0 a1) fun r8 =>
  Option.bind (Fshuntref01_Digits k r8.1 r8.2) fun r9 =>
  (some (r9, (0 : Int)))
def Fshuntref01_Text : Nat → Bool → List Int → Option (ByteArray × Int)
  | 0, _, _ => none
  | k + 1, a0, a1 => bshuntref01_Text k a0 a1
def shshuntref01_Text : FS := { vs := [.g [.lf .bool, .lf (.sl (.int .u32))]], bs := [] }
def rsshuntref01_Text : List FS := [{ vs := [.a (.lf .str), .a (.lf (.int .i64))], bs := [] }]
def Ishuntref01_Text (k : Nat) : Inst := ⟨25, shshuntref01_Text, rsshuntref01_Text, fun x => Fshuntref01_Text k x.1 x.2⟩
theorem alshuntref01_Text (k : Nat) : AllI (call cf k) [Ishuntref01_Right k, Ishuntref01_Take k, Ishuntref01_Digits k] := And.intro (okshuntref01_Right k) (And.intro (okshuntref01_Take k) (And.intro (okshuntref01_Digits k) (True.intro)))
theorem anshuntref01_Text (k : Nat) : LAll (LOk (R := DS FS.D rsshuntref01_Text) (fun b _ σ K => LOt Ty (kps 25) 0 b σ K []) cf (call cf k) (cf.keep 25) Try.f25.ntmps k shshuntref01_Text.bs.length) 0 (bd Try.f25) :=
  And.intro (True.intro) (And.intro (And.intro (True.intro) (And.intro (And.intro (True.intro) (True.intro)) (True.intro))) (And.intro (True.intro) (True.intro)))
theorem stshuntref01_Text (k : Nat) (x : shshuntref01_Text.D) : Fshuntref01_Text (k + 1) x.1 x.2 = body2 cf (fun f a b K => COt f a b K [Ishuntref01_Right k, Ishuntref01_Take k, Ishuntref01_Digits k]) (fun b _ σ K => LOt Ty (kps 25) 0 b σ K []) 25 Try.f25.ntmps Try.f25.results.toList (bd Try.f25) (shshuntref01_Text.enc x).1 (shshuntref01_Text.enc x).2 (putS FS.dec rsshuntref01_Text) := by kernel_rfl
theorem okshuntref01_Text : ∀ k, InstOk (call cf k) (Ishuntref01_Text k)
  | 0 => fun x y e => absurd (show (none : Option _) = some y from e) (by simp)
  | k + 1 => inst_ok (c := cf) (k := k) (f := 25) (fn := Try.f25) (body := bd Try.f25) (sh := shshuntref01_Text) (os := rsshuntref01_Text) rfl Try.func25 rfl ⟨rfl, Nat.le_of_ble_eq_true rfl⟩ (COt_ok (alshuntref01_Text k)) (anshuntref01_Text k) (fun x => Fshuntref01_Text (k + 1) x.1 x.2) (stshuntref01_Text k)

/-! shunt/limb.Fits -/
def blimb_Fits (k : Nat) (a0 : Bool) (a1 : List Int) (limbs : Int) : Option (Bool) :=
  Option.bind (Flimb_Check k a0 a1) fun r15 =>
  if ((r15 == (0 : Int)) = true) then
    (some (decide ((((List.length a1) : Nat) : Int) ≤ limbs)))
  else
  (some false)
def Flimb_Fits : Nat → Bool → List Int → Int → Option (Bool)
  | 0, _, _, _ => none
  | k + 1, a0, a1, limbs => blimb_Fits k a0 a1 limbs
def shlimb_Fits : FS := { vs := [.g [.lf .bool, .lf (.sl (.int .u32))], .a (.lf (.int .i64))], bs := [] }
def rslimb_Fits : List FS := [{ vs := [.a (.lf .bool)], bs := [] }]
def Ilimb_Fits (k : Nat) : Inst := ⟨30, shlimb_Fits, rslimb_Fits, fun x => Flimb_Fits k x.1 x.2.1 x.2.2⟩
theorem allimb_Fits (k : Nat) : AllI (call cf k) [Ilimb_Check k] := And.intro (oklimb_Check k) (True.intro)
theorem anlimb_Fits (k : Nat) : LAll (LOk (R := DS FS.D rslimb_Fits) (fun b _ σ K => LOt Ty (kps 30) 0 b σ K []) cf (call cf k) (cf.keep 30) Try.f30.ntmps k shlimb_Fits.bs.length) 0 (bd Try.f30) :=
  And.intro (True.intro) (And.intro (True.intro) (True.intro))
theorem stlimb_Fits (k : Nat) (x : shlimb_Fits.D) : Flimb_Fits (k + 1) x.1 x.2.1 x.2.2 = body2 cf (fun f a b K => COt f a b K [Ilimb_Check k]) (fun b _ σ K => LOt Ty (kps 30) 0 b σ K []) 30 Try.f30.ntmps Try.f30.results.toList (bd Try.f30) (shlimb_Fits.enc x).1 (shlimb_Fits.enc x).2 (putS FS.dec rslimb_Fits) := by kernel_rfl
theorem oklimb_Fits : ∀ k, InstOk (call cf k) (Ilimb_Fits k)
  | 0 => fun x y e => absurd (show (none : Option _) = some y from e) (by simp)
  | k + 1 => inst_ok (c := cf) (k := k) (f := 30) (fn := Try.f30) (body := bd Try.f30) (sh := shlimb_Fits) (os := rslimb_Fits) rfl Try.func30 rfl ⟨rfl, Nat.le_of_ble_eq_true rfl⟩ (COt_ok (allimb_Fits k)) (anlimb_Fits k) (fun x => Flimb_Fits (k + 1) x.1 x.2.1 x.2.2) (stlimb_Fits k)

/-! shunt/shuntlaw01.whole -/
def bshuntlaw01_whole_arr (k : Nat) (in0 : Bool) (in1 : Nat) (a0 : Bool) (a1 : List Int) (m : List Int) : Option (Bool × List Int) :=
  if ((0 + in1) ≤ (List.length m)) then
    Option.bind (Fshuntlaw01_same k in0 (List.take in1 m) a0 a1) fun r16 =>
    if (r16 = true) then
      if (((0 : Int) ≤ (0 : Int)) ∧ (((0 : Int) ≤ (IntKind.wrap .i64 ((((List.length a1) : Nat) : Int) + (1 : Int)))) ∧ (((0 + (Int.toNat (IntKind.wrap .i64 ((((List.length a1) : Nat) : Int) + (1 : Int))))) ≤ (List.length m)) ∧ (((0 : Int) < (IntKind.wrap .i64 ((((List.length a1) : Nat) : Int) + (1 : Int)))) ∨ (true = true))))) then
        if (((0 : Int) ≤ (((List.length a1) : Nat) : Int)) ∧ ((((List.length a1) : Nat) : Int) < (((Int.toNat (IntKind.wrap .i64 ((((List.length a1) : Nat) : Int) + (1 : Int)))) : Nat) : Int))) then
          Option.bind (m)[(0 + (Int.toNat (((List.length a1) : Nat) : Int)))]? fun x =>
          (some ((x == (11259375 : Int)), m))
        else
        none
      else
      none
    else
    (some (false, m))
  else
  none
def Fshuntlaw01_whole_arr : Nat → Bool → Nat → Bool → List Int → List Int → Option (Bool × List Int)
  | 0, _, _, _, _, _ => none
  | k + 1, in0, in1, a0, a1, m => bshuntlaw01_whole_arr k in0 in1 a0 a1 m
def shshuntlaw01_whole_arr : FS := { vs := [.g [.lf .bool, .smz 0], .g [.lf .bool, .lf (.sl (.int .u32))]], bs := [.arr (.int .u32) 1 64 false] }
def rsshuntlaw01_whole_arr : List FS := [{ vs := [.a (.lf .bool)], bs := [.arr (.int .u32) 1 64 false] }]
def Ishuntlaw01_whole_arr (k : Nat) : Inst := ⟨20, shshuntlaw01_whole_arr, rsshuntlaw01_whole_arr, fun x => Fshuntlaw01_whole_arr k x.1 x.2.1 x.2.2.1 x.2.2.2.1 x.2.2.2.2⟩
theorem alshuntlaw01_whole_arr (k : Nat) : AllI (call cf k) [Ishuntlaw01_same k] := And.intro (okshuntlaw01_same k) (True.intro)
theorem anshuntlaw01_whole_arr (k : Nat) : LAll (LOk (R := DS FS.D rsshuntlaw01_whole_arr) (fun b _ σ K => LOt Ty (kps 20) 1 b σ K []) cf (call cf k) (cf.keep 20) Try.f20.ntmps k shshuntlaw01_whole_arr.bs.length) 0 (bd Try.f20) :=
  And.intro (True.intro) (And.intro (True.intro) (True.intro))
theorem stshuntlaw01_whole_arr (k : Nat) (x : shshuntlaw01_whole_arr.D) : Fshuntlaw01_whole_arr (k + 1) x.1 x.2.1 x.2.2.1 x.2.2.2.1 x.2.2.2.2 = body2 cf (fun f a b K => COt f a b K [Ishuntlaw01_same k]) (fun b _ σ K => LOt Ty (kps 20) 1 b σ K []) 20 Try.f20.ntmps Try.f20.results.toList (bd Try.f20) (shshuntlaw01_whole_arr.enc x).1 (shshuntlaw01_whole_arr.enc x).2 (putS FS.dec rsshuntlaw01_whole_arr) := by kernel_rfl
theorem okshuntlaw01_whole_arr : ∀ k, InstOk (call cf k) (Ishuntlaw01_whole_arr k)
  | 0 => fun x y e => absurd (show (none : Option _) = some y from e) (by simp)
  | k + 1 => inst_ok (c := cf) (k := k) (f := 20) (fn := Try.f20) (body := bd Try.f20) (sh := shshuntlaw01_whole_arr) (os := rsshuntlaw01_whole_arr) rfl Try.func20 rfl ⟨rfl, Nat.le_of_ble_eq_true rfl⟩ (COt_ok (alshuntlaw01_whole_arr k)) (anshuntlaw01_whole_arr k) (fun x => Fshuntlaw01_whole_arr (k + 1) x.1 x.2.1 x.2.2.1 x.2.2.2.1 x.2.2.2.2) (stshuntlaw01_whole_arr k)

/-! shunt/shuntlaw01.LimbOnes -/
def bshuntlaw01_LimbOnes (k : Nat) (v : Int) (a0 : Bool) (a1 : List Int) (limbs : Int) : Option (Bool) :=
  Option.bind (Fshuntlaw01_awake k) fun r =>
  if ((!r) = true) then
    (some false)
  else
  Option.bind (Fshuntlaw01_long k a0 a1) fun r1 =>
  if (r1 = true) then
    (some true)
  else
  Option.bind (Fshuntlaw01_lent k a0 a1) fun r2 =>
  Option.bind (Fshuntref01_Right k a0 a1) fun r3 =>
  if ((0 + r2.2.1) ≤ (List.length r2.2.2)) then
    Option.bind (Flimb_Int64 k r2.1 (List.take r2.2.1 r2.2.2)) fun r4 =>
    Option.bind (Fshuntref01_Int64 k a0 a1) fun r5 =>
    if ((0 + r2.2.1) ≤ (List.length r2.2.2)) then
      Option.bind (Flimb_Text k r2.1 (List.take r2.2.1 r2.2.2)) fun r6 =>
      Option.bind (Fshuntref01_Text k a0 a1) fun r7 =>
      Option.bind (Flimb_Of k v) fun r8 =>
      Option.bind (Fshuntref01_Wide k v) fun r9 =>
      Option.bind (Fshuntref01_Give k r9.1 r9.2) fun r10 =>
      Option.bind (Fshuntlaw01_same k r8.1 r8.2 r10.1 r10.2) fun r11 =>
      if ((!r11) = false) then
        if ((0 + r2.2.1) ≤ (List.length r2.2.2)) then
          Option.bind (Flimb_Check k r2.1 (List.take r2.2.1 r2.2.2)) fun r12 =>
          if ((!((r12 == (0 : Int)) == r3)) = false) then
            if ((0 + r2.2.1) ≤ (List.length r2.2.2)) then
              Option.bind (Flimb_Check k r2.1 (List.take r2.2.1 r2.2.2)) fun r13 =>
              if ((r13 != (0 : Int)) = true) then
                if ((0 + r2.2.1) ≤ (List.length r2.2.2)) then
                  Option.bind (Flimb_Check k r2.1 (List.take r2.2.1 r2.2.2)) fun r14 =>
                  if ((r14 != (10 : Int)) = true) then
                    (some false)
                  else
                  if ((r4.1 == r5.1) = true) then
                    if ((r4.2 == r5.2) = true) then
                      if (((Array.toList (ByteArray.data r6.1)) == (Array.toList (ByteArray.data r7.1))) = true) then
                        if ((r6.2 == r7.2) = true) then
                          if ((0 + r2.2.1) ≤ (List.length r2.2.2)) then
                            Option.bind (Flimb_Fits k r2.1 (List.take r2.2.1 r2.2.2) limbs) fun r15 =>
                            if (r3 = true) then
                              if ((r15 == (decide ((((List.length a1) : Nat) : Int) ≤ limbs))) = true) then
                                Option.bind (Fshuntlaw01_whole_arr k r2.1 r2.2.1 a0 a1 r2.2.2) fun r16 =>
                                (some r16.1)
                              else
                              (some false)
                            else
                            if ((r15 == false) = true) then
                              Option.bind (Fshuntlaw01_whole_arr k r2.1 r2.2.1 a0 a1 r2.2.2) fun r16 =>
                              (some r16.1)
                            else
                            (some false)
                          else
                          none
                        else
                        (some false)
                      else
                      (some false)
                    else
                    (some false)
                  else
                  (some false)
                else
                none
              else
              if ((r4.1 == r5.1) = true) then
                if ((r4.2 == r5.2) = true) then
                  if (((Array.toList (ByteArray.data r6.1)) == (Array.toList (ByteArray.data r7.1))) = true) then
                    if ((r6.2 == r7.2) = true) then
                      if ((0 + r2.2.1) ≤ (List.length r2.2.2)) then
                        Option.bind (Flimb_Fits k r2.1 (List.take r2.2.1 r2.2.2) limbs) fun r14 =>
                        if (r3 = true) then
                          if ((r14 == (decide ((((List.length a1) : Nat) : Int) ≤ limbs))) = true) then
                            Option.bind (Fshuntlaw01_whole_arr k r2.1 r2.2.1 a0 a1 r2.2.2) fun r15 =>
                            (some r15.1)
                          else
                          (some false)
                        else
                        if ((r14 == false) = true) then
                          Option.bind (Fshuntlaw01_whole_arr k r2.1 r2.2.1 a0 a1 r2.2.2) fun r15 =>
                          (some r15.1)
                        else
                        (some false)
                      else
                      none
                    else
                    (some false)
                  else
                  (some false)
                else
                (some false)
              else
              (some false)
            else
            none
          else
          (some false)
        else
        none
      else
      (some false)
    else
    none
  else
  none
def Fshuntlaw01_LimbOnes : Nat → Int → Bool → List Int → Int → Option (Bool)
  | 0, _, _, _, _ => none
  | k + 1, v, a0, a1, limbs => bshuntlaw01_LimbOnes k v a0 a1 limbs
def shshuntlaw01_LimbOnes : FS := { vs := [.a (.lf (.int .i64)), .g [.lf .bool, .lf (.sl (.int .u32))], .a (.lf (.int .i64))], bs := [] }
def rsshuntlaw01_LimbOnes : List FS := [{ vs := [.a (.lf .bool)], bs := [] }]
def Ishuntlaw01_LimbOnes (k : Nat) : Inst := ⟨4, shshuntlaw01_LimbOnes, rsshuntlaw01_LimbOnes, fun x => Fshuntlaw01_LimbOnes k x.1 x.2.1 x.2.2.1 x.2.2.2⟩
theorem alshuntlaw01_LimbOnes (k : Nat) : AllI (call cf k) [Ishuntlaw01_awake k, Ishuntlaw01_long k, Ishuntlaw01_lent k, Ishuntref01_Right k, Ilimb_Int64 k, Ishuntref01_Int64 k, Ilimb_Text k, Ishuntref01_Text k, Ilimb_Of k, Ishuntref01_Wide k, Ishuntref01_Give k, Ishuntlaw01_same k, Ilimb_Check k, Ilimb_Fits k, Ishuntlaw01_whole_arr k] := And.intro (okshuntlaw01_awake k) (And.intro (okshuntlaw01_long k) (And.intro (okshuntlaw01_lent k) (And.intro (okshuntref01_Right k) (And.intro (oklimb_Int64 k) (And.intro (okshuntref01_Int64 k) (And.intro (oklimb_Text k) (And.intro (okshuntref01_Text k) (And.intro (oklimb_Of k) (And.intro (okshuntref01_Wide k) (And.intro (okshuntref01_Give k) (And.intro (okshuntlaw01_same k) (And.intro (oklimb_Check k) (And.intro (oklimb_Fits k) (And.intro (okshuntlaw01_whole_arr k) (True.intro)))))))))))))))
theorem anshuntlaw01_LimbOnes (k : Nat) : LAll (LOk (R := DS FS.D rsshuntlaw01_LimbOnes) (fun b _ σ K => LOt Ty (kps 4) 0 b σ K []) cf (call cf k) (cf.keep 4) Try.f4.ntmps k shshuntlaw01_LimbOnes.bs.length) 0 (bd Try.f4) :=
  And.intro (True.intro) (And.intro (And.intro (True.intro) (And.intro (And.intro (True.intro) (True.intro)) (True.intro))) (And.intro (And.intro (True.intro) (And.intro (And.intro (True.intro) (True.intro)) (True.intro))) (And.intro (True.intro) (And.intro (True.intro) (And.intro (True.intro) (And.intro (True.intro) (And.intro (True.intro) (And.intro (True.intro) (And.intro (And.intro (True.intro) (And.intro (And.intro (True.intro) (True.intro)) (True.intro))) (And.intro (True.intro) (True.intro)))))))))))
theorem stshuntlaw01_LimbOnes (k : Nat) (x : shshuntlaw01_LimbOnes.D) : Fshuntlaw01_LimbOnes (k + 1) x.1 x.2.1 x.2.2.1 x.2.2.2 = body2 cf (fun f a b K => COt f a b K [Ishuntlaw01_awake k, Ishuntlaw01_long k, Ishuntlaw01_lent k, Ishuntref01_Right k, Ilimb_Int64 k, Ishuntref01_Int64 k, Ilimb_Text k, Ishuntref01_Text k, Ilimb_Of k, Ishuntref01_Wide k, Ishuntref01_Give k, Ishuntlaw01_same k, Ilimb_Check k, Ilimb_Fits k, Ishuntlaw01_whole_arr k]) (fun b _ σ K => LOt Ty (kps 4) 0 b σ K []) 4 Try.f4.ntmps Try.f4.results.toList (bd Try.f4) (shshuntlaw01_LimbOnes.enc x).1 (shshuntlaw01_LimbOnes.enc x).2 (putS FS.dec rsshuntlaw01_LimbOnes) := by kernel_rfl
theorem okshuntlaw01_LimbOnes : ∀ k, InstOk (call cf k) (Ishuntlaw01_LimbOnes k)
  | 0 => fun x y e => absurd (show (none : Option _) = some y from e) (by simp)
  | k + 1 => inst_ok (c := cf) (k := k) (f := 4) (fn := Try.f4) (body := bd Try.f4) (sh := shshuntlaw01_LimbOnes) (os := rsshuntlaw01_LimbOnes) rfl Try.func4 rfl ⟨rfl, Nat.le_of_ble_eq_true rfl⟩ (COt_ok (alshuntlaw01_LimbOnes k)) (anshuntlaw01_LimbOnes k) (fun x => Fshuntlaw01_LimbOnes (k + 1) x.1 x.2.1 x.2.2.1 x.2.2.2) (stshuntlaw01_LimbOnes k)

/-! (*shunt/big.Int).Sub -/
def bbig_Int_Sub_gsh (k : Nat) (z : Bool) (x0 : Bool) (x1 : List Int) (y0 : Bool) (y1 : List Int) : Option (Bool × List Int × Bool × List Int × Bool × List Int) :=
  Option.bind (Fbig_Int_sum_bot k (!y0) y1 z x0 x1) fun r9 =>
  (some (r9.1, r9.2.1, r9.2.2.1, r9.2.2.2, y0, y1))
def Fbig_Int_Sub_gsh : Nat → Bool → Bool → List Int → Bool → List Int → Option (Bool × List Int × Bool × List Int × Bool × List Int)
  | 0, _, _, _, _, _ => none
  | k + 1, z, x0, x1, y0, y1 => bbig_Int_Sub_gsh k z x0 x1 y0 y1
def shbig_Int_Sub_gsh : FS := { vs := [.a (.ptr 0 0 0), .a (.ptr 1 0 0), .a (.ptr 2 0 0)], bs := [.raw [[.lf .bool, .snil 1 64]] 2 69 true false, .raw [[.lf .bool, .lf (.sl (.int .u32))]] 2 69 true false, .raw [[.lf .bool, .lf (.sl (.int .u32))]] 2 69 true false] }
def rsbig_Int_Sub_gsh : List FS := [{ vs := [.a (.ptr 0 0 0)], bs := [.raw [[.lf .bool, .lf (.sl (.int .u32))]] 2 69 true false, .raw [[.lf .bool, .lf (.sl (.int .u32))]] 2 69 true false, .raw [[.lf .bool, .lf (.sl (.int .u32))]] 2 69 true false] }]
def Ibig_Int_Sub_gsh (k : Nat) : Inst := ⟨59, shbig_Int_Sub_gsh, rsbig_Int_Sub_gsh, fun x => Fbig_Int_Sub_gsh k x.1 x.2.1 x.2.2.1 x.2.2.2.1 x.2.2.2.2⟩
theorem albig_Int_Sub_gsh (k : Nat) : AllI (call cf k) [Ibig_Int_sum_bot k] := And.intro (okbig_Int_sum_bot k) (True.intro)
theorem anbig_Int_Sub_gsh (k : Nat) : LAll (LOk (R := DS FS.D rsbig_Int_Sub_gsh) (fun b _ σ K => LOt Ty (kps 59) 3 b σ K []) cf (call cf k) (cf.keep 59) Try.f59.ntmps k shbig_Int_Sub_gsh.bs.length) 0 (bd Try.f59) :=
  And.intro (True.intro) (And.intro (True.intro) (True.intro))
theorem stbig_Int_Sub_gsh (k : Nat) (x : shbig_Int_Sub_gsh.D) : Fbig_Int_Sub_gsh (k + 1) x.1 x.2.1 x.2.2.1 x.2.2.2.1 x.2.2.2.2 = body2 cf (fun f a b K => COt f a b K [Ibig_Int_sum_bot k]) (fun b _ σ K => LOt Ty (kps 59) 3 b σ K []) 59 Try.f59.ntmps Try.f59.results.toList (bd Try.f59) (shbig_Int_Sub_gsh.enc x).1 (shbig_Int_Sub_gsh.enc x).2 (putS FS.dec rsbig_Int_Sub_gsh) := by kernel_rfl
theorem okbig_Int_Sub_gsh : ∀ k, InstOk (call cf k) (Ibig_Int_Sub_gsh k)
  | 0 => fun x y e => absurd (show (none : Option _) = some y from e) (by simp)
  | k + 1 => inst_ok (c := cf) (k := k) (f := 59) (fn := Try.f59) (body := bd Try.f59) (sh := shbig_Int_Sub_gsh) (os := rsbig_Int_Sub_gsh) rfl Try.func59 rfl ⟨rfl, Nat.le_of_ble_eq_true rfl⟩ (COt_ok (albig_Int_Sub_gsh k)) (anbig_Int_Sub_gsh k) (fun x => Fbig_Int_Sub_gsh (k + 1) x.1 x.2.1 x.2.2.1 x.2.2.2.1 x.2.2.2.2) (stbig_Int_Sub_gsh k)

/-! shunt/limb.Sub -/
def blimb_Sub (k : Nat) (a0 : Bool) (a1 : List Int) (b0 : Bool) (b1 : List Int) : Option (Bool × List Int × Int) :=
  Option.bind (Flimb_both k a0 a1 b0 b1) fun r6 =>
  if ((r6 != (0 : Int)) = true) then
    (some (false, [], r6))
  else
  Option.bind (Fwide_Take k a0 a1) fun r7 =>
  Option.bind (Fwide_Take k b0 b1) fun r8 =>
  Option.bind (Fbig_Int_Sub_gsh k false r7.1 r7.2 r8.1 r8.2) fun r9 =>
  Option.bind (Flimb_answer_awf k r9.1 r9.2.1) fun r10 =>
  if ((0 + r10.2.1) ≤ (List.length r10.2.2.2.2.2)) then
    (some (r10.1, (List.take r10.2.1 r10.2.2.2.2.2), r10.2.2.1))
  else
  none
def Flimb_Sub : Nat → Bool → List Int → Bool → List Int → Option (Bool × List Int × Int)
  | 0, _, _, _, _ => none
  | k + 1, a0, a1, b0, b1 => blimb_Sub k a0 a1 b0 b1
def shlimb_Sub : FS := { vs := [.g [.lf .bool, .lf (.sl (.int .u32))], .g [.lf .bool, .lf (.sl (.int .u32))]], bs := [] }
def rslimb_Sub : List FS := [{ vs := [.g [.lf .bool, .lf (.sl (.int .u32))], .a (.lf (.int .i64))], bs := [] }]
def Ilimb_Sub (k : Nat) : Inst := ⟨32, shlimb_Sub, rslimb_Sub, fun x => Flimb_Sub k x.1 x.2.1 x.2.2.1 x.2.2.2⟩
theorem allimb_Sub (k : Nat) : AllI (call cf k) [Ilimb_both k, Iwide_Take k, Ibig_Int_Sub_gsh k, Ilimb_answer_awf k] := And.intro (oklimb_both k) (And.intro (okwide_Take k) (And.intro (okbig_Int_Sub_gsh k) (And.intro (oklimb_answer_awf k) (True.intro))))
theorem anlimb_Sub (k : Nat) : LAll (LOk (R := DS FS.D rslimb_Sub) (fun b _ σ K => LOt Ty (kps 32) 0 b σ K []) cf (call cf k) (cf.keep 32) Try.f32.ntmps k shlimb_Sub.bs.length) 0 (bd Try.f32) :=
  And.intro (True.intro) (And.intro (And.intro (True.intro) (And.intro (True.intro) (And.intro (And.intro (True.intro) (True.intro)) (True.intro)))) (And.intro (True.intro) (True.intro)))
theorem stlimb_Sub (k : Nat) (x : shlimb_Sub.D) : Flimb_Sub (k + 1) x.1 x.2.1 x.2.2.1 x.2.2.2 = body2 cf (fun f a b K => COt f a b K [Ilimb_both k, Iwide_Take k, Ibig_Int_Sub_gsh k, Ilimb_answer_awf k]) (fun b _ σ K => LOt Ty (kps 32) 0 b σ K []) 32 Try.f32.ntmps Try.f32.results.toList (bd Try.f32) (shlimb_Sub.enc x).1 (shlimb_Sub.enc x).2 (putS FS.dec rslimb_Sub) := by kernel_rfl
theorem oklimb_Sub : ∀ k, InstOk (call cf k) (Ilimb_Sub k)
  | 0 => fun x y e => absurd (show (none : Option _) = some y from e) (by simp)
  | k + 1 => inst_ok (c := cf) (k := k) (f := 32) (fn := Try.f32) (body := bd Try.f32) (sh := shlimb_Sub) (os := rslimb_Sub) rfl Try.func32 rfl ⟨rfl, Nat.le_of_ble_eq_true rfl⟩ (COt_ok (allimb_Sub k)) (anlimb_Sub k) (fun x => Flimb_Sub (k + 1) x.1 x.2.1 x.2.2.1 x.2.2.2) (stlimb_Sub k)

/-! (*shunt/big.Int).Mul -/
def Lbig_Int_Mul_gsh_2s (k : Nat) (rec : Nat → Int → Int → Int → List Int → Int → Int → List Int → Int → Int → Bool → Bool → List Int → Bool → List Int → List Int → Option (Nat × Int × Int × List Int × Int × Int × Bool × Bool × List Int × Bool × List Int × List Int)) (out1 : Nat) (i : Int) (a : Int) (carry : Int) (x : List Int) (x1 : Int) (x2 : Int) (x3 : List Int) (x4 : Int) (x5 : Int) (z : Bool) (x0 : Bool) (x11 : List Int) (y0 : Bool) (y1 : List Int) (outs : List Int) : Option (Nat × Int × Int × List Int × Int × Int × Bool × Bool × List Int × Bool × List Int × List Int) :=
  if ((decide (x5 < x4)) = true) then
    if ((0 : Int) ≤ x5) then
      Option.bind (x3)[(Int.toNat x5)]? fun x6 =>
      if (((0 : Int) ≤ (IntKind.wrap .i64 (i + x5))) ∧ ((IntKind.wrap .i64 (i + x5)) < ((out1 : Nat) : Int))) then
        Option.bind (outs)[(0 + (Int.toNat (IntKind.wrap .i64 (i + x5))))]? fun x7 =>
        if (((0 : Int) ≤ (IntKind.wrap .i64 (i + x5))) ∧ ((IntKind.wrap .i64 (i + x5)) < ((out1 : Nat) : Int))) then
          Option.bind (outs)[(0 + (Int.toNat (IntKind.wrap .i64 (i + x5))))]? fun x8 =>
          rec out1 i a (Int.fdiv (IntKind.wrap .u64 ((IntKind.wrap .u64 ((IntKind.wrap .u64 ((IntKind.wrap .u64 a) * (IntKind.wrap .u64 x6))) + (IntKind.wrap .u64 x7))) + carry)) (4294967296 : Int)) x x1 x2 x3 x4 (IntKind.wrap .i64 (x5 + (1 : Int))) z x0 x11 y0 y1 (List.set outs (0 + (Int.toNat (IntKind.wrap .i64 (i + x5)))) (IntKind.wrap .u32 (IntKind.wrap .u64 ((IntKind.wrap .u64 ((IntKind.wrap .u64 ((IntKind.wrap .u64 a) * (IntKind.wrap .u64 x6))) + (IntKind.wrap .u64 x7))) + carry))))
        else
        none
      else
      none
    else
    none
  else
  (some (out1, i, carry, x, x1, x2, z, x0, x11, y0, y1, outs))
def Lbig_Int_Mul_gsh_2 (k n : Nat) : Nat → Int → Int → Int → List Int → Int → Int → List Int → Int → Int → Bool → Bool → List Int → Bool → List Int → List Int → Option (Nat × Int × Int × List Int × Int × Int × Bool × Bool × List Int × Bool × List Int × List Int) := Nat.rec (fun _ _ _ _ _ _ _ _ _ _ _ _ _ _ _ _ => none) (fun _ r => Lbig_Int_Mul_gsh_2s k r) n
def Lbig_Int_Mul_gsh_0s (k : Nat) (rec : Nat → List Int → Int → Int → Bool → Bool → List Int → Bool → List Int → List Int → Option (Nat × Bool × Bool × List Int × Bool × List Int × List Int)) (out1 : Nat) (x : List Int) (x1 : Int) (x2 : Int) (z : Bool) (x0 : Bool) (x11 : List Int) (y0 : Bool) (y1 : List Int) (outs : List Int) : Option (Nat × Bool × Bool × List Int × Bool × List Int × List Int) :=
  if ((decide (x2 < x1)) = true) then
    if ((0 : Int) ≤ x2) then
      Option.bind (x)[(Int.toNat x2)]? fun x3 =>
      Option.bind (Lbig_Int_Mul_gsh_2 k k out1 x2 x3 (0 : Int) x x1 x2 y1 (((List.length y1) : Nat) : Int) (0 : Int) z x0 x11 y0 y1 outs) fun r12 =>
      if (((0 : Int) ≤ (IntKind.wrap .i64 (r12.2.1 + (((List.length r12.2.2.2.2.2.2.2.2.2.2.1) : Nat) : Int)))) ∧ ((IntKind.wrap .i64 (r12.2.1 + (((List.length r12.2.2.2.2.2.2.2.2.2.2.1) : Nat) : Int))) < ((r12.1 : Nat) : Int))) then
        Option.bind (r12.2.2.2.2.2.2.2.2.2.2.2)[(0 + (Int.toNat (IntKind.wrap .i64 (r12.2.1 + (((List.length r12.2.2.2.2.2.2.2.2.2.2.1) : Nat) : Int)))))]? fun x4 =>
        rec r12.1 r12.2.2.2.1 r12.2.2.2.2.1 (IntKind.wrap .i64 (r12.2.2.2.2.2.1 + (1 : Int))) r12.2.2.2.2.2.2.1 r12.2.2.2.2.2.2.2.1 r12.2.2.2.2.2.2.2.2.1 r12.2.2.2.2.2.2.2.2.2.1 r12.2.2.2.2.2.2.2.2.2.2.1 (List.set r12.2.2.2.2.2.2.2.2.2.2.2 (0 + (Int.toNat (IntKind.wrap .i64 (r12.2.1 + (((List.length r12.2.2.2.2.2.2.2.2.2.2.1) : Nat) : Int))))) (IntKind.wrap .u32 r12.2.2.1))
      else
      none
    else
    none
  else
  (some (out1, z, x0, x11, y0, y1, outs))
def Lbig_Int_Mul_gsh_0 (k n : Nat) : Nat → List Int → Int → Int → Bool → Bool → List Int → Bool → List Int → List Int → Option (Nat × Bool × Bool × List Int × Bool × List Int × List Int) := Nat.rec (fun _ _ _ _ _ _ _ _ _ _ => none) (fun _ r => Lbig_Int_Mul_gsh_0s k r) n
def bbig_Int_Mul_gsh (k : Nat) (z : Bool) (x0 : Bool) (x1 : List Int) (y0 : Bool) (y1 : List Int) : Option (Bool × List Int × Bool × List Int × Bool × List Int) :=
  if (((0 : Int) ≤ (IntKind.wrap .i64 ((((List.length x1) : Nat) : Int) + (((List.length y1) : Nat) : Int)))) ∧ (((IntKind.wrap .i64 ((((List.length x1) : Nat) : Int) + (((List.length y1) : Nat) : Int))) ≤ (IntKind.wrap .i64 ((((List.length x1) : Nat) : Int) + (((List.length y1) : Nat) : Int)))) ∧ (((IntKind.wrap .i64 ((((List.length x1) : Nat) : Int) + (((List.length y1) : Nat) : Int))) * (4 : Int)) ≤ (140737488355328 : Int)))) then
    Option.bind (Lbig_Int_Mul_gsh_0 k k (Int.toNat (IntKind.wrap .i64 ((((List.length x1) : Nat) : Int) + (((List.length y1) : Nat) : Int)))) x1 (((List.length x1) : Nat) : Int) (0 : Int) z x0 x1 y0 y1 (List.replicate (Int.toNat (IntKind.wrap .i64 ((((List.length x1) : Nat) : Int) + (((List.length y1) : Nat) : Int)))) (0 : Int))) fun r12 =>
    if ((0 + r12.1) ≤ (List.length r12.2.2.2.2.2.2)) then
      Option.bind (Fbig_Int_set_cvg k (!(r12.2.2.1 == r12.2.2.2.2.1)) (List.take r12.1 r12.2.2.2.2.2.2) r12.2.1) fun r13 =>
      (some (r13.1, r13.2, r12.2.2.1, r12.2.2.2.1, r12.2.2.2.2.1, r12.2.2.2.2.2.1))
    else
    none
  else
  none
def Fbig_Int_Mul_gsh : Nat → Bool → Bool → List Int → Bool → List Int → Option (Bool × List Int × Bool × List Int × Bool × List Int)
  | 0, _, _, _, _, _ => none
  | k + 1, z, x0, x1, y0, y1 => bbig_Int_Mul_gsh k z x0 x1 y0 y1
def shbig_Int_Mul_gsh : FS := { vs := [.a (.ptr 0 0 0), .a (.ptr 1 0 0), .a (.ptr 2 0 0)], bs := [.raw [[.lf .bool, .snil 1 64]] 2 69 true false, .raw [[.lf .bool, .lf (.sl (.int .u32))]] 2 69 true false, .raw [[.lf .bool, .lf (.sl (.int .u32))]] 2 69 true false] }
def rsbig_Int_Mul_gsh : List FS := [{ vs := [.a (.ptr 0 0 0)], bs := [.raw [[.lf .bool, .lf (.sl (.int .u32))]] 2 69 true false, .raw [[.lf .bool, .lf (.sl (.int .u32))]] 2 69 true false, .raw [[.lf .bool, .lf (.sl (.int .u32))]] 2 69 true false] }]
def Ibig_Int_Mul_gsh (k : Nat) : Inst := ⟨60, shbig_Int_Mul_gsh, rsbig_Int_Mul_gsh, fun x => Fbig_Int_Mul_gsh k x.1 x.2.1 x.2.2.1 x.2.2.2.1 x.2.2.2.2⟩
theorem albig_Int_Mul_gsh (k : Nat) : AllI (call cf k) [Ibig_Int_set_cvg k] := And.intro (okbig_Int_set_cvg k) (True.intro)
def hsbig_Int_Mul_gsh_2 : List SS := [{ fr := [(0, .a (.ptr 0 0 0)), (1, .a (.ptr 1 0 0)), (2, .a (.ptr 2 0 0)), (7, .a (.smz 3)), (8, .a (.lf (.int .i64))), (9, .a (.lf (.int .u32))), (10, .a (.lf (.int .u64))), (29, .a (.lf (.sl (.int .u32)))), (30, .a (.lf (.int .i64))), (31, .a (.lf (.int .i64))), (39, .a (.lf (.sl (.int .u32)))), (40, .a (.lf (.int .i64))), (41, .a (.lf (.int .i64)))], mem := [(0, some (.raw [[.lf .bool, .snil 1 64]] 2 69 true false)), (1, some (.raw [[.lf .bool, .lf (.sl (.int .u32))]] 2 69 true false)), (2, some (.raw [[.lf .bool, .lf (.sl (.int .u32))]] 2 69 true false)), (3, some (.arr (.int .u32) 1 64 false))], nx := 4 }]
def osbig_Int_Mul_gsh_2 : List OS := [⟨some 2, { fr := [(0, .a (.ptr 0 0 0)), (1, .a (.ptr 1 0 0)), (2, .a (.ptr 2 0 0)), (7, .a (.smz 3)), (8, .a (.lf (.int .i64))), (10, .a (.lf (.int .u64))), (29, .a (.lf (.sl (.int .u32)))), (30, .a (.lf (.int .i64))), (31, .a (.lf (.int .i64)))], mem := [(0, some (.raw [[.lf .bool, .snil 1 64]] 2 69 true false)), (1, some (.raw [[.lf .bool, .lf (.sl (.int .u32))]] 2 69 true false)), (2, some (.raw [[.lf .bool, .lf (.sl (.int .u32))]] 2 69 true false)), (3, some (.arr (.int .u32) 1 64 false))], nx := 4 }⟩]
def LIbig_Int_Mul_gsh_2 (k : Nat) : LInst := ⟨2, hsbig_Int_Mul_gsh_2, osbig_Int_Mul_gsh_2, fun x => Lbig_Int_Mul_gsh_2 k k x.1 x.2.1 x.2.2.1 x.2.2.2.1 x.2.2.2.2.1 x.2.2.2.2.2.1 x.2.2.2.2.2.2.1 x.2.2.2.2.2.2.2.1 x.2.2.2.2.2.2.2.2.1 x.2.2.2.2.2.2.2.2.2.1 x.2.2.2.2.2.2.2.2.2.2.1 x.2.2.2.2.2.2.2.2.2.2.2.1 x.2.2.2.2.2.2.2.2.2.2.2.2.1 x.2.2.2.2.2.2.2.2.2.2.2.2.2.1 x.2.2.2.2.2.2.2.2.2.2.2.2.2.2.1 x.2.2.2.2.2.2.2.2.2.2.2.2.2.2.2⟩
theorem anbig_Int_Mul_gsh_2 (k : Nat) : LAll (LOk (R := DS OS.D osbig_Int_Mul_gsh_2) (fun b _ σ K => LOt Ty (kps 60) 3 b σ K []) cf (call cf k) (kps 60) Try.f60.ntmps k 3) 2 (lb Try.f60 1) :=
  And.intro (True.intro) (And.intro (And.intro (True.intro) (True.intro)) (And.intro (And.intro (True.intro) (And.intro (True.intro) (And.intro (True.intro) (True.intro)))) (True.intro)))
theorem stbig_Int_Mul_gsh_2 (k n : Nat) (x : DS SS.D hsbig_Int_Mul_gsh_2) : Lbig_Int_Mul_gsh_2 k (n + 1) x.1 x.2.1 x.2.2.1 x.2.2.2.1 x.2.2.2.2.1 x.2.2.2.2.2.1 x.2.2.2.2.2.2.1 x.2.2.2.2.2.2.2.1 x.2.2.2.2.2.2.2.2.1 x.2.2.2.2.2.2.2.2.2.1 x.2.2.2.2.2.2.2.2.2.2.1 x.2.2.2.2.2.2.2.2.2.2.2.1 x.2.2.2.2.2.2.2.2.2.2.2.2.1 x.2.2.2.2.2.2.2.2.2.2.2.2.2.1 x.2.2.2.2.2.2.2.2.2.2.2.2.2.2.1 x.2.2.2.2.2.2.2.2.2.2.2.2.2.2.2 = encSK SS.enc (fun σ => run2 cf (fun f a b K => COt f a b K [Ibig_Int_set_cvg k]) (fun b _ σ K => LOt Ty (kps 60) 3 b σ K []) Try.f60.ntmps 2 (lb Try.f60 1) σ (nextK Ty (kps 60 2) 3 hsbig_Int_Mul_gsh_2 osbig_Int_Mul_gsh_2 fun x => Lbig_Int_Mul_gsh_2 k n x.1 x.2.1 x.2.2.1 x.2.2.2.1 x.2.2.2.2.1 x.2.2.2.2.2.1 x.2.2.2.2.2.2.1 x.2.2.2.2.2.2.2.1 x.2.2.2.2.2.2.2.2.1 x.2.2.2.2.2.2.2.2.2.1 x.2.2.2.2.2.2.2.2.2.2.1 x.2.2.2.2.2.2.2.2.2.2.2.1 x.2.2.2.2.2.2.2.2.2.2.2.2.1 x.2.2.2.2.2.2.2.2.2.2.2.2.2.1 x.2.2.2.2.2.2.2.2.2.2.2.2.2.2.1 x.2.2.2.2.2.2.2.2.2.2.2.2.2.2.2)) hsbig_Int_Mul_gsh_2 x := by kernel_rfl
theorem lobig_Int_Mul_gsh_2 (k : Nat) : LIOk cf (call cf k) (kps 60) Try.f60.ntmps k 3 2 (lb Try.f60 1) (LIbig_Int_Mul_gsh_2 k) :=
  loop_ok (c := cf) (callF := call cf k) (kp := kps 60) (nt := Try.f60.ntmps) (k := k) (p := 3) (b := 2) (x0 := lb Try.f60 1) (hs := hsbig_Int_Mul_gsh_2) (os := osbig_Int_Mul_gsh_2) (COt_ok (albig_Int_Mul_gsh k)) (anbig_Int_Mul_gsh_2 k) (fun n x => Lbig_Int_Mul_gsh_2 k n x.1 x.2.1 x.2.2.1 x.2.2.2.1 x.2.2.2.2.1 x.2.2.2.2.2.1 x.2.2.2.2.2.2.1 x.2.2.2.2.2.2.2.1 x.2.2.2.2.2.2.2.2.1 x.2.2.2.2.2.2.2.2.2.1 x.2.2.2.2.2.2.2.2.2.2.1 x.2.2.2.2.2.2.2.2.2.2.2.1 x.2.2.2.2.2.2.2.2.2.2.2.2.1 x.2.2.2.2.2.2.2.2.2.2.2.2.2.1 x.2.2.2.2.2.2.2.2.2.2.2.2.2.2.1 x.2.2.2.2.2.2.2.2.2.2.2.2.2.2.2) (fun _ => rfl) (stbig_Int_Mul_gsh_2 k)
def hsbig_Int_Mul_gsh_0 : List SS := [{ fr := [(0, .a (.ptr 0 0 0)), (1, .a (.ptr 1 0 0)), (2, .a (.ptr 2 0 0)), (7, .a (.smz 3)), (29, .a (.lf (.sl (.int .u32)))), (30, .a (.lf (.int .i64))), (31, .a (.lf (.int .i64)))], mem := [(0, some (.raw [[.lf .bool, .snil 1 64]] 2 69 true false)), (1, some (.raw [[.lf .bool, .lf (.sl (.int .u32))]] 2 69 true false)), (2, some (.raw [[.lf .bool, .lf (.sl (.int .u32))]] 2 69 true false)), (3, some (.arr (.int .u32) 1 64 false))], nx := 4 }]
def osbig_Int_Mul_gsh_0 : List OS := [⟨some 0, { fr := [(0, .a (.ptr 0 0 0)), (1, .a (.ptr 1 0 0)), (2, .a (.ptr 2 0 0)), (7, .a (.smz 3))], mem := [(0, some (.raw [[.lf .bool, .snil 1 64]] 2 69 true false)), (1, some (.raw [[.lf .bool, .lf (.sl (.int .u32))]] 2 69 true false)), (2, some (.raw [[.lf .bool, .lf (.sl (.int .u32))]] 2 69 true false)), (3, some (.arr (.int .u32) 1 64 false))], nx := 4 }⟩]
def LIbig_Int_Mul_gsh_0 (k : Nat) : LInst := ⟨0, hsbig_Int_Mul_gsh_0, osbig_Int_Mul_gsh_0, fun x => Lbig_Int_Mul_gsh_0 k k x.1 x.2.1 x.2.2.1 x.2.2.2.1 x.2.2.2.2.1 x.2.2.2.2.2.1 x.2.2.2.2.2.2.1 x.2.2.2.2.2.2.2.1 x.2.2.2.2.2.2.2.2.1 x.2.2.2.2.2.2.2.2.2⟩
theorem anbig_Int_Mul_gsh_0 (k : Nat) : LAll (LOk (R := DS OS.D osbig_Int_Mul_gsh_0) (fun b _ σ K => LOt Ty (kps 60) 3 b σ K [LIbig_Int_Mul_gsh_2 k]) cf (call cf k) (kps 60) Try.f60.ntmps k 3) 0 (lb Try.f60 0) :=
  And.intro (True.intro) (And.intro (And.intro (True.intro) (True.intro)) (And.intro (And.intro (True.intro) (And.intro (True.intro) (And.intro (And.intro (True.intro) (LOt_ok (c := cf) (callF := call cf k) (kp := kps 60) (nt := Try.f60.ntmps) (k := k) (p := 3) (b := 2) (x0 := lb Try.f60 1) (l := [LIbig_Int_Mul_gsh_2 k]) (And.intro (fun _ => lobig_Int_Mul_gsh_2 k) (True.intro)))) (True.intro)))) (True.intro)))
theorem stbig_Int_Mul_gsh_0 (k n : Nat) (x : DS SS.D hsbig_Int_Mul_gsh_0) : Lbig_Int_Mul_gsh_0 k (n + 1) x.1 x.2.1 x.2.2.1 x.2.2.2.1 x.2.2.2.2.1 x.2.2.2.2.2.1 x.2.2.2.2.2.2.1 x.2.2.2.2.2.2.2.1 x.2.2.2.2.2.2.2.2.1 x.2.2.2.2.2.2.2.2.2 = encSK SS.enc (fun σ => run2 cf (fun f a b K => COt f a b K [Ibig_Int_set_cvg k]) (fun b _ σ K => LOt Ty (kps 60) 3 b σ K [LIbig_Int_Mul_gsh_2 k]) Try.f60.ntmps 0 (lb Try.f60 0) σ (nextK Ty (kps 60 0) 3 hsbig_Int_Mul_gsh_0 osbig_Int_Mul_gsh_0 fun x => Lbig_Int_Mul_gsh_0 k n x.1 x.2.1 x.2.2.1 x.2.2.2.1 x.2.2.2.2.1 x.2.2.2.2.2.1 x.2.2.2.2.2.2.1 x.2.2.2.2.2.2.2.1 x.2.2.2.2.2.2.2.2.1 x.2.2.2.2.2.2.2.2.2)) hsbig_Int_Mul_gsh_0 x := by kernel_rfl
theorem lobig_Int_Mul_gsh_0 (k : Nat) : LIOk cf (call cf k) (kps 60) Try.f60.ntmps k 3 0 (lb Try.f60 0) (LIbig_Int_Mul_gsh_0 k) :=
  loop_ok (c := cf) (callF := call cf k) (kp := kps 60) (nt := Try.f60.ntmps) (k := k) (p := 3) (b := 0) (x0 := lb Try.f60 0) (hs := hsbig_Int_Mul_gsh_0) (os := osbig_Int_Mul_gsh_0) (COt_ok (albig_Int_Mul_gsh k)) (anbig_Int_Mul_gsh_0 k) (fun n x => Lbig_Int_Mul_gsh_0 k n x.1 x.2.1 x.2.2.1 x.2.2.2.1 x.2.2.2.2.1 x.2.2.2.2.2.1 x.2.2.2.2.2.2.1 x.2.2.2.2.2.2.2.1 x.2.2.2.2.2.2.2.2.1 x.2.2.2.2.2.2.2.2.2) (fun _ => rfl) (stbig_Int_Mul_gsh_0 k)
theorem anbig_Int_Mul_gsh (k : Nat) : LAll (LOk (R := DS FS.D rsbig_Int_Mul_gsh) (fun b _ σ K => LOt Ty (kps 60) 3 b σ K [LIbig_Int_Mul_gsh_2 k, LIbig_Int_Mul_gsh_0 k]) cf (call cf k) (cf.keep 60) Try.f60.ntmps k shbig_Int_Mul_gsh.bs.length) 0 (bd Try.f60) :=
  And.intro (True.intro) (And.intro (True.intro) (And.intro (And.intro (True.intro) (LOt_ok (c := cf) (callF := call cf k) (kp := kps 60) (nt := Try.f60.ntmps) (k := k) (p := 3) (b := 0) (x0 := lb Try.f60 0) (l := [LIbig_Int_Mul_gsh_2 k, LIbig_Int_Mul_gsh_0 k]) (And.intro (fun h => absurd (show (2 : Nat) = 0 from h) (by decide)) (And.intro (fun _ => lobig_Int_Mul_gsh_0 k) (True.intro))))) (And.intro (True.intro) (True.intro))))
theorem stbig_Int_Mul_gsh (k : Nat) (x : shbig_Int_Mul_gsh.D) : Fbig_Int_Mul_gsh (k + 1) x.1 x.2.1 x.2.2.1 x.2.2.2.1 x.2.2.2.2 = body2 cf (fun f a b K => COt f a b K [Ibig_Int_set_cvg k]) (fun b _ σ K => LOt Ty (kps 60) 3 b σ K [LIbig_Int_Mul_gsh_2 k, LIbig_Int_Mul_gsh_0 k]) 60 Try.f60.ntmps Try.f60.results.toList (bd Try.f60) (shbig_Int_Mul_gsh.enc x).1 (shbig_Int_Mul_gsh.enc x).2 (putS FS.dec rsbig_Int_Mul_gsh) := by kernel_rfl
theorem okbig_Int_Mul_gsh : ∀ k, InstOk (call cf k) (Ibig_Int_Mul_gsh k)
  | 0 => fun x y e => absurd (show (none : Option _) = some y from e) (by simp)
  | k + 1 => inst_ok (c := cf) (k := k) (f := 60) (fn := Try.f60) (body := bd Try.f60) (sh := shbig_Int_Mul_gsh) (os := rsbig_Int_Mul_gsh) rfl Try.func60 rfl ⟨rfl, Nat.le_of_ble_eq_true rfl⟩ (COt_ok (albig_Int_Mul_gsh k)) (anbig_Int_Mul_gsh k) (fun x => Fbig_Int_Mul_gsh (k + 1) x.1 x.2.1 x.2.2.1 x.2.2.2.1 x.2.2.2.2) (stbig_Int_Mul_gsh k)

/-! shunt/limb.Mul -/
def blimb_Mul (k : Nat) (a0 : Bool) (a1 : List Int) (b0 : Bool) (b1 : List Int) : Option (Bool × List Int × Int) :=
  Option.bind (Flimb_both k a0 a1 b0 b1) fun r9 =>
  if ((r9 != (0 : Int)) = true) then
    (some (false, [], r9))
  else
  Option.bind (Fwide_Take k a0 a1) fun r10 =>
  Option.bind (Fwide_Take k b0 b1) fun r11 =>
  Option.bind (Fbig_Int_Mul_gsh k false r10.1 r10.2 r11.1 r11.2) fun r12 =>
  Option.bind (Flimb_answer_awf k r12.1 r12.2.1) fun r13 =>
  if ((0 + r13.2.1) ≤ (List.length r13.2.2.2.2.2)) then
    (some (r13.1, (List.take r13.2.1 r13.2.2.2.2.2), r13.2.2.1))
  else
  none
def Flimb_Mul : Nat → Bool → List Int → Bool → List Int → Option (Bool × List Int × Int)
  | 0, _, _, _, _ => none
  | k + 1, a0, a1, b0, b1 => blimb_Mul k a0 a1 b0 b1
def shlimb_Mul : FS := { vs := [.g [.lf .bool, .lf (.sl (.int .u32))], .g [.lf .bool, .lf (.sl (.int .u32))]], bs := [] }
def rslimb_Mul : List FS := [{ vs := [.g [.lf .bool, .lf (.sl (.int .u32))], .a (.lf (.int .i64))], bs := [] }]
def Ilimb_Mul (k : Nat) : Inst := ⟨33, shlimb_Mul, rslimb_Mul, fun x => Flimb_Mul k x.1 x.2.1 x.2.2.1 x.2.2.2⟩
theorem allimb_Mul (k : Nat) : AllI (call cf k) [Ilimb_both k, Iwide_Take k, Ibig_Int_Mul_gsh k, Ilimb_answer_awf k] := And.intro (oklimb_both k) (And.intro (okwide_Take k) (And.intro (okbig_Int_Mul_gsh k) (And.intro (oklimb_answer_awf k) (True.intro))))
theorem anlimb_Mul (k : Nat) : LAll (LOk (R := DS FS.D rslimb_Mul) (fun b _ σ K => LOt Ty (kps 33) 0 b σ K []) cf (call cf k) (cf.keep 33) Try.f33.ntmps k shlimb_Mul.bs.length) 0 (bd Try.f33) :=
  And.intro (True.intro) (And.intro (And.intro (True.intro) (And.intro (True.intro) (And.intro (And.intro (True.intro) (True.intro)) (True.intro)))) (And.intro (True.intro) (True.intro)))
theorem stlimb_Mul (k : Nat) (x : shlimb_Mul.D) : Flimb_Mul (k + 1) x.1 x.2.1 x.2.2.1 x.2.2.2 = body2 cf (fun f a b K => COt f a b K [Ilimb_both k, Iwide_Take k, Ibig_Int_Mul_gsh k, Ilimb_answer_awf k]) (fun b _ σ K => LOt Ty (kps 33) 0 b σ K []) 33 Try.f33.ntmps Try.f33.results.toList (bd Try.f33) (shlimb_Mul.enc x).1 (shlimb_Mul.enc x).2 (putS FS.dec rslimb_Mul) := by kernel_rfl
theorem oklimb_Mul : ∀ k, InstOk (call cf k) (Ilimb_Mul k)
  | 0 => fun x y e => absurd (show (none : Option _) = some y from e) (by simp)
  | k + 1 => inst_ok (c := cf) (k := k) (f := 33) (fn := Try.f33) (body := bd Try.f33) (sh := shlimb_Mul) (os := rslimb_Mul) rfl Try.func33 rfl ⟨rfl, Nat.le_of_ble_eq_true rfl⟩ (COt_ok (allimb_Mul k)) (anlimb_Mul k) (fun x => Flimb_Mul (k + 1) x.1 x.2.1 x.2.2.1 x.2.2.2) (stlimb_Mul k)

/-! shunt/shuntlaw01.LimbRing -/
def bshuntlaw01_LimbRing (k : Nat) (a0 : Bool) (a1 : List Int) (b0 : Bool) (b1 : List Int) (c0 : Bool) (c1 : List Int) : Option (Bool) :=
  Option.bind (Fshuntlaw01_awake k) fun r =>
  if ((!r) = true) then
    (some false)
  else
  Option.bind (Fshuntref01_Right k a0 a1) fun r1 =>
  if ((!r1) = false) then
    Option.bind (Fshuntref01_Right k b0 b1) fun r2 =>
    if ((!r2) = false) then
      Option.bind (Fshuntref01_Right k c0 c1) fun r3 =>
      if ((!r3) = false) then
        if ((decide ((IntKind.wrap .i64 ((IntKind.wrap .i64 ((((List.length a1) : Nat) : Int) + (((List.length b1) : Nat) : Int))) + (((List.length c1) : Nat) : Int))) > (60 : Int))) = true) then
          (some true)
        else
        Option.bind (Flimb_Add k a0 a1 b0 b1) fun r4 =>
        Option.bind (Flimb_Add k b0 b1 a0 a1) fun r5 =>
        if ((0 + r4.2.1) ≤ (List.length r4.2.2.2)) then
          Option.bind (Flimb_Sub k r4.1 (List.take r4.2.1 r4.2.2.2) b0 b1) fun r6 =>
          if ((r4.2.2.1 != (0 : Int)) = false) then
            if ((r5.2.2.1 != (0 : Int)) = false) then
              if ((r6.2.2 != (0 : Int)) = false) then
                if ((0 + r4.2.1) ≤ (List.length r4.2.2.2)) then
                  if ((0 + r5.2.1) ≤ (List.length r5.2.2.2)) then
                    Option.bind (Fshuntlaw01_same k r4.1 (List.take r4.2.1 r4.2.2.2) r5.1 (List.take r5.2.1 r5.2.2.2)) fun r7 =>
                    if ((!r7) = false) then
                      Option.bind (Fshuntlaw01_same k r6.1 r6.2.1 a0 a1) fun r8 =>
                      if ((!r8) = true) then
                        (some false)
                      else
                      if ((0 + r4.2.1) ≤ (List.length r4.2.2.2)) then
                        Option.bind (Flimb_Mul k r4.1 (List.take r4.2.1 r4.2.2.2) c0 c1) fun r9 =>
                        Option.bind (Flimb_Mul k a0 a1 c0 c1) fun r10 =>
                        Option.bind (Flimb_Mul k c0 c1 b0 b1) fun r11 =>
                        Option.bind (Flimb_Add k r10.1 r10.2.1 r11.1 r11.2.1) fun r12 =>
                        if ((r9.2.2 == (0 : Int)) = true) then
                          if ((r10.2.2 == (0 : Int)) = true) then
                            if ((r11.2.2 == (0 : Int)) = true) then
                              if ((r12.2.2.1 == (0 : Int)) = true) then
                                if ((0 + r12.2.1) ≤ (List.length r12.2.2.2)) then
                                  Option.bind (Fshuntlaw01_same k r9.1 r9.2.1 r12.1 (List.take r12.2.1 r12.2.2.2)) fun r13 =>
                                  (some r13)
                                else
                                none
                              else
                              (some false)
                            else
                            (some false)
                          else
                          (some false)
                        else
                        (some false)
                      else
                      none
                    else
                    (some false)
                  else
                  none
                else
                none
              else
              (some false)
            else
            (some false)
          else
          (some false)
        else
        none
      else
      (some true)
    else
    (some true)
  else
  (some true)
def Fshuntlaw01_LimbRing : Nat → Bool → List Int → Bool → List Int → Bool → List Int → Option (Bool)
  | 0, _, _, _, _, _, _ => none
  | k + 1, a0, a1, b0, b1, c0, c1 => bshuntlaw01_LimbRing k a0 a1 b0 b1 c0 c1
def shshuntlaw01_LimbRing : FS := { vs := [.g [.lf .bool, .lf (.sl (.int .u32))], .g [.lf .bool, .lf (.sl (.int .u32))], .g [.lf .bool, .lf (.sl (.int .u32))]], bs := [] }
def rsshuntlaw01_LimbRing : List FS := [{ vs := [.a (.lf .bool)], bs := [] }]
def Ishuntlaw01_LimbRing (k : Nat) : Inst := ⟨5, shshuntlaw01_LimbRing, rsshuntlaw01_LimbRing, fun x => Fshuntlaw01_LimbRing k x.1 x.2.1 x.2.2.1 x.2.2.2.1 x.2.2.2.2.1 x.2.2.2.2.2⟩
theorem alshuntlaw01_LimbRing (k : Nat) : AllI (call cf k) [Ishuntlaw01_awake k, Ishuntref01_Right k, Ilimb_Add k, Ilimb_Sub k, Ishuntlaw01_same k, Ilimb_Mul k] := And.intro (okshuntlaw01_awake k) (And.intro (okshuntref01_Right k) (And.intro (oklimb_Add k) (And.intro (oklimb_Sub k) (And.intro (okshuntlaw01_same k) (And.intro (oklimb_Mul k) (True.intro))))))
theorem anshuntlaw01_LimbRing (k : Nat) : LAll (LOk (R := DS FS.D rsshuntlaw01_LimbRing) (fun b _ σ K => LOt Ty (kps 5) 0 b σ K []) cf (call cf k) (cf.keep 5) Try.f5.ntmps k shshuntlaw01_LimbRing.bs.length) 0 (bd Try.f5) :=
  And.intro (True.intro) (And.intro (And.intro (True.intro) (And.intro (And.intro (True.intro) (True.intro)) (True.intro))) (And.intro (And.intro (True.intro) (And.intro (And.intro (True.intro) (True.intro)) (True.intro))) (And.intro (True.intro) (And.intro (True.intro) (And.intro (True.intro) (And.intro (And.intro (True.intro) (And.intro (And.intro (True.intro) (True.intro)) (True.intro))) (And.intro (True.intro) (And.intro (True.intro) (And.intro (True.intro) (And.intro (True.intro) (And.intro (True.intro) (True.intro))))))))))))
theorem stshuntlaw01_LimbRing (k : Nat) (x : shshuntlaw01_LimbRing.D) : Fshuntlaw01_LimbRing (k + 1) x.1 x.2.1 x.2.2.1 x.2.2.2.1 x.2.2.2.2.1 x.2.2.2.2.2 = body2 cf (fun f a b K => COt f a b K [Ishuntlaw01_awake k, Ishuntref01_Right k, Ilimb_Add k, Ilimb_Sub k, Ishuntlaw01_same k, Ilimb_Mul k]) (fun b _ σ K => LOt Ty (kps 5) 0 b σ K []) 5 Try.f5.ntmps Try.f5.results.toList (bd Try.f5) (shshuntlaw01_LimbRing.enc x).1 (shshuntlaw01_LimbRing.enc x).2 (putS FS.dec rsshuntlaw01_LimbRing) := by kernel_rfl
theorem okshuntlaw01_LimbRing : ∀ k, InstOk (call cf k) (Ishuntlaw01_LimbRing k)
  | 0 => fun x y e => absurd (show (none : Option _) = some y from e) (by simp)
  | k + 1 => inst_ok (c := cf) (k := k) (f := 5) (fn := Try.f5) (body := bd Try.f5) (sh := shshuntlaw01_LimbRing) (os := rsshuntlaw01_LimbRing) rfl Try.func5 rfl ⟨rfl, Nat.le_of_ble_eq_true rfl⟩ (COt_ok (alshuntlaw01_LimbRing k)) (anshuntlaw01_LimbRing k) (fun x => Fshuntlaw01_LimbRing (k + 1) x.1 x.2.1 x.2.2.1 x.2.2.2.1 x.2.2.2.2.1 x.2.2.2.2.2) (stshuntlaw01_LimbRing k)

/-! (*shunt/big.Int).Cmp -/
def bbig_Int_Cmp_ddu (k : Nat) (z0 : Bool) (z1 : List Int) (y0 : Bool) (y1 : List Int) : Option (Int × Bool × List Int × Bool × List Int) :=
  if ((!(z0 == y0)) = true) then
    if (z0 = true) then
      (some ((-(1 : Int)), z0, z1, y0, y1))
    else
    (some ((1 : Int), z0, z1, y0, y1))
  else
  Option.bind (Fbig_cmp k z1 y1) fun r7 =>
  if (z0 = true) then
    (some ((IntKind.wrap .i64 ((0 : Int) - r7)), z0, z1, y0, y1))
  else
  (some (r7, z0, z1, y0, y1))
def Fbig_Int_Cmp_ddu : Nat → Bool → List Int → Bool → List Int → Option (Int × Bool × List Int × Bool × List Int)
  | 0, _, _, _, _ => none
  | k + 1, z0, z1, y0, y1 => bbig_Int_Cmp_ddu k z0 z1 y0 y1
def shbig_Int_Cmp_ddu : FS := { vs := [.a (.ptr 0 0 0), .a (.ptr 1 0 0)], bs := [.raw [[.lf .bool, .lf (.sl (.int .u32))]] 2 69 true false, .raw [[.lf .bool, .lf (.sl (.int .u32))]] 2 69 true false] }
def rsbig_Int_Cmp_ddu : List FS := [{ vs := [.a (.lf (.int .i64))], bs := [.raw [[.lf .bool, .lf (.sl (.int .u32))]] 2 69 true false, .raw [[.lf .bool, .lf (.sl (.int .u32))]] 2 69 true false] }]
def Ibig_Int_Cmp_ddu (k : Nat) : Inst := ⟨61, shbig_Int_Cmp_ddu, rsbig_Int_Cmp_ddu, fun x => Fbig_Int_Cmp_ddu k x.1 x.2.1 x.2.2.1 x.2.2.2⟩
theorem albig_Int_Cmp_ddu (k : Nat) : AllI (call cf k) [Ibig_cmp k] := And.intro (okbig_cmp k) (True.intro)
theorem anbig_Int_Cmp_ddu (k : Nat) : LAll (LOk (R := DS FS.D rsbig_Int_Cmp_ddu) (fun b _ σ K => LOt Ty (kps 61) 2 b σ K []) cf (call cf k) (cf.keep 61) Try.f61.ntmps k shbig_Int_Cmp_ddu.bs.length) 0 (bd Try.f61) :=
  And.intro (True.intro) (And.intro (And.intro (True.intro) (And.intro (And.intro (And.intro (True.intro) (And.intro (And.intro (True.intro) (True.intro)) (True.intro))) (And.intro (True.intro) (True.intro))) (True.intro))) (And.intro (True.intro) (And.intro (And.intro (True.intro) (And.intro (And.intro (True.intro) (True.intro)) (True.intro))) (And.intro (True.intro) (True.intro)))))
theorem stbig_Int_Cmp_ddu (k : Nat) (x : shbig_Int_Cmp_ddu.D) : Fbig_Int_Cmp_ddu (k + 1) x.1 x.2.1 x.2.2.1 x.2.2.2 = body2 cf (fun f a b K => COt f a b K [Ibig_cmp k]) (fun b _ σ K => LOt Ty (kps 61) 2 b σ K []) 61 Try.f61.ntmps Try.f61.results.toList (bd Try.f61) (shbig_Int_Cmp_ddu.enc x).1 (shbig_Int_Cmp_ddu.enc x).2 (putS FS.dec rsbig_Int_Cmp_ddu) := by kernel_rfl
theorem okbig_Int_Cmp_ddu : ∀ k, InstOk (call cf k) (Ibig_Int_Cmp_ddu k)
  | 0 => fun x y e => absurd (show (none : Option _) = some y from e) (by simp)
  | k + 1 => inst_ok (c := cf) (k := k) (f := 61) (fn := Try.f61) (body := bd Try.f61) (sh := shbig_Int_Cmp_ddu) (os := rsbig_Int_Cmp_ddu) rfl Try.func61 rfl ⟨rfl, Nat.le_of_ble_eq_true rfl⟩ (COt_ok (albig_Int_Cmp_ddu k)) (anbig_Int_Cmp_ddu k) (fun x => Fbig_Int_Cmp_ddu (k + 1) x.1 x.2.1 x.2.2.1 x.2.2.2) (stbig_Int_Cmp_ddu k)

/-! shunt/limb.Cmp -/
def blimb_Cmp (k : Nat) (a0 : Bool) (a1 : List Int) (b0 : Bool) (b1 : List Int) : Option (Int × Int) :=
  Option.bind (Flimb_both k a0 a1 b0 b1) fun r4 =>
  if ((r4 != (0 : Int)) = true) then
    (some ((0 : Int), r4))
  else
  Option.bind (Fwide_Take k a0 a1) fun r5 =>
  Option.bind (Fwide_Take k b0 b1) fun r6 =>
  Option.bind (Fbig_Int_Cmp_ddu k r5.1 r5.2 r6.1 r6.2) fun r7 =>
  (some (r7.1, (0 : Int)))
def Flimb_Cmp : Nat → Bool → List Int → Bool → List Int → Option (Int × Int)
  | 0, _, _, _, _ => none
  | k + 1, a0, a1, b0, b1 => blimb_Cmp k a0 a1 b0 b1
def shlimb_Cmp : FS := { vs := [.g [.lf .bool, .lf (.sl (.int .u32))], .g [.lf .bool, .lf (.sl (.int .u32))]], bs := [] }
def rslimb_Cmp : List FS := [{ vs := [.a (.lf (.int .i64)), .a (.lf (.int .i64))], bs := [] }]
def Ilimb_Cmp (k : Nat) : Inst := ⟨34, shlimb_Cmp, rslimb_Cmp, fun x => Flimb_Cmp k x.1 x.2.1 x.2.2.1 x.2.2.2⟩
theorem allimb_Cmp (k : Nat) : AllI (call cf k) [Ilimb_both k, Iwide_Take k, Ibig_Int_Cmp_ddu k] := And.intro (oklimb_both k) (And.intro (okwide_Take k) (And.intro (okbig_Int_Cmp_ddu k) (True.intro)))
theorem anlimb_Cmp (k : Nat) : LAll (LOk (R := DS FS.D rslimb_Cmp) (fun b _ σ K => LOt Ty (kps 34) 0 b σ K []) cf (call cf k) (cf.keep 34) Try.f34.ntmps k shlimb_Cmp.bs.length) 0 (bd Try.f34) :=
  And.intro (True.intro) (And.intro (And.intro (True.intro) (And.intro (True.intro) (And.intro (And.intro (True.intro) (True.intro)) (True.intro)))) (And.intro (True.intro) (True.intro)))
theorem stlimb_Cmp (k : Nat) (x : shlimb_Cmp.D) : Flimb_Cmp (k + 1) x.1 x.2.1 x.2.2.1 x.2.2.2 = body2 cf (fun f a b K => COt f a b K [Ilimb_both k, Iwide_Take k, Ibig_Int_Cmp_ddu k]) (fun b _ σ K => LOt Ty (kps 34) 0 b σ K []) 34 Try.f34.ntmps Try.f34.results.toList (bd Try.f34) (shlimb_Cmp.enc x).1 (shlimb_Cmp.enc x).2 (putS FS.dec rslimb_Cmp) := by kernel_rfl
theorem oklimb_Cmp : ∀ k, InstOk (call cf k) (Ilimb_Cmp k)
  | 0 => fun x y e => absurd (show (none : Option _) = some y from e) (by simp)
  | k + 1 => inst_ok (c := cf) (k := k) (f := 34) (fn := Try.f34) (body := bd Try.f34) (sh := shlimb_Cmp) (os := rslimb_Cmp) rfl Try.func34 rfl ⟨rfl, Nat.le_of_ble_eq_true rfl⟩ (COt_ok (allimb_Cmp k)) (anlimb_Cmp k) (fun x => Flimb_Cmp (k + 1) x.1 x.2.1 x.2.2.1 x.2.2.2) (stlimb_Cmp k)

/-! shunt/shuntlaw01.LimbOrder -/
def bshuntlaw01_LimbOrder (k : Nat) (a0 : Bool) (a1 : List Int) (b0 : Bool) (b1 : List Int) (c0 : Bool) (c1 : List Int) : Option (Bool) :=
  Option.bind (Fshuntlaw01_awake k) fun r =>
  if ((!r) = true) then
    (some false)
  else
  Option.bind (Fshuntref01_Right k a0 a1) fun r1 =>
  if ((!r1) = false) then
    Option.bind (Fshuntref01_Right k b0 b1) fun r2 =>
    if ((!r2) = false) then
      Option.bind (Fshuntref01_Right k c0 c1) fun r3 =>
      if ((!r3) = false) then
        if ((decide ((IntKind.wrap .i64 ((IntKind.wrap .i64 ((((List.length a1) : Nat) : Int) + (((List.length b1) : Nat) : Int))) + (((List.length c1) : Nat) : Int))) > (60 : Int))) = true) then
          (some true)
        else
        Option.bind (Flimb_Cmp k a0 a1 b0 b1) fun r4 =>
        Option.bind (Flimb_Cmp k b0 b1 a0 a1) fun r5 =>
        Option.bind (Flimb_Cmp k b0 b1 c0 c1) fun r6 =>
        Option.bind (Flimb_Cmp k a0 a1 c0 c1) fun r7 =>
        Option.bind (Flimb_Sub k a0 a1 b0 b1) fun r8 =>
        if (((IntKind.wrap .i64 ((IntKind.wrap .i64 ((IntKind.wrap .i64 ((IntKind.wrap .i64 (r4.2 + r5.2)) + r6.2)) + r7.2)) + r8.2.2)) != (0 : Int)) = false) then
          if ((r4.1 != (IntKind.wrap .i64 ((0 : Int) - r5.1))) = false) then
            Option.bind (Fshuntlaw01_same k a0 a1 b0 b1) fun r9 =>
            if ((!((r4.1 == (0 : Int)) == r9)) = false) then
              if ((!((decide (r4.1 < (0 : Int))) == r8.1)) = false) then
                if ((!((r4.1 == (0 : Int)) == ((((List.length r8.2.1) : Nat) : Int) == (0 : Int)))) = true) then
                  (some false)
                else
                if ((decide (r4.1 ≤ (0 : Int))) = true) then
                  if ((!(decide (r6.1 ≤ (0 : Int)))) = false) then
                    if ((decide (r7.1 ≤ (0 : Int))) = true) then
                      if ((decide (r7.1 < (0 : Int))) = false) then
                        if ((r4.1 == (0 : Int)) = true) then
                          (some (r6.1 == (0 : Int)))
                        else
                        (some false)
                      else
                      (some true)
                    else
                    (some false)
                  else
                  (some true)
                else
                (some true)
              else
              (some false)
            else
            (some false)
          else
          (some false)
        else
        (some false)
      else
      (some true)
    else
    (some true)
  else
  (some true)
def Fshuntlaw01_LimbOrder : Nat → Bool → List Int → Bool → List Int → Bool → List Int → Option (Bool)
  | 0, _, _, _, _, _, _ => none
  | k + 1, a0, a1, b0, b1, c0, c1 => bshuntlaw01_LimbOrder k a0 a1 b0 b1 c0 c1
def shshuntlaw01_LimbOrder : FS := { vs := [.g [.lf .bool, .lf (.sl (.int .u32))], .g [.lf .bool, .lf (.sl (.int .u32))], .g [.lf .bool, .lf (.sl (.int .u32))]], bs := [] }
def rsshuntlaw01_LimbOrder : List FS := [{ vs := [.a (.lf .bool)], bs := [] }]
def Ishuntlaw01_LimbOrder (k : Nat) : Inst := ⟨6, shshuntlaw01_LimbOrder, rsshuntlaw01_LimbOrder, fun x => Fshuntlaw01_LimbOrder k x.1 x.2.1 x.2.2.1 x.2.2.2.1 x.2.2.2.2.1 x.2.2.2.2.2⟩
theorem alshuntlaw01_LimbOrder (k : Nat) : AllI (call cf k) [Ishuntlaw01_awake k, Ishuntref01_Right k, Ilimb_Cmp k, Ilimb_Sub k, Ishuntlaw01_same k] := And.intro (okshuntlaw01_awake k) (And.intro (okshuntref01_Right k) (And.intro (oklimb_Cmp k) (And.intro (oklimb_Sub k) (And.intro (okshuntlaw01_same k) (True.intro)))))
theorem anshuntlaw01_LimbOrder (k : Nat) : LAll (LOk (R := DS FS.D rsshuntlaw01_LimbOrder) (fun b _ σ K => LOt Ty (kps 6) 0 b σ K []) cf (call cf k) (cf.keep 6) Try.f6.ntmps k shshuntlaw01_LimbOrder.bs.length) 0 (bd Try.f6) :=
  And.intro (True.intro) (And.intro (And.intro (True.intro) (And.intro (And.intro (True.intro) (True.intro)) (True.intro))) (And.intro (And.intro (True.intro) (And.intro (And.intro (True.intro) (True.intro)) (True.intro))) (And.intro (True.intro) (And.intro (True.intro) (And.intro (True.intro) (And.intro (True.intro) (And.intro (True.intro) (And.intro (And.intro (True.intro) (And.intro (And.intro (True.intro) (True.intro)) (True.intro))) (And.intro (True.intro) (True.intro))))))))))
theorem stshuntlaw01_LimbOrder (k : Nat) (x : shshuntlaw01_LimbOrder.D) : Fshuntlaw01_LimbOrder (k + 1) x.1 x.2.1 x.2.2.1 x.2.2.2.1 x.2.2.2.2.1 x.2.2.2.2.2 = body2 cf (fun f a b K => COt f a b K [Ishuntlaw01_awake k, Ishuntref01_Right k, Ilimb_Cmp k, Ilimb_Sub k, Ishuntlaw01_same k]) (fun b _ σ K => LOt Ty (kps 6) 0 b σ K []) 6 Try.f6.ntmps Try.f6.results.toList (bd Try.f6) (shshuntlaw01_LimbOrder.enc x).1 (shshuntlaw01_LimbOrder.enc x).2 (putS FS.dec rsshuntlaw01_LimbOrder) := by kernel_rfl
theorem okshuntlaw01_LimbOrder : ∀ k, InstOk (call cf k) (Ishuntlaw01_LimbOrder k)
  | 0 => fun x y e => absurd (show (none : Option _) = some y from e) (by simp)
  | k + 1 => inst_ok (c := cf) (k := k) (f := 6) (fn := Try.f6) (body := bd Try.f6) (sh := shshuntlaw01_LimbOrder) (os := rsshuntlaw01_LimbOrder) rfl Try.func6 rfl ⟨rfl, Nat.le_of_ble_eq_true rfl⟩ (COt_ok (alshuntlaw01_LimbOrder k)) (anshuntlaw01_LimbOrder k) (fun x => Fshuntlaw01_LimbOrder (k + 1) x.1 x.2.1 x.2.2.1 x.2.2.2.1 x.2.2.2.2.1 x.2.2.2.2.2) (stshuntlaw01_LimbOrder k)

/-! (*shunt/big.Int).Mul -/
def Lbig_Int_Mul_uzb_2s (k : Nat) (rec : Nat → Int → Int → Int → Nat → Int → Int → List Int → Int → Int → Bool → Bool → List Int → List Int → List Int → Option (Nat × Int × Int × Nat × Int × Int × Bool × Bool × List Int × List Int × List Int)) (out1 : Nat) (i : Int) (a : Int) (carry : Int) (x : Nat) (x1 : Int) (x2 : Int) (x3 : List Int) (x4 : Int) (x5 : Int) (x6 : Bool) (y0 : Bool) (y1 : List Int) (outs : List Int) (s : List Int) : Option (Nat × Int × Int × Nat × Int × Int × Bool × Bool × List Int × List Int × List Int) :=
  if ((decide (x5 < x4)) = true) then
    if ((0 : Int) ≤ x5) then
      Option.bind (x3)[(Int.toNat x5)]? fun x7 =>
      if (((0 : Int) ≤ (IntKind.wrap .i64 (i + x5))) ∧ ((IntKind.wrap .i64 (i + x5)) < ((out1 : Nat) : Int))) then
        Option.bind (outs)[(0 + (Int.toNat (IntKind.wrap .i64 (i + x5))))]? fun x8 =>
        if (((0 : Int) ≤ (IntKind.wrap .i64 (i + x5))) ∧ ((IntKind.wrap .i64 (i + x5)) < ((out1 : Nat) : Int))) then
          Option.bind (outs)[(0 + (Int.toNat (IntKind.wrap .i64 (i + x5))))]? fun x9 =>
          rec out1 i a (Int.fdiv (IntKind.wrap .u64 ((IntKind.wrap .u64 ((IntKind.wrap .u64 ((IntKind.wrap .u64 a) * (IntKind.wrap .u64 x7))) + (IntKind.wrap .u64 x8))) + carry)) (4294967296 : Int)) x x1 x2 x3 x4 (IntKind.wrap .i64 (x5 + (1 : Int))) x6 y0 y1 (List.set outs (0 + (Int.toNat (IntKind.wrap .i64 (i + x5)))) (IntKind.wrap .u32 (IntKind.wrap .u64 ((IntKind.wrap .u64 ((IntKind.wrap .u64 ((IntKind.wrap .u64 a) * (IntKind.wrap .u64 x7))) + (IntKind.wrap .u64 x8))) + carry)))) s
        else
        none
      else
      none
    else
    none
  else
  (some (out1, i, carry, x, x1, x2, x6, y0, y1, outs, s))
def Lbig_Int_Mul_uzb_2 (k n : Nat) : Nat → Int → Int → Int → Nat → Int → Int → List Int → Int → Int → Bool → Bool → List Int → List Int → List Int → Option (Nat × Int × Int × Nat × Int × Int × Bool × Bool × List Int × List Int × List Int) := Nat.rec (fun _ _ _ _ _ _ _ _ _ _ _ _ _ _ _ => none) (fun _ r => Lbig_Int_Mul_uzb_2s k r) n
def Lbig_Int_Mul_uzb_0s (k : Nat) (rec : Nat → Nat → Int → Int → Bool → Bool → List Int → List Int → List Int → Option (Nat × Bool × Bool × List Int × List Int × List Int)) (out1 : Nat) (x : Nat) (x1 : Int) (x2 : Int) (x3 : Bool) (y0 : Bool) (y1 : List Int) (outs : List Int) (s : List Int) : Option (Nat × Bool × Bool × List Int × List Int × List Int) :=
  if ((decide (x2 < x1)) = true) then
    if (((0 : Int) ≤ x2) ∧ (x2 < ((x : Nat) : Int))) then
      Option.bind (s)[(0 + (Int.toNat x2))]? fun x4 =>
      Option.bind (Lbig_Int_Mul_uzb_2 k k out1 x2 x4 (0 : Int) x x1 x2 y1 (((List.length y1) : Nat) : Int) (0 : Int) x3 y0 y1 outs s) fun r3 =>
      if (((0 : Int) ≤ (IntKind.wrap .i64 (r3.2.1 + (((List.length r3.2.2.2.2.2.2.2.2.1) : Nat) : Int)))) ∧ ((IntKind.wrap .i64 (r3.2.1 + (((List.length r3.2.2.2.2.2.2.2.2.1) : Nat) : Int))) < ((r3.1 : Nat) : Int))) then
        Option.bind (r3.2.2.2.2.2.2.2.2.2.1)[(0 + (Int.toNat (IntKind.wrap .i64 (r3.2.1 + (((List.length r3.2.2.2.2.2.2.2.2.1) : Nat) : Int)))))]? fun x5 =>
        rec r3.1 r3.2.2.2.1 r3.2.2.2.2.1 (IntKind.wrap .i64 (r3.2.2.2.2.2.1 + (1 : Int))) r3.2.2.2.2.2.2.1 r3.2.2.2.2.2.2.2.1 r3.2.2.2.2.2.2.2.2.1 (List.set r3.2.2.2.2.2.2.2.2.2.1 (0 + (Int.toNat (IntKind.wrap .i64 (r3.2.1 + (((List.length r3.2.2.2.2.2.2.2.2.1) : Nat) : Int))))) (IntKind.wrap .u32 r3.2.2.1)) r3.2.2.2.2.2.2.2.2.2.2
      else
      none
    else
    none
  else
  (some (out1, x3, y0, y1, outs, s))
def Lbig_Int_Mul_uzb_0 (k n : Nat) : Nat → Nat → Int → Int → Bool → Bool → List Int → List Int → List Int → Option (Nat × Bool × Bool × List Int × List Int × List Int) := Nat.rec (fun _ _ _ _ _ _ _ _ _ => none) (fun _ r => Lbig_Int_Mul_uzb_0s k r) n
def bbig_Int_Mul_uzb (k : Nat) (x : Bool) (y0 : Bool) (y1 : List Int) : Option (Bool × List Int × Bool × List Int) :=
  if (((0 : Int) ≤ (IntKind.wrap .i64 ((0 : Int) + (((List.length y1) : Nat) : Int)))) ∧ (((IntKind.wrap .i64 ((0 : Int) + (((List.length y1) : Nat) : Int))) ≤ (IntKind.wrap .i64 ((0 : Int) + (((List.length y1) : Nat) : Int)))) ∧ (((IntKind.wrap .i64 ((0 : Int) + (((List.length y1) : Nat) : Int))) * (4 : Int)) ≤ (140737488355328 : Int)))) then
    Option.bind (Lbig_Int_Mul_uzb_0 k k (Int.toNat (IntKind.wrap .i64 ((0 : Int) + (((List.length y1) : Nat) : Int)))) 0 (0 : Int) (0 : Int) x y0 y1 (List.replicate (Int.toNat (IntKind.wrap .i64 ((0 : Int) + (((List.length y1) : Nat) : Int)))) (0 : Int)) []) fun r3 =>
    if ((0 + r3.1) ≤ (List.length r3.2.2.2.2.1)) then
      Option.bind (Fbig_Int_set_cvg k (!(r3.2.1 == r3.2.2.1)) (List.take r3.1 r3.2.2.2.2.1) r3.2.1) fun r4 =>
      (some (r4.1, r4.2, r3.2.2.1, r3.2.2.2.1))
    else
    none
  else
  none
def Fbig_Int_Mul_uzb : Nat → Bool → Bool → List Int → Option (Bool × List Int × Bool × List Int)
  | 0, _, _, _ => none
  | k + 1, x, y0, y1 => bbig_Int_Mul_uzb k x y0 y1
def shbig_Int_Mul_uzb : FS := { vs := [.a (.ptr 0 0 0), .a (.ptr 0 0 0), .a (.ptr 1 0 0)], bs := [.raw [[.lf .bool, .snil 1 64]] 2 69 true false, .raw [[.lf .bool, .lf (.sl (.int .u32))]] 2 69 true false] }
def rsbig_Int_Mul_uzb : List FS := [{ vs := [.a (.ptr 0 0 0)], bs := [.raw [[.lf .bool, .lf (.sl (.int .u32))]] 2 69 true false, .raw [[.lf .bool, .lf (.sl (.int .u32))]] 2 69 true false] }]
def Ibig_Int_Mul_uzb (k : Nat) : Inst := ⟨60, shbig_Int_Mul_uzb, rsbig_Int_Mul_uzb, fun x => Fbig_Int_Mul_uzb k x.1 x.2.1 x.2.2⟩
theorem albig_Int_Mul_uzb (k : Nat) : AllI (call cf k) [Ibig_Int_set_cvg k] := And.intro (okbig_Int_set_cvg k) (True.intro)
def hsbig_Int_Mul_uzb_2 : List SS := [{ fr := [(0, .a (.ptr 0 0 0)), (1, .a (.ptr 0 0 0)), (2, .a (.ptr 1 0 0)), (7, .a (.smz 2)), (8, .a (.lf (.int .i64))), (9, .a (.lf (.int .u32))), (10, .a (.lf (.int .u64))), (29, .a (.smz 3)), (30, .a (.lf (.int .i64))), (31, .a (.lf (.int .i64))), (39, .a (.lf (.sl (.int .u32)))), (40, .a (.lf (.int .i64))), (41, .a (.lf (.int .i64)))], mem := [(0, some (.raw [[.lf .bool, .snil 1 64]] 2 69 true false)), (1, some (.raw [[.lf .bool, .lf (.sl (.int .u32))]] 2 69 true false)), (2, some (.arr (.int .u32) 1 64 false)), (3, some (.arr (.int .u32) 1 64 false))], nx := 4 }]
def osbig_Int_Mul_uzb_2 : List OS := [⟨some 2, { fr := [(0, .a (.ptr 0 0 0)), (1, .a (.ptr 0 0 0)), (2, .a (.ptr 1 0 0)), (7, .a (.smz 2)), (8, .a (.lf (.int .i64))), (10, .a (.lf (.int .u64))), (29, .a (.smz 3)), (30, .a (.lf (.int .i64))), (31, .a (.lf (.int .i64)))], mem := [(0, some (.raw [[.lf .bool, .snil 1 64]] 2 69 true false)), (1, some (.raw [[.lf .bool, .lf (.sl (.int .u32))]] 2 69 true false)), (2, some (.arr (.int .u32) 1 64 false)), (3, some (.arr (.int .u32) 1 64 false))], nx := 4 }⟩]
def LIbig_Int_Mul_uzb_2 (k : Nat) : LInst := ⟨2, hsbig_Int_Mul_uzb_2, osbig_Int_Mul_uzb_2, fun x => Lbig_Int_Mul_uzb_2 k k x.1 x.2.1 x.2.2.1 x.2.2.2.1 x.2.2.2.2.1 x.2.2.2.2.2.1 x.2.2.2.2.2.2.1 x.2.2.2.2.2.2.2.1 x.2.2.2.2.2.2.2.2.1 x.2.2.2.2.2.2.2.2.2.1 x.2.2.2.2.2.2.2.2.2.2.1 x.2.2.2.2.2.2.2.2.2.2.2.1 x.2.2.2.2.2.2.2.2.2.2.2.2.1 x.2.2.2.2.2.2.2.2.2.2.2.2.2.1 x.2.2.2.2.2.2.2.2.2.2.2.2.2.2⟩
theorem anbig_Int_Mul_uzb_2 (k : Nat) : LAll (LOk (R := DS OS.D osbig_Int_Mul_uzb_2) (fun b _ σ K => LOt Ty (kps 60) 2 b σ K []) cf (call cf k) (kps 60) Try.f60.ntmps k 2) 2 (lb Try.f60 1) :=
  And.intro (True.intro) (And.intro (And.intro (True.intro) (True.intro)) (And.intro (And.intro (True.intro) (And.intro (True.intro) (And.intro (True.intro) (True.intro)))) (True.intro)))
theorem stbig_Int_Mul_uzb_2 (k n : Nat) (x : DS SS.D hsbig_Int_Mul_uzb_2) : Lbig_Int_Mul_uzb_2 k (n + 1) x.1 x.2.1 x.2.2.1 x.2.2.2.1 x.2.2.2.2.1 x.2.2.2.2.2.1 x.2.2.2.2.2.2.1 x.2.2.2.2.2.2.2.1 x.2.2.2.2.2.2.2.2.1 x.2.2.2.2.2.2.2.2.2.1 x.2.2.2.2.2.2.2.2.2.2.1 x.2.2.2.2.2.2.2.2.2.2.2.1 x.2.2.2.2.2.2.2.2.2.2.2.2.1 x.2.2.2.2.2.2.2.2.2.2.2.2.2.1 x.2.2.2.2.2.2.2.2.2.2.2.2.2.2 = encSK SS.enc (fun σ => run2 cf (fun f a b K => COt f a b K [Ibig_Int_set_cvg k]) (fun b _ σ K => LOt Ty (kps 60) 2 b σ K []) Try.f60.ntmps 2 (lb Try.f60 1) σ (nextK Ty (kps 60 2) 2 hsbig_Int_Mul_uzb_2 osbig_Int_Mul_uzb_2 fun x => Lbig_Int_Mul_uzb_2 k n x.1 x.2.1 x.2.2.1 x.2.2.2.1 x.2.2.2.2.1 x.2.2.2.2.2.1 x.2.2.2.2.2.2.1 x.2.2.2.2.2.2.2.1 x.2.2.2.2.2.2.2.2.1 x.2.2.2.2.2.2.2.2.2.1 x.2.2.2.2.2.2.2.2.2.2.1 x.2.2.2.2.2.2.2.2.2.2.2.1 x.2.2.2.2.2.2.2.2.2.2.2.2.1 x.2.2.2.2.2.2.2.2.2.2.2.2.2.1 x.2.2.2.2.2.2.2.2.2.2.2.2.2.2)) hsbig_Int_Mul_uzb_2 x := by kernel_rfl
theorem lobig_Int_Mul_uzb_2 (k : Nat) : LIOk cf (call cf k) (kps 60) Try.f60.ntmps k 2 2 (lb Try.f60 1) (LIbig_Int_Mul_uzb_2 k) :=
  loop_ok (c := cf) (callF := call cf k) (kp := kps 60) (nt := Try.f60.ntmps) (k := k) (p := 2) (b := 2) (x0 := lb Try.f60 1) (hs := hsbig_Int_Mul_uzb_2) (os := osbig_Int_Mul_uzb_2) (COt_ok (albig_Int_Mul_uzb k)) (anbig_Int_Mul_uzb_2 k) (fun n x => Lbig_Int_Mul_uzb_2 k n x.1 x.2.1 x.2.2.1 x.2.2.2.1 x.2.2.2.2.1 x.2.2.2.2.2.1 x.2.2.2.2.2.2.1 x.2.2.2.2.2.2.2.1 x.2.2.2.2.2.2.2.2.1 x.2.2.2.2.2.2.2.2.2.1 x.2.2.2.2.2.2.2.2.2.2.1 x.2.2.2.2.2.2.2.2.2.2.2.1 x.2.2.2.2.2.2.2.2.2.2.2.2.1 x.2.2.2.2.2.2.2.2.2.2.2.2.2.1 x.2.2.2.2.2.2.2.2.2.2.2.2.2.2) (fun _ => rfl) (stbig_Int_Mul_uzb_2 k)
def hsbig_Int_Mul_uzb_0 : List SS := [{ fr := [(0, .a (.ptr 0 0 0)), (1, .a (.ptr 0 0 0)), (2, .a (.ptr 1 0 0)), (7, .a (.smz 2)), (29, .a (.smz 3)), (30, .a (.lf (.int .i64))), (31, .a (.lf (.int .i64)))], mem := [(0, some (.raw [[.lf .bool, .snil 1 64]] 2 69 true false)), (1, some (.raw [[.lf .bool, .lf (.sl (.int .u32))]] 2 69 true false)), (2, some (.arr (.int .u32) 1 64 false)), (3, some (.arr (.int .u32) 1 64 false))], nx := 4 }]
def osbig_Int_Mul_uzb_0 : List OS := [⟨some 0, { fr := [(0, .a (.ptr 0 0 0)), (1, .a (.ptr 0 0 0)), (2, .a (.ptr 1 0 0)), (7, .a (.smz 2))], mem := [(0, some (.raw [[.lf .bool, .snil 1 64]] 2 69 true false)), (1, some (.raw [[.lf .bool, .lf (.sl (.int .u32))]] 2 69 true false)), (2, some (.arr (.int .u32) 1 64 false)), (3, some (.arr (.int .u32) 1 64 false))], nx := 4 }⟩]
def LIbig_Int_Mul_uzb_0 (k : Nat) : LInst := ⟨0, hsbig_Int_Mul_uzb_0, osbig_Int_Mul_uzb_0, fun x => Lbig_Int_Mul_uzb_0 k k x.1 x.2.1 x.2.2.1 x.2.2.2.1 x.2.2.2.2.1 x.2.2.2.2.2.1 x.2.2.2.2.2.2.1 x.2.2.2.2.2.2.2.1 x.2.2.2.2.2.2.2.2⟩
theorem anbig_Int_Mul_uzb_0 (k : Nat) : LAll (LOk (R := DS OS.D osbig_Int_Mul_uzb_0) (fun b _ σ K => LOt Ty (kps 60) 2 b σ K [LIbig_Int_Mul_uzb_2 k]) cf (call cf k) (kps 60) Try.f60.ntmps k 2) 0 (lb Try.f60 0) :=
  And.intro (True.intro) (And.intro (And.intro (True.intro) (True.intro)) (And.intro (And.intro (True.intro) (And.intro (True.intro) (And.intro (And.intro (True.intro) (LOt_ok (c := cf) (callF := call cf k) (kp := kps 60) (nt := Try.f60.ntmps) (k := k) (p := 2) (b := 2) (x0 := lb Try.f60 1) (l := [LIbig_Int_Mul_uzb_2 k]) (And.intro (fun _ => lobig_Int_Mul_uzb_2 k) (True.intro)))) (True.intro)))) (True.intro)))
theorem stbig_Int_Mul_uzb_0 (k n : Nat) (x : DS SS.D hsbig_Int_Mul_uzb_0) : Lbig_Int_Mul_uzb_0 k (n + 1) x.1 x.2.1 x.2.2.1 x.2.2.2.1 x.2.2.2.2.1 x.2.2.2.2.2.1 x.2.2.2.2.2.2.1 x.2.2.2.2.2.2.2.1 x.2.2.2.2.2.2.2.2 = encSK SS.enc (fun σ => run2 cf (fun f a b K => COt f a b K [Ibig_Int_set_cvg k]) (fun b _ σ K => LOt Ty (kps 60) 2 b σ K [LIbig_Int_Mul_uzb_2 k]) Try.f60.ntmps 0 (lb Try.f60 0) σ (nextK Ty (kps 60 0) 2 hsbig_Int_Mul_uzb_0 osbig_Int_Mul_uzb_0 fun x => Lbig_Int_Mul_uzb_0 k n x.1 x.2.1 x.2.2.1 x.2.2.2.1 x.2.2.2.2.1 x.2.2.2.2.2.1 x.2.2.2.2.2.2.1 x.2.2.2.2.2.2.2.1 x.2.2.2.2.2.2.2.2)) hsbig_Int_Mul_uzb_0 x := by kernel_rfl
theorem lobig_Int_Mul_uzb_0 (k : Nat) : LIOk cf (call cf k) (kps 60) Try.f60.ntmps k 2 0 (lb Try.f60 0) (LIbig_Int_Mul_uzb_0 k) :=
  loop_ok (c := cf) (callF := call cf k) (kp := kps 60) (nt := Try.f60.ntmps) (k := k) (p := 2) (b := 0) (x0 := lb Try.f60 0) (hs := hsbig_Int_Mul_uzb_0) (os := osbig_Int_Mul_uzb_0) (COt_ok (albig_Int_Mul_uzb k)) (anbig_Int_Mul_uzb_0 k) (fun n x => Lbig_Int_Mul_uzb_0 k n x.1 x.2.1 x.2.2.1 x.2.2.2.1 x.2.2.2.2.1 x.2.2.2.2.2.1 x.2.2.2.2.2.2.1 x.2.2.2.2.2.2.2.1 x.2.2.2.2.2.2.2.2) (fun _ => rfl) (stbig_Int_Mul_uzb_0 k)
theorem anbig_Int_Mul_uzb (k : Nat) : LAll (LOk (R := DS FS.D rsbig_Int_Mul_uzb) (fun b _ σ K => LOt Ty (kps 60) 2 b σ K [LIbig_Int_Mul_uzb_2 k, LIbig_Int_Mul_uzb_0 k]) cf (call cf k) (cf.keep 60) Try.f60.ntmps k shbig_Int_Mul_uzb.bs.length) 0 (bd Try.f60) :=
  And.intro (True.intro) (And.intro (True.intro) (And.intro (And.intro (True.intro) (LOt_ok (c := cf) (callF := call cf k) (kp := kps 60) (nt := Try.f60.ntmps) (k := k) (p := 2) (b := 0) (x0 := lb Try.f60 0) (l := [LIbig_Int_Mul_uzb_2 k, LIbig_Int_Mul_uzb_0 k]) (And.intro (fun h => absurd (show (2 : Nat) = 0 from h) (by decide)) (And.intro (fun _ => lobig_Int_Mul_uzb_0 k) (True.intro))))) (And.intro (True.intro) (True.intro))))
theorem stbig_Int_Mul_uzb (k : Nat) (x : shbig_Int_Mul_uzb.D) : Fbig_Int_Mul_uzb (k + 1) x.1 x.2.1 x.2.2 = body2 cf (fun f a b K => COt f a b K [Ibig_Int_set_cvg k]) (fun b _ σ K => LOt Ty (kps 60) 2 b σ K [LIbig_Int_Mul_uzb_2 k, LIbig_Int_Mul_uzb_0 k]) 60 Try.f60.ntmps Try.f60.results.toList (bd Try.f60) (shbig_Int_Mul_uzb.enc x).1 (shbig_Int_Mul_uzb.enc x).2 (putS FS.dec rsbig_Int_Mul_uzb) := by kernel_rfl
theorem okbig_Int_Mul_uzb : ∀ k, InstOk (call cf k) (Ibig_Int_Mul_uzb k)
  | 0 => fun x y e => absurd (show (none : Option _) = some y from e) (by simp)
  | k + 1 => inst_ok (c := cf) (k := k) (f := 60) (fn := Try.f60) (body := bd Try.f60) (sh := shbig_Int_Mul_uzb) (os := rsbig_Int_Mul_uzb) rfl Try.func60 rfl ⟨rfl, Nat.le_of_ble_eq_true rfl⟩ (COt_ok (albig_Int_Mul_uzb k)) (anbig_Int_Mul_uzb k) (fun x => Fbig_Int_Mul_uzb (k + 1) x.1 x.2.1 x.2.2) (stbig_Int_Mul_uzb k)

/-! (*shunt/big.Int).set -/
def bbig_Int_set_paj (k : Nat) (neg : Bool) (w : List Int) (z0 : Bool) (z1 : List Int) : Option (Bool × List Int) :=
  Option.bind (Fbig_trim k w) fun r6 =>
  if (neg = true) then
    (some ((decide ((((List.length r6) : Nat) : Int) > (0 : Int))), r6))
  else
  (some (false, r6))
def Fbig_Int_set_paj : Nat → Bool → List Int → Bool → List Int → Option (Bool × List Int)
  | 0, _, _, _, _ => none
  | k + 1, neg, w, z0, z1 => bbig_Int_set_paj k neg w z0 z1
def shbig_Int_set_paj : FS := { vs := [.a (.ptr 0 0 0), .a (.lf .bool), .a (.lf (.sl (.int .u32)))], bs := [.raw [[.lf .bool, .lf (.sl (.int .u32))]] 2 69 true false] }
def rsbig_Int_set_paj : List FS := [{ vs := [.a (.ptr 0 0 0)], bs := [.raw [[.lf .bool, .lf (.sl (.int .u32))]] 2 69 true false] }]
def Ibig_Int_set_paj (k : Nat) : Inst := ⟨67, shbig_Int_set_paj, rsbig_Int_set_paj, fun x => Fbig_Int_set_paj k x.1 x.2.1 x.2.2.1 x.2.2.2⟩
theorem albig_Int_set_paj (k : Nat) : AllI (call cf k) [Ibig_trim k] := And.intro (okbig_trim k) (True.intro)
theorem anbig_Int_set_paj (k : Nat) : LAll (LOk (R := DS FS.D rsbig_Int_set_paj) (fun b _ σ K => LOt Ty (kps 67) 1 b σ K []) cf (call cf k) (cf.keep 67) Try.f67.ntmps k shbig_Int_set_paj.bs.length) 0 (bd Try.f67) :=
  And.intro (True.intro) (And.intro (True.intro) (And.intro (True.intro) (And.intro (True.intro) (True.intro))))
theorem stbig_Int_set_paj (k : Nat) (x : shbig_Int_set_paj.D) : Fbig_Int_set_paj (k + 1) x.1 x.2.1 x.2.2.1 x.2.2.2 = body2 cf (fun f a b K => COt f a b K [Ibig_trim k]) (fun b _ σ K => LOt Ty (kps 67) 1 b σ K []) 67 Try.f67.ntmps Try.f67.results.toList (bd Try.f67) (shbig_Int_set_paj.enc x).1 (shbig_Int_set_paj.enc x).2 (putS FS.dec rsbig_Int_set_paj) := by kernel_rfl
theorem okbig_Int_set_paj : ∀ k, InstOk (call cf k) (Ibig_Int_set_paj k)
  | 0 => fun x y e => absurd (show (none : Option _) = some y from e) (by simp)
  | k + 1 => inst_ok (c := cf) (k := k) (f := 67) (fn := Try.f67) (body := bd Try.f67) (sh := shbig_Int_set_paj) (os := rsbig_Int_set_paj) rfl Try.func67 rfl ⟨rfl, Nat.le_of_ble_eq_true rfl⟩ (COt_ok (albig_Int_set_paj k)) (anbig_Int_set_paj k) (fun x => Fbig_Int_set_paj (k + 1) x.1 x.2.1 x.2.2.1 x.2.2.2) (stbig_Int_set_paj k)

/-! (*shunt/big.Int).sum -/
def bbig_Int_sum_ahd (k : Nat) (yneg : Bool) (y : List Int) (x0 : Bool) (x1 : List Int) : Option (Bool × List Int) :=
  if ((x0 == yneg) = true) then
    Option.bind (Fbig_add k x1 y) fun r5 =>
    Option.bind (Fbig_Int_set_paj k x0 r5 x0 x1) fun r6 =>
    (some (r6.1, r6.2))
  else
  Option.bind (Fbig_cmp k x1 y) fun r5 =>
  if ((decide (r5 ≥ (0 : Int))) = true) then
    Option.bind (Fbig_sub k x1 y) fun r6 =>
    Option.bind (Fbig_Int_set_paj k x0 r6 x0 x1) fun r7 =>
    (some (r7.1, r7.2))
  else
  Option.bind (Fbig_sub k y x1) fun r6 =>
  Option.bind (Fbig_Int_set_paj k yneg r6 x0 x1) fun r7 =>
  (some (r7.1, r7.2))
def Fbig_Int_sum_ahd : Nat → Bool → List Int → Bool → List Int → Option (Bool × List Int)
  | 0, _, _, _, _ => none
  | k + 1, yneg, y, x0, x1 => bbig_Int_sum_ahd k yneg y x0 x1
def shbig_Int_sum_ahd : FS := { vs := [.a (.ptr 0 0 0), .a (.ptr 0 0 0), .a (.lf .bool), .a (.lf (.sl (.int .u32)))], bs := [.raw [[.lf .bool, .lf (.sl (.int .u32))]] 2 69 true false] }
def rsbig_Int_sum_ahd : List FS := [{ vs := [.a (.ptr 0 0 0)], bs := [.raw [[.lf .bool, .lf (.sl (.int .u32))]] 2 69 true false] }]
def Ibig_Int_sum_ahd (k : Nat) : Inst := ⟨82, shbig_Int_sum_ahd, rsbig_Int_sum_ahd, fun x => Fbig_Int_sum_ahd k x.1 x.2.1 x.2.2.1 x.2.2.2⟩
theorem albig_Int_sum_ahd (k : Nat) : AllI (call cf k) [Ibig_add k, Ibig_Int_set_paj k, Ibig_cmp k, Ibig_sub k] := And.intro (okbig_add k) (And.intro (okbig_Int_set_paj k) (And.intro (okbig_cmp k) (And.intro (okbig_sub k) (True.intro))))
theorem anbig_Int_sum_ahd (k : Nat) : LAll (LOk (R := DS FS.D rsbig_Int_sum_ahd) (fun b _ σ K => LOt Ty (kps 82) 1 b σ K []) cf (call cf k) (cf.keep 82) Try.f82.ntmps k shbig_Int_sum_ahd.bs.length) 0 (bd Try.f82) :=
  And.intro (True.intro) (And.intro (And.intro (True.intro) (And.intro (And.intro (True.intro) (True.intro)) (True.intro))) (And.intro (And.intro (True.intro) (And.intro (And.intro (True.intro) (True.intro)) (True.intro))) (And.intro (True.intro) (True.intro))))
theorem stbig_Int_sum_ahd (k : Nat) (x : shbig_Int_sum_ahd.D) : Fbig_Int_sum_ahd (k + 1) x.1 x.2.1 x.2.2.1 x.2.2.2 = body2 cf (fun f a b K => COt f a b K [Ibig_add k, Ibig_Int_set_paj k, Ibig_cmp k, Ibig_sub k]) (fun b _ σ K => LOt Ty (kps 82) 1 b σ K []) 82 Try.f82.ntmps Try.f82.results.toList (bd Try.f82) (shbig_Int_sum_ahd.enc x).1 (shbig_Int_sum_ahd.enc x).2 (putS FS.dec rsbig_Int_sum_ahd) := by kernel_rfl
theorem okbig_Int_sum_ahd : ∀ k, InstOk (call cf k) (Ibig_Int_sum_ahd k)
  | 0 => fun x y e => absurd (show (none : Option _) = some y from e) (by simp)
  | k + 1 => inst_ok (c := cf) (k := k) (f := 82) (fn := Try.f82) (body := bd Try.f82) (sh := shbig_Int_sum_ahd) (os := rsbig_Int_sum_ahd) rfl Try.func82 rfl ⟨rfl, Nat.le_of_ble_eq_true rfl⟩ (COt_ok (albig_Int_sum_ahd k)) (anbig_Int_sum_ahd k) (fun x => Fbig_Int_sum_ahd (k + 1) x.1 x.2.1 x.2.2.1 x.2.2.2) (stbig_Int_sum_ahd k)

/-! (*shunt/big.Int).Add -/
def bbig_Int_Add_jod (k : Nat) (x0 : Bool) (x1 : List Int) (y0 : Bool) (y1 : List Int) : Option (Bool × List Int × Bool × List Int) :=
  Option.bind (Fbig_Int_sum_ahd k y0 y1 x0 x1) fun r5 =>
  (some (r5.1, r5.2, y0, y1))
def Fbig_Int_Add_jod : Nat → Bool → List Int → Bool → List Int → Option (Bool × List Int × Bool × List Int)
  | 0, _, _, _, _ => none
  | k + 1, x0, x1, y0, y1 => bbig_Int_Add_jod k x0 x1 y0 y1
def shbig_Int_Add_jod : FS := { vs := [.a (.ptr 0 0 0), .a (.ptr 0 0 0), .a (.ptr 1 0 0)], bs := [.raw [[.lf .bool, .lf (.sl (.int .u32))]] 2 69 true false, .raw [[.lf .bool, .lf (.sl (.int .u32))]] 2 69 true false] }
def rsbig_Int_Add_jod : List FS := [{ vs := [.a (.ptr 0 0 0)], bs := [.raw [[.lf .bool, .lf (.sl (.int .u32))]] 2 69 true false, .raw [[.lf .bool, .lf (.sl (.int .u32))]] 2 69 true false] }]
def Ibig_Int_Add_jod (k : Nat) : Inst := ⟨58, shbig_Int_Add_jod, rsbig_Int_Add_jod, fun x => Fbig_Int_Add_jod k x.1 x.2.1 x.2.2.1 x.2.2.2⟩
theorem albig_Int_Add_jod (k : Nat) : AllI (call cf k) [Ibig_Int_sum_ahd k] := And.intro (okbig_Int_sum_ahd k) (True.intro)
theorem anbig_Int_Add_jod (k : Nat) : LAll (LOk (R := DS FS.D rsbig_Int_Add_jod) (fun b _ σ K => LOt Ty (kps 58) 2 b σ K []) cf (call cf k) (cf.keep 58) Try.f58.ntmps k shbig_Int_Add_jod.bs.length) 0 (bd Try.f58) :=
  And.intro (True.intro) (And.intro (True.intro) (True.intro))
theorem stbig_Int_Add_jod (k : Nat) (x : shbig_Int_Add_jod.D) : Fbig_Int_Add_jod (k + 1) x.1 x.2.1 x.2.2.1 x.2.2.2 = body2 cf (fun f a b K => COt f a b K [Ibig_Int_sum_ahd k]) (fun b _ σ K => LOt Ty (kps 58) 2 b σ K []) 58 Try.f58.ntmps Try.f58.results.toList (bd Try.f58) (shbig_Int_Add_jod.enc x).1 (shbig_Int_Add_jod.enc x).2 (putS FS.dec rsbig_Int_Add_jod) := by kernel_rfl
theorem okbig_Int_Add_jod : ∀ k, InstOk (call cf k) (Ibig_Int_Add_jod k)
  | 0 => fun x y e => absurd (show (none : Option _) = some y from e) (by simp)
  | k + 1 => inst_ok (c := cf) (k := k) (f := 58) (fn := Try.f58) (body := bd Try.f58) (sh := shbig_Int_Add_jod) (os := rsbig_Int_Add_jod) rfl Try.func58 rfl ⟨rfl, Nat.le_of_ble_eq_true rfl⟩ (COt_ok (albig_Int_Add_jod k)) (anbig_Int_Add_jod k) (fun x => Fbig_Int_Add_jod (k + 1) x.1 x.2.1 x.2.2.1 x.2.2.2) (stbig_Int_Add_jod k)

/-! (*shunt/big.Int).Mul -/
def Lbig_Int_Mul_jod_2s (k : Nat) (rec : Nat → Int → Int → Int → List Int → Int → Int → List Int → Int → Int → Bool → List Int → Bool → List Int → List Int → Option (Nat × Int × Int × List Int × Int × Int × Bool × List Int × Bool × List Int × List Int)) (out1 : Nat) (i : Int) (a : Int) (carry : Int) (x : List Int) (x1 : Int) (x2 : Int) (x3 : List Int) (x4 : Int) (x5 : Int) (x0 : Bool) (x11 : List Int) (y0 : Bool) (y1 : List Int) (outs : List Int) : Option (Nat × Int × Int × List Int × Int × Int × Bool × List Int × Bool × List Int × List Int) :=
  if ((decide (x5 < x4)) = true) then
    if ((0 : Int) ≤ x5) then
      Option.bind (x3)[(Int.toNat x5)]? fun x6 =>
      if (((0 : Int) ≤ (IntKind.wrap .i64 (i + x5))) ∧ ((IntKind.wrap .i64 (i + x5)) < ((out1 : Nat) : Int))) then
        Option.bind (outs)[(0 + (Int.toNat (IntKind.wrap .i64 (i + x5))))]? fun x7 =>
        if (((0 : Int) ≤ (IntKind.wrap .i64 (i + x5))) ∧ ((IntKind.wrap .i64 (i + x5)) < ((out1 : Nat) : Int))) then
          Option.bind (outs)[(0 + (Int.toNat (IntKind.wrap .i64 (i + x5))))]? fun x8 =>
          rec out1 i a (Int.fdiv (IntKind.wrap .u64 ((IntKind.wrap .u64 ((IntKind.wrap .u64 ((IntKind.wrap .u64 a) * (IntKind.wrap .u64 x6))) + (IntKind.wrap .u64 x7))) + carry)) (4294967296 : Int)) x x1 x2 x3 x4 (IntKind.wrap .i64 (x5 + (1 : Int))) x0 x11 y0 y1 (List.set outs (0 + (Int.toNat (IntKind.wrap .i64 (i + x5)))) (IntKind.wrap .u32 (IntKind.wrap .u64 ((IntKind.wrap .u64 ((IntKind.wrap .u64 ((IntKind.wrap .u64 a) * (IntKind.wrap .u64 x6))) + (IntKind.wrap .u64 x7))) + carry))))
        else
        none
      else
      none
    else
    none
  else
  (some (out1, i, carry, x, x1, x2, x0, x11, y0, y1, outs))
def Lbig_Int_Mul_jod_2 (k n : Nat) : Nat → Int → Int → Int → List Int → Int → Int → List Int → Int → Int → Bool → List Int → Bool → List Int → List Int → Option (Nat × Int × Int × List Int × Int × Int × Bool × List Int × Bool × List Int × List Int) := Nat.rec (fun _ _ _ _ _ _ _ _ _ _ _ _ _ _ _ => none) (fun _ r => Lbig_Int_Mul_jod_2s k r) n
def Lbig_Int_Mul_jod_0s (k : Nat) (rec : Nat → List Int → Int → Int → Bool → List Int → Bool → List Int → List Int → Option (Nat × Bool × List Int × Bool × List Int × List Int)) (out1 : Nat) (x : List Int) (x1 : Int) (x2 : Int) (x0 : Bool) (x11 : List Int) (y0 : Bool) (y1 : List Int) (outs : List Int) : Option (Nat × Bool × List Int × Bool × List Int × List Int) :=
  if ((decide (x2 < x1)) = true) then
    if ((0 : Int) ≤ x2) then
      Option.bind (x)[(Int.toNat x2)]? fun x3 =>
      Option.bind (Lbig_Int_Mul_jod_2 k k out1 x2 x3 (0 : Int) x x1 x2 y1 (((List.length y1) : Nat) : Int) (0 : Int) x0 x11 y0 y1 outs) fun r3 =>
      if (((0 : Int) ≤ (IntKind.wrap .i64 (r3.2.1 + (((List.length r3.2.2.2.2.2.2.2.2.2.1) : Nat) : Int)))) ∧ ((IntKind.wrap .i64 (r3.2.1 + (((List.length r3.2.2.2.2.2.2.2.2.2.1) : Nat) : Int))) < ((r3.1 : Nat) : Int))) then
        Option.bind (r3.2.2.2.2.2.2.2.2.2.2)[(0 + (Int.toNat (IntKind.wrap .i64 (r3.2.1 + (((List.length r3.2.2.2.2.2.2.2.2.2.1) : Nat) : Int)))))]? fun x4 =>
        rec r3.1 r3.2.2.2.1 r3.2.2.2.2.1 (IntKind.wrap .i64 (r3.2.2.2.2.2.1 + (1 : Int))) r3.2.2.2.2.2.2.1 r3.2.2.2.2.2.2.2.1 r3.2.2.2.2.2.2.2.2.1 r3.2.2.2.2.2.2.2.2.2.1 (List.set r3.2.2.2.2.2.2.2.2.2.2 (0 + (Int.toNat (IntKind.wrap .i64 (r3.2.1 + (((List.length r3.2.2.2.2.2.2.2.2.2.1) : Nat) : Int))))) (IntKind.wrap .u32 r3.2.2.1))
      else
      none
    else
    none
  else
  (some (out1, x0, x11, y0, y1, outs))
def Lbig_Int_Mul_jod_0 (k n : Nat) : Nat → List Int → Int → Int → Bool → List Int → Bool → List Int → List Int → Option (Nat × Bool × List Int × Bool × List Int × List Int) := Nat.rec (fun _ _ _ _ _ _ _ _ _ => none) (fun _ r => Lbig_Int_Mul_jod_0s k r) n
def bbig_Int_Mul_jod (k : Nat) (x0 : Bool) (x1 : List Int) (y0 : Bool) (y1 : List Int) : Option (Bool × List Int × Bool × List Int) :=
  if (((0 : Int) ≤ (IntKind.wrap .i64 ((((List.length x1) : Nat) : Int) + (((List.length y1) : Nat) : Int)))) ∧ (((IntKind.wrap .i64 ((((List.length x1) : Nat) : Int) + (((List.length y1) : Nat) : Int))) ≤ (IntKind.wrap .i64 ((((List.length x1) : Nat) : Int) + (((List.length y1) : Nat) : Int)))) ∧ (((IntKind.wrap .i64 ((((List.length x1) : Nat) : Int) + (((List.length y1) : Nat) : Int))) * (4 : Int)) ≤ (140737488355328 : Int)))) then
    Option.bind (Lbig_Int_Mul_jod_0 k k (Int.toNat (IntKind.wrap .i64 ((((List.length x1) : Nat) : Int) + (((List.length y1) : Nat) : Int)))) x1 (((List.length x1) : Nat) : Int) (0 : Int) x0 x1 y0 y1 (List.replicate (Int.toNat (IntKind.wrap .i64 ((((List.length x1) : Nat) : Int) + (((List.length y1) : Nat) : Int)))) (0 : Int))) fun r3 =>
    if ((0 + r3.1) ≤ (List.length r3.2.2.2.2.2)) then
      Option.bind (Fbig_Int_set_paj k (!(r3.2.1 == r3.2.2.2.1)) (List.take r3.1 r3.2.2.2.2.2) r3.2.1 r3.2.2.1) fun r4 =>
      (some (r4.1, r4.2, r3.2.2.2.1, r3.2.2.2.2.1))
    else
    none
  else
  none
def Fbig_Int_Mul_jod : Nat → Bool → List Int → Bool → List Int → Option (Bool × List Int × Bool × List Int)
  | 0, _, _, _, _ => none
  | k + 1, x0, x1, y0, y1 => bbig_Int_Mul_jod k x0 x1 y0 y1
def shbig_Int_Mul_jod : FS := { vs := [.a (.ptr 0 0 0), .a (.ptr 0 0 0), .a (.ptr 1 0 0)], bs := [.raw [[.lf .bool, .lf (.sl (.int .u32))]] 2 69 true false, .raw [[.lf .bool, .lf (.sl (.int .u32))]] 2 69 true false] }
def rsbig_Int_Mul_jod : List FS := [{ vs := [.a (.ptr 0 0 0)], bs := [.raw [[.lf .bool, .lf (.sl (.int .u32))]] 2 69 true false, .raw [[.lf .bool, .lf (.sl (.int .u32))]] 2 69 true false] }]
def Ibig_Int_Mul_jod (k : Nat) : Inst := ⟨60, shbig_Int_Mul_jod, rsbig_Int_Mul_jod, fun x => Fbig_Int_Mul_jod k x.1 x.2.1 x.2.2.1 x.2.2.2⟩
theorem albig_Int_Mul_jod (k : Nat) : AllI (call cf k) [Ibig_Int_set_paj k] := And.intro (okbig_Int_set_paj k) (True.intro)
def hsbig_Int_Mul_jod_2 : List SS := [{ fr := [(0, .a (.ptr 0 0 0)), (1, .a (.ptr 0 0 0)), (2, .a (.ptr 1 0 0)), (7, .a (.smz 2)), (8, .a (.lf (.int .i64))), (9, .a (.lf (.int .u32))), (10, .a (.lf (.int .u64))), (29, .a (.lf (.sl (.int .u32)))), (30, .a (.lf (.int .i64))), (31, .a (.lf (.int .i64))), (39, .a (.lf (.sl (.int .u32)))), (40, .a (.lf (.int .i64))), (41, .a (.lf (.int .i64)))], mem := [(0, some (.raw [[.lf .bool, .lf (.sl (.int .u32))]] 2 69 true false)), (1, some (.raw [[.lf .bool, .lf (.sl (.int .u32))]] 2 69 true false)), (2, some (.arr (.int .u32) 1 64 false))], nx := 3 }]
def osbig_Int_Mul_jod_2 : List OS := [⟨some 2, { fr := [(0, .a (.ptr 0 0 0)), (1, .a (.ptr 0 0 0)), (2, .a (.ptr 1 0 0)), (7, .a (.smz 2)), (8, .a (.lf (.int .i64))), (10, .a (.lf (.int .u64))), (29, .a (.lf (.sl (.int .u32)))), (30, .a (.lf (.int .i64))), (31, .a (.lf (.int .i64)))], mem := [(0, some (.raw [[.lf .bool, .lf (.sl (.int .u32))]] 2 69 true false)), (1, some (.raw [[.lf .bool, .lf (.sl (.int .u32))]] 2 69 true false)), (2, some (.arr (.int .u32) 1 64 false))], nx := 3 }⟩]
def LIbig_Int_Mul_jod_2 (k : Nat) : LInst := ⟨2, hsbig_Int_Mul_jod_2, osbig_Int_Mul_jod_2, fun x => Lbig_Int_Mul_jod_2 k k x.1 x.2.1 x.2.2.1 x.2.2.2.1 x.2.2.2.2.1 x.2.2.2.2.2.1 x.2.2.2.2.2.2.1 x.2.2.2.2.2.2.2.1 x.2.2.2.2.2.2.2.2.1 x.2.2.2.2.2.2.2.2.2.1 x.2.2.2.2.2.2.2.2.2.2.1 x.2.2.2.2.2.2.2.2.2.2.2.1 x.2.2.2.2.2.2.2.2.2.2.2.2.1 x.2.2.2.2.2.2.2.2.2.2.2.2.2.1 x.2.2.2.2.2.2.2.2.2.2.2.2.2.2⟩
theorem anbig_Int_Mul_jod_2 (k : Nat) : LAll (LOk (R := DS OS.D osbig_Int_Mul_jod_2) (fun b _ σ K => LOt Ty (kps 60) 2 b σ K []) cf (call cf k) (kps 60) Try.f60.ntmps k 2) 2 (lb Try.f60 1) :=
  And.intro (True.intro) (And.intro (And.intro (True.intro) (True.intro)) (And.intro (And.intro (True.intro) (And.intro (True.intro) (And.intro (True.intro) (True.intro)))) (True.intro)))
theorem stbig_Int_Mul_jod_2 (k n : Nat) (x : DS SS.D hsbig_Int_Mul_jod_2) : Lbig_Int_Mul_jod_2 k (n + 1) x.1 x.2.1 x.2.2.1 x.2.2.2.1 x.2.2.2.2.1 x.2.2.2.2.2.1 x.2.2.2.2.2.2.1 x.2.2.2.2.2.2.2.1 x.2.2.2.2.2.2.2.2.1 x.2.2.2.2.2.2.2.2.2.1 x.2.2.2.2.2.2.2.2.2.2.1 x.2.2.2.2.2.2.2.2.2.2.2.1 x.2.2.2.2.2.2.2.2.2.2.2.2.1 x.2.2.2.2.2.2.2.2.2.2.2.2.2.1 x.2.2.2.2.2.2.2.2.2.2.2.2.2.2 = encSK SS.enc (fun σ => run2 cf (fun f a b K => COt f a b K [Ibig_Int_set_paj k]) (fun b _ σ K => LOt Ty (kps 60) 2 b σ K []) Try.f60.ntmps 2 (lb Try.f60 1) σ (nextK Ty (kps 60 2) 2 hsbig_Int_Mul_jod_2 osbig_Int_Mul_jod_2 fun x => Lbig_Int_Mul_jod_2 k n x.1 x.2.1 x.2.2.1 x.2.2.2.1 x.2.2.2.2.1 x.2.2.2.2.2.1 x.2.2.2.2.2.2.1 x.2.2.2.2.2.2.2.1 x.2.2.2.2.2.2.2.2.1 x.2.2.2.2.2.2.2.2.2.1 x.2.2.2.2.2.2.2.2.2.2.1 x.2.2.2.2.2.2.2.2.2.2.2.1 x.2.2.2.2.2.2.2.2.2.2.2.2.1 x.2.2.2.2.2.2.2.2.2.2.2.2.2.1 x.2.2.2.2.2.2.2.2.2.2.2.2.2.2)) hsbig_Int_Mul_jod_2 x := by kernel_rfl
theorem lobig_Int_Mul_jod_2 (k : Nat) : LIOk cf (call cf k) (kps 60) Try.f60.ntmps k 2 2 (lb Try.f60 1) (LIbig_Int_Mul_jod_2 k) :=
  loop_ok (c := cf) (callF := call cf k) (kp := kps 60) (nt := Try.f60.ntmps) (k := k) (p := 2) (b := 2) (x0 := lb Try.f60 1) (hs := hsbig_Int_Mul_jod_2) (os := osbig_Int_Mul_jod_2) (COt_ok (albig_Int_Mul_jod k)) (anbig_Int_Mul_jod_2 k) (fun n x => Lbig_Int_Mul_jod_2 k n x.1 x.2.1 x.2.2.1 x.2.2.2.1 x.2.2.2.2.1 x.2.2.2.2.2.1 x.2.2.2.2.2.2.1 x.2.2.2.2.2.2.2.1 x.2.2.2.2.2.2.2.2.1 x.2.2.2.2.2.2.2.2.2.1 x.2.2.2.2.2.2.2.2.2.2.1 x.2.2.2.2.2.2.2.2.2.2.2.1 x.2.2.2.2.2.2.2.2.2.2.2.2.1 x.2.2.2.2.2.2.2.2.2.2.2.2.2.1 x.2.2.2.2.2.2.2.2.2.2.2.2.2.2) (fun _ => rfl) (stbig_Int_Mul_jod_2 k)
def hsbig_Int_Mul_jod_0 : List SS := [{ fr := [(0, .a (.ptr 0 0 0)), (1, .a (.ptr 0 0 0)), (2, .a (.ptr 1 0 0)), (7, .a (.smz 2)), (29, .a (.lf (.sl (.int .u32)))), (30, .a (.lf (.int .i64))), (31, .a (.lf (.int .i64)))], mem := [(0, some (.raw [[.lf .bool, .lf (.sl (.int .u32))]] 2 69 true false)), (1, some (.raw [[.lf .bool, .lf (.sl (.int .u32))]] 2 69 true false)), (2, some (.arr (.int .u32) 1 64 false))], nx := 3 }]
def osbig_Int_Mul_jod_0 : List OS := [⟨some 0, { fr := [(0, .a (.ptr 0 0 0)), (1, .a (.ptr 0 0 0)), (2, .a (.ptr 1 0 0)), (7, .a (.smz 2))], mem := [(0, some (.raw [[.lf .bool, .lf (.sl (.int .u32))]] 2 69 true false)), (1, some (.raw [[.lf .bool, .lf (.sl (.int .u32))]] 2 69 true false)), (2, some (.arr (.int .u32) 1 64 false))], nx := 3 }⟩]
def LIbig_Int_Mul_jod_0 (k : Nat) : LInst := ⟨0, hsbig_Int_Mul_jod_0, osbig_Int_Mul_jod_0, fun x => Lbig_Int_Mul_jod_0 k k x.1 x.2.1 x.2.2.1 x.2.2.2.1 x.2.2.2.2.1 x.2.2.2.2.2.1 x.2.2.2.2.2.2.1 x.2.2.2.2.2.2.2.1 x.2.2.2.2.2.2.2.2⟩
theorem anbig_Int_Mul_jod_0 (k : Nat) : LAll (LOk (R := DS OS.D osbig_Int_Mul_jod_0) (fun b _ σ K => LOt Ty (kps 60) 2 b σ K [LIbig_Int_Mul_jod_2 k]) cf (call cf k) (kps 60) Try.f60.ntmps k 2) 0 (lb Try.f60 0) :=
  And.intro (True.intro) (And.intro (And.intro (True.intro) (True.intro)) (And.intro (And.intro (True.intro) (And.intro (True.intro) (And.intro (And.intro (True.intro) (LOt_ok (c := cf) (callF := call cf k) (kp := kps 60) (nt := Try.f60.ntmps) (k := k) (p := 2) (b := 2) (x0 := lb Try.f60 1) (l := [LIbig_Int_Mul_jod_2 k]) (And.intro (fun _ => lobig_Int_Mul_jod_2 k) (True.intro)))) (True.intro)))) (True.intro)))
theorem stbig_Int_Mul_jod_0 (k n : Nat) (x : DS SS.D hsbig_Int_Mul_jod_0) : Lbig_Int_Mul_jod_0 k (n + 1) x.1 x.2.1 x.2.2.1 x.2.2.2.1 x.2.2.2.2.1 x.2.2.2.2.2.1 x.2.2.2.2.2.2.1 x.2.2.2.2.2.2.2.1 x.2.2.2.2.2.2.2.2 = encSK SS.enc (fun σ => run2 cf (fun f a b K => COt f a b K [Ibig_Int_set_paj k]) (fun b _ σ K => LOt Ty (kps 60) 2 b σ K [LIbig_Int_Mul_jod_2 k]) Try.f60.ntmps 0 (lb Try.f60 0) σ (nextK Ty (kps 60 0) 2 hsbig_Int_Mul_jod_0 osbig_Int_Mul_jod_0 fun x => Lbig_Int_Mul_jod_0 k n x.1 x.2.1 x.2.2.1 x.2.2.2.1 x.2.2.2.2.1 x.2.2.2.2.2.1 x.2.2.2.2.2.2.1 x.2.2.2.2.2.2.2.1 x.2.2.2.2.2.2.2.2)) hsbig_Int_Mul_jod_0 x := by kernel_rfl
theorem lobig_Int_Mul_jod_0 (k : Nat) : LIOk cf (call cf k) (kps 60) Try.f60.ntmps k 2 0 (lb Try.f60 0) (LIbig_Int_Mul_jod_0 k) :=
  loop_ok (c := cf) (callF := call cf k) (kp := kps 60) (nt := Try.f60.ntmps) (k := k) (p := 2) (b := 0) (x0 := lb Try.f60 0) (hs := hsbig_Int_Mul_jod_0) (os := osbig_Int_Mul_jod_0) (COt_ok (albig_Int_Mul_jod k)) (anbig_Int_Mul_jod_0 k) (fun n x => Lbig_Int_Mul_jod_0 k n x.1 x.2.1 x.2.2.1 x.2.2.2.1 x.2.2.2.2.1 x.2.2.2.2.2.1 x.2.2.2.2.2.2.1 x.2.2.2.2.2.2.2.1 x.2.2.2.2.2.2.2.2) (fun _ => rfl) (stbig_Int_Mul_jod_0 k)
theorem anbig_Int_Mul_jod (k : Nat) : LAll (LOk (R := DS FS.D rsbig_Int_Mul_jod) (fun b _ σ K => LOt Ty (kps 60) 2 b σ K [LIbig_Int_Mul_jod_2 k, LIbig_Int_Mul_jod_0 k]) cf (call cf k) (cf.keep 60) Try.f60.ntmps k shbig_Int_Mul_jod.bs.length) 0 (bd Try.f60) :=
  And.intro (True.intro) (And.intro (True.intro) (And.intro (And.intro (True.intro) (LOt_ok (c := cf) (callF := call cf k) (kp := kps 60) (nt := Try.f60.ntmps) (k := k) (p := 2) (b := 0) (x0 := lb Try.f60 0) (l := [LIbig_Int_Mul_jod_2 k, LIbig_Int_Mul_jod_0 k]) (And.intro (fun h => absurd (show (2 : Nat) = 0 from h) (by decide)) (And.intro (fun _ => lobig_Int_Mul_jod_0 k) (True.intro))))) (And.intro (True.intro) (True.intro))))
theorem stbig_Int_Mul_jod (k : Nat) (x : shbig_Int_Mul_jod.D) : Fbig_Int_Mul_jod (k + 1) x.1 x.2.1 x.2.2.1 x.2.2.2 = body2 cf (fun f a b K => COt f a b K [Ibig_Int_set_paj k]) (fun b _ σ K => LOt Ty (kps 60) 2 b σ K [LIbig_Int_Mul_jod_2 k, LIbig_Int_Mul_jod_0 k]) 60 Try.f60.ntmps Try.f60.results.toList (bd Try.f60) (shbig_Int_Mul_jod.enc x).1 (shbig_Int_Mul_jod.enc x).2 (putS FS.dec rsbig_Int_Mul_jod) := by kernel_rfl
theorem okbig_Int_Mul_jod : ∀ k, InstOk (call cf k) (Ibig_Int_Mul_jod k)
  | 0 => fun x y e => absurd (show (none : Option _) = some y from e) (by simp)
  | k + 1 => inst_ok (c := cf) (k := k) (f := 60) (fn := Try.f60) (body := bd Try.f60) (sh := shbig_Int_Mul_jod) (os := rsbig_Int_Mul_jod) rfl Try.func60 rfl ⟨rfl, Nat.le_of_ble_eq_true rfl⟩ (COt_ok (albig_Int_Mul_jod k)) (anbig_Int_Mul_jod k) (fun x => Fbig_Int_Mul_jod (k + 1) x.1 x.2.1 x.2.2.1 x.2.2.2) (stbig_Int_Mul_jod k)

/-! shunt/big.Digits -/
def Lbig_Digits_0s (k : Nat) (rec : ((ByteArray × Int × Int × Bool × Bool × List Int) ⊕ (ByteArray × Int × Int × Bool × List Int × Bool × List Int)) → Option ((Bool × Bool × List Int) ⊕ (Bool × List Int × Bool × List Int))) (x : (ByteArray × Int × Int × Bool × Bool × List Int) ⊕ (ByteArray × Int × Int × Bool × List Int × Bool × List Int)) : Option ((Bool × Bool × List Int) ⊕ (Bool × List Int × Bool × List Int)) :=
  eitherK x
  (fun x =>
  if ((decide (x.2.2.1 < x.2.1)) = true) then
    Option.bind (Fbig_Int_Mul_uzb k x.2.2.2.1 x.2.2.2.2.1 x.2.2.2.2.2) fun r3 =>
    if ((0 : Int) ≤ x.2.2.1) then
      Option.bind ((ByteArray.data x.1))[(Int.toNat x.2.2.1)]? fun x2 =>
      Option.bind (Fbig_NewInt k (IntKind.wrap .i64 (IntKind.wrap .u8 ((((UInt8.toNat x2) : Nat) : Int) - (48 : Int))))) fun r4 =>
      Option.bind (Fbig_Int_Add_jod k r3.1 r3.2.1 r4.1 r4.2) fun r5 =>
      rec (Sum.inr (x.1, x.2.1, (IntKind.wrap .i64 (x.2.2.1 + (1 : Int))), r5.1, r5.2.1, r3.2.2.1, r3.2.2.2))
    else
    none
  else
  (some (Sum.inl (x.2.2.2.1, x.2.2.2.2.1, x.2.2.2.2.2))))
  (fun x =>
  if ((decide (x.2.2.1 < x.2.1)) = true) then
    Option.bind (Fbig_Int_Mul_jod k x.2.2.2.1 x.2.2.2.2.1 x.2.2.2.2.2.1 x.2.2.2.2.2.2) fun r3 =>
    if ((0 : Int) ≤ x.2.2.1) then
      Option.bind ((ByteArray.data x.1))[(Int.toNat x.2.2.1)]? fun x2 =>
      Option.bind (Fbig_NewInt k (IntKind.wrap .i64 (IntKind.wrap .u8 ((((UInt8.toNat x2) : Nat) : Int) - (48 : Int))))) fun r4 =>
      Option.bind (Fbig_Int_Add_jod k r3.1 r3.2.1 r4.1 r4.2) fun r5 =>
      rec (Sum.inr (x.1, x.2.1, (IntKind.wrap .i64 (x.2.2.1 + (1 : Int))), r5.1, r5.2.1, r3.2.2.1, r3.2.2.2))
    else
    none
  else
  (some (Sum.inr (x.2.2.2.1, x.2.2.2.2.1, x.2.2.2.2.2.1, x.2.2.2.2.2.2))))
def Lbig_Digits_0 (k n : Nat) : ((ByteArray × Int × Int × Bool × Bool × List Int) ⊕ (ByteArray × Int × Int × Bool × List Int × Bool × List Int)) → Option ((Bool × Bool × List Int) ⊕ (Bool × List Int × Bool × List Int)) := Nat.rec (fun _ => none) (fun _ r => Lbig_Digits_0s k r) n
def bbig_Digits (k : Nat) (s : ByteArray) : Option ((Bool) ⊕ (Bool × List Int)) :=
  Option.bind (Fbig_NewInt k (10 : Int)) fun r2 =>
  Option.bind (Lbig_Digits_0 k k (Sum.inl (s, (((ByteArray.size s) : Nat) : Int), (0 : Int), false, r2.1, r2.2))) fun r3 =>
  eitherK r3
    (fun r3 =>
    (some (Sum.inl r3.1)))
    (fun r3 =>
    (some (Sum.inr (r3.1, r3.2.1))))
def Fbig_Digits : Nat → ByteArray → Option ((Bool) ⊕ (Bool × List Int))
  | 0, _ => none
  | k + 1, s => bbig_Digits k s
def shbig_Digits : FS := { vs := [.a (.lf .str)], bs := [] }
def rsbig_Digits : List FS := [{ vs := [.a (.ptr 0 0 0)], bs := [.raw [[.lf .bool, .snil 1 64]] 2 69 true false] }, { vs := [.a (.ptr 0 0 0)], bs := [.raw [[.lf .bool, .lf (.sl (.int .u32))]] 2 69 true false] }]
def Ibig_Digits (k : Nat) : Inst := ⟨62, shbig_Digits, rsbig_Digits, fun x => Fbig_Digits k x⟩
theorem albig_Digits (k : Nat) : AllI (call cf k) [Ibig_NewInt k, Ibig_Int_Mul_uzb k, Ibig_Int_Add_jod k, Ibig_Int_Mul_jod k] := And.intro (okbig_NewInt k) (And.intro (okbig_Int_Mul_uzb k) (And.intro (okbig_Int_Add_jod k) (And.intro (okbig_Int_Mul_jod k) (True.intro))))
def hsbig_Digits_0 : List SS := [{ fr := [(0, .a (.lf .str)), (3, .a (.ptr 0 0 0)), (4, .a (.ptr 1 0 0)), (9, .a (.lf (.int .i64))), (10, .a (.lf (.int .i64)))], mem := [(0, some (.raw [[.lf .bool, .snil 1 64]] 2 69 true false)), (1, some (.raw [[.lf .bool, .lf (.sl (.int .u32))]] 2 69 true false))], nx := 2 }, { fr := [(0, .a (.lf .str)), (3, .a (.ptr 0 0 0)), (4, .a (.ptr 1 0 0)), (9, .a (.lf (.int .i64))), (10, .a (.lf (.int .i64)))], mem := [(0, some (.raw [[.lf .bool, .lf (.sl (.int .u32))]] 2 69 true false)), (1, some (.raw [[.lf .bool, .lf (.sl (.int .u32))]] 2 69 true false))], nx := 2 }]
def osbig_Digits_0 : List OS := [⟨some 0, { fr := [(3, .a (.ptr 0 0 0))], mem := [(0, some (.raw [[.lf .bool, .snil 1 64]] 2 69 true false)), (1, some (.raw [[.lf .bool, .lf (.sl (.int .u32))]] 2 69 true false))], nx := 2 }⟩, ⟨some 0, { fr := [(3, .a (.ptr 0 0 0))], mem := [(0, some (.raw [[.lf .bool, .lf (.sl (.int .u32))]] 2 69 true false)), (1, some (.raw [[.lf .bool, .lf (.sl (.int .u32))]] 2 69 true false))], nx := 2 }⟩]
def LIbig_Digits_0 (k : Nat) : LInst := ⟨0, hsbig_Digits_0, osbig_Digits_0, fun x => Lbig_Digits_0 k k x⟩
theorem anbig_Digits_0 (k : Nat) : LAll (LOk (R := DS OS.D osbig_Digits_0) (fun b _ σ K => LOt Ty (kps 62) 0 b σ K []) cf (call cf k) (kps 62) Try.f62.ntmps k 0) 0 (lb Try.f62 0) :=
  And.intro (True.intro) (And.intro (And.intro (True.intro) (True.intro)) (And.intro (And.intro (True.intro) (True.intro)) (True.intro)))
theorem stbig_Digits_0 (k n : Nat) (x : DS SS.D hsbig_Digits_0) : Lbig_Digits_0 k (n + 1) x = encSK SS.enc (fun σ => run2 cf (fun f a b K => COt f a b K [Ibig_NewInt k, Ibig_Int_Mul_uzb k, Ibig_Int_Add_jod k, Ibig_Int_Mul_jod k]) (fun b _ σ K => LOt Ty (kps 62) 0 b σ K []) Try.f62.ntmps 0 (lb Try.f62 0) σ (nextK Ty (kps 62 0) 0 hsbig_Digits_0 osbig_Digits_0 fun x => Lbig_Digits_0 k n x)) hsbig_Digits_0 x := by kernel_rfl
theorem lobig_Digits_0 (k : Nat) : LIOk cf (call cf k) (kps 62) Try.f62.ntmps k 0 0 (lb Try.f62 0) (LIbig_Digits_0 k) :=
  loop_ok (c := cf) (callF := call cf k) (kp := kps 62) (nt := Try.f62.ntmps) (k := k) (p := 0) (b := 0) (x0 := lb Try.f62 0) (hs := hsbig_Digits_0) (os := osbig_Digits_0) (COt_ok (albig_Digits k)) (anbig_Digits_0 k) (fun n x => Lbig_Digits_0 k n x) (fun _ => rfl) (stbig_Digits_0 k)
theorem anbig_Digits (k : Nat) : LAll (LOk (R := DS FS.D rsbig_Digits) (fun b _ σ K => LOt Ty (kps 62) 0 b σ K [LIbig_Digits_0 k]) cf (call cf k) (cf.keep 62) Try.f62.ntmps k shbig_Digits.bs.length) 0 (bd Try.f62) :=
  And.intro (True.intro) (And.intro (True.intro) (And.intro (And.intro (True.intro) (LOt_ok (c := cf) (callF := call cf k) (kp := kps 62) (nt := Try.f62.ntmps) (k := k) (p := 0) (b := 0) (x0 := lb Try.f62 0) (l := [LIbig_Digits_0 k]) (And.intro (fun _ => lobig_Digits_0 k) (True.intro)))) (And.intro (True.intro) (True.intro))))
theorem stbig_Digits (k : Nat) (x : shbig_Digits.D) : Fbig_Digits (k + 1) x = body2 cf (fun f a b K => COt f a b K [Ibig_NewInt k, Ibig_Int_Mul_uzb k, Ibig_Int_Add_jod k, Ibig_Int_Mul_jod k]) (fun b _ σ K => LOt Ty (kps 62) 0 b σ K [LIbig_Digits_0 k]) 62 Try.f62.ntmps Try.f62.results.toList (bd Try.f62) (shbig_Digits.enc x).1 (shbig_Digits.enc x).2 (putS FS.dec rsbig_Digits) := by kernel_rfl
theorem okbig_Digits : ∀ k, InstOk (call cf k) (Ibig_Digits k)
  | 0 => fun x y e => absurd (show (none : Option _) = some y from e) (by simp)
  | k + 1 => inst_ok (c := cf) (k := k) (f := 62) (fn := Try.f62) (body := bd Try.f62) (sh := shbig_Digits) (os := rsbig_Digits) rfl Try.func62 rfl ⟨rfl, Nat.le_of_ble_eq_true rfl⟩ (COt_ok (albig_Digits k)) (anbig_Digits k) (fun x => Fbig_Digits (k + 1) x) (stbig_Digits k)

/-! (*shunt/big.Int).Neg -/
def bbig_Int_Neg_mad (k : Nat) (x : Bool) : Option (Bool × List Int) :=
  Option.bind (Fbig_Int_set_cvg k (!x) [] x) fun r3 =>
  (some (r3.1, r3.2))
def Fbig_Int_Neg_mad : Nat → Bool → Option (Bool × List Int)
  | 0, _ => none
  | k + 1, x => bbig_Int_Neg_mad k x
def shbig_Int_Neg_mad : FS := { vs := [.a (.ptr 0 0 0), .a (.ptr 0 0 0)], bs := [.raw [[.lf .bool, .snil 1 64]] 2 69 true false] }
def rsbig_Int_Neg_mad : List FS := [{ vs := [.a (.ptr 0 0 0)], bs := [.raw [[.lf .bool, .lf (.sl (.int .u32))]] 2 69 true false] }]
def Ibig_Int_Neg_mad (k : Nat) : Inst := ⟨63, shbig_Int_Neg_mad, rsbig_Int_Neg_mad, fun x => Fbig_Int_Neg_mad k x⟩
theorem albig_Int_Neg_mad (k : Nat) : AllI (call cf k) [Ibig_Int_set_cvg k] := And.intro (okbig_Int_set_cvg k) (True.intro)
theorem anbig_Int_Neg_mad (k : Nat) : LAll (LOk (R := DS FS.D rsbig_Int_Neg_mad) (fun b _ σ K => LOt Ty (kps 63) 1 b σ K []) cf (call cf k) (cf.keep 63) Try.f63.ntmps k shbig_Int_Neg_mad.bs.length) 0 (bd Try.f63) :=
  And.intro (True.intro) (And.intro (True.intro) (True.intro))
theorem stbig_Int_Neg_mad (k : Nat) (x : shbig_Int_Neg_mad.D) : Fbig_Int_Neg_mad (k + 1) x = body2 cf (fun f a b K => COt f a b K [Ibig_Int_set_cvg k]) (fun b _ σ K => LOt Ty (kps 63) 1 b σ K []) 63 Try.f63.ntmps Try.f63.results.toList (bd Try.f63) (shbig_Int_Neg_mad.enc x).1 (shbig_Int_Neg_mad.enc x).2 (putS FS.dec rsbig_Int_Neg_mad) := by kernel_rfl
theorem okbig_Int_Neg_mad : ∀ k, InstOk (call cf k) (Ibig_Int_Neg_mad k)
  | 0 => fun x y e => absurd (show (none : Option _) = some y from e) (by simp)
  | k + 1 => inst_ok (c := cf) (k := k) (f := 63) (fn := Try.f63) (body := bd Try.f63) (sh := shbig_Int_Neg_mad) (os := rsbig_Int_Neg_mad) rfl Try.func63 rfl ⟨rfl, Nat.le_of_ble_eq_true rfl⟩ (COt_ok (albig_Int_Neg_mad k)) (anbig_Int_Neg_mad k) (fun x => Fbig_Int_Neg_mad (k + 1) x) (stbig_Int_Neg_mad k)

/-! (*shunt/big.Int).Sign -/
def bbig_Int_Sign_oma (k : Nat) (z : Bool) : Option (Int × Bool) :=
  (some ((0 : Int), z))
def Fbig_Int_Sign_oma : Nat → Bool → Option (Int × Bool)
  | 0, _ => none
  | k + 1, z => bbig_Int_Sign_oma k z
def shbig_Int_Sign_oma : FS := { vs := [.a (.ptr 0 0 0)], bs := [.raw [[.lf .bool, .snil 1 64]] 2 69 true false] }
def rsbig_Int_Sign_oma : List FS := [{ vs := [.a (.lf (.int .i64))], bs := [.raw [[.lf .bool, .snil 1 64]] 2 69 true false] }]
def Ibig_Int_Sign_oma (k : Nat) : Inst := ⟨69, shbig_Int_Sign_oma, rsbig_Int_Sign_oma, fun x => Fbig_Int_Sign_oma k x⟩
theorem albig_Int_Sign_oma (k : Nat) : AllI (call cf k) [] := True.intro
theorem anbig_Int_Sign_oma (k : Nat) : LAll (LOk (R := DS FS.D rsbig_Int_Sign_oma) (fun b _ σ K => LOt Ty (kps 69) 1 b σ K []) cf (call cf k) (cf.keep 69) Try.f69.ntmps k shbig_Int_Sign_oma.bs.length) 0 (bd Try.f69) :=
  And.intro (True.intro) (And.intro (And.intro (True.intro) (And.intro (And.intro (True.intro) (True.intro)) (And.intro (True.intro) (And.intro (And.intro (True.intro) (True.intro)) (True.intro))))) (And.intro (True.intro) (True.intro)))
theorem stbig_Int_Sign_oma (k : Nat) (x : shbig_Int_Sign_oma.D) : Fbig_Int_Sign_oma (k + 1) x = body2 cf (fun f a b K => COt f a b K []) (fun b _ σ K => LOt Ty (kps 69) 1 b σ K []) 69 Try.f69.ntmps Try.f69.results.toList (bd Try.f69) (shbig_Int_Sign_oma.enc x).1 (shbig_Int_Sign_oma.enc x).2 (putS FS.dec rsbig_Int_Sign_oma) := by kernel_rfl
theorem okbig_Int_Sign_oma : ∀ k, InstOk (call cf k) (Ibig_Int_Sign_oma k)
  | 0 => fun x y e => absurd (show (none : Option _) = some y from e) (by simp)
  | k + 1 => inst_ok (c := cf) (k := k) (f := 69) (fn := Try.f69) (body := bd Try.f69) (sh := shbig_Int_Sign_oma) (os := rsbig_Int_Sign_oma) rfl Try.func69 rfl ⟨rfl, Nat.le_of_ble_eq_true rfl⟩ (COt_ok (albig_Int_Sign_oma k)) (anbig_Int_Sign_oma k) (fun x => Fbig_Int_Sign_oma (k + 1) x) (stbig_Int_Sign_oma k)

/-! (*shunt/big.Int).Words -/
def bbig_Int_Words_oma (k : Nat) (z : Bool) : Option (Nat × Bool × List Int) :=
  (some (0, z, (List.take 0 [])))
def Fbig_Int_Words_oma : Nat → Bool → Option (Nat × Bool × List Int)
  | 0, _ => none
  | k + 1, z => bbig_Int_Words_oma k z
def shbig_Int_Words_oma : FS := { vs := [.a (.ptr 0 0 0)], bs := [.raw [[.lf .bool, .snil 1 64]] 2 69 true false] }
def rsbig_Int_Words_oma : List FS := [{ vs := [.a (.smz 1)], bs := [.raw [[.lf .bool, .snil 1 64]] 2 69 true false, .arr (.int .u32) 1 64 false] }]
def Ibig_Int_Words_oma (k : Nat) : Inst := ⟨70, shbig_Int_Words_oma, rsbig_Int_Words_oma, fun x => Fbig_Int_Words_oma k x⟩
theorem albig_Int_Words_oma (k : Nat) : AllI (call cf k) [] := True.intro
theorem anbig_Int_Words_oma (k : Nat) : LAll (LOk (R := DS FS.D rsbig_Int_Words_oma) (fun b _ σ K => LOt Ty (kps 70) 1 b σ K []) cf (call cf k) (cf.keep 70) Try.f70.ntmps k shbig_Int_Words_oma.bs.length) 0 (bd Try.f70) :=
  And.intro (True.intro) (And.intro (True.intro) (True.intro))
theorem stbig_Int_Words_oma (k : Nat) (x : shbig_Int_Words_oma.D) : Fbig_Int_Words_oma (k + 1) x = body2 cf (fun f a b K => COt f a b K []) (fun b _ σ K => LOt Ty (kps 70) 1 b σ K []) 70 Try.f70.ntmps Try.f70.results.toList (bd Try.f70) (shbig_Int_Words_oma.enc x).1 (shbig_Int_Words_oma.enc x).2 (putS FS.dec rsbig_Int_Words_oma) := by kernel_rfl
theorem okbig_Int_Words_oma : ∀ k, InstOk (call cf k) (Ibig_Int_Words_oma k)
  | 0 => fun x y e => absurd (show (none : Option _) = some y from e) (by simp)
  | k + 1 => inst_ok (c := cf) (k := k) (f := 70) (fn := Try.f70) (body := bd Try.f70) (sh := shbig_Int_Words_oma) (os := rsbig_Int_Words_oma) rfl Try.func70 rfl ⟨rfl, Nat.le_of_ble_eq_true rfl⟩ (COt_ok (albig_Int_Words_oma k)) (anbig_Int_Words_oma k) (fun x => Fbig_Int_Words_oma (k + 1) x) (stbig_Int_Words_oma k)

/-! shunt/wide.Give -/
def bwide_Give_oma (k : Nat) (z : Bool) : Option (Bool × Nat × Bool × List Int) :=
  Option.bind (Fbig_Int_Sign_oma k z) fun r3 =>
  Option.bind (Fbig_Int_Words_oma k r3.2) fun r4 =>
  (some ((decide (r3.1 < (0 : Int))), r4.1, r4.2.1, r4.2.2))
def Fwide_Give_oma : Nat → Bool → Option (Bool × Nat × Bool × List Int)
  | 0, _ => none
  | k + 1, z => bwide_Give_oma k z
def shwide_Give_oma : FS := { vs := [.a (.ptr 0 0 0)], bs := [.raw [[.lf .bool, .snil 1 64]] 2 69 true false] }
def rswide_Give_oma : List FS := [{ vs := [.g [.lf .bool, .smz 1]], bs := [.raw [[.lf .bool, .snil 1 64]] 2 69 true false, .arr (.int .u32) 1 64 false] }]
def Iwide_Give_oma (k : Nat) : Inst := ⟨41, shwide_Give_oma, rswide_Give_oma, fun x => Fwide_Give_oma k x⟩
theorem alwide_Give_oma (k : Nat) : AllI (call cf k) [Ibig_Int_Sign_oma k, Ibig_Int_Words_oma k] := And.intro (okbig_Int_Sign_oma k) (And.intro (okbig_Int_Words_oma k) (True.intro))
theorem anwide_Give_oma (k : Nat) : LAll (LOk (R := DS FS.D rswide_Give_oma) (fun b _ σ K => LOt Ty (kps 41) 1 b σ K []) cf (call cf k) (cf.keep 41) Try.f41.ntmps k shwide_Give_oma.bs.length) 0 (bd Try.f41) :=
  And.intro (True.intro) (And.intro (True.intro) (True.intro))
theorem stwide_Give_oma (k : Nat) (x : shwide_Give_oma.D) : Fwide_Give_oma (k + 1) x = body2 cf (fun f a b K => COt f a b K [Ibig_Int_Sign_oma k, Ibig_Int_Words_oma k]) (fun b _ σ K => LOt Ty (kps 41) 1 b σ K []) 41 Try.f41.ntmps Try.f41.results.toList (bd Try.f41) (shwide_Give_oma.enc x).1 (shwide_Give_oma.enc x).2 (putS FS.dec rswide_Give_oma) := by kernel_rfl
theorem okwide_Give_oma : ∀ k, InstOk (call cf k) (Iwide_Give_oma k)
  | 0 => fun x y e => absurd (show (none : Option _) = some y from e) (by simp)
  | k + 1 => inst_ok (c := cf) (k := k) (f := 41) (fn := Try.f41) (body := bd Try.f41) (sh := shwide_Give_oma) (os := rswide_Give_oma) rfl Try.func41 rfl ⟨rfl, Nat.le_of_ble_eq_true rfl⟩ (COt_ok (alwide_Give_oma k)) (anwide_Give_oma k) (fun x => Fwide_Give_oma (k + 1) x) (stwide_Give_oma k)

/-! shunt/limb.answer -/
def blimb_answer_oma (k : Nat) (z : Bool) : Option (Bool × Nat × Int × Bool × List Int) :=
  Option.bind (Fwide_Give_oma k z) fun r3 =>
  if ((decide (((r3.2.1 : Nat) : Int) > (72 : Int))) = true) then
    (some (false, 0, (13 : Int), r3.2.2.1, []))
  else
  (some (r3.1, r3.2.1, (0 : Int), r3.2.2.1, r3.2.2.2))
def Flimb_answer_oma : Nat → Bool → Option (Bool × Nat × Int × Bool × List Int)
  | 0, _ => none
  | k + 1, z => blimb_answer_oma k z
def shlimb_answer_oma : FS := { vs := [.a (.ptr 0 0 0)], bs := [.raw [[.lf .bool, .snil 1 64]] 2 69 true false] }
def rslimb_answer_oma : List FS := [{ vs := [.g [.lf .bool, .smz 1], .a (.lf (.int .i64))], bs := [.raw [[.lf .bool, .snil 1 64]] 2 69 true false, .arr (.int .u32) 1 64 false] }]
def Ilimb_answer_oma (k : Nat) : Inst := ⟨57, shlimb_answer_oma, rslimb_answer_oma, fun x => Flimb_answer_oma k x⟩
theorem allimb_answer_oma (k : Nat) : AllI (call cf k) [Iwide_Give_oma k] := And.intro (okwide_Give_oma k) (True.intro)
theorem anlimb_answer_oma (k : Nat) : LAll (LOk (R := DS FS.D rslimb_answer_oma) (fun b _ σ K => LOt Ty (kps 57) 1 b σ K []) cf (call cf k) (cf.keep 57) Try.f57.ntmps k shlimb_answer_oma.bs.length) 0 (bd Try.f57) :=
  And.intro (True.intro) (And.intro (True.intro) (And.intro (And.intro (True.intro) (And.intro (And.intro (True.intro) (True.intro)) (True.intro))) (And.intro (True.intro) (True.intro))))
theorem stlimb_answer_oma (k : Nat) (x : shlimb_answer_oma.D) : Flimb_answer_oma (k + 1) x = body2 cf (fun f a b K => COt f a b K [Iwide_Give_oma k]) (fun b _ σ K => LOt Ty (kps 57) 1 b σ K []) 57 Try.f57.ntmps Try.f57.results.toList (bd Try.f57) (shlimb_answer_oma.enc x).1 (shlimb_answer_oma.enc x).2 (putS FS.dec rslimb_answer_oma) := by kernel_rfl
theorem oklimb_answer_oma : ∀ k, InstOk (call cf k) (Ilimb_answer_oma k)
  | 0 => fun x y e => absurd (show (none : Option _) = some y from e) (by simp)
  | k + 1 => inst_ok (c := cf) (k := k) (f := 57) (fn := Try.f57) (body := bd Try.f57) (sh := shlimb_answer_oma) (os := rslimb_answer_oma) rfl Try.func57 rfl ⟨rfl, Nat.le_of_ble_eq_true rfl⟩ (COt_ok (allimb_answer_oma k)) (anlimb_answer_oma k) (fun x => Flimb_answer_oma (k + 1) x) (stlimb_answer_oma k)

/-! (*shunt/big.Int).Neg -/
def bbig_Int_Neg_xoq (k : Nat) (x0 : Bool) (x1 : List Int) : Option (Bool × List Int) :=
  Option.bind (Fbig_Int_set_paj k (!x0) x1 x0 x1) fun r3 =>
  (some (r3.1, r3.2))
def Fbig_Int_Neg_xoq : Nat → Bool → List Int → Option (Bool × List Int)
  | 0, _, _ => none
  | k + 1, x0, x1 => bbig_Int_Neg_xoq k x0 x1
def shbig_Int_Neg_xoq : FS := { vs := [.a (.ptr 0 0 0), .a (.ptr 0 0 0)], bs := [.raw [[.lf .bool, .lf (.sl (.int .u32))]] 2 69 true false] }
def rsbig_Int_Neg_xoq : List FS := [{ vs := [.a (.ptr 0 0 0)], bs := [.raw [[.lf .bool, .lf (.sl (.int .u32))]] 2 69 true false] }]
def Ibig_Int_Neg_xoq (k : Nat) : Inst := ⟨63, shbig_Int_Neg_xoq, rsbig_Int_Neg_xoq, fun x => Fbig_Int_Neg_xoq k x.1 x.2⟩
theorem albig_Int_Neg_xoq (k : Nat) : AllI (call cf k) [Ibig_Int_set_paj k] := And.intro (okbig_Int_set_paj k) (True.intro)
theorem anbig_Int_Neg_xoq (k : Nat) : LAll (LOk (R := DS FS.D rsbig_Int_Neg_xoq) (fun b _ σ K => LOt Ty (kps 63) 1 b σ K []) cf (call cf k) (cf.keep 63) Try.f63.ntmps k shbig_Int_Neg_xoq.bs.length) 0 (bd Try.f63) :=
  And.intro (True.intro) (And.intro (True.intro) (True.intro))
theorem stbig_Int_Neg_xoq (k : Nat) (x : shbig_Int_Neg_xoq.D) : Fbig_Int_Neg_xoq (k + 1) x.1 x.2 = body2 cf (fun f a b K => COt f a b K [Ibig_Int_set_paj k]) (fun b _ σ K => LOt Ty (kps 63) 1 b σ K []) 63 Try.f63.ntmps Try.f63.results.toList (bd Try.f63) (shbig_Int_Neg_xoq.enc x).1 (shbig_Int_Neg_xoq.enc x).2 (putS FS.dec rsbig_Int_Neg_xoq) := by kernel_rfl
theorem okbig_Int_Neg_xoq : ∀ k, InstOk (call cf k) (Ibig_Int_Neg_xoq k)
  | 0 => fun x y e => absurd (show (none : Option _) = some y from e) (by simp)
  | k + 1 => inst_ok (c := cf) (k := k) (f := 63) (fn := Try.f63) (body := bd Try.f63) (sh := shbig_Int_Neg_xoq) (os := rsbig_Int_Neg_xoq) rfl Try.func63 rfl ⟨rfl, Nat.le_of_ble_eq_true rfl⟩ (COt_ok (albig_Int_Neg_xoq k)) (anbig_Int_Neg_xoq k) (fun x => Fbig_Int_Neg_xoq (k + 1) x.1 x.2) (stbig_Int_Neg_xoq k)

/-! shunt/limb.Parse -/
def Llimb_Parse_0s (k : Nat) (rec : ByteArray → ByteArray → Int → Int → Bool → Nat → List Int → Option ((Int × Bool × List Int) ⊕ (ByteArray × ByteArray × Bool × Nat × List Int))) (s : ByteArray) (d : ByteArray) (x : Int) (x1 : Int) (x0 : Bool) (x11 : Nat) (m : List Int) : Option ((Int × Bool × List Int) ⊕ (ByteArray × ByteArray × Bool × Nat × List Int)) :=
  if ((decide (x1 < x)) = true) then
    if ((0 : Int) ≤ x1) then
      Option.bind ((ByteArray.data d))[(Int.toNat x1)]? fun x2 =>
      if ((decide ((((UInt8.toNat x2) : Nat) : Int) < (48 : Int))) = false) then
        if ((0 : Int) ≤ x1) then
          Option.bind ((ByteArray.data d))[(Int.toNat x1)]? fun x3 =>
          if ((decide ((((UInt8.toNat x3) : Nat) : Int) > (57 : Int))) = true) then
            (some (Sum.inl ((3 : Int), false, m)))
          else
          rec s d x (IntKind.wrap .i64 (x1 + (1 : Int))) x0 x11 m
        else
        none
      else
      (some (Sum.inl ((3 : Int), false, m)))
    else
    none
  else
  (some (Sum.inr (s, d, x0, x11, m)))
def Llimb_Parse_0 (k n : Nat) : ByteArray → ByteArray → Int → Int → Bool → Nat → List Int → Option ((Int × Bool × List Int) ⊕ (ByteArray × ByteArray × Bool × Nat × List Int)) := Nat.rec (fun _ _ _ _ _ _ _ => none) (fun _ r => Llimb_Parse_0s k r) n
def blimb_Parse (k : Nat) (s : ByteArray) : Option (Bool × List Int × Int) :=
  if ((decide ((((ByteArray.size s) : Nat) : Int) > (1024 : Int))) = true) then
    (some (false, [], (2 : Int)))
  else
  if ((decide ((((ByteArray.size s) : Nat) : Int) > (0 : Int))) = true) then
    Option.bind ((ByteArray.data s))[0]? fun x =>
    if (((((UInt8.toNat x) : Nat) : Int) == (45 : Int)) = true) then
      if (((0 : Int) ≤ (1 : Int)) ∧ (((1 : Int) ≤ (((ByteArray.size s) : Nat) : Int)) ∧ ((((ByteArray.size s) : Nat) : Int) ≤ (((ByteArray.size s) : Nat) : Int)))) then
        if (((Array.toList (ByteArray.data (ByteArray.extract s 1 (Int.toNat (((ByteArray.size s) : Nat) : Int))))) == (Array.toList (ByteArray.data (ByteArray.mk (List.toArray []))))) = false) then
          Option.bind ((ByteArray.data (ByteArray.extract s 1 (Int.toNat (((ByteArray.size s) : Nat) : Int)))))[0]? fun x1 =>
          if (((((UInt8.toNat x1) : Nat) : Int) == (48 : Int)) = true) then
            if ((!((Array.toList (ByteArray.data s)) == (Array.toList (ByteArray.data (ByteArray.mk (List.toArray (48 :: []))))))) = true) then
              (some (false, [], (3 : Int)))
            else
            Option.bind (Llimb_Parse_0 k k s (ByteArray.extract s 1 (Int.toNat (((ByteArray.size s) : Nat) : Int))) (((ByteArray.size (ByteArray.extract s 1 (Int.toNat (((ByteArray.size s) : Nat) : Int)))) : Nat) : Int) (0 : Int) false 0 []) fun r1 =>
            eitherK r1
              (fun r1 =>
              (some (r1.2.1, [], r1.1)))
              (fun r1 =>
              Option.bind (Fbig_Digits k r1.2.1) fun r2 =>
              eitherK r2
                (fun r2 =>
                if ((!((Array.toList (ByteArray.data r1.2.1)) == (Array.toList (ByteArray.data r1.1)))) = true) then
                  Option.bind (Fbig_Int_Neg_mad k r2) fun r3 =>
                  Option.bind (Flimb_answer_awf k r3.1 r3.2) fun r4 =>
                  if ((0 + r4.2.1) ≤ (List.length r4.2.2.2.2.2)) then
                    (some (r4.1, (List.take r4.2.1 r4.2.2.2.2.2), r4.2.2.1))
                  else
                  none
                else
                Option.bind (Flimb_answer_oma k r2) fun r3 =>
                if ((0 + r3.2.1) ≤ (List.length r3.2.2.2.2)) then
                  (some (r3.1, (List.take r3.2.1 r3.2.2.2.2), r3.2.2.1))
                else
                none)
                (fun r2 =>
                if ((!((Array.toList (ByteArray.data r1.2.1)) == (Array.toList (ByteArray.data r1.1)))) = true) then
                  Option.bind (Fbig_Int_Neg_xoq k r2.1 r2.2) fun r3 =>
                  Option.bind (Flimb_answer_awf k r3.1 r3.2) fun r4 =>
                  if ((0 + r4.2.1) ≤ (List.length r4.2.2.2.2.2)) then
                    (some (r4.1, (List.take r4.2.1 r4.2.2.2.2.2), r4.2.2.1))
                  else
                  none
                else
                Option.bind (Flimb_answer_awf k r2.1 r2.2) fun r3 =>
                if ((0 + r3.2.1) ≤ (List.length r3.2.2.2.2.2)) then
                  (some (r3.1, (List.take r3.2.1 r3.2.2.2.2.2), r3.2.2.1))
                else
                none))
          else
          Option.bind (Llimb_Parse_0 k k s (ByteArray.extract s 1 (Int.toNat (((ByteArray.size s) : Nat) : Int))) (((ByteArray.size (ByteArray.extract s 1 (Int.toNat (((ByteArray.size s) : Nat) : Int)))) : Nat) : Int) (0 : Int) false 0 []) fun r1 =>
          eitherK r1
            (fun r1 =>
            (some (r1.2.1, [], r1.1)))
            (fun r1 =>
            Option.bind (Fbig_Digits k r1.2.1) fun r2 =>
            eitherK r2
              (fun r2 =>
              if ((!((Array.toList (ByteArray.data r1.2.1)) == (Array.toList (ByteArray.data r1.1)))) = true) then
                Option.bind (Fbig_Int_Neg_mad k r2) fun r3 =>
                Option.bind (Flimb_answer_awf k r3.1 r3.2) fun r4 =>
                if ((0 + r4.2.1) ≤ (List.length r4.2.2.2.2.2)) then
                  (some (r4.1, (List.take r4.2.1 r4.2.2.2.2.2), r4.2.2.1))
                else
                none
              else
              Option.bind (Flimb_answer_oma k r2) fun r3 =>
              if ((0 + r3.2.1) ≤ (List.length r3.2.2.2.2)) then
                (some (r3.1, (List.take r3.2.1 r3.2.2.2.2), r3.2.2.1))
              else
              none)
              (fun r2 =>
              if ((!((Array.toList (ByteArray.data r1.2.1)) == (Array.toList (ByteArray.data r1.1)))) = true) then
                Option.bind (Fbig_Int_Neg_xoq k r2.1 r2.2) fun r3 =>
                Option.bind (Flimb_answer_awf k r3.1 r3.2) fun r4 =>
                if ((0 + r4.2.1) ≤ (List.length r4.2.2.2.2.2)) then
                  (some (r4.1, (List.take r4.2.1 r4.2.2.2.2.2), r4.2.2.1))
                else
                none
              else
              Option.bind (Flimb_answer_awf k r2.1 r2.2) fun r3 =>
              if ((0 + r3.2.1) ≤ (List.length r3.2.2.2.2.2)) then
                (some (r3.1, (List.take r3.2.1 r3.2.2.2.2.2), r3.2.2.1))
              else
              none))
        else
        (some (false, [], (3 : Int)))
      else
      none
    else
    if (((Array.toList (ByteArray.data s)) == (Array.toList (ByteArray.data (ByteArray.mk (List.toArray []))))) = false) then
      Option.bind ((ByteArray.data s))[0]? fun x1 =>
      if (((((UInt8.toNat x1) : Nat) : Int) == (48 : Int)) = true) then
        if ((!((Array.toList (ByteArray.data s)) == (Array.toList (ByteArray.data (ByteArray.mk (List.toArray (48 :: []))))))) = true) then
          (some (false, [], (3 : Int)))
        else
        Option.bind (Llimb_Parse_0 k k s s (((ByteArray.size s) : Nat) : Int) (0 : Int) false 0 []) fun r1 =>
        eitherK r1
          (fun r1 =>
          (some (r1.2.1, [], r1.1)))
          (fun r1 =>
          Option.bind (Fbig_Digits k r1.2.1) fun r2 =>
          eitherK r2
            (fun r2 =>
            if ((!((Array.toList (ByteArray.data r1.2.1)) == (Array.toList (ByteArray.data r1.1)))) = true) then
              Option.bind (Fbig_Int_Neg_mad k r2) fun r3 =>
              Option.bind (Flimb_answer_awf k r3.1 r3.2) fun r4 =>
              if ((0 + r4.2.1) ≤ (List.length r4.2.2.2.2.2)) then
                (some (r4.1, (List.take r4.2.1 r4.2.2.2.2.2), r4.2.2.1))
              else
              none
            else
            Option.bind (Flimb_answer_oma k r2) fun r3 =>
            if ((0 + r3.2.1) ≤ (List.length r3.2.2.2.2)) then
              (some (r3.1, (List.take r3.2.1 r3.2.2.2.2), r3.2.2.1))
            else
            none)
            (fun r2 =>
            if ((!((Array.toList (ByteArray.data r1.2.1)) == (Array.toList (ByteArray.data r1.1)))) = true) then
              Option.bind (Fbig_Int_Neg_xoq k r2.1 r2.2) fun r3 =>
              Option.bind (Flimb_answer_awf k r3.1 r3.2) fun r4 =>
              if ((0 + r4.2.1) ≤ (List.length r4.2.2.2.2.2)) then
                (some (r4.1, (List.take r4.2.1 r4.2.2.2.2.2), r4.2.2.1))
              else
              none
            else
            Option.bind (Flimb_answer_awf k r2.1 r2.2) fun r3 =>
            if ((0 + r3.2.1) ≤ (List.length r3.2.2.2.2.2)) then
              (some (r3.1, (List.take r3.2.1 r3.2.2.2.2.2), r3.2.2.1))
            else
            none))
      else
      Option.bind (Llimb_Parse_0 k k s s (((ByteArray.size s) : Nat) : Int) (0 : Int) false 0 []) fun r1 =>
      eitherK r1
        (fun r1 =>
        (some (r1.2.1, [], r1.1)))
        (fun r1 =>
        Option.bind (Fbig_Digits k r1.2.1) fun r2 =>
        eitherK r2
          (fun r2 =>
          if ((!((Array.toList (ByteArray.data r1.2.1)) == (Array.toList (ByteArray.data r1.1)))) = true) then
            Option.bind (Fbig_Int_Neg_mad k r2) fun r3 =>
            Option.bind (Flimb_answer_awf k r3.1 r3.2) fun r4 =>
            if ((0 + r4.2.1) ≤ (List.length r4.2.2.2.2.2)) then
              (some (r4.1, (List.take r4.2.1 r4.2.2.2.2.2), r4.2.2.1))
            else
            none
          else
          Option.bind (Flimb_answer_oma k r2) fun r3 =>
          if ((0 + r3.2.1) ≤ (List.length r3.2.2.2.2)) then
            (some (r3.1, (List.take r3.2.1 r3.2.2.2.2), r3.2.2.1))
          else
          none)
          (fun r2 =>
          if ((!((Array.toList (ByteArray.data r1.2.1)) == (Array.toList (ByteArray.data r1.1)))) = true) then
            Option.bind (Fbig_Int_Neg_xoq k r2.1 r2.2) fun r3 =>
            Option.bind (Flimb_answer_awf k r3.1 r3.2) fun r4 =>
            if ((0 + r4.2.1) ≤ (List.length r4.2.2.2.2.2)) then
              (some (r4.1, (List.take r4.2.1 r4.2.2.2.2.2), r4.2.2.1))
            else
            none
          else
          Option.bind (Flimb_answer_awf k r2.1 r2.2) fun r3 =>
          if ((0 + r3.2.1) ≤ (List.length r3.2.2.2.2.2)) then
            (some (r3.1, (List.take r3.2.1 r3.2.2.2.2.2), r3.2.2.1))
          else
          none))
    else
    (some (false, [], (3 : Int)))
  else
  if (((Array.toList (ByteArray.data s)) == (Array.toList (ByteArray.data (ByteArray.mk (List.toArray []))))) = false) then
    Option.bind ((ByteArray.data s))[0]? fun x =>
    if (((((UInt8.toNat x) : Nat) : Int) == (48 : Int)) = true) then
      if ((!((Array.toList (ByteArray.data s)) == (Array.toList (ByteArray.data (ByteArray.mk (List.toArray (48 :: []))))))) = true) then
        (some (false, [], (3 : Int)))
      else
      Option.bind (Llimb_Parse_0 k k s s (((ByteArray.size s) : Nat) : Int) (0 : Int) false 0 []) fun r1 =>
      eitherK r1
        (fun r1 =>
        (some (r1.2.1, [], r1.1)))
        (fun r1 =>
        Option.bind (Fbig_Digits k r1.2.1) fun r2 =>
        eitherK r2
          (fun r2 =>
          if ((!((Array.toList (ByteArray.data r1.2.1)) == (Array.toList (ByteArray.data r1.1)))) = true) then
            Option.bind (Fbig_Int_Neg_mad k r2) fun r3 =>
            Option.bind (Flimb_answer_awf k r3.1 r3.2) fun r4 =>
            if ((0 + r4.2.1) ≤ (List.length r4.2.2.2.2.2)) then
              (some (r4.1, (List.take r4.2.1 r4.2.2.2.2.2), r4.2.2.1))
            else
            none
          else
          Option.bind (Flimb_answer_oma k r2) fun r3 =>
          if ((0 + r3.2.1) ≤ (List.length r3.2.2.2.2)) then
            (some (r3.1, (List.take r3.2.1 r3.2.2.2.2), r3.2.2.1))
          else
          none)
          (fun r2 =>
          if ((!((Array.toList (ByteArray.data r1.2.1)) == (Array.toList (ByteArray.data r1.1)))) = true) then
            Option.bind (Fbig_Int_Neg_xoq k r2.1 r2.2) fun r3 =>
            Option.bind (Flimb_answer_awf k r3.1 r3.2) fun r4 =>
            if ((0 + r4.2.1) ≤ (List.length r4.2.2.2.2.2)) then
              (some (r4.1, (List.take r4.2.1 r4.2.2.2.2.2), r4.2.2.1))
            else
            none
          else
          Option.bind (Flimb_answer_awf k r2.1 r2.2) fun r3 =>
          if ((0 + r3.2.1) ≤ (List.length r3.2.2.2.2.2)) then
            (some (r3.1, (List.take r3.2.1 r3.2.2.2.2.2), r3.2.2.1))
          else
          none))
    else
    Option.bind (Llimb_Parse_0 k k s s (((ByteArray.size s) : Nat) : Int) (0 : Int) false 0 []) fun r1 =>
    eitherK r1
      (fun r1 =>
      (some (r1.2.1, [], r1.1)))
      (fun r1 =>
      Option.bind (Fbig_Digits k r1.2.1) fun r2 =>
      eitherK r2
        (fun r2 =>
        if ((!((Array.toList (ByteArray.data r1.2.1)) == (Array.toList (ByteArray.data r1.1)))) = true) then
          Option.bind (Fbig_Int_Neg_mad k r2) fun r3 =>
          Option.bind (Flimb_answer_awf k r3.1 r3.2) fun r4 =>
          if ((0 + r4.2.1) ≤ (List.length r4.2.2.2.2.2)) then
            (some (r4.1, (List.take r4.2.1 r4.2.2.2.2.2), r4.2.2.1))
          else
          none
        else
        Option.bind (Flimb_answer_oma k r2) fun r3 =>
        if ((0 + r3.2.1) ≤ (List.length r3.2.2.2.2)) then
          (some (r3.1, (List.take r3.2.1 r3.2.2.2.2), r3.2.2.1))
        else
        none)
        (fun r2 =>
        if ((!((Array.toList (ByteArray.data r1.2.1)) == (Array.toList (ByteArray.data r1.1)))) = true) then
          Option.bind (Fbig_Int_Neg_xoq k r2.1 r2.2) fun r3 =>
          Option.bind (Flimb_answer_awf k r3.1 r3.2) fun r4 =>
          if ((0 + r4.2.1) ≤ (List.length r4.2.2.2.2.2)) then
            (some (r4.1, (List.take r4.2.1 r4.2.2.2.2.2), r4.2.2.1))
          else
          none
        else
        Option.bind (Flimb_answer_awf k r2.1 r2.2) fun r3 =>
        if ((0 + r3.2.1) ≤ (List.length r3.2.2.2.2.2)) then
          (some (r3.1, (List.take r3.2.1 r3.2.2.2.2.2), r3.2.2.1))
        else
        none))
  else
  (some (false, [], (3 : Int)))
def Flimb_Parse : Nat → ByteArray → Option (Bool × List Int × Int)
  | 0, _ => none
  | k + 1, s => blimb_Parse k s
def shlimb_Parse : FS := { vs := [.a (.lf .str)], bs := [] }
def rslimb_Parse : List FS := [{ vs := [.g [.lf .bool, .lf (.sl (.int .u32))], .a (.lf (.int .i64))], bs := [] }]
def Ilimb_Parse (k : Nat) : Inst := ⟨35, shlimb_Parse, rslimb_Parse, fun x => Flimb_Parse k x⟩
theorem allimb_Parse (k : Nat) : AllI (call cf k) [Ibig_Digits k, Ibig_Int_Neg_mad k, Ilimb_answer_awf k, Ilimb_answer_oma k, Ibig_Int_Neg_xoq k] := And.intro (okbig_Digits k) (And.intro (okbig_Int_Neg_mad k) (And.intro (oklimb_answer_awf k) (And.intro (oklimb_answer_oma k) (And.intro (okbig_Int_Neg_xoq k) (True.intro)))))
def hslimb_Parse_0 : List SS := [{ fr := [(0, .a (.lf .str)), (2, .a (.ptr 0 0 0)), (4, .a (.lf .str)), (35, .a (.lf (.int .i64))), (36, .a (.lf (.int .i64)))], mem := [(0, some (.raw [[.lf .bool, .smz 1]] 2 24 false false)), (1, some (.arr (.int .u32) 1 64 false))], nx := 2 }]
def oslimb_Parse_0 : List OS := [⟨none, { fr := [(2, .a (.ptr 0 0 0)), (3, .a (.lf (.int .i64)))], mem := [(0, some (.raw [[.lf .bool, .snil 1 64]] 2 24 false false)), (1, some (.arr (.int .u32) 1 64 false))], nx := 2 }⟩, ⟨some 0, { fr := [(0, .a (.lf .str)), (2, .a (.ptr 0 0 0)), (4, .a (.lf .str))], mem := [(0, some (.raw [[.lf .bool, .smz 1]] 2 24 false false)), (1, some (.arr (.int .u32) 1 64 false))], nx := 2 }⟩]
def LIlimb_Parse_0 (k : Nat) : LInst := ⟨0, hslimb_Parse_0, oslimb_Parse_0, fun x => Llimb_Parse_0 k k x.1 x.2.1 x.2.2.1 x.2.2.2.1 x.2.2.2.2.1 x.2.2.2.2.2.1 x.2.2.2.2.2.2⟩
theorem anlimb_Parse_0 (k : Nat) : LAll (LOk (R := DS OS.D oslimb_Parse_0) (fun b _ σ K => LOt Ty (kps 35) 0 b σ K []) cf (call cf k) (kps 35) Try.f35.ntmps k 0) 0 (lb Try.f35 0) :=
  And.intro (True.intro) (And.intro (And.intro (True.intro) (True.intro)) (And.intro (And.intro (True.intro) (And.intro (True.intro) (And.intro (And.intro (True.intro) (True.intro)) (True.intro)))) (True.intro)))
theorem stlimb_Parse_0 (k n : Nat) (x : DS SS.D hslimb_Parse_0) : Llimb_Parse_0 k (n + 1) x.1 x.2.1 x.2.2.1 x.2.2.2.1 x.2.2.2.2.1 x.2.2.2.2.2.1 x.2.2.2.2.2.2 = encSK SS.enc (fun σ => run2 cf (fun f a b K => COt f a b K [Ibig_Digits k, Ibig_Int_Neg_mad k, Ilimb_answer_awf k, Ilimb_answer_oma k, Ibig_Int_Neg_xoq k]) (fun b _ σ K => LOt Ty (kps 35) 0 b σ K []) Try.f35.ntmps 0 (lb Try.f35 0) σ (nextK Ty (kps 35 0) 0 hslimb_Parse_0 oslimb_Parse_0 fun x => Llimb_Parse_0 k n x.1 x.2.1 x.2.2.1 x.2.2.2.1 x.2.2.2.2.1 x.2.2.2.2.2.1 x.2.2.2.2.2.2)) hslimb_Parse_0 x := by kernel_rfl
theorem lolimb_Parse_0 (k : Nat) : LIOk cf (call cf k) (kps 35) Try.f35.ntmps k 0 0 (lb Try.f35 0) (LIlimb_Parse_0 k) :=
  loop_ok (c := cf) (callF := call cf k) (kp := kps 35) (nt := Try.f35.ntmps) (k := k) (p := 0) (b := 0) (x0 := lb Try.f35 0) (hs := hslimb_Parse_0) (os := oslimb_Parse_0) (COt_ok (allimb_Parse k)) (anlimb_Parse_0 k) (fun n x => Llimb_Parse_0 k n x.1 x.2.1 x.2.2.1 x.2.2.2.1 x.2.2.2.2.1 x.2.2.2.2.2.1 x.2.2.2.2.2.2) (fun _ => rfl) (stlimb_Parse_0 k)
theorem anlimb_Parse (k : Nat) : LAll (LOk (R := DS FS.D rslimb_Parse) (fun b _ σ K => LOt Ty (kps 35) 0 b σ K [LIlimb_Parse_0 k]) cf (call cf k) (cf.keep 35) Try.f35.ntmps k shlimb_Parse.bs.length) 0 (bd Try.f35) :=
  And.intro (True.intro) (And.intro (And.intro (True.intro) (And.intro (And.intro (True.intro) (True.intro)) (True.intro))) (And.intro (True.intro) (And.intro (And.intro (True.intro) (And.intro (True.intro) (True.intro))) (And.intro (And.intro (True.intro) (And.intro (And.intro (True.intro) (True.intro)) (True.intro))) (And.intro (And.intro (True.intro) (LOt_ok (c := cf) (callF := call cf k) (kp := kps 35) (nt := Try.f35.ntmps) (k := k) (p := 0) (b := 0) (x0 := lb Try.f35 0) (l := [LIlimb_Parse_0 k]) (And.intro (fun _ => lolimb_Parse_0 k) (True.intro)))) (And.intro (True.intro) (And.intro (And.intro (True.intro) (And.intro (True.intro) (True.intro))) (And.intro (True.intro) (True.intro)))))))))
theorem stlimb_Parse (k : Nat) (x : shlimb_Parse.D) : Flimb_Parse (k + 1) x = body2 cf (fun f a b K => COt f a b K [Ibig_Digits k, Ibig_Int_Neg_mad k, Ilimb_answer_awf k, Ilimb_answer_oma k, Ibig_Int_Neg_xoq k]) (fun b _ σ K => LOt Ty (kps 35) 0 b σ K [LIlimb_Parse_0 k]) 35 Try.f35.ntmps Try.f35.results.toList (bd Try.f35) (shlimb_Parse.enc x).1 (shlimb_Parse.enc x).2 (putS FS.dec rslimb_Parse) := by kernel_rfl
theorem oklimb_Parse : ∀ k, InstOk (call cf k) (Ilimb_Parse k)
  | 0 => fun x y e => absurd (show (none : Option _) = some y from e) (by simp)
  | k + 1 => inst_ok (c := cf) (k := k) (f := 35) (fn := Try.f35) (body := bd Try.f35) (sh := shlimb_Parse) (os := rslimb_Parse) rfl Try.func35 rfl ⟨rfl, Nat.le_of_ble_eq_true rfl⟩ (COt_ok (allimb_Parse k)) (anlimb_Parse k) (fun x => Flimb_Parse (k + 1) x) (stlimb_Parse k)

end
end Go.Proofs.Ytghdpmejgonjmaa.Am
