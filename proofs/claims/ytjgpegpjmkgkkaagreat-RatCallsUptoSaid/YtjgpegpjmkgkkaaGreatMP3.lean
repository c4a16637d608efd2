/- Printed functions: each says what the typed machine says of the program -/
import Derived.Test.YtjgpegpjmkgkkaaGreatMP2
import Derived.KernelRfl

set_option linter.unusedVariables false
set_option maxRecDepth 100000
namespace Go.Proofs.YtjgpegpjmkgkkaaGreat.Am
open Go
noncomputable section

/-! shunt/shuntref02.Sign -/
def bshuntref02_Sign (k : Nat) (a0 : Bool) (a1 : List Int) (a2 : Bool) (a3 : List Int) : Option (Int) :=
  Option.bind (Fshuntref01_Sign k a0 a1) fun r12 =>
  (some r12)
def Fshuntref02_Sign : Nat → Bool → List Int → Bool → List Int → Option (Int)
  | 0, _, _, _, _ => none
  | k + 1, a0, a1, a2, a3 => bshuntref02_Sign k a0 a1 a2 a3
def shshuntref02_Sign : FS := { vs := [.g [.lf .bool, .lf (.sl (.int .i64)), .lf .bool, .lf (.sl (.int .i64))]], bs := [] }
def rsshuntref02_Sign : List FS := [{ vs := [.a (.lf (.int .i64))], bs := [] }]
def Ishuntref02_Sign (k : Nat) : Inst := ⟨34, shshuntref02_Sign, rsshuntref02_Sign, fun x => Fshuntref02_Sign k x.1 x.2.1 x.2.2.1 x.2.2.2⟩
theorem alshuntref02_Sign (k : Nat) : AllI (call cf k) [Ishuntref01_Sign k] := And.intro (okshuntref01_Sign k) (True.intro)
theorem anshuntref02_Sign (k : Nat) : LAll (LOk (R := DS FS.D rsshuntref02_Sign) (fun b _ σ K => LOt Ty (kps 34) 0 b σ K []) cf (call cf k) (cf.keep 34) Tryz.f34.ntmps k shshuntref02_Sign.bs.length) 0 (bd Tryz.f34) :=
  And.intro (True.intro) (And.intro (True.intro) (True.intro))
theorem stshuntref02_Sign (k : Nat) (x : shshuntref02_Sign.D) : Fshuntref02_Sign (k + 1) x.1 x.2.1 x.2.2.1 x.2.2.2 = body2 cf (fun f a b K => COt f a b K [Ishuntref01_Sign k]) (fun b _ σ K => LOt Ty (kps 34) 0 b σ K []) 34 Tryz.f34.ntmps Tryz.f34.results.toList (bd Tryz.f34) (shshuntref02_Sign.enc x).1 (shshuntref02_Sign.enc x).2 (putS FS.dec rsshuntref02_Sign) := by kernel_rfl
theorem okshuntref02_Sign : ∀ k, InstOk (call cf k) (Ishuntref02_Sign k)
  | 0 => fun x y e => absurd (show (none : Option _) = some y from e) (by simp)
  | k + 1 => inst_ok (c := cf) (k := k) (f := 34) (fn := Tryz.f34) (body := bd Tryz.f34) (sh := shshuntref02_Sign) (os := rsshuntref02_Sign) rfl Tryz.func34 rfl ⟨rfl, Nat.le_of_ble_eq_true rfl⟩ (COt_ok (alshuntref02_Sign k)) (anshuntref02_Sign k) (fun x => Fshuntref02_Sign (k + 1) x.1 x.2.1 x.2.2.1 x.2.2.2) (stshuntref02_Sign k)

/-! shunt/shuntref02.Over -/
def bshuntref02_Over (k : Nat) (a0 : Bool) (a1 : List Int) (a2 : Bool) (a3 : List Int) (b0 : Bool) (b1 : List Int) (b2 : Bool) (b3 : List Int) : Option (Bool × List Int × Bool × List Int) :=
  Option.bind (Fshuntref01_Times k a0 a1 b2 b3) fun r13 =>
  Option.bind (Fshuntref01_Times k a2 a3 b0 b1) fun r14 =>
  Option.bind (Fshuntref02_Lowest k r13.1 r13.2 r14.1 r14.2) fun r15 =>
  (some (r15.1, r15.2.1, r15.2.2.1, r15.2.2.2))
def Fshuntref02_Over : Nat → Bool → List Int → Bool → List Int → Bool → List Int → Bool → List Int → Option (Bool × List Int × Bool × List Int)
  | 0, _, _, _, _, _, _, _, _ => none
  | k + 1, a0, a1, a2, a3, b0, b1, b2, b3 => bshuntref02_Over k a0 a1 a2 a3 b0 b1 b2 b3
def shshuntref02_Over : FS := { vs := [.g [.lf .bool, .lf (.sl (.int .i64)), .lf .bool, .lf (.sl (.int .i64))], .g [.lf .bool, .lf (.sl (.int .i64)), .lf .bool, .lf (.sl (.int .i64))]], bs := [] }
def rsshuntref02_Over : List FS := [{ vs := [.g [.lf .bool, .lf (.sl (.int .i64)), .lf .bool, .lf (.sl (.int .i64))]], bs := [] }]
def Ishuntref02_Over (k : Nat) : Inst := ⟨35, shshuntref02_Over, rsshuntref02_Over, fun x => Fshuntref02_Over k x.1 x.2.1 x.2.2.1 x.2.2.2.1 x.2.2.2.2.1 x.2.2.2.2.2.1 x.2.2.2.2.2.2.1 x.2.2.2.2.2.2.2⟩
theorem alshuntref02_Over (k : Nat) : AllI (call cf k) [Ishuntref01_Times k, Ishuntref02_Lowest k] := And.intro (okshuntref01_Times k) (And.intro (okshuntref02_Lowest k) (True.intro))
theorem anshuntref02_Over (k : Nat) : LAll (LOk (R := DS FS.D rsshuntref02_Over) (fun b _ σ K => LOt Ty (kps 35) 0 b σ K []) cf (call cf k) (cf.keep 35) Tryz.f35.ntmps k shshuntref02_Over.bs.length) 0 (bd Tryz.f35) :=
  And.intro (True.intro) (And.intro (True.intro) (True.intro))
theorem stshuntref02_Over (k : Nat) (x : shshuntref02_Over.D) : Fshuntref02_Over (k + 1) x.1 x.2.1 x.2.2.1 x.2.2.2.1 x.2.2.2.2.1 x.2.2.2.2.2.1 x.2.2.2.2.2.2.1 x.2.2.2.2.2.2.2 = body2 cf (fun f a b K => COt f a b K [Ishuntref01_Times k, Ishuntref02_Lowest k]) (fun b _ σ K => LOt Ty (kps 35) 0 b σ K []) 35 Tryz.f35.ntmps Tryz.f35.results.toList (bd Tryz.f35) (shshuntref02_Over.enc x).1 (shshuntref02_Over.enc x).2 (putS FS.dec rsshuntref02_Over) := by kernel_rfl
theorem okshuntref02_Over : ∀ k, InstOk (call cf k) (Ishuntref02_Over k)
  | 0 => fun x y e => absurd (show (none : Option _) = some y from e) (by simp)
  | k + 1 => inst_ok (c := cf) (k := k) (f := 35) (fn := Tryz.f35) (body := bd Tryz.f35) (sh := shshuntref02_Over) (os := rsshuntref02_Over) rfl Tryz.func35 rfl ⟨rfl, Nat.le_of_ble_eq_true rfl⟩ (COt_ok (alshuntref02_Over k)) (anshuntref02_Over k) (fun x => Fshuntref02_Over (k + 1) x.1 x.2.1 x.2.2.1 x.2.2.2.1 x.2.2.2.2.1 x.2.2.2.2.2.1 x.2.2.2.2.2.2.1 x.2.2.2.2.2.2.2) (stshuntref02_Over k)

/-! shunt/shuntref02.Two -/
def bshuntref02_Two (k : Nat) (op : Int) (a0 : Bool) (a1 : List Int) (a2 : Bool) (a3 : List Int) (b0 : Bool) (b1 : List Int) (b2 : Bool) (b3 : List Int) : Option (Bool × List Int × Bool × List Int × Int) :=
  Option.bind (Fshuntref02_Faults k (List.take 2 (((a0, a1), (a2, a3)) :: (((b0, b1), (b2, b3)) :: [])))) fun r9 =>
  if ((r9 != (0 : Int)) = true) then
    (some (false, [], false, [], r9))
  else
  Option.bind (Fshuntref02_Take k a0 a1 a2 a3) fun r10 =>
  Option.bind (Fshuntref02_Take k b0 b1 b2 b3) fun r11 =>
  if ((op == (43 : Int)) = true) then
    Option.bind (Fshuntref02_Plus k r10.1 r10.2.1 r10.2.2.1 r10.2.2.2 r11.1 r11.2.1 r11.2.2.1 r11.2.2.2) fun r12 =>
    Option.bind (Fshuntref02_told k r12.1 r12.2.1 r12.2.2.1 r12.2.2.2) fun r13 =>
    (some (r13.1, r13.2.1, r13.2.2.1, r13.2.2.2.1, r13.2.2.2.2))
  else
  if ((op == (45 : Int)) = true) then
    Option.bind (Fshuntref02_Less k r10.1 r10.2.1 r10.2.2.1 r10.2.2.2 r11.1 r11.2.1 r11.2.2.1 r11.2.2.2) fun r12 =>
    Option.bind (Fshuntref02_told k r12.1 r12.2.1 r12.2.2.1 r12.2.2.2) fun r13 =>
    (some (r13.1, r13.2.1, r13.2.2.1, r13.2.2.2.1, r13.2.2.2.2))
  else
  if ((op == (42 : Int)) = true) then
    Option.bind (Fshuntref02_Times k r10.1 r10.2.1 r10.2.2.1 r10.2.2.2 r11.1 r11.2.1 r11.2.2.1 r11.2.2.2) fun r12 =>
    Option.bind (Fshuntref02_told k r12.1 r12.2.1 r12.2.2.1 r12.2.2.2) fun r13 =>
    (some (r13.1, r13.2.1, r13.2.2.1, r13.2.2.2.1, r13.2.2.2.2))
  else
  Option.bind (Fshuntref02_Sign k r11.1 r11.2.1 r11.2.2.1 r11.2.2.2) fun r12 =>
  if ((r12 == (0 : Int)) = true) then
    (some (false, [], false, [], (11 : Int)))
  else
  Option.bind (Fshuntref02_Over k r10.1 r10.2.1 r10.2.2.1 r10.2.2.2 r11.1 r11.2.1 r11.2.2.1 r11.2.2.2) fun r13 =>
  Option.bind (Fshuntref02_told k r13.1 r13.2.1 r13.2.2.1 r13.2.2.2) fun r14 =>
  (some (r14.1, r14.2.1, r14.2.2.1, r14.2.2.2.1, r14.2.2.2.2))
def Fshuntref02_Two : Nat → Int → Bool → List Int → Bool → List Int → Bool → List Int → Bool → List Int → Option (Bool × List Int × Bool × List Int × Int)
  | 0, _, _, _, _, _, _, _, _, _ => none
  | k + 1, op, a0, a1, a2, a3, b0, b1, b2, b3 => bshuntref02_Two k op a0 a1 a2 a3 b0 b1 b2 b3
def shshuntref02_Two : FS := { vs := [.a (.lf (.int .u8)), .g [.lf .bool, .lf (.sl (.int .u32)), .lf .bool, .lf (.sl (.int .u32))], .g [.lf .bool, .lf (.sl (.int .u32)), .lf .bool, .lf (.sl (.int .u32))]], bs := [] }
def rsshuntref02_Two : List FS := [{ vs := [.g [.lf .bool, .lf (.sl (.int .u32)), .lf .bool, .lf (.sl (.int .u32))], .a (.lf (.int .i64))], bs := [] }]
def Ishuntref02_Two (k : Nat) : Inst := ⟨12, shshuntref02_Two, rsshuntref02_Two, fun x => Fshuntref02_Two k x.1 x.2.1 x.2.2.1 x.2.2.2.1 x.2.2.2.2.1 x.2.2.2.2.2.1 x.2.2.2.2.2.2.1 x.2.2.2.2.2.2.2.1 x.2.2.2.2.2.2.2.2⟩
theorem alshuntref02_Two (k : Nat) : AllI (call cf k) [Ishuntref02_Faults k, Ishuntref02_Take k, Ishuntref02_Plus k, Ishuntref02_told k, Ishuntref02_Less k, Ishuntref02_Times k, Ishuntref02_Sign k, Ishuntref02_Over k] := And.intro (okshuntref02_Faults k) (And.intro (okshuntref02_Take k) (And.intro (okshuntref02_Plus k) (And.intro (okshuntref02_told k) (And.intro (okshuntref02_Less k) (And.intro (okshuntref02_Times k) (And.intro (okshuntref02_Sign k) (And.intro (okshuntref02_Over k) (True.intro))))))))
theorem anshuntref02_Two (k : Nat) : LAll (LOk (R := DS FS.D rsshuntref02_Two) (fun b _ σ K => LOt Ty (kps 12) 0 b σ K []) cf (call cf k) (cf.keep 12) Tryz.f12.ntmps k shshuntref02_Two.bs.length) 0 (bd Tryz.f12) :=
  And.intro (True.intro) (And.intro (True.intro) (And.intro (And.intro (True.intro) (And.intro (And.intro (True.intro) (True.intro)) (True.intro))) (And.intro (True.intro) (And.intro (And.intro (True.intro) (And.intro (True.intro) (And.intro (And.intro (True.intro) (True.intro)) (And.intro (True.intro) (And.intro (And.intro (True.intro) (True.intro)) (And.intro (True.intro) (And.intro (And.intro (True.intro) (True.intro)) (True.intro)))))))) (And.intro (And.intro (True.intro) (And.intro (And.intro (True.intro) (True.intro)) (True.intro))) (And.intro (True.intro) (True.intro)))))))
theorem stshuntref02_Two (k : Nat) (x : shshuntref02_Two.D) : Fshuntref02_Two (k + 1) x.1 x.2.1 x.2.2.1 x.2.2.2.1 x.2.2.2.2.1 x.2.2.2.2.2.1 x.2.2.2.2.2.2.1 x.2.2.2.2.2.2.2.1 x.2.2.2.2.2.2.2.2 = body2 cf (fun f a b K => COt f a b K [Ishuntref02_Faults k, Ishuntref02_Take k, Ishuntref02_Plus k, Ishuntref02_told k, Ishuntref02_Less k, Ishuntref02_Times k, Ishuntref02_Sign k, Ishuntref02_Over k]) (fun b _ σ K => LOt Ty (kps 12) 0 b σ K []) 12 Tryz.f12.ntmps Tryz.f12.results.toList (bd Tryz.f12) (shshuntref02_Two.enc x).1 (shshuntref02_Two.enc x).2 (putS FS.dec rsshuntref02_Two) := by kernel_rfl
theorem okshuntref02_Two : ∀ k, InstOk (call cf k) (Ishuntref02_Two k)
  | 0 => fun x y e => absurd (show (none : Option _) = some y from e) (by simp)
  | k + 1 => inst_ok (c := cf) (k := k) (f := 12) (fn := Tryz.f12) (body := bd Tryz.f12) (sh := shshuntref02_Two) (os := rsshuntref02_Two) rfl Tryz.func12 rfl ⟨rfl, Nat.le_of_ble_eq_true rfl⟩ (COt_ok (alshuntref02_Two k)) (anshuntref02_Two k) (fun x => Fshuntref02_Two (k + 1) x.1 x.2.1 x.2.2.1 x.2.2.2.1 x.2.2.2.2.1 x.2.2.2.2.2.1 x.2.2.2.2.2.2.1 x.2.2.2.2.2.2.2.1 x.2.2.2.2.2.2.2.2) (stshuntref02_Two k)

/-! shunt/shuntref02.Held -/
def bshuntref02_Held (k : Nat) (a0 : Bool) (a1 : List Int) (a2 : Bool) (a3 : List Int) (b0 : Bool) (b1 : List Int) (b2 : Bool) (b3 : List Int) : Option (Int) :=
  Option.bind (Fshuntref01_Times k a0 a1 b2 b3) fun r16 =>
  Option.bind (Fshuntref01_Times k b0 b1 a2 a3) fun r17 =>
  Option.bind (Fshuntref01_Held k r16.1 r16.2 r17.1 r17.2) fun r18 =>
  (some r18)
def Fshuntref02_Held : Nat → Bool → List Int → Bool → List Int → Bool → List Int → Bool → List Int → Option (Int)
  | 0, _, _, _, _, _, _, _, _ => none
  | k + 1, a0, a1, a2, a3, b0, b1, b2, b3 => bshuntref02_Held k a0 a1 a2 a3 b0 b1 b2 b3
def shshuntref02_Held : FS := { vs := [.g [.lf .bool, .lf (.sl (.int .i64)), .lf .bool, .lf (.sl (.int .i64))], .g [.lf .bool, .lf (.sl (.int .i64)), .lf .bool, .lf (.sl (.int .i64))]], bs := [] }
def rsshuntref02_Held : List FS := [{ vs := [.a (.lf (.int .i64))], bs := [] }]
def Ishuntref02_Held (k : Nat) : Inst := ⟨36, shshuntref02_Held, rsshuntref02_Held, fun x => Fshuntref02_Held k x.1 x.2.1 x.2.2.1 x.2.2.2.1 x.2.2.2.2.1 x.2.2.2.2.2.1 x.2.2.2.2.2.2.1 x.2.2.2.2.2.2.2⟩
theorem alshuntref02_Held (k : Nat) : AllI (call cf k) [Ishuntref01_Times k, Ishuntref01_Held k] := And.intro (okshuntref01_Times k) (And.intro (okshuntref01_Held k) (True.intro))
theorem anshuntref02_Held (k : Nat) : LAll (LOk (R := DS FS.D rsshuntref02_Held) (fun b _ σ K => LOt Ty (kps 36) 0 b σ K []) cf (call cf k) (cf.keep 36) Tryz.f36.ntmps k shshuntref02_Held.bs.length) 0 (bd Tryz.f36) :=
  And.intro (True.intro) (And.intro (True.intro) (True.intro))
theorem stshuntref02_Held (k : Nat) (x : shshuntref02_Held.D) : Fshuntref02_Held (k + 1) x.1 x.2.1 x.2.2.1 x.2.2.2.1 x.2.2.2.2.1 x.2.2.2.2.2.1 x.2.2.2.2.2.2.1 x.2.2.2.2.2.2.2 = body2 cf (fun f a b K => COt f a b K [Ishuntref01_Times k, Ishuntref01_Held k]) (fun b _ σ K => LOt Ty (kps 36) 0 b σ K []) 36 Tryz.f36.ntmps Tryz.f36.results.toList (bd Tryz.f36) (shshuntref02_Held.enc x).1 (shshuntref02_Held.enc x).2 (putS FS.dec rsshuntref02_Held) := by kernel_rfl
theorem okshuntref02_Held : ∀ k, InstOk (call cf k) (Ishuntref02_Held k)
  | 0 => fun x y e => absurd (show (none : Option _) = some y from e) (by simp)
  | k + 1 => inst_ok (c := cf) (k := k) (f := 36) (fn := Tryz.f36) (body := bd Tryz.f36) (sh := shshuntref02_Held) (os := rsshuntref02_Held) rfl Tryz.func36 rfl ⟨rfl, Nat.le_of_ble_eq_true rfl⟩ (COt_ok (alshuntref02_Held k)) (anshuntref02_Held k) (fun x => Fshuntref02_Held (k + 1) x.1 x.2.1 x.2.2.1 x.2.2.2.1 x.2.2.2.2.1 x.2.2.2.2.2.1 x.2.2.2.2.2.2.1 x.2.2.2.2.2.2.2) (stshuntref02_Held k)

/-! shunt/shuntref02.Cmp -/
def bshuntref02_Cmp (k : Nat) (a0 : Bool) (a1 : List Int) (a2 : Bool) (a3 : List Int) (b0 : Bool) (b1 : List Int) (b2 : Bool) (b3 : List Int) : Option (Int × Int) :=
  Option.bind (Fshuntref02_Faults k (List.take 2 (((a0, a1), (a2, a3)) :: (((b0, b1), (b2, b3)) :: [])))) fun r13 =>
  if ((r13 != (0 : Int)) = true) then
    (some ((0 : Int), r13))
  else
  Option.bind (Fshuntref02_Take k a0 a1 a2 a3) fun r14 =>
  Option.bind (Fshuntref02_Take k b0 b1 b2 b3) fun r15 =>
  Option.bind (Fshuntref02_Held k r14.1 r14.2.1 r14.2.2.1 r14.2.2.2 r15.1 r15.2.1 r15.2.2.1 r15.2.2.2) fun r16 =>
  (some (r16, (0 : Int)))
def Fshuntref02_Cmp : Nat → Bool → List Int → Bool → List Int → Bool → List Int → Bool → List Int → Option (Int × Int)
  | 0, _, _, _, _, _, _, _, _ => none
  | k + 1, a0, a1, a2, a3, b0, b1, b2, b3 => bshuntref02_Cmp k a0 a1 a2 a3 b0 b1 b2 b3
def shshuntref02_Cmp : FS := { vs := [.g [.lf .bool, .lf (.sl (.int .u32)), .lf .bool, .lf (.sl (.int .u32))], .g [.lf .bool, .lf (.sl (.int .u32)), .lf .bool, .lf (.sl (.int .u32))]], bs := [] }
def rsshuntref02_Cmp : List FS := [{ vs := [.a (.lf (.int .i64)), .a (.lf (.int .i64))], bs := [] }]
def Ishuntref02_Cmp (k : Nat) : Inst := ⟨13, shshuntref02_Cmp, rsshuntref02_Cmp, fun x => Fshuntref02_Cmp k x.1 x.2.1 x.2.2.1 x.2.2.2.1 x.2.2.2.2.1 x.2.2.2.2.2.1 x.2.2.2.2.2.2.1 x.2.2.2.2.2.2.2⟩
theorem alshuntref02_Cmp (k : Nat) : AllI (call cf k) [Ishuntref02_Faults k, Ishuntref02_Take k, Ishuntref02_Held k] := And.intro (okshuntref02_Faults k) (And.intro (okshuntref02_Take k) (And.intro (okshuntref02_Held k) (True.intro)))
theorem anshuntref02_Cmp (k : Nat) : LAll (LOk (R := DS FS.D rsshuntref02_Cmp) (fun b _ σ K => LOt Ty (kps 13) 0 b σ K []) cf (call cf k) (cf.keep 13) Tryz.f13.ntmps k shshuntref02_Cmp.bs.length) 0 (bd Tryz.f13) :=
  And.intro (True.intro) (And.intro (True.intro) (And.intro (And.intro (True.intro) (And.intro (And.intro (True.intro) (True.intro)) (True.intro))) (And.intro (True.intro) (True.intro))))
theorem stshuntref02_Cmp (k : Nat) (x : shshuntref02_Cmp.D) : Fshuntref02_Cmp (k + 1) x.1 x.2.1 x.2.2.1 x.2.2.2.1 x.2.2.2.2.1 x.2.2.2.2.2.1 x.2.2.2.2.2.2.1 x.2.2.2.2.2.2.2 = body2 cf (fun f a b K => COt f a b K [Ishuntref02_Faults k, Ishuntref02_Take k, Ishuntref02_Held k]) (fun b _ σ K => LOt Ty (kps 13) 0 b σ K []) 13 Tryz.f13.ntmps Tryz.f13.results.toList (bd Tryz.f13) (shshuntref02_Cmp.enc x).1 (shshuntref02_Cmp.enc x).2 (putS FS.dec rsshuntref02_Cmp) := by kernel_rfl
theorem okshuntref02_Cmp : ∀ k, InstOk (call cf k) (Ishuntref02_Cmp k)
  | 0 => fun x y e => absurd (show (none : Option _) = some y from e) (by simp)
  | k + 1 => inst_ok (c := cf) (k := k) (f := 13) (fn := Tryz.f13) (body := bd Tryz.f13) (sh := shshuntref02_Cmp) (os := rsshuntref02_Cmp) rfl Tryz.func13 rfl ⟨rfl, Nat.le_of_ble_eq_true rfl⟩ (COt_ok (alshuntref02_Cmp k)) (anshuntref02_Cmp k) (fun x => Fshuntref02_Cmp (k + 1) x.1 x.2.1 x.2.2.1 x.2.2.2.1 x.2.2.2.2.1 x.2.2.2.2.2.1 x.2.2.2.2.2.2.1 x.2.2.2.2.2.2.2) (stshuntref02_Cmp k)

/-! shunt/shuntlaw02.whole -/
def bshuntlaw02_whole_xsw (k : Nat) (in0 : Bool) (in1 : Nat) (in2 : Bool) (in3 : Nat) (r0 : Bool) (r1 : List Int) (r2 : Bool) (r3 : List Int) (m : List Int) (m1 : List Int) : Option (Bool × List Int × List Int) :=
  if ((0 + in1) ≤ (List.length m)) then
    if ((0 + in3) ≤ (List.length m1)) then
      Option.bind (Fshuntlaw02_same k in0 (List.take in1 m) in2 (List.take in3 m1) r0 r1 r2 r3) fun r22 =>
      if (r22 = true) then
        if (((0 : Int) ≤ (0 : Int)) ∧ (((0 : Int) ≤ (IntKind.wrap .i64 (((in1 : Nat) : Int) + (1 : Int)))) ∧ (((0 + (Int.toNat (IntKind.wrap .i64 (((in1 : Nat) : Int) + (1 : Int))))) ≤ (List.length m)) ∧ (((0 : Int) < (IntKind.wrap .i64 (((in1 : Nat) : Int) + (1 : Int)))) ∨ (true = true))))) then
          if (((0 : Int) ≤ ((in1 : Nat) : Int)) ∧ (((in1 : Nat) : Int) < (((Int.toNat (IntKind.wrap .i64 (((in1 : Nat) : Int) + (1 : Int)))) : Nat) : Int))) then
            Option.bind (m)[(0 + (Int.toNat ((in1 : Nat) : Int)))]? fun x =>
            if ((x == (11259375 : Int)) = true) then
              if (((0 : Int) ≤ (0 : Int)) ∧ (((0 : Int) ≤ (IntKind.wrap .i64 (((in3 : Nat) : Int) + (1 : Int)))) ∧ (((0 + (Int.toNat (IntKind.wrap .i64 (((in3 : Nat) : Int) + (1 : Int))))) ≤ (List.length m1)) ∧ (((0 : Int) < (IntKind.wrap .i64 (((in3 : Nat) : Int) + (1 : Int)))) ∨ (true = true))))) then
                if (((0 : Int) ≤ ((in3 : Nat) : Int)) ∧ (((in3 : Nat) : Int) < (((Int.toNat (IntKind.wrap .i64 (((in3 : Nat) : Int) + (1 : Int)))) : Nat) : Int))) then
                  Option.bind (m1)[(0 + (Int.toNat ((in3 : Nat) : Int)))]? fun x1 =>
                  (some ((x1 == (11259375 : Int)), m, m1))
                else
                none
              else
              none
            else
            (some (false, m, m1))
          else
          none
        else
        none
      else
      (some (false, m, m1))
    else
    none
  else
  none
def Fshuntlaw02_whole_xsw : Nat → Bool → Nat → Bool → Nat → Bool → List Int → Bool → List Int → List Int → List Int → Option (Bool × List Int × List Int)
  | 0, _, _, _, _, _, _, _, _, _, _ => none
  | k + 1, in0, in1, in2, in3, r0, r1, r2, r3, m, m1 => bshuntlaw02_whole_xsw k in0 in1 in2 in3 r0 r1 r2 r3 m m1
def shshuntlaw02_whole_xsw : FS := { vs := [.g [.lf .bool, .smz 0, .lf .bool, .smz 1], .g [.lf .bool, .lf (.sl (.int .u32)), .lf .bool, .lf (.sl (.int .u32))]], bs := [.arr (.int .u32) 1 40 true, .arr (.int .u32) 1 40 true] }
def rsshuntlaw02_whole_xsw : List FS := [{ vs := [.a (.lf .bool)], bs := [.arr (.int .u32) 1 40 true, .arr (.int .u32) 1 40 true] }]
def Ishuntlaw02_whole_xsw (k : Nat) : Inst := ⟨15, shshuntlaw02_whole_xsw, rsshuntlaw02_whole_xsw, fun x => Fshuntlaw02_whole_xsw k x.1 x.2.1 x.2.2.1 x.2.2.2.1 x.2.2.2.2.1 x.2.2.2.2.2.1 x.2.2.2.2.2.2.1 x.2.2.2.2.2.2.2.1 x.2.2.2.2.2.2.2.2.1 x.2.2.2.2.2.2.2.2.2⟩
theorem alshuntlaw02_whole_xsw (k : Nat) : AllI (call cf k) [Ishuntlaw02_same k] := And.intro (okshuntlaw02_same k) (True.intro)
theorem anshuntlaw02_whole_xsw (k : Nat) : LAll (LOk (R := DS FS.D rsshuntlaw02_whole_xsw) (fun b _ σ K => LOt Ty (kps 15) 2 b σ K []) cf (call cf k) (cf.keep 15) Tryz.f15.ntmps k shshuntlaw02_whole_xsw.bs.length) 0 (bd Tryz.f15) :=
  And.intro (True.intro) (And.intro (True.intro) (And.intro (True.intro) (True.intro)))
theorem stshuntlaw02_whole_xsw (k : Nat) (x : shshuntlaw02_whole_xsw.D) : Fshuntlaw02_whole_xsw (k + 1) x.1 x.2.1 x.2.2.1 x.2.2.2.1 x.2.2.2.2.1 x.2.2.2.2.2.1 x.2.2.2.2.2.2.1 x.2.2.2.2.2.2.2.1 x.2.2.2.2.2.2.2.2.1 x.2.2.2.2.2.2.2.2.2 = body2 cf (fun f a b K => COt f a b K [Ishuntlaw02_same k]) (fun b _ σ K => LOt Ty (kps 15) 2 b σ K []) 15 Tryz.f15.ntmps Tryz.f15.results.toList (bd Tryz.f15) (shshuntlaw02_whole_xsw.enc x).1 (shshuntlaw02_whole_xsw.enc x).2 (putS FS.dec rsshuntlaw02_whole_xsw) := by kernel_rfl
theorem okshuntlaw02_whole_xsw : ∀ k, InstOk (call cf k) (Ishuntlaw02_whole_xsw k)
  | 0 => fun x y e => absurd (show (none : Option _) = some y from e) (by simp)
  | k + 1 => inst_ok (c := cf) (k := k) (f := 15) (fn := Tryz.f15) (body := bd Tryz.f15) (sh := shshuntlaw02_whole_xsw) (os := rsshuntlaw02_whole_xsw) rfl Tryz.func15 rfl ⟨rfl, Nat.le_of_ble_eq_true rfl⟩ (COt_ok (alshuntlaw02_whole_xsw k)) (anshuntlaw02_whole_xsw k) (fun x => Fshuntlaw02_whole_xsw (k + 1) x.1 x.2.1 x.2.2.1 x.2.2.2.1 x.2.2.2.2.1 x.2.2.2.2.2.1 x.2.2.2.2.2.2.1 x.2.2.2.2.2.2.2.1 x.2.2.2.2.2.2.2.2.1 x.2.2.2.2.2.2.2.2.2) (stshuntlaw02_whole_xsw k)

/-! shunt/shuntlaw02.RatCalls -/
def Lshuntlaw02_RatCalls_0s (k : Nat) (rec : Int → Int → Bool → List Int → Bool → List Int → Bool → List Int → Bool → List Int → Bool → Nat → Bool → Nat → Bool → Nat → Bool → Nat → Bool → Nat → Bool → Nat → Bool → List Int → Bool → List Int → Bool → Nat → Bool → Nat → List Int → List Int → List Int → List Int → List Int → List Int → List Int → List Int → Option (Bool × List Int × Bool × List Int × Bool × List Int × Bool × List Int × Bool × Nat × Bool × Nat × Bool × Nat × Bool × Nat × Bool × Nat × Bool × Nat × Bool × List Int × Bool × List Int × Bool × Nat × Bool × Nat × List Int × List Int × List Int × List Int × List Int × List Int × List Int × List Int)) (x : Int) (x1 : Int) (a0 : Bool) (a1 : List Int) (a2 : Bool) (a3 : List Int) (b0 : Bool) (b1 : List Int) (b2 : Bool) (b3 : List Int) (x0 : Bool) (x11 : Nat) (x2 : Bool) (x3 : Nat) (y0 : Bool) (y1 : Nat) (y2 : Bool) (y3 : Nat) (s0 : Bool) (s1 : Nat) (s2 : Bool) (s3 : Nat) (s20 : Bool) (s21 : List Int) (s22 : Bool) (s23 : List Int) (t0 : Bool) (t1 : Nat) (t2 : Bool) (t3 : Nat) (m : List Int) (m1 : List Int) (m2 : List Int) (m3 : List Int) (m4 : List Int) (m5 : List Int) (m6 : List Int) (m7 : List Int) : Option (Bool × List Int × Bool × List Int × Bool × List Int × Bool × List Int × Bool × Nat × Bool × Nat × Bool × Nat × Bool × Nat × Bool × Nat × Bool × Nat × Bool × List Int × Bool × List Int × Bool × Nat × Bool × Nat × List Int × List Int × List Int × List Int × List Int × List Int × List Int × List Int) :=
  if ((decide (x1 < x)) = true) then
    if (((0 : Int) ≤ x1) ∧ (x1 < ((s1 : Nat) : Int))) then
      Option.bind (m4)[(0 + (Int.toNat x1))]? fun x4 =>
      rec x (IntKind.wrap .i64 (x1 + (1 : Int))) a0 a1 a2 a3 b0 b1 b2 b3 x0 x11 x2 x3 y0 y1 y2 y3 s0 s1 s2 s3 s20 s21 s22 s23 t0 t1 t2 t3 m m1 m2 m3 (List.set m4 (0 + (Int.toNat x1)) (7 : Int)) m5 m6 m7
    else
    none
  else
  (some (a0, a1, a2, a3, b0, b1, b2, b3, x0, x11, x2, x3, y0, y1, y2, y3, s0, s1, s2, s3, s20, s21, s22, s23, t0, t1, t2, t3, m, m1, m2, m3, m4, m5, m6, m7))
def Lshuntlaw02_RatCalls_0 (k n : Nat) : Int → Int → Bool → List Int → Bool → List Int → Bool → List Int → Bool → List Int → Bool → Nat → Bool → Nat → Bool → Nat → Bool → Nat → Bool → Nat → Bool → Nat → Bool → List Int → Bool → List Int → Bool → Nat → Bool → Nat → List Int → List Int → List Int → List Int → List Int → List Int → List Int → List Int → Option (Bool × List Int × Bool × List Int × Bool × List Int × Bool × List Int × Bool × Nat × Bool × Nat × Bool × Nat × Bool × Nat × Bool × Nat × Bool × Nat × Bool × List Int × Bool × List Int × Bool × Nat × Bool × Nat × List Int × List Int × List Int × List Int × List Int × List Int × List Int × List Int) := Nat.rec (fun _ _ _ _ _ _ _ _ _ _ _ _ _ _ _ _ _ _ _ _ _ _ _ _ _ _ _ _ _ _ _ _ _ _ _ _ _ _ => none) (fun _ r => Lshuntlaw02_RatCalls_0s k r) n
def Lshuntlaw02_RatCalls_2s (k : Nat) (rec : Int → Int → Bool → List Int → Bool → List Int → Bool → List Int → Bool → List Int → Bool → Nat → Bool → Nat → Bool → Nat → Bool → Nat → Bool → Nat → Bool → Nat → Bool → List Int → Bool → List Int → Bool → Nat → Bool → Nat → List Int → List Int → List Int → List Int → List Int → List Int → List Int → List Int → Option (Bool × List Int × Bool × List Int × Bool × List Int × Bool × List Int × Bool × Nat × Bool × Nat × Bool × Nat × Bool × Nat × Bool × Nat × Bool × Nat × Bool × List Int × Bool × List Int × Bool × Nat × Bool × Nat × List Int × List Int × List Int × List Int × List Int × List Int × List Int × List Int)) (x : Int) (x1 : Int) (a0 : Bool) (a1 : List Int) (a2 : Bool) (a3 : List Int) (b0 : Bool) (b1 : List Int) (b2 : Bool) (b3 : List Int) (x0 : Bool) (x11 : Nat) (x2 : Bool) (x3 : Nat) (y0 : Bool) (y1 : Nat) (y2 : Bool) (y3 : Nat) (s0 : Bool) (s1 : Nat) (s2 : Bool) (s3 : Nat) (s20 : Bool) (s21 : List Int) (s22 : Bool) (s23 : List Int) (t0 : Bool) (t1 : Nat) (t2 : Bool) (t3 : Nat) (m : List Int) (m1 : List Int) (m2 : List Int) (m3 : List Int) (m4 : List Int) (m5 : List Int) (m6 : List Int) (m7 : List Int) : Option (Bool × List Int × Bool × List Int × Bool × List Int × Bool × List Int × Bool × Nat × Bool × Nat × Bool × Nat × Bool × Nat × Bool × Nat × Bool × Nat × Bool × List Int × Bool × List Int × Bool × Nat × Bool × Nat × List Int × List Int × List Int × List Int × List Int × List Int × List Int × List Int) :=
  if ((decide (x1 < x)) = true) then
    if (((0 : Int) ≤ x1) ∧ (x1 < ((s3 : Nat) : Int))) then
      Option.bind (m5)[(0 + (Int.toNat x1))]? fun x4 =>
      rec x (IntKind.wrap .i64 (x1 + (1 : Int))) a0 a1 a2 a3 b0 b1 b2 b3 x0 x11 x2 x3 y0 y1 y2 y3 s0 s1 s2 s3 s20 s21 s22 s23 t0 t1 t2 t3 m m1 m2 m3 m4 (List.set m5 (0 + (Int.toNat x1)) (8 : Int)) m6 m7
    else
    none
  else
  (some (a0, a1, a2, a3, b0, b1, b2, b3, x0, x11, x2, x3, y0, y1, y2, y3, s0, s1, s2, s3, s20, s21, s22, s23, t0, t1, t2, t3, m, m1, m2, m3, m4, m5, m6, m7))
def Lshuntlaw02_RatCalls_2 (k n : Nat) : Int → Int → Bool → List Int → Bool → List Int → Bool → List Int → Bool → List Int → Bool → Nat → Bool → Nat → Bool → Nat → Bool → Nat → Bool → Nat → Bool → Nat → Bool → List Int → Bool → List Int → Bool → Nat → Bool → Nat → List Int → List Int → List Int → List Int → List Int → List Int → List Int → List Int → Option (Bool × List Int × Bool × List Int × Bool × List Int × Bool × List Int × Bool × Nat × Bool × Nat × Bool × Nat × Bool × Nat × Bool × Nat × Bool × Nat × Bool × List Int × Bool × List Int × Bool × Nat × Bool × Nat × List Int × List Int × List Int × List Int × List Int × List Int × List Int × List Int) := Nat.rec (fun _ _ _ _ _ _ _ _ _ _ _ _ _ _ _ _ _ _ _ _ _ _ _ _ _ _ _ _ _ _ _ _ _ _ _ _ _ _ => none) (fun _ r => Lshuntlaw02_RatCalls_2s k r) n
def bshuntlaw02_RatCalls (k : Nat) (a0 : Bool) (a1 : List Int) (a2 : Bool) (a3 : List Int) (b0 : Bool) (b1 : List Int) (b2 : Bool) (b3 : List Int) : Option (Bool) :=
  Option.bind (Fshuntlaw02_awake k) fun r =>
  if ((!r) = true) then
    (some false)
  else
  Option.bind (Fshuntlaw02_long k (List.take 4 ((a0, a1) :: ((a2, a3) :: ((b0, b1) :: ((b2, b3) :: [])))))) fun r1 =>
  if (r1 = true) then
    (some true)
  else
  Option.bind (Fshuntlaw02_lent k a0 a1 a2 a3) fun r2 =>
  Option.bind (Fshuntlaw02_lent k b0 b1 b2 b3) fun r3 =>
  if ((0 + r2.2.1) ≤ (List.length r2.2.2.2.2.1)) then
    if ((0 + r2.2.2.2.1) ≤ (List.length r2.2.2.2.2.2)) then
      if ((0 + r3.2.1) ≤ (List.length r3.2.2.2.2.1)) then
        if ((0 + r3.2.2.2.1) ≤ (List.length r3.2.2.2.2.2)) then
          Option.bind (Frat_Add k r2.1 (List.take r2.2.1 r2.2.2.2.2.1) r2.2.2.1 (List.take r2.2.2.2.1 r2.2.2.2.2.2) r3.1 (List.take r3.2.1 r3.2.2.2.2.1) r3.2.2.1 (List.take r3.2.2.2.1 r3.2.2.2.2.2)) fun r4 =>
          if ((0 + r2.2.1) ≤ (List.length r2.2.2.2.2.1)) then
            if ((0 + r2.2.2.2.1) ≤ (List.length r2.2.2.2.2.2)) then
              if ((0 + r3.2.1) ≤ (List.length r3.2.2.2.2.1)) then
                if ((0 + r3.2.2.2.1) ≤ (List.length r3.2.2.2.2.2)) then
                  Option.bind (Frat_Sub k r2.1 (List.take r2.2.1 r2.2.2.2.2.1) r2.2.2.1 (List.take r2.2.2.2.1 r2.2.2.2.2.2) r3.1 (List.take r3.2.1 r3.2.2.2.2.1) r3.2.2.1 (List.take r3.2.2.2.1 r3.2.2.2.2.2)) fun r5 =>
                  if ((0 + r2.2.1) ≤ (List.length r2.2.2.2.2.1)) then
                    if ((0 + r2.2.2.2.1) ≤ (List.length r2.2.2.2.2.2)) then
                      if ((0 + r3.2.1) ≤ (List.length r3.2.2.2.2.1)) then
                        if ((0 + r3.2.2.2.1) ≤ (List.length r3.2.2.2.2.2)) then
                          Option.bind (Frat_Mul k r2.1 (List.take r2.2.1 r2.2.2.2.2.1) r2.2.2.1 (List.take r2.2.2.2.1 r2.2.2.2.2.2) r3.1 (List.take r3.2.1 r3.2.2.2.2.1) r3.2.2.1 (List.take r3.2.2.2.1 r3.2.2.2.2.2)) fun r6 =>
                          if ((0 + r2.2.1) ≤ (List.length r2.2.2.2.2.1)) then
                            if ((0 + r2.2.2.2.1) ≤ (List.length r2.2.2.2.2.2)) then
                              if ((0 + r3.2.1) ≤ (List.length r3.2.2.2.2.1)) then
                                if ((0 + r3.2.2.2.1) ≤ (List.length r3.2.2.2.2.2)) then
                                  Option.bind (Frat_Div k r2.1 (List.take r2.2.1 r2.2.2.2.2.1) r2.2.2.1 (List.take r2.2.2.2.1 r2.2.2.2.2.2) r3.1 (List.take r3.2.1 r3.2.2.2.2.1) r3.2.2.1 (List.take r3.2.2.2.1 r3.2.2.2.2.2)) fun r7 =>
                                  if ((0 + r2.2.1) ≤ (List.length r2.2.2.2.2.1)) then
                                    if ((0 + r2.2.2.2.1) ≤ (List.length r2.2.2.2.2.2)) then
                                      if ((0 + r3.2.1) ≤ (List.length r3.2.2.2.2.1)) then
                                        if ((0 + r3.2.2.2.1) ≤ (List.length r3.2.2.2.2.2)) then
                                          Option.bind (Frat_Cmp k r2.1 (List.take r2.2.1 r2.2.2.2.2.1) r2.2.2.1 (List.take r2.2.2.2.1 r2.2.2.2.2.2) r3.1 (List.take r3.2.1 r3.2.2.2.2.1) r3.2.2.1 (List.take r3.2.2.2.1 r3.2.2.2.2.2)) fun r8 =>
                                          Option.bind (Fshuntref02_Two k (43 : Int) a0 a1 a2 a3 b0 b1 b2 b3) fun r9 =>
                                          Option.bind (Fshuntref02_Two k (45 : Int) a0 a1 a2 a3 b0 b1 b2 b3) fun r10 =>
                                          Option.bind (Fshuntref02_Two k (42 : Int) a0 a1 a2 a3 b0 b1 b2 b3) fun r11 =>
                                          Option.bind (Fshuntref02_Two k (47 : Int) a0 a1 a2 a3 b0 b1 b2 b3) fun r12 =>
                                          Option.bind (Fshuntref02_Cmp k a0 a1 a2 a3 b0 b1 b2 b3) fun r13 =>
                                          if ((0 + r4.2.1) ≤ (List.length r4.2.2.2.2.2.1)) then
                                            if ((0 + r4.2.2.2.1) ≤ (List.length r4.2.2.2.2.2.2)) then
                                              Option.bind (Fshuntlaw02_same k r4.1 (List.take r4.2.1 r4.2.2.2.2.2.1) r4.2.2.1 (List.take r4.2.2.2.1 r4.2.2.2.2.2.2) r9.1 r9.2.1 r9.2.2.1 r9.2.2.2.1) fun r14 =>
                                              if ((!r14) = false) then
                                                Option.bind (Fshuntlaw02_same k r5.1 r5.2.1 r5.2.2.1 r5.2.2.2.1 r10.1 r10.2.1 r10.2.2.1 r10.2.2.2.1) fun r15 =>
                                                if ((!r15) = false) then
                                                  Option.bind (Fshuntlaw02_same k r6.1 r6.2.1 r6.2.2.1 r6.2.2.2.1 r11.1 r11.2.1 r11.2.2.1 r11.2.2.2.1) fun r16 =>
                                                  if ((!r16) = false) then
                                                    Option.bind (Fshuntlaw02_same k r7.1 r7.2.1 r7.2.2.1 r7.2.2.2.1 r12.1 r12.2.1 r12.2.2.1 r12.2.2.2.1) fun r17 =>
                                                    if ((!r17) = false) then
                                                      if ((r8.1 != r13.1) = false) then
                                                        if ((r4.2.2.2.2.1 != r9.2.2.2.2) = false) then
                                                          if ((r5.2.2.2.2 != r10.2.2.2.2) = false) then
                                                            if ((r6.2.2.2.2 != r11.2.2.2.2) = false) then
                                                              if ((r7.2.2.2.2 != r12.2.2.2.2) = false) then
                                                                if ((r8.2 != r13.2) = true) then
                                                                  (some false)
                                                                else
                                                                if ((0 + r2.2.1) ≤ (List.length r2.2.2.2.2.1)) then
                                                                  if ((0 + r2.2.2.2.1) ≤ (List.length r2.2.2.2.2.2)) then
                                                                    if ((0 + r3.2.1) ≤ (List.length r3.2.2.2.2.1)) then
                                                                      if ((0 + r3.2.2.2.1) ≤ (List.length r3.2.2.2.2.2)) then
                                                                        Option.bind (Frat_Add k r2.1 (List.take r2.2.1 r2.2.2.2.2.1) r2.2.2.1 (List.take r2.2.2.2.1 r2.2.2.2.2.2) r3.1 (List.take r3.2.1 r3.2.2.2.2.1) r3.2.2.1 (List.take r3.2.2.2.1 r3.2.2.2.2.2)) fun r18 =>
                                                                        Option.bind (Lshuntlaw02_RatCalls_0 k k ((r4.2.1 : Nat) : Int) (0 : Int) a0 a1 a2 a3 b0 b1 b2 b3 r2.1 r2.2.1 r2.2.2.1 r2.2.2.2.1 r3.1 r3.2.1 r3.2.2.1 r3.2.2.2.1 r4.1 r4.2.1 r4.2.2.1 r4.2.2.2.1 r9.1 r9.2.1 r9.2.2.1 r9.2.2.2.1 r18.1 r18.2.1 r18.2.2.1 r18.2.2.2.1 r2.2.2.2.2.1 r2.2.2.2.2.2 r3.2.2.2.2.1 r3.2.2.2.2.2 r4.2.2.2.2.2.1 r4.2.2.2.2.2.2 r18.2.2.2.2.2.1 r18.2.2.2.2.2.2) fun r19 =>
                                                                        Option.bind (Lshuntlaw02_RatCalls_2 k k ((r19.2.2.2.2.2.2.2.2.2.2.2.2.2.2.2.2.2.2.2.1 : Nat) : Int) (0 : Int) r19.1 r19.2.1 r19.2.2.1 r19.2.2.2.1 r19.2.2.2.2.1 r19.2.2.2.2.2.1 r19.2.2.2.2.2.2.1 r19.2.2.2.2.2.2.2.1 r19.2.2.2.2.2.2.2.2.1 r19.2.2.2.2.2.2.2.2.2.1 r19.2.2.2.2.2.2.2.2.2.2.1 r19.2.2.2.2.2.2.2.2.2.2.2.1 r19.2.2.2.2.2.2.2.2.2.2.2.2.1 r19.2.2.2.2.2.2.2.2.2.2.2.2.2.1 r19.2.2.2.2.2.2.2.2.2.2.2.2.2.2.1 r19.2.2.2.2.2.2.2.2.2.2.2.2.2.2.2.1 r19.2.2.2.2.2.2.2.2.2.2.2.2.2.2.2.2.1 r19.2.2.2.2.2.2.2.2.2.2.2.2.2.2.2.2.2.1 r19.2.2.2.2.2.2.2.2.2.2.2.2.2.2.2.2.2.2.1 r19.2.2.2.2.2.2.2.2.2.2.2.2.2.2.2.2.2.2.2.1 r19.2.2.2.2.2.2.2.2.2.2.2.2.2.2.2.2.2.2.2.2.1 r19.2.2.2.2.2.2.2.2.2.2.2.2.2.2.2.2.2.2.2.2.2.1 r19.2.2.2.2.2.2.2.2.2.2.2.2.2.2.2.2.2.2.2.2.2.2.1 r19.2.2.2.2.2.2.2.2.2.2.2.2.2.2.2.2.2.2.2.2.2.2.2.1 r19.2.2.2.2.2.2.2.2.2.2.2.2.2.2.2.2.2.2.2.2.2.2.2.2.1 r19.2.2.2.2.2.2.2.2.2.2.2.2.2.2.2.2.2.2.2.2.2.2.2.2.2.1 r19.2.2.2.2.2.2.2.2.2.2.2.2.2.2.2.2.2.2.2.2.2.2.2.2.2.2.1 r19.2.2.2.2.2.2.2.2.2.2.2.2.2.2.2.2.2.2.2.2.2.2.2.2.2.2.2.1 r19.2.2.2.2.2.2.2.2.2.2.2.2.2.2.2.2.2.2.2.2.2.2.2.2.2.2.2.2.1 r19.2.2.2.2.2.2.2.2.2.2.2.2.2.2.2.2.2.2.2.2.2.2.2.2.2.2.2.2.2.1 r19.2.2.2.2.2.2.2.2.2.2.2.2.2.2.2.2.2.2.2.2.2.2.2.2.2.2.2.2.2.2.1 r19.2.2.2.2.2.2.2.2.2.2.2.2.2.2.2.2.2.2.2.2.2.2.2.2.2.2.2.2.2.2.2.1 r19.2.2.2.2.2.2.2.2.2.2.2.2.2.2.2.2.2.2.2.2.2.2.2.2.2.2.2.2.2.2.2.2.1 r19.2.2.2.2.2.2.2.2.2.2.2.2.2.2.2.2.2.2.2.2.2.2.2.2.2.2.2.2.2.2.2.2.2.1 r19.2.2.2.2.2.2.2.2.2.2.2.2.2.2.2.2.2.2.2.2.2.2.2.2.2.2.2.2.2.2.2.2.2.2.1 r19.2.2.2.2.2.2.2.2.2.2.2.2.2.2.2.2.2.2.2.2.2.2.2.2.2.2.2.2.2.2.2.2.2.2.2) fun r20 =>
                                                                        if ((0 + r20.2.2.2.2.2.2.2.2.2.2.2.2.2.2.2.2.2.2.2.2.2.2.2.2.2.1) ≤ (List.length r20.2.2.2.2.2.2.2.2.2.2.2.2.2.2.2.2.2.2.2.2.2.2.2.2.2.2.2.2.2.2.2.2.2.2.1)) then
                                                                          if ((0 + r20.2.2.2.2.2.2.2.2.2.2.2.2.2.2.2.2.2.2.2.2.2.2.2.2.2.2.2.1) ≤ (List.length r20.2.2.2.2.2.2.2.2.2.2.2.2.2.2.2.2.2.2.2.2.2.2.2.2.2.2.2.2.2.2.2.2.2.2.2)) then
                                                                            Option.bind (Fshuntlaw02_same k r20.2.2.2.2.2.2.2.2.2.2.2.2.2.2.2.2.2.2.2.2.2.2.2.2.1 (List.take r20.2.2.2.2.2.2.2.2.2.2.2.2.2.2.2.2.2.2.2.2.2.2.2.2.2.1 r20.2.2.2.2.2.2.2.2.2.2.2.2.2.2.2.2.2.2.2.2.2.2.2.2.2.2.2.2.2.2.2.2.2.2.1) r20.2.2.2.2.2.2.2.2.2.2.2.2.2.2.2.2.2.2.2.2.2.2.2.2.2.2.1 (List.take r20.2.2.2.2.2.2.2.2.2.2.2.2.2.2.2.2.2.2.2.2.2.2.2.2.2.2.2.1 r20.2.2.2.2.2.2.2.2.2.2.2.2.2.2.2.2.2.2.2.2.2.2.2.2.2.2.2.2.2.2.2.2.2.2.2) r20.2.2.2.2.2.2.2.2.2.2.2.2.2.2.2.2.2.2.2.2.1 r20.2.2.2.2.2.2.2.2.2.2.2.2.2.2.2.2.2.2.2.2.2.1 r20.2.2.2.2.2.2.2.2.2.2.2.2.2.2.2.2.2.2.2.2.2.2.1 r20.2.2.2.2.2.2.2.2.2.2.2.2.2.2.2.2.2.2.2.2.2.2.2.1) fun r21 =>
                                                                            if (r21 = true) then
                                                                              Option.bind (Fshuntlaw02_whole_xsw k r20.2.2.2.2.2.2.2.2.1 r20.2.2.2.2.2.2.2.2.2.1 r20.2.2.2.2.2.2.2.2.2.2.1 r20.2.2.2.2.2.2.2.2.2.2.2.1 r20.1 r20.2.1 r20.2.2.1 r20.2.2.2.1 r20.2.2.2.2.2.2.2.2.2.2.2.2.2.2.2.2.2.2.2.2.2.2.2.2.2.2.2.2.1 r20.2.2.2.2.2.2.2.2.2.2.2.2.2.2.2.2.2.2.2.2.2.2.2.2.2.2.2.2.2.1) fun r22 =>
                                                                              if (r22.1 = true) then
                                                                                Option.bind (Fshuntlaw02_whole_xsw k r20.2.2.2.2.2.2.2.2.2.2.2.2.1 r20.2.2.2.2.2.2.2.2.2.2.2.2.2.1 r20.2.2.2.2.2.2.2.2.2.2.2.2.2.2.1 r20.2.2.2.2.2.2.2.2.2.2.2.2.2.2.2.1 r20.2.2.2.2.1 r20.2.2.2.2.2.1 r20.2.2.2.2.2.2.1 r20.2.2.2.2.2.2.2.1 r20.2.2.2.2.2.2.2.2.2.2.2.2.2.2.2.2.2.2.2.2.2.2.2.2.2.2.2.2.2.2.1 r20.2.2.2.2.2.2.2.2.2.2.2.2.2.2.2.2.2.2.2.2.2.2.2.2.2.2.2.2.2.2.2.1) fun r23 =>
                                                                                (some r23.1)
                                                                              else
                                                                              (some false)
                                                                            else
                                                                            (some false)
                                                                          else
                                                                          none
                                                                        else
                                                                        none
                                                                      else
                                                                      none
                                                                    else
                                                                    none
                                                                  else
                                                                  none
                                                                else
                                                                none
                                                              else
                                                              (some false)
                                                            else
                                                            (some false)
                                                          else
                                                          (some false)
                                                        else
                                                        (some false)
                                                      else
                                                      (some false)
                                                    else
                                                    (some false)
                                                  else
                                                  (some false)
                                                else
                                                (some false)
                                              else
                                              (some false)
                                            else
                                            none
                                          else
                                          none
                                        else
                                        none
                                      else
                                      none
                                    else
                                    none
                                  else
                                  none
                                else
                                none
                              else
                              none
                            else
                            none
                          else
                          none
                        else
                        none
                      else
                      none
                    else
                    none
                  else
                  none
                else
                none
              else
              none
            else
            none
          else
          none
        else
        none
      else
      none
    else
    none
  else
  none
def Fshuntlaw02_RatCalls : Nat → Bool → List Int → Bool → List Int → Bool → List Int → Bool → List Int → Option (Bool)
  | 0, _, _, _, _, _, _, _, _ => none
  | k + 1, a0, a1, a2, a3, b0, b1, b2, b3 => bshuntlaw02_RatCalls k a0 a1 a2 a3 b0 b1 b2 b3
def shshuntlaw02_RatCalls : FS := { vs := [.g [.lf .bool, .lf (.sl (.int .u32)), .lf .bool, .lf (.sl (.int .u32))], .g [.lf .bool, .lf (.sl (.int .u32)), .lf .bool, .lf (.sl (.int .u32))]], bs := [] }
def rsshuntlaw02_RatCalls : List FS := [{ vs := [.a (.lf .bool)], bs := [] }]
def Ishuntlaw02_RatCalls (k : Nat) : Inst := ⟨3, shshuntlaw02_RatCalls, rsshuntlaw02_RatCalls, fun x => Fshuntlaw02_RatCalls k x.1 x.2.1 x.2.2.1 x.2.2.2.1 x.2.2.2.2.1 x.2.2.2.2.2.1 x.2.2.2.2.2.2.1 x.2.2.2.2.2.2.2⟩
theorem alshuntlaw02_RatCalls (k : Nat) : AllI (call cf k) [Ishuntlaw02_awake k, Ishuntlaw02_long k, Ishuntlaw02_lent k, Irat_Add k, Irat_Sub k, Irat_Mul k, Irat_Div k, Irat_Cmp k, Ishuntref02_Two k, Ishuntref02_Cmp k, Ishuntlaw02_same k, Ishuntlaw02_whole_xsw k] := And.intro (okshuntlaw02_awake k) (And.intro (okshuntlaw02_long k) (And.intro (okshuntlaw02_lent k) (And.intro (okrat_Add k) (And.intro (okrat_Sub k) (And.intro (okrat_Mul k) (And.intro (okrat_Div k) (And.intro (okrat_Cmp k) (And.intro (okshuntref02_Two k) (And.intro (okshuntref02_Cmp k) (And.intro (okshuntlaw02_same k) (And.intro (okshuntlaw02_whole_xsw k) (True.intro))))))))))))
def hsshuntlaw02_RatCalls_0 : List SS := [{ fr := [(2, .a (.ptr 0 0 0)), (3, .a (.ptr 1 0 0)), (5, .a (.ptr 2 0 0)), (6, .a (.ptr 3 0 0)), (7, .a (.ptr 4 0 0)), (17, .a (.ptr 5 0 0)), (27, .a (.ptr 6 0 0)), (168, .a (.lf (.int .i64))), (169, .a (.lf (.int .i64)))], mem := [(0, some (.raw [[.lf .bool, .lf (.sl (.int .u32)), .lf .bool, .lf (.sl (.int .u32))]] 4 26 true false)), (1, some (.raw [[.lf .bool, .lf (.sl (.int .u32)), .lf .bool, .lf (.sl (.int .u32))]] 4 26 true false)), (2, some (.raw [[.lf .bool, .smz 7, .lf .bool, .smz 8]] 4 26 false false)), (3, some (.raw [[.lf .bool, .smz 9, .lf .bool, .smz 10]] 4 26 false false)), (4, some (.raw [[.lf .bool, .smz 11, .lf .bool, .smz 12]] 4 26 false false)), (5, some (.raw [[.lf .bool, .lf (.sl (.int .u32)), .lf .bool, .lf (.sl (.int .u32))]] 4 26 true false)), (6, some (.raw [[.lf .bool, .smz 13, .lf .bool, .smz 14]] 4 26 false false)), (7, some (.arr (.int .u32) 1 40 true)), (8, some (.arr (.int .u32) 1 40 true)), (9, some (.arr (.int .u32) 1 40 true)), (10, some (.arr (.int .u32) 1 40 true)), (11, some (.arr (.int .u32) 1 40 false)), (12, some (.arr (.int .u32) 1 40 false)), (13, some (.arr (.int .u32) 1 40 false)), (14, some (.arr (.int .u32) 1 40 false))], nx := 15 }]
def osshuntlaw02_RatCalls_0 : List OS := [⟨some 0, { fr := [(2, .a (.ptr 0 0 0)), (3, .a (.ptr 1 0 0)), (5, .a (.ptr 2 0 0)), (6, .a (.ptr 3 0 0)), (7, .a (.ptr 4 0 0)), (17, .a (.ptr 5 0 0)), (27, .a (.ptr 6 0 0))], mem := [(0, some (.raw [[.lf .bool, .lf (.sl (.int .u32)), .lf .bool, .lf (.sl (.int .u32))]] 4 26 true false)), (1, some (.raw [[.lf .bool, .lf (.sl (.int .u32)), .lf .bool, .lf (.sl (.int .u32))]] 4 26 true false)), (2, some (.raw [[.lf .bool, .smz 7, .lf .bool, .smz 8]] 4 26 false false)), (3, some (.raw [[.lf .bool, .smz 9, .lf .bool, .smz 10]] 4 26 false false)), (4, some (.raw [[.lf .bool, .smz 11, .lf .bool, .smz 12]] 4 26 false false)), (5, some (.raw [[.lf .bool, .lf (.sl (.int .u32)), .lf .bool, .lf (.sl (.int .u32))]] 4 26 true false)), (6, some (.raw [[.lf .bool, .smz 13, .lf .bool, .smz 14]] 4 26 false false)), (7, some (.arr (.int .u32) 1 40 true)), (8, some (.arr (.int .u32) 1 40 true)), (9, some (.arr (.int .u32) 1 40 true)), (10, some (.arr (.int .u32) 1 40 true)), (11, some (.arr (.int .u32) 1 40 false)), (12, some (.arr (.int .u32) 1 40 false)), (13, some (.arr (.int .u32) 1 40 false)), (14, some (.arr (.int .u32) 1 40 false))], nx := 15 }⟩]
def LIshuntlaw02_RatCalls_0 (k : Nat) : LInst := ⟨0, hsshuntlaw02_RatCalls_0, osshuntlaw02_RatCalls_0, fun x => Lshuntlaw02_RatCalls_0 k k x.1 x.2.1 x.2.2.1 x.2.2.2.1 x.2.2.2.2.1 x.2.2.2.2.2.1 x.2.2.2.2.2.2.1 x.2.2.2.2.2.2.2.1 x.2.2.2.2.2.2.2.2.1 x.2.2.2.2.2.2.2.2.2.1 x.2.2.2.2.2.2.2.2.2.2.1 x.2.2.2.2.2.2.2.2.2.2.2.1 x.2.2.2.2.2.2.2.2.2.2.2.2.1 x.2.2.2.2.2.2.2.2.2.2.2.2.2.1 x.2.2.2.2.2.2.2.2.2.2.2.2.2.2.1 x.2.2.2.2.2.2.2.2.2.2.2.2.2.2.2.1 x.2.2.2.2.2.2.2.2.2.2.2.2.2.2.2.2.1 x.2.2.2.2.2.2.2.2.2.2.2.2.2.2.2.2.2.1 x.2.2.2.2.2.2.2.2.2.2.2.2.2.2.2.2.2.2.1 x.2.2.2.2.2.2.2.2.2.2.2.2.2.2.2.2.2.2.2.1 x.2.2.2.2.2.2.2.2.2.2.2.2.2.2.2.2.2.2.2.2.1 x.2.2.2.2.2.2.2.2.2.2.2.2.2.2.2.2.2.2.2.2.2.1 x.2.2.2.2.2.2.2.2.2.2.2.2.2.2.2.2.2.2.2.2.2.2.1 x.2.2.2.2.2.2.2.2.2.2.2.2.2.2.2.2.2.2.2.2.2.2.2.1 x.2.2.2.2.2.2.2.2.2.2.2.2.2.2.2.2.2.2.2.2.2.2.2.2.1 x.2.2.2.2.2.2.2.2.2.2.2.2.2.2.2.2.2.2.2.2.2.2.2.2.2.1 x.2.2.2.2.2.2.2.2.2.2.2.2.2.2.2.2.2.2.2.2.2.2.2.2.2.2.1 x.2.2.2.2.2.2.2.2.2.2.2.2.2.2.2.2.2.2.2.2.2.2.2.2.2.2.2.1 x.2.2.2.2.2.2.2.2.2.2.2.2.2.2.2.2.2.2.2.2.2.2.2.2.2.2.2.2.1 x.2.2.2.2.2.2.2.2.2.2.2.2.2.2.2.2.2.2.2.2.2.2.2.2.2.2.2.2.2.1 x.2.2.2.2.2.2.2.2.2.2.2.2.2.2.2.2.2.2.2.2.2.2.2.2.2.2.2.2.2.2.1 x.2.2.2.2.2.2.2.2.2.2.2.2.2.2.2.2.2.2.2.2.2.2.2.2.2.2.2.2.2.2.2.1 x.2.2.2.2.2.2.2.2.2.2.2.2.2.2.2.2.2.2.2.2.2.2.2.2.2.2.2.2.2.2.2.2.1 x.2.2.2.2.2.2.2.2.2.2.2.2.2.2.2.2.2.2.2.2.2.2.2.2.2.2.2.2.2.2.2.2.2.1 x.2.2.2.2.2.2.2.2.2.2.2.2.2.2.2.2.2.2.2.2.2.2.2.2.2.2.2.2.2.2.2.2.2.2.1 x.2.2.2.2.2.2.2.2.2.2.2.2.2.2.2.2.2.2.2.2.2.2.2.2.2.2.2.2.2.2.2.2.2.2.2.1 x.2.2.2.2.2.2.2.2.2.2.2.2.2.2.2.2.2.2.2.2.2.2.2.2.2.2.2.2.2.2.2.2.2.2.2.2.1 x.2.2.2.2.2.2.2.2.2.2.2.2.2.2.2.2.2.2.2.2.2.2.2.2.2.2.2.2.2.2.2.2.2.2.2.2.2⟩
theorem anshuntlaw02_RatCalls_0 (k : Nat) : LAll (LOk (R := DS OS.D osshuntlaw02_RatCalls_0) (fun b _ σ K => LOt Ty (kps 3) 0 b σ K []) cf (call cf k) (kps 3) Tryz.f3.ntmps k 0) 0 (lb Tryz.f3 0) :=
  And.intro (True.intro) (And.intro (And.intro (True.intro) (True.intro)) (And.intro (And.intro (True.intro) (True.intro)) (True.intro)))
theorem stshuntlaw02_RatCalls_0 (k n : Nat) (x : DS SS.D hsshuntlaw02_RatCalls_0) : Lshuntlaw02_RatCalls_0 k (n + 1) x.1 x.2.1 x.2.2.1 x.2.2.2.1 x.2.2.2.2.1 x.2.2.2.2.2.1 x.2.2.2.2.2.2.1 x.2.2.2.2.2.2.2.1 x.2.2.2.2.2.2.2.2.1 x.2.2.2.2.2.2.2.2.2.1 x.2.2.2.2.2.2.2.2.2.2.1 x.2.2.2.2.2.2.2.2.2.2.2.1 x.2.2.2.2.2.2.2.2.2.2.2.2.1 x.2.2.2.2.2.2.2.2.2.2.2.2.2.1 x.2.2.2.2.2.2.2.2.2.2.2.2.2.2.1 x.2.2.2.2.2.2.2.2.2.2.2.2.2.2.2.1 x.2.2.2.2.2.2.2.2.2.2.2.2.2.2.2.2.1 x.2.2.2.2.2.2.2.2.2.2.2.2.2.2.2.2.2.1 x.2.2.2.2.2.2.2.2.2.2.2.2.2.2.2.2.2.2.1 x.2.2.2.2.2.2.2.2.2.2.2.2.2.2.2.2.2.2.2.1 x.2.2.2.2.2.2.2.2.2.2.2.2.2.2.2.2.2.2.2.2.1 x.2.2.2.2.2.2.2.2.2.2.2.2.2.2.2.2.2.2.2.2.2.1 x.2.2.2.2.2.2.2.2.2.2.2.2.2.2.2.2.2.2.2.2.2.2.1 x.2.2.2.2.2.2.2.2.2.2.2.2.2.2.2.2.2.2.2.2.2.2.2.1 x.2.2.2.2.2.2.2.2.2.2.2.2.2.2.2.2.2.2.2.2.2.2.2.2.1 x.2.2.2.2.2.2.2.2.2.2.2.2.2.2.2.2.2.2.2.2.2.2.2.2.2.1 x.2.2.2.2.2.2.2.2.2.2.2.2.2.2.2.2.2.2.2.2.2.2.2.2.2.2.1 x.2.2.2.2.2.2.2.2.2.2.2.2.2.2.2.2.2.2.2.2.2.2.2.2.2.2.2.1 x.2.2.2.2.2.2.2.2.2.2.2.2.2.2.2.2.2.2.2.2.2.2.2.2.2.2.2.2.1 x.2.2.2.2.2.2.2.2.2.2.2.2.2.2.2.2.2.2.2.2.2.2.2.2.2.2.2.2.2.1 x.2.2.2.2.2.2.2.2.2.2.2.2.2.2.2.2.2.2.2.2.2.2.2.2.2.2.2.2.2.2.1 x.2.2.2.2.2.2.2.2.2.2.2.2.2.2.2.2.2.2.2.2.2.2.2.2.2.2.2.2.2.2.2.1 x.2.2.2.2.2.2.2.2.2.2.2.2.2.2.2.2.2.2.2.2.2.2.2.2.2.2.2.2.2.2.2.2.1 x.2.2.2.2.2.2.2.2.2.2.2.2.2.2.2.2.2.2.2.2.2.2.2.2.2.2.2.2.2.2.2.2.2.1 x.2.2.2.2.2.2.2.2.2.2.2.2.2.2.2.2.2.2.2.2.2.2.2.2.2.2.2.2.2.2.2.2.2.2.1 x.2.2.2.2.2.2.2.2.2.2.2.2.2.2.2.2.2.2.2.2.2.2.2.2.2.2.2.2.2.2.2.2.2.2.2.1 x.2.2.2.2.2.2.2.2.2.2.2.2.2.2.2.2.2.2.2.2.2.2.2.2.2.2.2.2.2.2.2.2.2.2.2.2.1 x.2.2.2.2.2.2.2.2.2.2.2.2.2.2.2.2.2.2.2.2.2.2.2.2.2.2.2.2.2.2.2.2.2.2.2.2.2 = encSK SS.enc (fun σ => run2 cf (fun f a b K => COt f a b K [Ishuntlaw02_awake k, Ishuntlaw02_long k, Ishuntlaw02_lent k, Irat_Add k, Irat_Sub k, Irat_Mul k, Irat_Div k, Irat_Cmp k, Ishuntref02_Two k, Ishuntref02_Cmp k, Ishuntlaw02_same k, Ishuntlaw02_whole_xsw k]) (fun b _ σ K => LOt Ty (kps 3) 0 b σ K []) Tryz.f3.ntmps 0 (lb Tryz.f3 0) σ (nextK Ty (kps 3 0) 0 hsshuntlaw02_RatCalls_0 osshuntlaw02_RatCalls_0 fun x => Lshuntlaw02_RatCalls_0 k n x.1 x.2.1 x.2.2.1 x.2.2.2.1 x.2.2.2.2.1 x.2.2.2.2.2.1 x.2.2.2.2.2.2.1 x.2.2.2.2.2.2.2.1 x.2.2.2.2.2.2.2.2.1 x.2.2.2.2.2.2.2.2.2.1 x.2.2.2.2.2.2.2.2.2.2.1 x.2.2.2.2.2.2.2.2.2.2.2.1 x.2.2.2.2.2.2.2.2.2.2.2.2.1 x.2.2.2.2.2.2.2.2.2.2.2.2.2.1 x.2.2.2.2.2.2.2.2.2.2.2.2.2.2.1 x.2.2.2.2.2.2.2.2.2.2.2.2.2.2.2.1 x.2.2.2.2.2.2.2.2.2.2.2.2.2.2.2.2.1 x.2.2.2.2.2.2.2.2.2.2.2.2.2.2.2.2.2.1 x.2.2.2.2.2.2.2.2.2.2.2.2.2.2.2.2.2.2.1 x.2.2.2.2.2.2.2.2.2.2.2.2.2.2.2.2.2.2.2.1 x.2.2.2.2.2.2.2.2.2.2.2.2.2.2.2.2.2.2.2.2.1 x.2.2.2.2.2.2.2.2.2.2.2.2.2.2.2.2.2.2.2.2.2.1 x.2.2.2.2.2.2.2.2.2.2.2.2.2.2.2.2.2.2.2.2.2.2.1 x.2.2.2.2.2.2.2.2.2.2.2.2.2.2.2.2.2.2.2.2.2.2.2.1 x.2.2.2.2.2.2.2.2.2.2.2.2.2.2.2.2.2.2.2.2.2.2.2.2.1 x.2.2.2.2.2.2.2.2.2.2.2.2.2.2.2.2.2.2.2.2.2.2.2.2.2.1 x.2.2.2.2.2.2.2.2.2.2.2.2.2.2.2.2.2.2.2.2.2.2.2.2.2.2.1 x.2.2.2.2.2.2.2.2.2.2.2.2.2.2.2.2.2.2.2.2.2.2.2.2.2.2.2.1 x.2.2.2.2.2.2.2.2.2.2.2.2.2.2.2.2.2.2.2.2.2.2.2.2.2.2.2.2.1 x.2.2.2.2.2.2.2.2.2.2.2.2.2.2.2.2.2.2.2.2.2.2.2.2.2.2.2.2.2.1 x.2.2.2.2.2.2.2.2.2.2.2.2.2.2.2.2.2.2.2.2.2.2.2.2.2.2.2.2.2.2.1 x.2.2.2.2.2.2.2.2.2.2.2.2.2.2.2.2.2.2.2.2.2.2.2.2.2.2.2.2.2.2.2.1 x.2.2.2.2.2.2.2.2.2.2.2.2.2.2.2.2.2.2.2.2.2.2.2.2.2.2.2.2.2.2.2.2.1 x.2.2.2.2.2.2.2.2.2.2.2.2.2.2.2.2.2.2.2.2.2.2.2.2.2.2.2.2.2.2.2.2.2.1 x.2.2.2.2.2.2.2.2.2.2.2.2.2.2.2.2.2.2.2.2.2.2.2.2.2.2.2.2.2.2.2.2.2.2.1 x.2.2.2.2.2.2.2.2.2.2.2.2.2.2.2.2.2.2.2.2.2.2.2.2.2.2.2.2.2.2.2.2.2.2.2.1 x.2.2.2.2.2.2.2.2.2.2.2.2.2.2.2.2.2.2.2.2.2.2.2.2.2.2.2.2.2.2.2.2.2.2.2.2.1 x.2.2.2.2.2.2.2.2.2.2.2.2.2.2.2.2.2.2.2.2.2.2.2.2.2.2.2.2.2.2.2.2.2.2.2.2.2)) hsshuntlaw02_RatCalls_0 x := by kernel_rfl
theorem loshuntlaw02_RatCalls_0 (k : Nat) : LIOk cf (call cf k) (kps 3) Tryz.f3.ntmps k 0 0 (lb Tryz.f3 0) (LIshuntlaw02_RatCalls_0 k) :=
  loop_ok (c := cf) (callF := call cf k) (kp := kps 3) (nt := Tryz.f3.ntmps) (k := k) (p := 0) (b := 0) (x0 := lb Tryz.f3 0) (hs := hsshuntlaw02_RatCalls_0) (os := osshuntlaw02_RatCalls_0) (COt_ok (alshuntlaw02_RatCalls k)) (anshuntlaw02_RatCalls_0 k) (fun n x => Lshuntlaw02_RatCalls_0 k n x.1 x.2.1 x.2.2.1 x.2.2.2.1 x.2.2.2.2.1 x.2.2.2.2.2.1 x.2.2.2.2.2.2.1 x.2.2.2.2.2.2.2.1 x.2.2.2.2.2.2.2.2.1 x.2.2.2.2.2.2.2.2.2.1 x.2.2.2.2.2.2.2.2.2.2.1 x.2.2.2.2.2.2.2.2.2.2.2.1 x.2.2.2.2.2.2.2.2.2.2.2.2.1 x.2.2.2.2.2.2.2.2.2.2.2.2.2.1 x.2.2.2.2.2.2.2.2.2.2.2.2.2.2.1 x.2.2.2.2.2.2.2.2.2.2.2.2.2.2.2.1 x.2.2.2.2.2.2.2.2.2.2.2.2.2.2.2.2.1 x.2.2.2.2.2.2.2.2.2.2.2.2.2.2.2.2.2.1 x.2.2.2.2.2.2.2.2.2.2.2.2.2.2.2.2.2.2.1 x.2.2.2.2.2.2.2.2.2.2.2.2.2.2.2.2.2.2.2.1 x.2.2.2.2.2.2.2.2.2.2.2.2.2.2.2.2.2.2.2.2.1 x.2.2.2.2.2.2.2.2.2.2.2.2.2.2.2.2.2.2.2.2.2.1 x.2.2.2.2.2.2.2.2.2.2.2.2.2.2.2.2.2.2.2.2.2.2.1 x.2.2.2.2.2.2.2.2.2.2.2.2.2.2.2.2.2.2.2.2.2.2.2.1 x.2.2.2.2.2.2.2.2.2.2.2.2.2.2.2.2.2.2.2.2.2.2.2.2.1 x.2.2.2.2.2.2.2.2.2.2.2.2.2.2.2.2.2.2.2.2.2.2.2.2.2.1 x.2.2.2.2.2.2.2.2.2.2.2.2.2.2.2.2.2.2.2.2.2.2.2.2.2.2.1 x.2.2.2.2.2.2.2.2.2.2.2.2.2.2.2.2.2.2.2.2.2.2.2.2.2.2.2.1 x.2.2.2.2.2.2.2.2.2.2.2.2.2.2.2.2.2.2.2.2.2.2.2.2.2.2.2.2.1 x.2.2.2.2.2.2.2.2.2.2.2.2.2.2.2.2.2.2.2.2.2.2.2.2.2.2.2.2.2.1 x.2.2.2.2.2.2.2.2.2.2.2.2.2.2.2.2.2.2.2.2.2.2.2.2.2.2.2.2.2.2.1 x.2.2.2.2.2.2.2.2.2.2.2.2.2.2.2.2.2.2.2.2.2.2.2.2.2.2.2.2.2.2.2.1 x.2.2.2.2.2.2.2.2.2.2.2.2.2.2.2.2.2.2.2.2.2.2.2.2.2.2.2.2.2.2.2.2.1 x.2.2.2.2.2.2.2.2.2.2.2.2.2.2.2.2.2.2.2.2.2.2.2.2.2.2.2.2.2.2.2.2.2.1 x.2.2.2.2.2.2.2.2.2.2.2.2.2.2.2.2.2.2.2.2.2.2.2.2.2.2.2.2.2.2.2.2.2.2.1 x.2.2.2.2.2.2.2.2.2.2.2.2.2.2.2.2.2.2.2.2.2.2.2.2.2.2.2.2.2.2.2.2.2.2.2.1 x.2.2.2.2.2.2.2.2.2.2.2.2.2.2.2.2.2.2.2.2.2.2.2.2.2.2.2.2.2.2.2.2.2.2.2.2.1 x.2.2.2.2.2.2.2.2.2.2.2.2.2.2.2.2.2.2.2.2.2.2.2.2.2.2.2.2.2.2.2.2.2.2.2.2.2) (fun _ => rfl) (stshuntlaw02_RatCalls_0 k)
def hsshuntlaw02_RatCalls_2 : List SS := [{ fr := [(2, .a (.ptr 0 0 0)), (3, .a (.ptr 1 0 0)), (5, .a (.ptr 2 0 0)), (6, .a (.ptr 3 0 0)), (7, .a (.ptr 4 0 0)), (17, .a (.ptr 5 0 0)), (27, .a (.ptr 6 0 0)), (181, .a (.lf (.int .i64))), (182, .a (.lf (.int .i64)))], mem := [(0, some (.raw [[.lf .bool, .lf (.sl (.int .u32)), .lf .bool, .lf (.sl (.int .u32))]] 4 26 true false)), (1, some (.raw [[.lf .bool, .lf (.sl (.int .u32)), .lf .bool, .lf (.sl (.int .u32))]] 4 26 true false)), (2, some (.raw [[.lf .bool, .smz 7, .lf .bool, .smz 8]] 4 26 false false)), (3, some (.raw [[.lf .bool, .smz 9, .lf .bool, .smz 10]] 4 26 false false)), (4, some (.raw [[.lf .bool, .smz 11, .lf .bool, .smz 12]] 4 26 false false)), (5, some (.raw [[.lf .bool, .lf (.sl (.int .u32)), .lf .bool, .lf (.sl (.int .u32))]] 4 26 true false)), (6, some (.raw [[.lf .bool, .smz 13, .lf .bool, .smz 14]] 4 26 false false)), (7, some (.arr (.int .u32) 1 40 true)), (8, some (.arr (.int .u32) 1 40 true)), (9, some (.arr (.int .u32) 1 40 true)), (10, some (.arr (.int .u32) 1 40 true)), (11, some (.arr (.int .u32) 1 40 false)), (12, some (.arr (.int .u32) 1 40 false)), (13, some (.arr (.int .u32) 1 40 false)), (14, some (.arr (.int .u32) 1 40 false))], nx := 15 }]
def osshuntlaw02_RatCalls_2 : List OS := [⟨some 2, { fr := [(2, .a (.ptr 0 0 0)), (3, .a (.ptr 1 0 0)), (5, .a (.ptr 2 0 0)), (6, .a (.ptr 3 0 0)), (17, .a (.ptr 5 0 0)), (27, .a (.ptr 6 0 0))], mem := [(0, some (.raw [[.lf .bool, .lf (.sl (.int .u32)), .lf .bool, .lf (.sl (.int .u32))]] 4 26 true false)), (1, some (.raw [[.lf .bool, .lf (.sl (.int .u32)), .lf .bool, .lf (.sl (.int .u32))]] 4 26 true false)), (2, some (.raw [[.lf .bool, .smz 7, .lf .bool, .smz 8]] 4 26 false false)), (3, some (.raw [[.lf .bool, .smz 9, .lf .bool, .smz 10]] 4 26 false false)), (4, some (.raw [[.lf .bool, .smz 11, .lf .bool, .smz 12]] 4 26 false false)), (5, some (.raw [[.lf .bool, .lf (.sl (.int .u32)), .lf .bool, .lf (.sl (.int .u32))]] 4 26 true false)), (6, some (.raw [[.lf .bool, .smz 13, .lf .bool, .smz 14]] 4 26 false false)), (7, some (.arr (.int .u32) 1 40 true)), (8, some (.arr (.int .u32) 1 40 true)), (9, some (.arr (.int .u32) 1 40 true)), (10, some (.arr (.int .u32) 1 40 true)), (11, some (.arr (.int .u32) 1 40 false)), (12, some (.arr (.int .u32) 1 40 false)), (13, some (.arr (.int .u32) 1 40 false)), (14, some (.arr (.int .u32) 1 40 false))], nx := 15 }⟩]
def LIshuntlaw02_RatCalls_2 (k : Nat) : LInst := ⟨2, hsshuntlaw02_RatCalls_2, osshuntlaw02_RatCalls_2, fun x => Lshuntlaw02_RatCalls_2 k k x.1 x.2.1 x.2.2.1 x.2.2.2.1 x.2.2.2.2.1 x.2.2.2.2.2.1 x.2.2.2.2.2.2.1 x.2.2.2.2.2.2.2.1 x.2.2.2.2.2.2.2.2.1 x.2.2.2.2.2.2.2.2.2.1 x.2.2.2.2.2.2.2.2.2.2.1 x.2.2.2.2.2.2.2.2.2.2.2.1 x.2.2.2.2.2.2.2.2.2.2.2.2.1 x.2.2.2.2.2.2.2.2.2.2.2.2.2.1 x.2.2.2.2.2.2.2.2.2.2.2.2.2.2.1 x.2.2.2.2.2.2.2.2.2.2.2.2.2.2.2.1 x.2.2.2.2.2.2.2.2.2.2.2.2.2.2.2.2.1 x.2.2.2.2.2.2.2.2.2.2.2.2.2.2.2.2.2.1 x.2.2.2.2.2.2.2.2.2.2.2.2.2.2.2.2.2.2.1 x.2.2.2.2.2.2.2.2.2.2.2.2.2.2.2.2.2.2.2.1 x.2.2.2.2.2.2.2.2.2.2.2.2.2.2.2.2.2.2.2.2.1 x.2.2.2.2.2.2.2.2.2.2.2.2.2.2.2.2.2.2.2.2.2.1 x.2.2.2.2.2.2.2.2.2.2.2.2.2.2.2.2.2.2.2.2.2.2.1 x.2.2.2.2.2.2.2.2.2.2.2.2.2.2.2.2.2.2.2.2.2.2.2.1 x.2.2.2.2.2.2.2.2.2.2.2.2.2.2.2.2.2.2.2.2.2.2.2.2.1 x.2.2.2.2.2.2.2.2.2.2.2.2.2.2.2.2.2.2.2.2.2.2.2.2.2.1 x.2.2.2.2.2.2.2.2.2.2.2.2.2.2.2.2.2.2.2.2.2.2.2.2.2.2.1 x.2.2.2.2.2.2.2.2.2.2.2.2.2.2.2.2.2.2.2.2.2.2.2.2.2.2.2.1 x.2.2.2.2.2.2.2.2.2.2.2.2.2.2.2.2.2.2.2.2.2.2.2.2.2.2.2.2.1 x.2.2.2.2.2.2.2.2.2.2.2.2.2.2.2.2.2.2.2.2.2.2.2.2.2.2.2.2.2.1 x.2.2.2.2.2.2.2.2.2.2.2.2.2.2.2.2.2.2.2.2.2.2.2.2.2.2.2.2.2.2.1 x.2.2.2.2.2.2.2.2.2.2.2.2.2.2.2.2.2.2.2.2.2.2.2.2.2.2.2.2.2.2.2.1 x.2.2.2.2.2.2.2.2.2.2.2.2.2.2.2.2.2.2.2.2.2.2.2.2.2.2.2.2.2.2.2.2.1 x.2.2.2.2.2.2.2.2.2.2.2.2.2.2.2.2.2.2.2.2.2.2.2.2.2.2.2.2.2.2.2.2.2.1 x.2.2.2.2.2.2.2.2.2.2.2.2.2.2.2.2.2.2.2.2.2.2.2.2.2.2.2.2.2.2.2.2.2.2.1 x.2.2.2.2.2.2.2.2.2.2.2.2.2.2.2.2.2.2.2.2.2.2.2.2.2.2.2.2.2.2.2.2.2.2.2.1 x.2.2.2.2.2.2.2.2.2.2.2.2.2.2.2.2.2.2.2.2.2.2.2.2.2.2.2.2.2.2.2.2.2.2.2.2.1 x.2.2.2.2.2.2.2.2.2.2.2.2.2.2.2.2.2.2.2.2.2.2.2.2.2.2.2.2.2.2.2.2.2.2.2.2.2⟩
theorem anshuntlaw02_RatCalls_2 (k : Nat) : LAll (LOk (R := DS OS.D osshuntlaw02_RatCalls_2) (fun b _ σ K => LOt Ty (kps 3) 0 b σ K [LIshuntlaw02_RatCalls_0 k]) cf (call cf k) (kps 3) Tryz.f3.ntmps k 0) 2 (lb Tryz.f3 1) :=
  And.intro (True.intro) (And.intro (And.intro (True.intro) (True.intro)) (And.intro (And.intro (True.intro) (True.intro)) (True.intro)))
theorem stshuntlaw02_RatCalls_2 (k n : Nat) (x : DS SS.D hsshuntlaw02_RatCalls_2) : Lshuntlaw02_RatCalls_2 k (n + 1) x.1 x.2.1 x.2.2.1 x.2.2.2.1 x.2.2.2.2.1 x.2.2.2.2.2.1 x.2.2.2.2.2.2.1 x.2.2.2.2.2.2.2.1 x.2.2.2.2.2.2.2.2.1 x.2.2.2.2.2.2.2.2.2.1 x.2.2.2.2.2.2.2.2.2.2.1 x.2.2.2.2.2.2.2.2.2.2.2.1 x.2.2.2.2.2.2.2.2.2.2.2.2.1 x.2.2.2.2.2.2.2.2.2.2.2.2.2.1 x.2.2.2.2.2.2.2.2.2.2.2.2.2.2.1 x.2.2.2.2.2.2.2.2.2.2.2.2.2.2.2.1 x.2.2.2.2.2.2.2.2.2.2.2.2.2.2.2.2.1 x.2.2.2.2.2.2.2.2.2.2.2.2.2.2.2.2.2.1 x.2.2.2.2.2.2.2.2.2.2.2.2.2.2.2.2.2.2.1 x.2.2.2.2.2.2.2.2.2.2.2.2.2.2.2.2.2.2.2.1 x.2.2.2.2.2.2.2.2.2.2.2.2.2.2.2.2.2.2.2.2.1 x.2.2.2.2.2.2.2.2.2.2.2.2.2.2.2.2.2.2.2.2.2.1 x.2.2.2.2.2.2.2.2.2.2.2.2.2.2.2.2.2.2.2.2.2.2.1 x.2.2.2.2.2.2.2.2.2.2.2.2.2.2.2.2.2.2.2.2.2.2.2.1 x.2.2.2.2.2.2.2.2.2.2.2.2.2.2.2.2.2.2.2.2.2.2.2.2.1 x.2.2.2.2.2.2.2.2.2.2.2.2.2.2.2.2.2.2.2.2.2.2.2.2.2.1 x.2.2.2.2.2.2.2.2.2.2.2.2.2.2.2.2.2.2.2.2.2.2.2.2.2.2.1 x.2.2.2.2.2.2.2.2.2.2.2.2.2.2.2.2.2.2.2.2.2.2.2.2.2.2.2.1 x.2.2.2.2.2.2.2.2.2.2.2.2.2.2.2.2.2.2.2.2.2.2.2.2.2.2.2.2.1 x.2.2.2.2.2.2.2.2.2.2.2.2.2.2.2.2.2.2.2.2.2.2.2.2.2.2.2.2.2.1 x.2.2.2.2.2.2.2.2.2.2.2.2.2.2.2.2.2.2.2.2.2.2.2.2.2.2.2.2.2.2.1 x.2.2.2.2.2.2.2.2.2.2.2.2.2.2.2.2.2.2.2.2.2.2.2.2.2.2.2.2.2.2.2.1 x.2.2.2.2.2.2.2.2.2.2.2.2.2.2.2.2.2.2.2.2.2.2.2.2.2.2.2.2.2.2.2.2.1 x.2.2.2.2.2.2.2.2.2.2.2.2.2.2.2.2.2.2.2.2.2.2.2.2.2.2.2.2.2.2.2.2.2.1 x.2.2.2.2.2.2.2.2.2.2.2.2.2.2.2.2.2.2.2.2.2.2.2.2.2.2.2.2.2.2.2.2.2.2.1 x.2.2.2.2.2.2.2.2.2.2.2.2.2.2.2.2.2.2.2.2.2.2.2.2.2.2.2.2.2.2.2.2.2.2.2.1 x.2.2.2.2.2.2.2.2.2.2.2.2.2.2.2.2.2.2.2.2.2.2.2.2.2.2.2.2.2.2.2.2.2.2.2.2.1 x.2.2.2.2.2.2.2.2.2.2.2.2.2.2.2.2.2.2.2.2.2.2.2.2.2.2.2.2.2.2.2.2.2.2.2.2.2 = encSK SS.enc (fun σ => run2 cf (fun f a b K => COt f a b K [Ishuntlaw02_awake k, Ishuntlaw02_long k, Ishuntlaw02_lent k, Irat_Add k, Irat_Sub k, Irat_Mul k, Irat_Div k, Irat_Cmp k, Ishuntref02_Two k, Ishuntref02_Cmp k, Ishuntlaw02_same k, Ishuntlaw02_whole_xsw k]) (fun b _ σ K => LOt Ty (kps 3) 0 b σ K [LIshuntlaw02_RatCalls_0 k]) Tryz.f3.ntmps 2 (lb Tryz.f3 1) σ (nextK Ty (kps 3 2) 0 hsshuntlaw02_RatCalls_2 osshuntlaw02_RatCalls_2 fun x => Lshuntlaw02_RatCalls_2 k n x.1 x.2.1 x.2.2.1 x.2.2.2.1 x.2.2.2.2.1 x.2.2.2.2.2.1 x.2.2.2.2.2.2.1 x.2.2.2.2.2.2.2.1 x.2.2.2.2.2.2.2.2.1 x.2.2.2.2.2.2.2.2.2.1 x.2.2.2.2.2.2.2.2.2.2.1 x.2.2.2.2.2.2.2.2.2.2.2.1 x.2.2.2.2.2.2.2.2.2.2.2.2.1 x.2.2.2.2.2.2.2.2.2.2.2.2.2.1 x.2.2.2.2.2.2.2.2.2.2.2.2.2.2.1 x.2.2.2.2.2.2.2.2.2.2.2.2.2.2.2.1 x.2.2.2.2.2.2.2.2.2.2.2.2.2.2.2.2.1 x.2.2.2.2.2.2.2.2.2.2.2.2.2.2.2.2.2.1 x.2.2.2.2.2.2.2.2.2.2.2.2.2.2.2.2.2.2.1 x.2.2.2.2.2.2.2.2.2.2.2.2.2.2.2.2.2.2.2.1 x.2.2.2.2.2.2.2.2.2.2.2.2.2.2.2.2.2.2.2.2.1 x.2.2.2.2.2.2.2.2.2.2.2.2.2.2.2.2.2.2.2.2.2.1 x.2.2.2.2.2.2.2.2.2.2.2.2.2.2.2.2.2.2.2.2.2.2.1 x.2.2.2.2.2.2.2.2.2.2.2.2.2.2.2.2.2.2.2.2.2.2.2.1 x.2.2.2.2.2.2.2.2.2.2.2.2.2.2.2.2.2.2.2.2.2.2.2.2.1 x.2.2.2.2.2.2.2.2.2.2.2.2.2.2.2.2.2.2.2.2.2.2.2.2.2.1 x.2.2.2.2.2.2.2.2.2.2.2.2.2.2.2.2.2.2.2.2.2.2.2.2.2.2.1 x.2.2.2.2.2.2.2.2.2.2.2.2.2.2.2.2.2.2.2.2.2.2.2.2.2.2.2.1 x.2.2.2.2.2.2.2.2.2.2.2.2.2.2.2.2.2.2.2.2.2.2.2.2.2.2.2.2.1 x.2.2.2.2.2.2.2.2.2.2.2.2.2.2.2.2.2.2.2.2.2.2.2.2.2.2.2.2.2.1 x.2.2.2.2.2.2.2.2.2.2.2.2.2.2.2.2.2.2.2.2.2.2.2.2.2.2.2.2.2.2.1 x.2.2.2.2.2.2.2.2.2.2.2.2.2.2.2.2.2.2.2.2.2.2.2.2.2.2.2.2.2.2.2.1 x.2.2.2.2.2.2.2.2.2.2.2.2.2.2.2.2.2.2.2.2.2.2.2.2.2.2.2.2.2.2.2.2.1 x.2.2.2.2.2.2.2.2.2.2.2.2.2.2.2.2.2.2.2.2.2.2.2.2.2.2.2.2.2.2.2.2.2.1 x.2.2.2.2.2.2.2.2.2.2.2.2.2.2.2.2.2.2.2.2.2.2.2.2.2.2.2.2.2.2.2.2.2.2.1 x.2.2.2.2.2.2.2.2.2.2.2.2.2.2.2.2.2.2.2.2.2.2.2.2.2.2.2.2.2.2.2.2.2.2.2.1 x.2.2.2.2.2.2.2.2.2.2.2.2.2.2.2.2.2.2.2.2.2.2.2.2.2.2.2.2.2.2.2.2.2.2.2.2.1 x.2.2.2.2.2.2.2.2.2.2.2.2.2.2.2.2.2.2.2.2.2.2.2.2.2.2.2.2.2.2.2.2.2.2.2.2.2)) hsshuntlaw02_RatCalls_2 x := by kernel_rfl
theorem loshuntlaw02_RatCalls_2 (k : Nat) : LIOk cf (call cf k) (kps 3) Tryz.f3.ntmps k 0 2 (lb Tryz.f3 1) (LIshuntlaw02_RatCalls_2 k) :=
  loop_ok (c := cf) (callF := call cf k) (kp := kps 3) (nt := Tryz.f3.ntmps) (k := k) (p := 0) (b := 2) (x0 := lb Tryz.f3 1) (hs := hsshuntlaw02_RatCalls_2) (os := osshuntlaw02_RatCalls_2) (COt_ok (alshuntlaw02_RatCalls k)) (anshuntlaw02_RatCalls_2 k) (fun n x => Lshuntlaw02_RatCalls_2 k n x.1 x.2.1 x.2.2.1 x.2.2.2.1 x.2.2.2.2.1 x.2.2.2.2.2.1 x.2.2.2.2.2.2.1 x.2.2.2.2.2.2.2.1 x.2.2.2.2.2.2.2.2.1 x.2.2.2.2.2.2.2.2.2.1 x.2.2.2.2.2.2.2.2.2.2.1 x.2.2.2.2.2.2.2.2.2.2.2.1 x.2.2.2.2.2.2.2.2.2.2.2.2.1 x.2.2.2.2.2.2.2.2.2.2.2.2.2.1 x.2.2.2.2.2.2.2.2.2.2.2.2.2.2.1 x.2.2.2.2.2.2.2.2.2.2.2.2.2.2.2.1 x.2.2.2.2.2.2.2.2.2.2.2.2.2.2.2.2.1 x.2.2.2.2.2.2.2.2.2.2.2.2.2.2.2.2.2.1 x.2.2.2.2.2.2.2.2.2.2.2.2.2.2.2.2.2.2.1 x.2.2.2.2.2.2.2.2.2.2.2.2.2.2.2.2.2.2.2.1 x.2.2.2.2.2.2.2.2.2.2.2.2.2.2.2.2.2.2.2.2.1 x.2.2.2.2.2.2.2.2.2.2.2.2.2.2.2.2.2.2.2.2.2.1 x.2.2.2.2.2.2.2.2.2.2.2.2.2.2.2.2.2.2.2.2.2.2.1 x.2.2.2.2.2.2.2.2.2.2.2.2.2.2.2.2.2.2.2.2.2.2.2.1 x.2.2.2.2.2.2.2.2.2.2.2.2.2.2.2.2.2.2.2.2.2.2.2.2.1 x.2.2.2.2.2.2.2.2.2.2.2.2.2.2.2.2.2.2.2.2.2.2.2.2.2.1 x.2.2.2.2.2.2.2.2.2.2.2.2.2.2.2.2.2.2.2.2.2.2.2.2.2.2.1 x.2.2.2.2.2.2.2.2.2.2.2.2.2.2.2.2.2.2.2.2.2.2.2.2.2.2.2.1 x.2.2.2.2.2.2.2.2.2.2.2.2.2.2.2.2.2.2.2.2.2.2.2.2.2.2.2.2.1 x.2.2.2.2.2.2.2.2.2.2.2.2.2.2.2.2.2.2.2.2.2.2.2.2.2.2.2.2.2.1 x.2.2.2.2.2.2.2.2.2.2.2.2.2.2.2.2.2.2.2.2.2.2.2.2.2.2.2.2.2.2.1 x.2.2.2.2.2.2.2.2.2.2.2.2.2.2.2.2.2.2.2.2.2.2.2.2.2.2.2.2.2.2.2.1 x.2.2.2.2.2.2.2.2.2.2.2.2.2.2.2.2.2.2.2.2.2.2.2.2.2.2.2.2.2.2.2.2.1 x.2.2.2.2.2.2.2.2.2.2.2.2.2.2.2.2.2.2.2.2.2.2.2.2.2.2.2.2.2.2.2.2.2.1 x.2.2.2.2.2.2.2.2.2.2.2.2.2.2.2.2.2.2.2.2.2.2.2.2.2.2.2.2.2.2.2.2.2.2.1 x.2.2.2.2.2.2.2.2.2.2.2.2.2.2.2.2.2.2.2.2.2.2.2.2.2.2.2.2.2.2.2.2.2.2.2.1 x.2.2.2.2.2.2.2.2.2.2.2.2.2.2.2.2.2.2.2.2.2.2.2.2.2.2.2.2.2.2.2.2.2.2.2.2.1 x.2.2.2.2.2.2.2.2.2.2.2.2.2.2.2.2.2.2.2.2.2.2.2.2.2.2.2.2.2.2.2.2.2.2.2.2.2) (fun _ => rfl) (stshuntlaw02_RatCalls_2 k)
theorem anshuntlaw02_RatCalls (k : Nat) : LAll (LOk (R := DS FS.D rsshuntlaw02_RatCalls) (fun b _ σ K => LOt Ty (kps 3) 0 b σ K [LIshuntlaw02_RatCalls_0 k, LIshuntlaw02_RatCalls_2 k]) cf (call cf k) (cf.keep 3) Tryz.f3.ntmps k shshuntlaw02_RatCalls.bs.length) 0 (bd Tryz.f3) :=
  And.intro (True.intro) (And.intro (And.intro (True.intro) (And.intro (And.intro (True.intro) (True.intro)) (True.intro))) (And.intro (And.intro (True.intro) (And.intro (And.intro (True.intro) (True.intro)) (True.intro))) (And.intro (True.intro) (And.intro (True.intro) (And.intro (True.intro) (And.intro (True.intro) (And.intro (True.intro) (And.intro (True.intro) (And.intro (True.intro) (And.intro (True.intro) (And.intro (True.intro) (And.intro (True.intro) (And.intro (True.intro) (And.intro (And.intro (True.intro) (And.intro (And.intro (True.intro) (True.intro)) (True.intro))) (And.intro (True.intro) (And.intro (And.intro (True.intro) (LOt_ok (c := cf) (callF := call cf k) (kp := kps 3) (nt := Tryz.f3.ntmps) (k := k) (p := 0) (b := 0) (x0 := lb Tryz.f3 0) (l := [LIshuntlaw02_RatCalls_0 k, LIshuntlaw02_RatCalls_2 k]) (And.intro (fun _ => loshuntlaw02_RatCalls_0 k) (And.intro (fun h => absurd (show (2 : Nat) = 0 from h) (by decide)) (True.intro))))) (And.intro (And.intro (True.intro) (LOt_ok (c := cf) (callF := call cf k) (kp := kps 3) (nt := Tryz.f3.ntmps) (k := k) (p := 0) (b := 2) (x0 := lb Tryz.f3 1) (l := [LIshuntlaw02_RatCalls_0 k, LIshuntlaw02_RatCalls_2 k]) (And.intro (fun h => absurd (show (0 : Nat) = 2 from h) (by decide)) (And.intro (fun _ => loshuntlaw02_RatCalls_2 k) (True.intro))))) (And.intro (True.intro) (True.intro)))))))))))))))))))
theorem stshuntlaw02_RatCalls (k : Nat) (x : shshuntlaw02_RatCalls.D) : Fshuntlaw02_RatCalls (k + 1) x.1 x.2.1 x.2.2.1 x.2.2.2.1 x.2.2.2.2.1 x.2.2.2.2.2.1 x.2.2.2.2.2.2.1 x.2.2.2.2.2.2.2 = body2 cf (fun f a b K => COt f a b K [Ishuntlaw02_awake k, Ishuntlaw02_long k, Ishuntlaw02_lent k, Irat_Add k, Irat_Sub k, Irat_Mul k, Irat_Div k, Irat_Cmp k, Ishuntref02_Two k, Ishuntref02_Cmp k, Ishuntlaw02_same k, Ishuntlaw02_whole_xsw k]) (fun b _ σ K => LOt Ty (kps 3) 0 b σ K [LIshuntlaw02_RatCalls_0 k, LIshuntlaw02_RatCalls_2 k]) 3 Tryz.f3.ntmps Tryz.f3.results.toList (bd Tryz.f3) (shshuntlaw02_RatCalls.enc x).1 (shshuntlaw02_RatCalls.enc x).2 (putS FS.dec rsshuntlaw02_RatCalls) := by kernel_rfl
theorem okshuntlaw02_RatCalls : ∀ k, InstOk (call cf k) (Ishuntlaw02_RatCalls k)
  | 0 => fun x y e => absurd (show (none : Option _) = some y from e) (by simp)
  | k + 1 => inst_ok (c := cf) (k := k) (f := 3) (fn := Tryz.f3) (body := bd Tryz.f3) (sh := shshuntlaw02_RatCalls) (os := rsshuntlaw02_RatCalls) rfl Tryz.func3 rfl ⟨rfl, Nat.le_of_ble_eq_true rfl⟩ (COt_ok (alshuntlaw02_RatCalls k)) (anshuntlaw02_RatCalls k) (fun x => Fshuntlaw02_RatCalls (k + 1) x.1 x.2.1 x.2.2.1 x.2.2.2.1 x.2.2.2.2.1 x.2.2.2.2.2.1 x.2.2.2.2.2.2.1 x.2.2.2.2.2.2.2) (stshuntlaw02_RatCalls k)


end
end Go.Proofs.YtjgpegpjmkgkkaaGreat.Am
