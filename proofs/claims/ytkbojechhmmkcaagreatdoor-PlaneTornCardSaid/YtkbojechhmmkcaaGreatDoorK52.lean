import Derived.Test.YtkbojechhmmkcaaGreatDoorK35
set_option linter.unusedVariables false
set_option linter.unusedSimpArgs false
set_option maxHeartbeats 16000000
set_option maxRecDepth 100000
namespace Edt
theorem Zbdx:(List.range 25).all (fun i=>tOk (i+0))=true:=by decide+kernel
theorem Zbdy:(List.range 25).all (fun i=>tOk (i+25))=true:=by decide+kernel
theorem Zbdz:(List.range 25).all (fun i=>tOk (i+50))=true:=by decide+kernel
theorem Zbea:(List.range 25).all (fun i=>tOk (i+75))=true:=by decide+kernel
theorem Zbeb:(List.range 25).all (fun i=>tOk (i+100))=true:=by decide+kernel
theorem Zbec:(List.range 25).all (fun i=>tOk (i+125))=true:=by decide+kernel
theorem Zbed:(List.range 25).all (fun i=>tOk (i+150))=true:=by decide+kernel
theorem Zbee:(List.range 25).all (fun i=>tOk (i+175))=true:=by decide+kernel
theorem Zbef:(List.range 25).all (fun i=>tOk (i+200))=true:=by decide+kernel
theorem Zbeg:(List.range 25).all (fun i=>tOk (i+225))=true:=by decide+kernel
end Edt
